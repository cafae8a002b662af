/- BitioWrites walked: whatever is written, each answer, how many bits there are, and the bytes, are the document's. -/
import Derived.Test.YtboakhhmbjomfaaBitioOwn
import Derived.Deep.DeepCutAuto
import Derived.Deep.CutBlock
import Derived.Lib.SmallJoins

namespace Go.Proofs.Ytboakhhmbjomfaa
open Go.RowKit
open Bt
/-- A step of a writer: its kind, a number, how many bits, a text (its address, capacity, bytes). -/
abbrev Pt := Nat × Nat × Int × (Option Addr × Nat × List UInt8)
def ptc (x : Pt) : List Value := [.int .u8 (x.1 : Nat), .int .u32 (x.2.1 : Nat), .int .i64 x.2.2.1, rowv x.2.2.2]
def PtOk (w : World) (x : Pt) : Prop := x.1 < 256 ∧ x.2.1 < 4294967296 ∧ -9223372036854775808 ≤ x.2.2.1 ∧ x.2.2.1 ≤ 9223372036854775807 ∧ RowOk w x.2.2.2
def Pts (w : World) (A : Option Addr) (l : List Pt) : Prop := (∀ x ∈ l, PtOk w x) ∧ Reads w w.heap.size 4 A l.length (l.flatMap ptc)
theorem Pts.at_ {w : World} {A : Option Addr} {l : List Pt} (h : Pts w A l) {i : Nat} {x : Pt} (hx : l[i]? = some x) : ∃ b o, A = some ⟨b, o, none⟩ ∧ b < w.heap.size ∧ w.cell? ⟨b, o + i * 4, none⟩ = some (.int .u8 (x.1 : Nat)) ∧ w.cell? ⟨b, o + i * 4 + 1, none⟩ = some (.int .u32 (x.2.1 : Nat)) ∧ w.cell? ⟨b, o + i * 4 + 2, none⟩ = some (.int .i64 x.2.2.1) ∧ w.cell? ⟨b, o + i * 4 + 3, none⟩ = some (rowv x.2.2.2) := by
  have hi := (List.getElem?_eq_some_iff.1 hx).1
  obtain ⟨b, o, e, hb, hc⟩ := h.2.2 (by omega)
  have g0 := flat_get (val := ptc) (fun _ => rfl) hx (show 0 < 4 by decide)
  have g1 := flat_get (val := ptc) (fun _ => rfl) hx (show 1 < 4 by decide)
  have g2 := flat_get (val := ptc) (fun _ => rfl) hx (show 2 < 4 by decide)
  have g3 := flat_get (val := ptc) (fun _ => rfl) hx (show 3 < 4 by decide)
  exact ⟨b, o, e, hb, by have := hc _ _ (g0.trans rfl); rwa [Nat.add_zero] at this, by have := hc _ _ (g1.trans rfl); rwa [← Nat.add_assoc] at this, by have := hc _ _ (g2.trans rfl); rwa [← Nat.add_assoc] at this, by have := hc _ _ (g3.trans rfl); rwa [← Nat.add_assoc] at this⟩
theorem open_bitioWrites_0 {H : Type} {enc : TypeId × Value → H} {w : World} {base : Nat} {spare : Nat → Bool} {held : Bool} {r : Reach} {b0 : Nat} {v : Value} {d : DataW H} {p : List MemPlace}
    (hv : Value.okWide Try.prog w r b0 45 v) (h : DataW.Trod enc Try.prog w base spare held 45 v d p) :
    ∃ (A : Option Addr) (c : Nat) (l : List Pt), v = .slice A l.length c ∧ l.length ≤ maxLen ∧ Pts w A l := by
  obtain ⟨A, c, l, h1, h2, _, h3, h4⟩ := open_rows (s := 4) Try.underlying45 (by kernel_rfl) (by decide) hv h ptc (fun _ => rfl) (PtOk w) (fun n cs y hl hy => by
    obtain ⟨y0, y1, y2, y3, m, _, _, t0, t1, t2, t3⟩ := Go.Joins.trod_struct4 Try.underlying47 hy
    match cs, hl with
    | [c0, c1, c2, c3], _ =>
      obtain ⟨z0, e0, _, w0⟩ := DataW.trod_int Try.underlying5 t0
      obtain ⟨z1, e1, _, w1⟩ := DataW.trod_int Try.underlying29 t1
      obtain ⟨z2, e2, _, w2⟩ := DataW.trod_int Try.underlying3 t2
      obtain ⟨A3, cc3, l3, e3, h31, h32, h33⟩ := open_bytes_core Try.underlying25 Try.underlying5 (by kernel_rfl) t3
      have b0 := WfBounds.u8 w0
      have b1 := WfBounds.u32 w1
      have b2 := WfBounds.i64 w2
      have f0 : c0 = .int .u8 z0 := by simpa [show Try.prog.cellsOf 5 = 1 by kernel_rfl] using e0
      have f1 : c1 = .int .u32 z1 := by simpa [show Try.prog.cellsOf 29 = 1 by kernel_rfl] using e1
      have f2 : c2 = .int .i64 z2 := by simpa [show Try.prog.cellsOf 3 = 1 by kernel_rfl] using e2
      have f3 : c3 = .slice A3 l3.length cc3 := by simpa [show Try.prog.cellsOf 25 = 1 by kernel_rfl] using e3
      refine ⟨(z0.toNat, z1.toNat, z2, (A3, cc3, l3)), ?_, by simp only; omega, by simp only; omega, b2.1, b2.2, h31, h32, h33⟩
      rw [f0, f1, f2, f3, ptc]
      simp only [rowv]
      rw [show ((z0.toNat : Nat) : Int) = z0 by omega, show ((z1.toNat : Nat) : Int) = z1 by omega])
  exact ⟨A, c, l, h1, h2, h3, h4⟩
/-- The document's list of bits is apart from what the writer owns. -/
def Sep (g : Nat) (A B : Option Addr) : Prop := ∀ i, blockOf B = some i → ¬ WK g A i
theorem sep_none (g : Nat) (A : Option Addr) : Sep g A none := fun _ h => by cases h
/-- Behind a writer's act. -/
theorem Sep.wrote {g : Nat} {A A' B : Option Addr} {w : World} {b c n : Nat} {xs : List Value} (h : Sep g A B) (hB : Own w b 5 1 B n c xs) (hl : blockOf A' = blockOf A ∨ ∃ i, blockOf A' = some i ∧ w.heap.size ≤ i) : Sep g A' B := by
  intro i hi hk
  rcases hk with rfl | hk
  · exact h _ hi (.inl rfl)
  · rcases hl with hl | ⟨j, hj, hz⟩
    · exact h i hi (.inr (hl ▸ hk))
    · rw [hj] at hk
      injection hk with hk
      have := (hB.block hi).2
      omega
/-- Behind an append to the list. -/
theorem Sep.app {g : Nat} {A B B' : Option Addr} {w : World} {c : Nat} {L : List Bool} (h : Sep g A B) (hA : Wri w g A c L) (hl : blockOf B' = blockOf B ∨ ∃ i, blockOf B' = some i ∧ w.heap.size ≤ i) : Sep g A B' := by
  intro i hi hk
  rcases hl with hl | ⟨j, hj, hz⟩
  · exact h i (hl ▸ hi) hk
  · rw [hj] at hi
    injection hi with hi
    rcases hk with rfl | hk
    · have := hA.1.lt
      omega
    · have := (Own.block (show Own w g 5 1 A _ c _ from hA.2) hk).2
      omega
/-- The writer, behind an append to the list. -/
theorem Wri.app {w w' : World} {g : Nat} {A B : Option Addr} {c d n : Nat} {b : Nat} {L : List Bool} {xs : List Value} (h : Wri w g A c L) (hs : Sep g A B) (hB : Own w b 5 1 B n d xs) (hg : w.grownBy w' (blockOf B)) : Wri w' g A c L :=
  h.only (Only.of_grown hg) (fun e => Own.ne_blk hB h.1 (by decide) e) (fun i hi e => hs i e (.inr hi))
/-- Where a round stands: the writer, the document's list, the step's own copy. -/
def St5 (w0 w : World) (g : Nat) (A : Option Addr) (c : Nat) (L : List Bool) (B : Option Addr) (d : Nat) (S : List UInt8) (gb : Nat) (cs : Array Value) : Prop := w0.heap.size ≤ g ∧ Wri w g A c L ∧ OwnB w g B d S ∧ Sep g A B ∧ Blk w gb 47 cs ∧ Below w0.heap.size w0 w
section
variable {w0 w w' : World} {g gb c d : Nat} {A B : Option Addr} {L L' : List Bool} {S : List UInt8} {cs : Array Value}
theorem St5.wrote (h : St5 w0 w g A c L B d S gb cs) (k : Wrote g A L' w w') : ∃ A' c', St5 w0 w' g A' c' L' B d S gb cs := by
  obtain ⟨h0, h1, h2, h3, h4, h5⟩ := h
  obtain ⟨A', c', k1, k2, k3⟩ := k
  refine ⟨A', c', h0, k1, Own.only h2 k2 h3, h3.wrote h2 k3, h4.only k2 ?_, h5.trans (wk_below h1 k2 h0)⟩
  rintro (e | e)
  · exact h4.ne h1.1 (by decide) e
  · exact Own.ne_blk h1.2 h4 (by decide) e
theorem St5.below (h : St5 w0 w g A c L B d S gb cs) (k : Below w.heap.size w w') : St5 w0 w' g A c L B d S gb cs := by
  obtain ⟨h0, h1, h2, h3, h4, h5⟩ := h
  exact ⟨h0, h1.below k, Own.below h2 k, h3, h4.below k h4.lt, nextB h5 k⟩
theorem St5.alloc (h : St5 w0 w g A c L B d S gb cs) (o : Obj) : St5 w0 (w.alloc o) g A c L B d S gb cs := h.below ((Below.refl _ _).alloc (Nat.le_refl _) o)
theorem St5.app {B' : Option Addr} {d' : Nat} {S' : List UInt8} (h : St5 w0 w g A c L B d S gb cs) (o : OwnB w' g B' d' S') (k : w.grownBy w' (blockOf B)) (q : blockOf B' = blockOf B ∨ blockOf B' = some w.heap.size) : St5 w0 w' g A c L B' d' S' gb cs := by
  obtain ⟨h0, h1, h2, h3, h4, h5⟩ := h
  exact ⟨h0, h1.app h3 h2 k, o, h3.app h1 (q.imp id (fun e => ⟨_, e, Nat.le_refl _⟩)), h4.grown k (fun e => Own.ne_blk h2 h4 (by decide) e.symm), appB h5 h2 k h0 h5.size⟩
end
theorem padN_lt (n : Nat) : padN n < 8 := by unfold padN; omega
theorem code00 (g : Nat) (A : Option Addr) (c : Nat) (L : List Bool) (w : World) (h : Wri w g A c L) (hL : L.length ≤ 300000) : Calls Try.prog 10 #[.pointer (some ⟨g, 0, none⟩), .int .u32 0, .int .i64 0] w fun e w' => e = .returned (.int .i64 0) ∧ Wrote g A L w w' := by
  have h1 := code_t g A c L 0 0 w h (by decide) (by decide) (by decide) (by omega)
  have e : L ++ (gb 0 0).reverse = L := by simp [gb]
  rw [e] at h1
  exact h1
set_option maxHeartbeats 12800000 in
set_option maxRecDepth 100000 in
theorem bitioWrites_walk (w : World) (A : Option Addr) (c : Nat) (l : List Pt) (_m : l.length ≤ maxLen) (s : Pts w A l) :
    Calls Try.prog 5 #[.slice A l.length c] w fun e w' => e = .returned (.bool true) ∧ Below w.heap.size w w' := by
  have HS := Lib.hid s
  unfold maxLen at _m
  clear s
  go_enter Try.func5, Try.ntmps5
  go_wp2_with fail
  refine (alive_t _).mono ?_
  rintro e w1 ⟨rfl, hb1⟩
  have HB1 := Lib.hid hb1
  clear hb1
  go_wp2_with fail
  have hw1 := wri_new w1
  have hb2 : Below w.heap.size w (w1.alloc (.cells #[.slice none 0 0, .int .i64 0] 27)) := newB HB1.out _
  have hgw := HB1.out.size
  generalize w1.alloc (.cells #[.slice none 0 0, .int .i64 0] 27) = w2 at *
  generalize w1.heap.size = g at *
  have HW2 := Lib.hid hw1
  have HB2 := Lib.hid hb2
  clear hw1 hb2 HB1
  go_loopw [4, 5] (fun u v wr => ∃ (i : Nat) (L : List Bool) (A2 : Option Addr) (c2 : Nat) (A3 : Option Addr) (c3 : Nat), i ≤ l.length ∧ i ≤ 60 ∧ v = .int .i64 (i : Int) ∧ u = .slice A3 L.length c3 ∧ L.length ≤ 5000 * i ∧ Wri wr g A2 c2 L ∧ OwnB wr g A3 c3 (bb L) ∧ Sep g A2 A3 ∧ Below w.heap.size w wr) (fun _ v _ => 60 - (intOf v).toNat)
  case atStart => exact ⟨0, [], none, 0, none, 0, Nat.zero_le _, Nat.zero_le _, rfl, rfl, Nat.zero_le _, HW2.out, Own.nil _ _ _ _, sep_none _ _, HB2.out⟩
  case round =>
    obtain ⟨i, L, A2, c2, A3, c3, hi, hi60, rfl, rfl, hL, hwri, hall, hsep, hbel⟩ := hrel
    obtain ⟨wo, rfl⟩ : ∃ wo : World, wo = wr := ⟨_, rfl⟩
    by_cases hlt : i < l.length ∧ i < 60
    · obtain ⟨hlt, hlt1⟩ := hlt
      have hd1 : decide (i < l.length) = true := by simp; omega
      have hd2 : decide (i < 60) = true := by simp; omega
      have i1 : (i : Int) < (l.length : Int) := by omega
      have i2 : (i : Int) < 60 := by omega
      obtain ⟨x, hx⟩ : ∃ x, l[i]? = some x := ⟨l[i], by simp [hlt]⟩
      obtain ⟨b, o, hA, hbl, x0, x1, x2, x3⟩ := HS.out.at_ hx
      subst hA
      have y0 := (hbel.cell (p := ⟨b, o + i * 4, none⟩) hbl).trans x0
      have y1 := (hbel.cell (p := ⟨b, o + i * 4 + 1, none⟩) hbl).trans x1
      have y2 := (hbel.cell (p := ⟨b, o + i * 4 + 2, none⟩) hbl).trans x2
      have y3 := (hbel.cell (p := ⟨b, o + i * 4 + 3, none⟩) hbl).trans x3
      obtain ⟨ok1, ok2, ok3, ok4, ok5, ok6, ok7⟩ := HS.out.1 x (List.mem_of_getElem? hx)
      obtain ⟨kd, xn, xc, B, d, l2⟩ := x
      simp only [rowv] at y0 y1 y2 y3 ok1 ok2 ok3 ok4 ok5 ok6 ok7
      have HOK7 := Lib.hid ok7
      have hN := Blk.new wo 47 #[.int .u8 (kd : Nat), .int .u32 (xn : Nat), .int .i64 xc, .slice B l2.length d]
      have HLT : Hid (i < l.length ∧ i < 60) := Lib.hid ⟨hlt, hlt1⟩
      have HL := Lib.hid hL
      have HWRI := Lib.hid hwri
      have HALL := Lib.hid hall
      have HSEP := Lib.hid hsep
      have HBE := Lib.hid hbel
      have HN := Lib.hid hN
      unfold maxLen at ok5
      clear hx x0 x1 x2 x3 hlt hlt1 hi hi60 hL hwri hall hsep hbel hN ok6 ok7
      by_cases h500 : 500 < l2.length
      · have h5 : (500 : Int) < (l2.length : Int) := by omega
        clear h500
        go_wp2_with fail
        go_ret
        exact ⟨rfl, newB HBE.out _⟩
      · have h5 : ¬ (500 : Int) < (l2.length : Int) := by omega
        have hl2 : l2.length ≤ 500 := by omega
        clear h500
        obtain ⟨r, hr⟩ : ∃ r, r = kd % 4 := ⟨_, rfl⟩
        have hr4 : r < 4 := by omega
        have er : (kd : Int) % 4 = (r : Int) := by omega
        clear hr
        go_upto_block 2 with (fail)
        go_cut [4, 33] (fun v _ wc => ∃ (W6 : World) (L6 : List Bool) (A6 : Option Addr) (c6 : Nat) (A7 : Option Addr) (c7 : Nat), W6 = wc ∧ v = .slice A7 L6.length c7 ∧ L6.length ≤ 5000 * (i + 1) ∧ Wri W6 g A6 c6 L6 ∧ OwnB W6 g A7 c7 (bb L6) ∧ Sep g A6 A7 ∧ Below w.heap.size w W6)
        case first =>
          have hst0 : St5 w (wo.alloc (.cells #[.int .u8 (kd : Nat), .int .u32 (xn : Nat), .int .i64 xc, .slice B l2.length d] 47)) g A2 c2 L A3 c3 (bb L) wo.heap.size #[.int .u8 (kd : Nat), .int .u32 (xn : Nat), .int .i64 xc, .slice B l2.length d] := ⟨hgw, HWRI.out.below ((Below.refl _ _).alloc (Nat.le_refl _) _), Own.alloc HALL.out _, HSEP.out, HN.out, newB HBE.out _⟩
          have HST0 := Lib.hid hst0
          have hLb : L.length ≤ 300000 := by have := HL.out; have := HLT.out; omega
          have HF := Lib.hid (fun W => rfits_t xn xc W ok2)
          clear hst0 y0 y1 y2 y3
          have h4 : r = 0 ∨ r = 1 ∨ r = 2 ∨ r = 3 := by omega
          rcases h4 with rfl | rfl | rfl | rfl
          · have ek : (kd : Int) % 4 = 0 := by omega
            as_aux_lemma =>
              have HC0 := Lib.hid (code00 g A2 c2 L _ HST0.out.2.1 hLb)
              by_cases hf : fitsB xn xc = true
              · obtain ⟨k, hk, hk32, hk2⟩ := fits_yes hf
                subst hk
                rw [hf] at HF
                have hki : (k : Int) ≤ 32 := by omega
                have hk0 : (0 : Int) ≤ (k : Int) := by omega
                have hsg : (gb xn k).length = k := by simp [gb_length]
                have HSG := Lib.hid hsg
                have HGC := Lib.hid (fun (A5 : Option Addr) (c5 : Nat) (W : World) h => group_t g A5 c5 L xn k W h ok2 hk32 hf (by omega))
                have HRG := Lib.hid (fun W => grp_k xn k W ok2 hk32)
                clear hf hsg hk2 er
                go_wp2_with fail
                refine HC0.out.mono ?_
                rintro e w5 ⟨rfl, h5⟩
                obtain ⟨A5, c5, h5⟩ := HST0.out.wrote h5
                have HST5 := Lib.hid h5
                have f0 : w5.cell? ⟨wo.heap.size, 0, none⟩ = some (.int .u8 (kd : Nat)) := by rw [HST5.out.2.2.2.2.1.cell]; rfl
                have f1 : w5.cell? ⟨wo.heap.size, 1, none⟩ = some (.int .u32 (xn : Nat)) := by rw [HST5.out.2.2.2.2.1.cell]; rfl
                have f2 : w5.cell? ⟨wo.heap.size, 2, none⟩ = some (.int .i64 (k : Int)) := by rw [HST5.out.2.2.2.2.1.cell]; rfl
                have f3 : w5.cell? ⟨wo.heap.size, 3, none⟩ = some (.slice B l2.length d) := by rw [HST5.out.2.2.2.2.1.cell]; rfl
                clear h5
                go_wp2_with fail
                refine (HGC.out _ _ _ HST5.out.2.1).mono ?_
                rintro e w6 ⟨rfl, h6⟩
                obtain ⟨A6, c6, h6⟩ := HST5.out.wrote h6
                have HST6 := Lib.hid h6
                clear f0 f1 f2 f3
                have f0 : w6.cell? ⟨wo.heap.size, 0, none⟩ = some (.int .u8 (kd : Nat)) := by rw [HST6.out.2.2.2.2.1.cell]; rfl
                have f1 : w6.cell? ⟨wo.heap.size, 1, none⟩ = some (.int .u32 (xn : Nat)) := by rw [HST6.out.2.2.2.2.1.cell]; rfl
                have f2 : w6.cell? ⟨wo.heap.size, 2, none⟩ = some (.int .i64 (k : Int)) := by rw [HST6.out.2.2.2.2.1.cell]; rfl
                have f3 : w6.cell? ⟨wo.heap.size, 3, none⟩ = some (.slice B l2.length d) := by rw [HST6.out.2.2.2.2.1.cell]; rfl
                clear h6
                go_wp2_with fail
                refine (HF.out _).mono ?_
                rintro e w7 ⟨rfl, rfl⟩
                go_wp2_with fail
                refine (HRG.out _).mono ?_
                rintro e w8 ⟨A8, c8, rfl, h8, b8⟩
                have HST8 := Lib.hid (HST6.out.below b8)
                have HR8 := Lib.hid (OwnB.reads h8)
                clear f0 f1 f2 f3
                have f0 : w8.cell? ⟨wo.heap.size, 0, none⟩ = some (.int .u8 (kd : Nat)) := by rw [HST8.out.2.2.2.2.1.cell]; rfl
                have f1 : w8.cell? ⟨wo.heap.size, 1, none⟩ = some (.int .u32 (xn : Nat)) := by rw [HST8.out.2.2.2.2.1.cell]; rfl
                have f2 : w8.cell? ⟨wo.heap.size, 2, none⟩ = some (.int .i64 (k : Int)) := by rw [HST8.out.2.2.2.2.1.cell]; rfl
                have f3 : w8.cell? ⟨wo.heap.size, 3, none⟩ = some (.slice B l2.length d) := by rw [HST8.out.2.2.2.2.1.cell]; rfl
                clear h8 b8
                go_wp2_with (at_builtin; refine Hid.out ?_)
                have hown := HST8.out.2.2.1
                have hrd := HR8.out
                unfold OwnB at hown
                unfold Bts at hrd
                rw [bb_length] at hown hrd
                rw [HSG.out] at hrd
                refine wpList_app (xs := bvs (bb L)) rfl rfl elem_u8 rfl hown rfl hrd (bvs_one _) (L.length + k) rfl (bvs (bb (L ++ gb xn k))) (by rw [bb_append, bvs_append]) (by unfold maxLen; omega) (by omega) (by have := HST8.out.2.1.1.lt; omega) ?_
                intro B9 d9 w9 o9 g9 q9
                have HST9 := Lib.hid (HST8.out.app (B' := B9) (d' := d9) (S' := bb (L ++ gb xn k)) (by
                  unfold OwnB
                  rw [bb_length, List.length_append, HSG.out]
                  exact o9) g9 q9)
                clear hown hrd o9 g9 q9 f0 f1 f2 f3
                go_wp2_with fail
                go_meet
                case rel => exact ⟨_, L ++ gb xn k, A6, c6, B9, d9, rfl, by rw [List.length_append, HSG.out], by have := HL.out; rw [List.length_append, HSG.out]; omega, HST9.out.2.1, HST9.out.2.2.1, HST9.out.2.2.2.1, HST9.out.2.2.2.2.2⟩
              · have hff : fitsB xn xc = false := by simpa using hf
                rw [hff] at HF
                have HGN := Lib.hid (fun (W : World) => group_no g xn xc W ok2 ok3 ok4 hff)
                clear hf hff er
                go_wp2_with fail
                refine HC0.out.mono ?_
                rintro e w5 ⟨rfl, h5⟩
                obtain ⟨A5, c5, h5⟩ := HST0.out.wrote h5
                have HST5 := Lib.hid h5
                have f0 : w5.cell? ⟨wo.heap.size, 0, none⟩ = some (.int .u8 (kd : Nat)) := by rw [HST5.out.2.2.2.2.1.cell]; rfl
                have f1 : w5.cell? ⟨wo.heap.size, 1, none⟩ = some (.int .u32 (xn : Nat)) := by rw [HST5.out.2.2.2.2.1.cell]; rfl
                have f2 : w5.cell? ⟨wo.heap.size, 2, none⟩ = some (.int .i64 xc) := by rw [HST5.out.2.2.2.2.1.cell]; rfl
                have f3 : w5.cell? ⟨wo.heap.size, 3, none⟩ = some (.slice B l2.length d) := by rw [HST5.out.2.2.2.2.1.cell]; rfl
                clear h5
                go_wp2_with fail
                refine (HGN.out _).mono ?_
                rintro e w6 ⟨rfl, rfl⟩
                go_wp2_with fail
                refine (HF.out _).mono ?_
                rintro e w7 ⟨rfl, rfl⟩
                go_wp2_with fail
                go_meet
                case rel => exact ⟨_, L, A5, c5, A3, c3, rfl, rfl, by have := HL.out; omega, HST5.out.2.1, HST5.out.2.2.1, HST5.out.2.2.2.1, HST5.out.2.2.2.2.2⟩
          · have ek : (kd : Int) % 4 = 1 := by omega
            as_aux_lemma =>
              have HC0 := Lib.hid (code00 g A2 c2 L _ HST0.out.2.1 hLb)
              by_cases hf : fitsB xn xc = true
              · obtain ⟨k, hk, hk32, hk2⟩ := fits_yes hf
                subst hk
                rw [hf] at HF
                have hki : (k : Int) ≤ 32 := by omega
                have hk0 : (0 : Int) ≤ (k : Int) := by omega
                have hsg : ((gb xn k).reverse).length = k := by simp [gb_length]
                have HSG := Lib.hid hsg
                have HGC := Lib.hid (fun (A5 : Option Addr) (c5 : Nat) (W : World) h => code_t g A5 c5 L xn k W h ok2 hk32 hf (by omega))
                have HRG := Lib.hid (fun W => grp_k xn k W ok2 hk32)
                have HTN := Lib.hid (fun A c W h => turned_k A c (gb xn k) k W (gb_length xn k) h (by omega))
                clear hf hsg hk2 er
                go_wp2_with fail
                refine HC0.out.mono ?_
                rintro e w5 ⟨rfl, h5⟩
                obtain ⟨A5, c5, h5⟩ := HST0.out.wrote h5
                have HST5 := Lib.hid h5
                have f0 : w5.cell? ⟨wo.heap.size, 0, none⟩ = some (.int .u8 (kd : Nat)) := by rw [HST5.out.2.2.2.2.1.cell]; rfl
                have f1 : w5.cell? ⟨wo.heap.size, 1, none⟩ = some (.int .u32 (xn : Nat)) := by rw [HST5.out.2.2.2.2.1.cell]; rfl
                have f2 : w5.cell? ⟨wo.heap.size, 2, none⟩ = some (.int .i64 (k : Int)) := by rw [HST5.out.2.2.2.2.1.cell]; rfl
                have f3 : w5.cell? ⟨wo.heap.size, 3, none⟩ = some (.slice B l2.length d) := by rw [HST5.out.2.2.2.2.1.cell]; rfl
                clear h5
                go_wp2_with fail
                refine (HGC.out _ _ _ HST5.out.2.1).mono ?_
                rintro e w6 ⟨rfl, h6⟩
                obtain ⟨A6, c6, h6⟩ := HST5.out.wrote h6
                have HST6 := Lib.hid h6
                clear f0 f1 f2 f3
                have f0 : w6.cell? ⟨wo.heap.size, 0, none⟩ = some (.int .u8 (kd : Nat)) := by rw [HST6.out.2.2.2.2.1.cell]; rfl
                have f1 : w6.cell? ⟨wo.heap.size, 1, none⟩ = some (.int .u32 (xn : Nat)) := by rw [HST6.out.2.2.2.2.1.cell]; rfl
                have f2 : w6.cell? ⟨wo.heap.size, 2, none⟩ = some (.int .i64 (k : Int)) := by rw [HST6.out.2.2.2.2.1.cell]; rfl
                have f3 : w6.cell? ⟨wo.heap.size, 3, none⟩ = some (.slice B l2.length d) := by rw [HST6.out.2.2.2.2.1.cell]; rfl
                clear h6
                go_wp2_with fail
                refine (HF.out _).mono ?_
                rintro e w7 ⟨rfl, rfl⟩
                go_wp2_with fail
                refine (HRG.out _).mono ?_
                rintro e w8 ⟨A8, c8, rfl, h8, b8⟩
                have HST8 := Lib.hid (HST6.out.below b8)
                have HR8 := Lib.hid (OwnB.reads h8)
                clear f0 f1 f2 f3
                have f0 : w8.cell? ⟨wo.heap.size, 0, none⟩ = some (.int .u8 (kd : Nat)) := by rw [HST8.out.2.2.2.2.1.cell]; rfl
                have f1 : w8.cell? ⟨wo.heap.size, 1, none⟩ = some (.int .u32 (xn : Nat)) := by rw [HST8.out.2.2.2.2.1.cell]; rfl
                have f2 : w8.cell? ⟨wo.heap.size, 2, none⟩ = some (.int .i64 (k : Int)) := by rw [HST8.out.2.2.2.2.1.cell]; rfl
                have f3 : w8.cell? ⟨wo.heap.size, 3, none⟩ = some (.slice B l2.length d) := by rw [HST8.out.2.2.2.2.1.cell]; rfl
                clear h8 b8
                go_wp2_with fail
                refine (HTN.out _ _ _ HR8.out).mono ?_
                rintro e w10 ⟨A10, c10, rfl, h10, b10⟩
                have HST10 := Lib.hid (HST8.out.below b10)
                have HR10 := Lib.hid (OwnB.reads h10)
                clear f0 f1 f2 f3
                have f0 : w10.cell? ⟨wo.heap.size, 0, none⟩ = some (.int .u8 (kd : Nat)) := by rw [HST10.out.2.2.2.2.1.cell]; rfl
                have f1 : w10.cell? ⟨wo.heap.size, 1, none⟩ = some (.int .u32 (xn : Nat)) := by rw [HST10.out.2.2.2.2.1.cell]; rfl
                have f2 : w10.cell? ⟨wo.heap.size, 2, none⟩ = some (.int .i64 (k : Int)) := by rw [HST10.out.2.2.2.2.1.cell]; rfl
                have f3 : w10.cell? ⟨wo.heap.size, 3, none⟩ = some (.slice B l2.length d) := by rw [HST10.out.2.2.2.2.1.cell]; rfl
                clear h10 b10
                go_wp2_with (at_builtin; refine Hid.out ?_)
                have hown := HST10.out.2.2.1
                have hrd := HR10.out
                unfold OwnB at hown
                unfold Bts at hrd
                rw [bb_length] at hown hrd
                rw [HSG.out] at hrd
                refine wpList_app (xs := bvs (bb L)) rfl rfl elem_u8 rfl hown rfl hrd (bvs_one _) (L.length + k) rfl (bvs (bb (L ++ (gb xn k).reverse))) (by rw [bb_append, bvs_append]) (by unfold maxLen; omega) (by omega) (by have := HST10.out.2.1.1.lt; omega) ?_
                intro B9 d9 w9 o9 g9 q9
                have HST9 := Lib.hid (HST10.out.app (B' := B9) (d' := d9) (S' := bb (L ++ (gb xn k).reverse)) (by
                  unfold OwnB
                  rw [bb_length, List.length_append, HSG.out]
                  exact o9) g9 q9)
                clear hown hrd o9 g9 q9 f0 f1 f2 f3
                go_wp2_with fail
                go_meet
                case rel => exact ⟨_, L ++ (gb xn k).reverse, A6, c6, B9, d9, rfl, by rw [List.length_append, HSG.out], by have := HL.out; rw [List.length_append, HSG.out]; omega, HST9.out.2.1, HST9.out.2.2.1, HST9.out.2.2.2.1, HST9.out.2.2.2.2.2⟩
              · have hff : fitsB xn xc = false := by simpa using hf
                rw [hff] at HF
                have HGN := Lib.hid (fun (W : World) => code_no g xn xc W ok2 ok3 ok4 hff)
                clear hf hff er
                go_wp2_with fail
                refine HC0.out.mono ?_
                rintro e w5 ⟨rfl, h5⟩
                obtain ⟨A5, c5, h5⟩ := HST0.out.wrote h5
                have HST5 := Lib.hid h5
                have f0 : w5.cell? ⟨wo.heap.size, 0, none⟩ = some (.int .u8 (kd : Nat)) := by rw [HST5.out.2.2.2.2.1.cell]; rfl
                have f1 : w5.cell? ⟨wo.heap.size, 1, none⟩ = some (.int .u32 (xn : Nat)) := by rw [HST5.out.2.2.2.2.1.cell]; rfl
                have f2 : w5.cell? ⟨wo.heap.size, 2, none⟩ = some (.int .i64 xc) := by rw [HST5.out.2.2.2.2.1.cell]; rfl
                have f3 : w5.cell? ⟨wo.heap.size, 3, none⟩ = some (.slice B l2.length d) := by rw [HST5.out.2.2.2.2.1.cell]; rfl
                clear h5
                go_wp2_with fail
                refine (HGN.out _).mono ?_
                rintro e w6 ⟨rfl, rfl⟩
                go_wp2_with fail
                refine (HF.out _).mono ?_
                rintro e w7 ⟨rfl, rfl⟩
                go_wp2_with fail
                go_meet
                case rel => exact ⟨_, L, A5, c5, A3, c3, rfl, rfl, by have := HL.out; omega, HST5.out.2.1, HST5.out.2.2.1, HST5.out.2.2.2.1, HST5.out.2.2.2.2.2⟩
          · have ek : (kd : Int) % 4 = 2 := by omega
            as_aux_lemma =>
              have HA := Lib.hid (walign_t g A2 c2 L _ HST0.out.2.1 (by omega))
              clear er
              go_wp2_with fail
              refine HA.out.mono ?_
              rintro e w5 ⟨rfl, h5⟩
              obtain ⟨A5, c5, h5⟩ := HST0.out.wrote h5
              have HST5 := Lib.hid h5
              clear h5
              go_wp2_with fail
              go_loopg [4] (padN L.length) (fun gk v wr => ∃ (B7 : Option Addr) (d7 n7 : Nat), n7 + gk = padN L.length ∧ v = .slice B7 (L.length + n7) d7 ∧ St5 w wr g A5 c5 (alignL L) B7 d7 (bb (L ++ List.replicate n7 false)) wo.heap.size #[.int .u8 (kd : Nat), .int .u32 (xn : Nat), .int .i64 xc, .slice B l2.length d])
              case atStart => exact ⟨A3, c3, 0, by omega, rfl, by simpa using HST5.out⟩
              case round =>
                obtain ⟨B7, d7, n7, hn7, rfl, hst⟩ := hrel
                have hpl := padN_lt L.length
                have hlen : (bb (L ++ List.replicate n7 false)).length = L.length + n7 := by simp [bb_length]
                by_cases h8 : (L.length + n7) % 8 = 0
                · have e8 : (((L.length + n7 : Nat) : Int) % 8 != 0) = false := by simp; omega
                  have hnp : n7 = padN L.length := by unfold padN at hn7 ⊢; omega
                  have HNP := Lib.hid hnp
                  have HSTX := Lib.hid hst
                  obtain ⟨sl, hsl⟩ : ∃ sl, sl = L.length + n7 := ⟨_, rfl⟩
                  rw [← hsl] at e8 ⊢
                  have HSL := Lib.hid hsl
                  have hf3 : wr.cell? ⟨wo.heap.size, 3, none⟩ = some (.slice B l2.length d) := by rw [HSTX.out.2.2.2.2.1.cell]; rfl
                  clear h8 hn7 hst hnp hlen hpl hsl
                  go_wp2_with fail
                  go_meet
                  case rel => exact ⟨_, alignL L, A5, c5, B7, d7, rfl, by rw [HSL.out, HNP.out, alignL, List.length_append, List.length_replicate], by have := HL.out; (rw [alignL_length]; omega), HSTX.out.2.1, by have := HSTX.out.2.2.1; rw [HNP.out] at this; exact this, HSTX.out.2.2.2.1, HSTX.out.2.2.2.2.2⟩
                · have e8 : (((L.length + n7 : Nat) : Int) % 8 != 0) = true := by simp; omega
                  obtain ⟨gk2, hgk2⟩ : ∃ gk2, gk = gk2 + 1 := ⟨gk - 1, by unfold padN at hn7; omega⟩
                  have HGK : Hid (n7 + 1 + gk2 = padN L.length) := Lib.hid (by omega)
                  have hns : bvs (bb (L ++ List.replicate n7 false)) ++ bvs [0] = bvs (bb (L ++ List.replicate (n7 + 1) false)) := by
                    rw [← bvs_append]
                    congr 1
                    rw [List.replicate_succ', ← List.append_assoc, bb_append (L ++ List.replicate n7 false) [false]]
                    rfl
                  have HNS := Lib.hid hns
                  have HSTX := Lib.hid hst
                  have HGE := Lib.hid hgk2
                  obtain ⟨sl, hsl⟩ : ∃ sl, sl = L.length + n7 := ⟨_, rfl⟩
                  have hslb : sl ≤ 300008 := by omega
                  rw [hlen] at *
                  rw [← hsl] at e8 ⊢
                  have HSL := Lib.hid hsl
                  clear h8 hn7 hst hns hlen hpl hsl hgk2
                  go_wp2_with (at_builtin; refine Hid.out ?_)
                  have hO2 := HSTX.out.alloc (.cells #[.int .u8 0] 5)
                  have hown := hO2.2.2.1
                  unfold OwnB at hown
                  rw [bb_length, List.length_append, List.length_replicate, ← HSL.out] at hown
                  refine wpList_app (xs := bvs (bb (L ++ List.replicate n7 false))) rfl rfl elem_u8 rfl hown rfl (byte_new wr 0) (bvs_one _) (sl + 1) rfl (bvs (bb (L ++ List.replicate (n7 + 1) false))) HNS.out (by unfold maxLen; omega) (by omega) (by have := hO2.2.1.1.lt; omega) ?_
                  intro B8 d8 w8 o8 g8 q8
                  have HST8 := Lib.hid (hO2.app (B' := B8) (d' := d8) (S' := bb (L ++ List.replicate (n7 + 1) false)) (by
                    unfold OwnB
                    rw [bb_length, List.length_append, List.length_replicate, ← Nat.add_assoc, ← HSL.out]
                    exact o8) g8 q8)
                  clear hO2 hown o8 g8 q8
                  go_wp2_with fail
                  go_roundg gk2
                  case measure => have := HGE.out; omega
                  case rel => exact ⟨B8, d8, n7 + 1, HGK.out, by rw [HSL.out, Nat.add_assoc], HST8.out⟩
          · have ek : (kd : Int) % 4 = 3 := by omega
            as_aux_lemma =>
              have HA := Lib.hid (text_t g A2 c2 L B d l2 _ HST0.out.2.1 (HOK7.out.at_below HST0.out.2.2.2.2.2) (by omega) (by omega))
              clear er
              have f0 : (wo.alloc (.cells #[.int .u8 (kd : Nat), .int .u32 (xn : Nat), .int .i64 xc, .slice B l2.length d] 47)).cell? ⟨wo.heap.size, 0, none⟩ = some (.int .u8 (kd : Nat)) := by rw [HST0.out.2.2.2.2.1.cell]; rfl
              have f1 : (wo.alloc (.cells #[.int .u8 (kd : Nat), .int .u32 (xn : Nat), .int .i64 xc, .slice B l2.length d] 47)).cell? ⟨wo.heap.size, 1, none⟩ = some (.int .u32 (xn : Nat)) := by rw [HST0.out.2.2.2.2.1.cell]; rfl
              have f2 : (wo.alloc (.cells #[.int .u8 (kd : Nat), .int .u32 (xn : Nat), .int .i64 xc, .slice B l2.length d] 47)).cell? ⟨wo.heap.size, 2, none⟩ = some (.int .i64 xc) := by rw [HST0.out.2.2.2.2.1.cell]; rfl
              have f3 : (wo.alloc (.cells #[.int .u8 (kd : Nat), .int .u32 (xn : Nat), .int .i64 xc, .slice B l2.length d] 47)).cell? ⟨wo.heap.size, 3, none⟩ = some (.slice B l2.length d) := by rw [HST0.out.2.2.2.2.1.cell]; rfl
              go_wp2_with fail
              refine HA.out.mono ?_
              rintro e w5 ⟨rfl, h5⟩
              obtain ⟨A5, c5, h5⟩ := HST0.out.wrote h5
              have HST5 := Lib.hid h5
              clear h5 f0 f1 f2 f3
              go_wp2_with fail
              go_loopg [4] (padN L.length) (fun gk v wr => ∃ (B7 : Option Addr) (d7 n7 : Nat), n7 + gk = padN L.length ∧ v = .slice B7 (L.length + n7) d7 ∧ St5 w wr g A5 c5 (alignL L ++ bitsOf l2) B7 d7 (bb (L ++ List.replicate n7 false)) wo.heap.size #[.int .u8 (kd : Nat), .int .u32 (xn : Nat), .int .i64 xc, .slice B l2.length d])
              case atStart => exact ⟨A3, c3, 0, by omega, rfl, by simpa using HST5.out⟩
              case round =>
                obtain ⟨B7, d7, n7, hn7, rfl, hst⟩ := hrel
                have hpl := padN_lt L.length
                have hlen : (bb (L ++ List.replicate n7 false)).length = L.length + n7 := by simp [bb_length]
                by_cases h8 : (L.length + n7) % 8 = 0
                · have e8 : (((L.length + n7 : Nat) : Int) % 8 != 0) = false := by simp; omega
                  have hnp : n7 = padN L.length := by unfold padN at hn7 ⊢; omega
                  have HNP := Lib.hid hnp
                  have HSTX := Lib.hid hst
                  obtain ⟨sl, hsl⟩ : ∃ sl, sl = L.length + n7 := ⟨_, rfl⟩
                  rw [← hsl] at e8 ⊢
                  have HSL := Lib.hid hsl
                  have hf3 : wr.cell? ⟨wo.heap.size, 3, none⟩ = some (.slice B l2.length d) := by rw [HSTX.out.2.2.2.2.1.cell]; rfl
                  clear h8 hn7 hst hnp hlen hpl hsl
                  go_wp2_with fail
                  have HRB := Lib.hid (rbits_t B d l2 wr (HOK7.out.at_below HSTX.out.2.2.2.2.2) (by omega))
                  unfold BitsPost at HRB
                  have hbl := bitsOf_length l2
                  have hlb2 : (bb (bitsOf l2)).length = 8 * l2.length := by rw [bb_length, hbl]
                  rw [hlb2] at HRB
                  have HLB2 := Lib.hid hlb2
                  have HAL2 : Hid (bb (L ++ List.replicate n7 false) = bb (alignL L)) := Lib.hid (by rw [HNP.out]; rfl)
                  obtain ⟨n9, hn9⟩ : ∃ n9, n9 = 8 * l2.length := ⟨_, rfl⟩
                  have hn9b : n9 ≤ 4000 := by omega
                  rw [← hn9] at HRB HLB2
                  have HN9 := Lib.hid hn9
                  have hslb : sl ≤ 300008 := by have := HSL.out; have := HNP.out; have := padN_lt L.length; omega
                  clear hbl hlb2 hn9
                  refine HRB.out.mono ?_
                  rintro e w8 ⟨A8, c8, rfl, h8, b8⟩
                  have HST8 := Lib.hid (HSTX.out.below b8)
                  have HR8 := Lib.hid (OwnB.reads h8)
                  clear h8 b8 hf3
                  go_wp2_with (at_builtin; refine Hid.out ?_)
                  have hown := HST8.out.2.2.1
                  have hrd := HR8.out
                  unfold OwnB at hown
                  unfold Bts at hrd
                  rw [bb_length, List.length_append, List.length_replicate, ← HSL.out] at hown
                  rw [HLB2.out] at hrd
                  refine wpList_app (xs := bvs (bb (L ++ List.replicate n7 false))) rfl rfl elem_u8 rfl hown rfl hrd (bvs_one _) (sl + n9) rfl (bvs (bb (alignL L ++ bitsOf l2))) (by rw [HAL2.out, ← bvs_append, ← bb_append]) (by unfold maxLen; omega) (by omega) (by have := HST8.out.2.1.1.lt; omega) ?_
                  intro B9 d9 w9 o9 g9 q9
                  have hlen9 : (bb (alignL L ++ bitsOf l2)).length = sl + n9 := by
                    rw [bb_length, List.length_append, bitsOf_length, HN9.out, HSL.out, HNP.out, alignL, List.length_append, List.length_replicate]
                  have HST9 := Lib.hid (HST8.out.app (B' := B9) (d' := d9) (S' := bb (alignL L ++ bitsOf l2)) (by
                    unfold OwnB
                    rw [hlen9]
                    exact o9) g9 q9)
                  have HLEN9 := Lib.hid hlen9
                  clear hown hrd o9 g9 q9 hlen9
                  go_wp2_with fail
                  go_meet
                  case rel => exact ⟨_, alignL L ++ bitsOf l2, A5, c5, B9, d9, rfl, by have := HLEN9.out; rw [bb_length] at this; rw [this], by have := HL.out; (rw [List.length_append, alignL_length, bitsOf_length]; omega), HST9.out.2.1, HST9.out.2.2.1, HST9.out.2.2.2.1, HST9.out.2.2.2.2.2⟩
                · have e8 : (((L.length + n7 : Nat) : Int) % 8 != 0) = true := by simp; omega
                  obtain ⟨gk2, hgk2⟩ : ∃ gk2, gk = gk2 + 1 := ⟨gk - 1, by unfold padN at hn7; omega⟩
                  have HGK : Hid (n7 + 1 + gk2 = padN L.length) := Lib.hid (by omega)
                  have hns : bvs (bb (L ++ List.replicate n7 false)) ++ bvs [0] = bvs (bb (L ++ List.replicate (n7 + 1) false)) := by
                    rw [← bvs_append]
                    congr 1
                    rw [List.replicate_succ', ← List.append_assoc, bb_append (L ++ List.replicate n7 false) [false]]
                    rfl
                  have HNS := Lib.hid hns
                  have HSTX := Lib.hid hst
                  have HGE := Lib.hid hgk2
                  obtain ⟨sl, hsl⟩ : ∃ sl, sl = L.length + n7 := ⟨_, rfl⟩
                  have hslb : sl ≤ 300008 := by omega
                  rw [hlen] at *
                  rw [← hsl] at e8 ⊢
                  have HSL := Lib.hid hsl
                  clear h8 hn7 hst hns hlen hpl hsl hgk2
                  go_wp2_with (at_builtin; refine Hid.out ?_)
                  have hO2 := HSTX.out.alloc (.cells #[.int .u8 0] 5)
                  have hown := hO2.2.2.1
                  unfold OwnB at hown
                  rw [bb_length, List.length_append, List.length_replicate, ← HSL.out] at hown
                  refine wpList_app (xs := bvs (bb (L ++ List.replicate n7 false))) rfl rfl elem_u8 rfl hown rfl (byte_new wr 0) (bvs_one _) (sl + 1) rfl (bvs (bb (L ++ List.replicate (n7 + 1) false))) HNS.out (by unfold maxLen; omega) (by omega) (by have := hO2.2.1.1.lt; omega) ?_
                  intro B8 d8 w8 o8 g8 q8
                  have HST8 := Lib.hid (hO2.app (B' := B8) (d' := d8) (S' := bb (L ++ List.replicate (n7 + 1) false)) (by
                    unfold OwnB
                    rw [bb_length, List.length_append, List.length_replicate, ← Nat.add_assoc, ← HSL.out]
                    exact o8) g8 q8)
                  clear hO2 hown o8 g8 q8
                  go_wp2_with fail
                  go_roundg gk2
                  case measure => have := HGE.out; omega
                  case rel => exact ⟨B8, d8, n7 + 1, HGK.out, by rw [HSL.out, Nat.add_assoc], HST8.out⟩
        case rest =>
          obtain ⟨w6, L6, A6, c6, A7, c7, hW6, rfl, hL6, hwr6, hal6, hsp6, hb6⟩ := hcut
          subst hW6
          have HL6 := Lib.hid hL6
          have HWR := Lib.hid hwr6
          have HAL := Lib.hid hal6
          have HSP := Lib.hid hsp6
          have HBW := Lib.hid hb6
          have hlb := bb_length L6
          have HLB := Lib.hid hlb
          have hL6b : L6.length ≤ 300000 := by have := HLT.out; omega
          have HBY := Lib.hid (fun W h => bytes_t g A6 c6 L6 W h (by omega))
          have hlc : L6.length ≤ c7 := by have := own_cap_ hal6; rwa [hlb] at this
          have HRB := Lib.hid (fun (W : World) (h : OwnB W g A7 c7 (bb L6)) => rbytes_t A7 c7 L6 W (OwnB.reads h) (by omega) hlc)
          unfold BitsPost at HRB
          clear hL6 hwr6 hal6 hsp6 hb6 hlb hlc
          go_wp2_with fail
          refine wp_region_noPanic ?_
          refine wp_region_held_drew (S := (fun _ => True)) (by kernel_rfl) trivial (fun _ => ?_)
          refine wpAnyH_take (i := 0) (oi := ?_) (v := ?_) ?_ ?_ ?_ ?_ ?_ ?_ ?_ ?_
          rotate_left 2
          · simp only [List.getElem?_toArray, List.getElem?_cons_zero]; rfl
          · kernel_rfl
          · kernel_rfl
          · kernel_rfl
          · exact fun _ _ _ h => h
          · exact Or.inl ⟨by kernel_rfl, by intro w hSw; (try dsimp only at hSw); go_simp; try with_reducible rfl⟩
          · trivial
          try go_simp
          refine wpAnyH_take (i := 2) (oi := ?_) (v := ?_) ?_ ?_ ?_ ?_ ?_ ?_ ?_ ?_
          rotate_left 2
          · simp only [List.getElem?_toArray, List.getElem?_cons_succ, List.getElem?_cons_zero]; rfl
          · kernel_rfl
          · kernel_rfl
          · kernel_rfl
          · exact fun _ _ _ h => h
          · exact Or.inl ⟨by kernel_rfl, by intro w hSw; (try dsimp only at hSw); go_simp; try with_reducible rfl⟩
          · trivial
          try go_simp
          refine wpAnyH_take (i := 3) (oi := ?_) (v := ?_) ?_ ?_ ?_ ?_ ?_ ?_ ?_ ?_
          rotate_left 2
          · simp only [List.getElem?_toArray, List.getElem?_cons_succ, List.getElem?_cons_zero]; rfl
          · kernel_rfl
          · kernel_rfl
          · kernel_rfl
          · exact fun _ _ _ h => h
          · exact Or.inl ⟨by kernel_rfl, by intro w hSw; (try dsimp only at hSw); go_simp; try with_reducible rfl⟩
          · trivial
          try go_simp
          refine wpAnyH_ready (rs := [1]) (by kernel_rfl) (by simp) ?_
          refine AllReadyH.cons (o := ?_) ?_ ?_ AllReadyH.nil
          rotate_left 1
          · simp only [List.getElem?_toArray, List.getElem?_cons_succ, List.getElem?_cons_zero]; rfl
          intro K hK
          go_simp
          refine (len_t g A6 c6 L6 _ HWR.out.drew_).mono ?_
          rintro e w20 ⟨rfl, rfl⟩
          refine hK.out _ _ trivial (fun _ => ?_)
          clear hK K
          try go_simp
          refine wpAnyH_take (i := 4) (oi := ?_) (v := ?_) ?_ ?_ ?_ ?_ ?_ ?_ ?_ ?_
          rotate_left 2
          · simp only [List.getElem?_toArray, List.getElem?_cons_succ, List.getElem?_cons_zero]; rfl
          · kernel_rfl
          · kernel_rfl
          · kernel_rfl
          · exact fun _ _ _ h => h
          · exact Or.inl ⟨by kernel_rfl, by intro w hSw; (try dsimp only at hSw); go_simp; try with_reducible rfl⟩
          · trivial
          try go_simp
          refine wpAnyH_take (i := 5) (oi := ?_) (v := ?_) ?_ ?_ ?_ ?_ ?_ ?_ ?_ ?_
          rotate_left 2
          · simp only [List.getElem?_toArray, List.getElem?_cons_succ, List.getElem?_cons_zero]; rfl
          · kernel_rfl
          · kernel_rfl
          · kernel_rfl
          · exact fun _ _ _ h => h
          · exact Or.inl ⟨by kernel_rfl, by intro w hSw; (try dsimp only at hSw); go_simp; try with_reducible rfl⟩
          · trivial
          try go_simp
          refine wpAnyH_take (i := 6) (oi := ?_) (v := ?_) ?_ ?_ ?_ ?_ ?_ ?_ ?_ ?_
          rotate_left 2
          · simp only [List.getElem?_toArray, List.getElem?_cons_succ, List.getElem?_cons_zero]; rfl
          · kernel_rfl
          · kernel_rfl
          · kernel_rfl
          · exact fun _ _ _ h => h
          · exact Or.inl ⟨by kernel_rfl, by intro w hSw; (try dsimp only at hSw); go_simp; try with_reducible rfl⟩
          · trivial
          try go_simp
          refine wpAnyH_take (i := 9) (oi := ?_) (v := ?_) ?_ ?_ ?_ ?_ ?_ ?_ ?_ ?_
          rotate_left 2
          · simp only [List.getElem?_toArray, List.getElem?_cons_succ, List.getElem?_cons_zero]; rfl
          · kernel_rfl
          · kernel_rfl
          · kernel_rfl
          · exact fun _ _ _ h => h
          · exact Or.inl ⟨by kernel_rfl, by intro w hSw; (try dsimp only at hSw); go_simp; try with_reducible rfl⟩
          · trivial
          try go_simp
          refine wpAnyH_ready (rs := [7]) (by kernel_rfl) (by simp) ?_
          refine AllReadyH.cons (o := ?_) ?_ ?_ AllReadyH.nil
          rotate_left 1
          · simp only [List.getElem?_toArray, List.getElem?_cons_succ, List.getElem?_cons_zero]; rfl
          intro K hK
          go_simp
          refine (HBY.out _ HWR.out.drew_).mono ?_
          rintro e w20 ⟨A20, c20, rfl, h20, b20'⟩
          have b20 : Below w6.heap.size w6 w20 := ((Below.refl w6.heap.size w6).drew).trans b20'
          have hs2 := str_own h20 rfl
          have HY20 := Lib.hid h20
          have HAL20 : Hid (OwnB w20 g A7 c7 (bb L6)) := Lib.hid (Own.below HAL.out b20)
          have HB20 := Lib.hid (nextB HBW.out b20)
          have HW20 := Lib.hid (HWR.out.below b20)
          clear h20 b20 b20'
          refine hK.out _ _ trivial (fun _ => ?_)
          clear hK K
          try go_simp
          refine wpAnyH_ready (rs := [8, 10]) (by kernel_rfl) (by simp) ?_
          refine AllReadyH.cons (o := ?_) ?_ ?_ ?_
          rotate_left 1
          · simp only [List.getElem?_toArray, List.getElem?_cons_succ, List.getElem?_cons_zero]; rfl
          · intro K hK
            go_simp
            refine hK.out _ _ trivial (fun _ => ?_)
            clear hK K
            try go_simp
            refine wpAnyH_ready (rs := [10]) (by kernel_rfl) (by simp) ?_
            refine AllReadyH.cons (o := ?_) ?_ ?_ AllReadyH.nil
            rotate_left 1
            · simp only [List.getElem?_toArray, List.getElem?_cons_succ, List.getElem?_cons_zero]; rfl
            intro K hK
            go_simp
            refine (HRB.out _ HAL20.out).mono ?_
            rintro e w21 ⟨A21, c21, rfl, h21, b21⟩
            clear hs2
            have hs2 := str_own (Own.below HY20.out b21) rfl
            have hs6 := str_own h21 rfl
            have HAL21 : Hid (OwnB w21 g A7 c7 (bb L6)) := Lib.hid (Own.below HAL20.out b21)
            have HB21 := Lib.hid (nextB HB20.out b21)
            have HW21 := Lib.hid (HW20.out.below b21)
            clear h21 b21
            refine hK.out _ _ trivial (fun _ => ?_)
            clear hK K
            try go_simp
            refine wpAnyH_ready (rs := [11]) (by kernel_rfl) (by simp) ?_
            refine AllReadyH.cons (o := ?_) ?_ ?_ AllReadyH.nil
            rotate_left 1
            · simp only [List.getElem?_toArray, List.getElem?_cons_succ, List.getElem?_cons_zero]; rfl
            intro K hK
            go_simp
            refine hK.out _ _ trivial (fun _ => ?_)
            clear hK K
            try go_simp
            refine wpAnyH_take (i := 12) (oi := ?_) (v := ?_) ?_ ?_ ?_ ?_ ?_ ?_ ?_ ?_
            rotate_left 2
            · simp only [List.getElem?_toArray, List.getElem?_cons_succ, List.getElem?_cons_zero]; rfl
            · kernel_rfl
            · kernel_rfl
            · kernel_rfl
            · exact fun _ _ _ h => h
            · exact Or.inl ⟨by kernel_rfl, by intro w hSw; (try dsimp only at hSw); go_simp; try with_reducible rfl⟩
            · trivial
            try go_simp
            refine wpAnyH_take (i := 13) (oi := ?_) (v := ?_) ?_ ?_ ?_ ?_ ?_ ?_ ?_ ?_
            rotate_left 2
            · simp only [List.getElem?_toArray, List.getElem?_cons_succ, List.getElem?_cons_zero]; rfl
            · kernel_rfl
            · kernel_rfl
            · kernel_rfl
            · exact fun _ _ _ h => h
            · exact Or.inl ⟨by kernel_rfl, by intro w hSw; (try dsimp only at hSw); go_simp; try with_reducible rfl⟩
            · trivial
            try go_simp
            refine wpAnyH_done (by kernel_rfl) ?_ _
            refine NoPanic.normal ?_
            go_wp2_with fail
            go_roundw
            case rel => exact ⟨i + 1, L6, A6, c6, A7, c7, by have := HLT.out; omega, by have := HLT.out; omega, by go_num, rfl, by have := HL6.out; omega, HW21.out, HAL21.out, HSP.out, HB21.out⟩
            case measure => have := HLT.out; simp [intOf]; omega
          · refine AllReadyH.cons (o := ?_) ?_ ?_ AllReadyH.nil
            rotate_left 1
            · simp only [List.getElem?_toArray, List.getElem?_cons_succ, List.getElem?_cons_zero]; rfl
            intro K hK
            go_simp
            refine (HRB.out _ HAL20.out).mono ?_
            rintro e w21 ⟨A21, c21, rfl, h21, b21⟩
            clear hs2
            have hs2 := str_own (Own.below HY20.out b21) rfl
            have hs6 := str_own h21 rfl
            have HAL21 : Hid (OwnB w21 g A7 c7 (bb L6)) := Lib.hid (Own.below HAL20.out b21)
            have HB21 := Lib.hid (nextB HB20.out b21)
            have HW21 := Lib.hid (HW20.out.below b21)
            clear h21 b21
            refine hK.out _ _ trivial (fun _ => ?_)
            clear hK K
            try go_simp
            refine wpAnyH_ready (rs := [8, 11]) (by kernel_rfl) (by simp) ?_
            refine AllReadyH.cons (o := ?_) ?_ ?_ ?_
            rotate_left 1
            · simp only [List.getElem?_toArray, List.getElem?_cons_succ, List.getElem?_cons_zero]; rfl
            · intro K hK
              go_simp
              refine hK.out _ _ trivial (fun _ => ?_)
              clear hK K
              try go_simp
              refine wpAnyH_ready (rs := [11]) (by kernel_rfl) (by simp) ?_
              refine AllReadyH.cons (o := ?_) ?_ ?_ AllReadyH.nil
              rotate_left 1
              · simp only [List.getElem?_toArray, List.getElem?_cons_succ, List.getElem?_cons_zero]; rfl
              intro K hK
              go_simp
              refine hK.out _ _ trivial (fun _ => ?_)
              clear hK K
              try go_simp
              refine wpAnyH_take (i := 12) (oi := ?_) (v := ?_) ?_ ?_ ?_ ?_ ?_ ?_ ?_ ?_
              rotate_left 2
              · simp only [List.getElem?_toArray, List.getElem?_cons_succ, List.getElem?_cons_zero]; rfl
              · kernel_rfl
              · kernel_rfl
              · kernel_rfl
              · exact fun _ _ _ h => h
              · exact Or.inl ⟨by kernel_rfl, by intro w hSw; (try dsimp only at hSw); go_simp; try with_reducible rfl⟩
              · trivial
              try go_simp
              refine wpAnyH_take (i := 13) (oi := ?_) (v := ?_) ?_ ?_ ?_ ?_ ?_ ?_ ?_ ?_
              rotate_left 2
              · simp only [List.getElem?_toArray, List.getElem?_cons_succ, List.getElem?_cons_zero]; rfl
              · kernel_rfl
              · kernel_rfl
              · kernel_rfl
              · exact fun _ _ _ h => h
              · exact Or.inl ⟨by kernel_rfl, by intro w hSw; (try dsimp only at hSw); go_simp; try with_reducible rfl⟩
              · trivial
              try go_simp
              refine wpAnyH_done (by kernel_rfl) ?_ _
              refine NoPanic.normal ?_
              go_wp2_with fail
              go_roundw
              case rel => exact ⟨i + 1, L6, A6, c6, A7, c7, by have := HLT.out; omega, by have := HLT.out; omega, by go_num, rfl, by have := HL6.out; omega, HW21.out, HAL21.out, HSP.out, HB21.out⟩
              case measure => have := HLT.out; simp [intOf]; omega
            · refine AllReadyH.cons (o := ?_) ?_ ?_ AllReadyH.nil
              rotate_left 1
              · simp only [List.getElem?_toArray, List.getElem?_cons_succ, List.getElem?_cons_zero]; rfl
              intro K hK
              go_simp
              refine hK.out _ _ trivial (fun _ => ?_)
              clear hK K
              try go_simp
              refine wpAnyH_ready (rs := [8]) (by kernel_rfl) (by simp) ?_
              refine AllReadyH.cons (o := ?_) ?_ ?_ AllReadyH.nil
              rotate_left 1
              · simp only [List.getElem?_toArray, List.getElem?_cons_succ, List.getElem?_cons_zero]; rfl
              intro K hK
              go_simp
              refine hK.out _ _ trivial (fun _ => ?_)
              clear hK K
              try go_simp
              refine wpAnyH_take (i := 12) (oi := ?_) (v := ?_) ?_ ?_ ?_ ?_ ?_ ?_ ?_ ?_
              rotate_left 2
              · simp only [List.getElem?_toArray, List.getElem?_cons_succ, List.getElem?_cons_zero]; rfl
              · kernel_rfl
              · kernel_rfl
              · kernel_rfl
              · exact fun _ _ _ h => h
              · exact Or.inl ⟨by kernel_rfl, by intro w hSw; (try dsimp only at hSw); go_simp; try with_reducible rfl⟩
              · trivial
              try go_simp
              refine wpAnyH_take (i := 13) (oi := ?_) (v := ?_) ?_ ?_ ?_ ?_ ?_ ?_ ?_ ?_
              rotate_left 2
              · simp only [List.getElem?_toArray, List.getElem?_cons_succ, List.getElem?_cons_zero]; rfl
              · kernel_rfl
              · kernel_rfl
              · kernel_rfl
              · exact fun _ _ _ h => h
              · exact Or.inl ⟨by kernel_rfl, by intro w hSw; (try dsimp only at hSw); go_simp; try with_reducible rfl⟩
              · trivial
              try go_simp
              refine wpAnyH_done (by kernel_rfl) ?_ _
              refine NoPanic.normal ?_
              go_wp2_with fail
              go_roundw
              case rel => exact ⟨i + 1, L6, A6, c6, A7, c7, by have := HLT.out; omega, by have := HLT.out; omega, by go_num, rfl, by have := HL6.out; omega, HW21.out, HAL21.out, HSP.out, HB21.out⟩
              case measure => have := HLT.out; simp [intOf]; omega
    · have hex : (decide (i < l.length) = false ∧ ¬ (i : Int) < (l.length : Int)) ∨ (decide (i < l.length) = true ∧ (i : Int) < (l.length : Int) ∧ decide (i < 60) = false ∧ ¬ (i : Int) < 60) := by
        by_cases h1 : i < l.length
        · exact .inr ⟨by simp; omega, by omega, by simp; omega, by omega⟩
        · exact .inl ⟨by simp; omega, by omega⟩
      clear hi hi60 hlt hL hwri hall hsep
      rcases hex with ⟨hd1, i1⟩ | ⟨hd1, i1, hd2, i2⟩
      all_goals
        go_wp2_with fail
        go_ret
        exact ⟨rfl, hbel⟩
end Go.Proofs.Ytboakhhmbjomfaa
