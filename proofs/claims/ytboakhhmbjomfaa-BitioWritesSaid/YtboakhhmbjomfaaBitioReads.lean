/- BitioReads walked: whatever is read of any bytes, each answer, and where the reader stands, is the document's. -/
import Derived.Test.YtboakhhmbjomfaaBitioBack
import Derived.Test.YtboakhhmbjomfaaBitioTurns
namespace Go.Proofs.Ytboakhhmbjomfaa
open Go.RowKit
open Bt
/-- A step of a reader: its kind, how many. -/
abbrev Tak := Nat × Int
def tkc (x : Tak) : List Value := [.int .u8 (x.1 : Nat), .int .i64 x.2]
def TakOk (x : Tak) : Prop := x.1 < 256 ∧ -9223372036854775808 ≤ x.2 ∧ x.2 ≤ 9223372036854775807
def Taks (w : World) (A : Option Addr) (l : List Tak) : Prop := (∀ x ∈ l, TakOk x) ∧ Reads w w.heap.size 2 A l.length (l.flatMap tkc)
theorem Taks.at_ {w : World} {A : Option Addr} {l : List Tak} (h : Taks w A l) {i : Nat} {x : Tak} (hx : l[i]? = some x) : ∃ b o, A = some ⟨b, o, none⟩ ∧ b < w.heap.size ∧ w.cell? ⟨b, o + i * 2, none⟩ = some (.int .u8 (x.1 : Nat)) ∧ w.cell? ⟨b, o + i * 2 + 1, none⟩ = some (.int .i64 x.2) := by
  have hi := (List.getElem?_eq_some_iff.1 hx).1
  obtain ⟨b, o, e, hb, hc⟩ := h.2.2 (by omega)
  have g0 := flat_get (val := tkc) (fun _ => rfl) hx (show 0 < 2 by decide)
  have g1 := flat_get (val := tkc) (fun _ => rfl) hx (show 1 < 2 by decide)
  exact ⟨b, o, e, hb, by have := hc _ _ (g0.trans rfl); rwa [Nat.add_zero] at this, by have := hc _ _ (g1.trans rfl); rwa [← Nat.add_assoc] at this⟩
theorem open_bitioReads_1 {H : Type} {enc : TypeId × Value → H} {w : World} {base : Nat} {spare : Nat → Bool} {held : Bool} {r : Reach} {b0 : Nat} {v : Value} {d : DataW H} {p : List MemPlace}
    (hv : Value.okWide Try.prog w r b0 51 v) (h : DataW.Trod enc Try.prog w base spare held 51 v d p) :
    ∃ (A : Option Addr) (c : Nat) (l : List Tak), v = .slice A l.length c ∧ l.length ≤ maxLen ∧ Taks w A l := by
  obtain ⟨A, c, l, h1, h2, _, h3, h4⟩ := open_rows (s := 2) Try.underlying51 (by kernel_rfl) (by decide) hv h tkc (fun _ => rfl) TakOk (fun n cs y hl hy => by
    obtain ⟨y0, y1, m, _, _, t0, t1⟩ := Go.ChangeShapes.trod_struct2 Try.underlying53 hy
    match cs, hl with
    | [c0, c1], _ =>
      obtain ⟨z0, e0, _, w0⟩ := DataW.trod_int Try.underlying5 t0
      obtain ⟨z1, e1, _, w1⟩ := DataW.trod_int Try.underlying3 t1
      have b0 := WfBounds.u8 w0
      have b1 := WfBounds.i64 w1
      have f0 : c0 = .int .u8 z0 := by simpa [show Try.prog.cellsOf 5 = 1 by kernel_rfl] using e0
      have f1 : c1 = .int .i64 z1 := by simpa [show Try.prog.cellsOf 3 = 1 by kernel_rfl] using e1
      refine ⟨(z0.toNat, z1), ?_, by simp only; omega, b1.1, b1.2⟩
      rw [f0, f1, tkc]
      simp only
      rw [show ((z0.toNat : Nat) : Int) = z0 by omega])
  exact ⟨A, c, l, h1, h2, h3, h4⟩
theorem Rdr.only {K : Nat → Prop} {w w' : World} {base g : Nat} {A : Option Addr} {c : Nat} {l : List UInt8} {p : Nat} (h : Rdr w base g A c l p) (k : Only K w w') (hg : ¬ K g) (hA : ∀ i, blockOf A = some i → ¬ K i) : Rdr w' base g A c l p := ⟨h.1.only k hg, Own.only h.2 k hA⟩
theorem own_read {w w' : World} {B gr base : Nat} {A D : Option Addr} {c d p : Nat} {S l : List UInt8} (h : OwnB w B A c S) (hr : Rdr w base gr D d l p) (k : Only (RK gr) w w') : OwnB w' B A c S :=
  Own.only h k (fun i hi e => by
    obtain rfl : i = gr := e
    exact Own.ne_blk h hr.1 (by decide) hi)
theorem own_cap_ {w : World} {B : Nat} {A : Option Addr} {c : Nat} {S : List UInt8} (h : OwnB w B A c S) : S.length ≤ c := by
  rcases Nat.eq_zero_or_pos S.length with h0 | h0
  · omega
  · obtain ⟨_, _, _, _, h1, _⟩ := Own.form h h0
    exact h1
theorem inc_byte (x : UInt8) : ((x.toNat : Int) + 1) % 256 = ((x + 1).toNat : Int) := by
  rw [UInt8.toNat_add]
  simp
set_option maxRecDepth 100000 in
theorem reads_long (w : World) (A : Option Addr) (c : Nat) (l : List UInt8) (h : 2000 < l.length) (B : Value) :
    Calls Try.prog 7 #[.slice A l.length c, B] w fun e w' => e = .returned (.bool true) ∧ Below w.heap.size w w' := by
  have h1 : (2000 : Int) < (l.length : Int) := by omega
  clear h
  go_enter Try.func7, Try.ntmps7
  go_wp2_with fail
  refine (alive_t _).mono ?_
  rintro e w1 ⟨rfl, hb1⟩
  go_wp2_with fail
  go_ret
  exact ⟨rfl, hb1⟩
set_option maxHeartbeats 12800000 in
set_option maxRecDepth 100000 in
theorem reads_short (w : World) (A : Option Addr) (c : Nat) (l : List UInt8) (hl : l.length ≤ 2000) (hlc : l.length ≤ c) (s : Bts w w.heap.size A l) (B : Option Addr) (d : Nat) (tl : List Tak) (_m : tl.length ≤ maxLen) (st : Taks w B tl) :
    Calls Try.prog 7 #[.slice A l.length c, .slice B tl.length d] w fun e w' => e = .returned (.bool true) ∧ Below w.heap.size w w' := by
  have HS := Lib.hid s
  have HT0 := Lib.hid st
  have HLC := Lib.hid hlc
  unfold maxLen at _m
  have hli : (l.length : Int) ≤ 2000 := by omega
  obtain ⟨n8, hn8⟩ : ∃ n8, n8 = 8 * l.length := ⟨_, rfl⟩
  have HN8 := Lib.hid hn8
  have hbl8 : (bb (bitsOf l)).length = n8 := by rw [bb_length, bitsOf_length, hn8]
  have HBL8 := Lib.hid hbl8
  have hn8b : n8 ≤ 16000 := by omega
  clear s st hlc hn8 hbl8
  go_enter Try.func7, Try.ntmps7
  go_wp2_with fail
  refine (alive_t _).mono ?_
  rintro e w1 ⟨rfl, hb1⟩
  have HB1 := Lib.hid hb1
  clear hb1
  go_wp2_with (at_builtin; refine Hid.out ?_)
  have hO1 : Own (w1.alloc (.cells #[] 5)) w1.heap.size 5 1 (some ⟨w1.heap.size, 0, none⟩) 0 0 [] := Own.made w1 _ _ _ #[] 0 (Nat.le_refl _) (Nat.zero_le _) rfl
  have hW1 : Below w1.heap.size w1 (w1.alloc (.cells #[] 5)) := (Below.refl _ _).alloc (Nat.le_refl _) _
  have hS1 := (HS.out.at_below HB1.out).at_below hW1
  refine wpList_app (xs := []) rfl rfl elem_u8 rfl hO1 rfl hS1 (bvs_one _) l.length (Nat.zero_add _) (bvs l) rfl (by unfold maxLen; omega) (by omega) hW1.size ?_
  intro A2 c2 w2 o2 g2 q2
  have HO2 : Hid (OwnB w2 w1.heap.size A2 c2 l) := Lib.hid o2
  have HW2 := Lib.hid (nextB HB1.out (appB hW1 hO1 g2 (Nat.le_refl _) hW1.size))
  have hw1s := HB1.out.size
  clear hO1 hW1 hS1 o2 g2 q2
  go_wp2_with fail
  refine (new_t A2 c2 l _ (OwnB.reads HO2.out) (by omega)).mono ?_
  rintro e w3 ⟨gr, A3, c3, rfl, hgr, h3, b3⟩
  have HR3 := Lib.hid h3
  have HO3 : Hid (OwnB w3 w1.heap.size A2 c2 l) := Lib.hid (Own.below HO2.out b3)
  have HW3 := Lib.hid (nextB HW2.out b3)
  have hlow : Hid (∀ i, blockOf A2 = some i → w1.heap.size ≤ i ∧ i < w2.heap.size) := Lib.hid (fun i hi => Own.block (show Own w2 w1.heap.size 5 1 A2 l.length c2 (bvs l) from HO2.out) hi)
  clear h3 b3
  go_wp2_with fail
  go_loopw [7] (fun u wr => ∃ (j : Nat) (R : List UInt8), j ≤ l.length ∧ u = .int .i64 (j : Int) ∧ R.length = l.length ∧ OwnB wr w1.heap.size A2 c2 R ∧ Rdr wr w2.heap.size gr A3 c3 l 0 ∧ Below w.heap.size w wr) (fun u _ => l.length - (intOf u).toNat)
  case atStart => exact ⟨0, l, Nat.zero_le _, rfl, rfl, HO3.out, HR3.out, HW3.out⟩
  case round =>
    obtain ⟨j, R, hj, rfl, hRl, hown, hrd, hbel⟩ := hrel
    obtain ⟨wo, rfl⟩ : ∃ wo : World, wo = wr := ⟨_, rfl⟩
    by_cases hlt : j < l.length
    · have hji : (j : Int) < (l.length : Int) := by omega
      obtain ⟨gb, hA, hbg, hgl, hnc, hcl, hfz⟩ := Own.form (show Own wo w1.heap.size 5 1 A2 R.length c2 (bvs R) from hown) (by omega)
      subst hA
      have hc := hcl j (bv (R.getD j 0)) (by
        have : j < R.length := by omega
        simp [bvs, List.getD, this])
      unfold bv at hc
      generalize hx : R.getD j 0 = x at *
      have hinc := inc_byte x
      have HINC := Lib.hid hinc
      have hset : (bvs R).set j (.int .u8 ((x + 1).toNat : Int)) = bvs (R.set j (x + 1)) := by
        unfold bvs
        rw [List.map_set]
        rfl
      have HSET := Lib.hid hset
      have hlo := hlow.out gb rfl
      have hK : ∀ i, Rdr wo w2.heap.size gr A3 c3 l 0 → (blockOf A3 = some i → w2.heap.size ≤ i) := fun i h hi => (Own.block (show Own wo w2.heap.size 5 1 A3 l.length c3 (bvs l) from h.2) hi).1
      have HK := Lib.hid hK
      have HO := Lib.hid hown
      have HR := Lib.hid hrd
      have HW := Lib.hid hbel
      have HJ := Lib.hid hlt
      have HRL := Lib.hid hRl
      clear hx hset hK hown hrd hbel hlt hj hRl hcl hnc hinc
      go_wp2_with fail
      go_roundw
      case rel =>
        have hon : Only (RK gb) wo (wo.setCell ⟨gb, j, none⟩ (.int .u8 ((x + 1).toNat : Int))) := (Only.refl (RK gb) _).set (p := ⟨gb, j, none⟩) (.inl rfl) _
        rw [HINC.out]
        refine ⟨j + 1, R.set j (x + 1), HJ.out, by go_num, by rw [List.length_set]; exact HRL.out, ?_, HR.out.only hon (fun (e : gr = gb) => by omega) (fun i hi (e : i = gb) => by have := HK.out i HR.out hi; omega), HW.out.setCell (p := ⟨gb, j, none⟩) (show w.heap.size ≤ gb by omega) _⟩
        have h1 := Own.stored (show Own wo w1.heap.size 5 1 (some ⟨gb, 0, none⟩) R.length c2 (bvs R) from HO.out) j (.int .u8 ((x + 1).toNat : Int))
        unfold OwnB
        rw [List.length_set, ← HSET.out]
        exact h1
      case measure => have := HJ.out; simp [intOf]; omega
    · obtain rfl : l.length = j := by omega
      have HR := Lib.hid hrd
      have HW := Lib.hid hbel
      clear hj hlt hRl hown hrd hbel
      go_wp2_with fail
      refine (rbits_t A c l _ (HS.out.at_below HW.out) (by omega)).mono ?_
      rintro e w5 ⟨A8, c8, rfl, h8, b8⟩
      rw [HBL8.out]
      have HA8 : Hid (OwnB w5 wo.heap.size A8 c8 (bb (bitsOf l))) := Lib.hid h8
      have HR5 := Lib.hid (HR.out.below b8)
      have HW5 := Lib.hid (nextB HW.out b8)
      have hgrw : w.heap.size ≤ gr := Nat.le_trans HW2.out.size hgr
      clear h8 b8
      go_wp2_with fail
      go_loopw [9, 10] (fun u v wr => ∃ (i p m : Nat), i ≤ tl.length ∧ i ≤ 80 ∧ u = .int .i64 (p : Int) ∧ v = .int .i64 (i : Int) ∧ p + m = n8 ∧ Rdr wr w2.heap.size gr A3 c3 l p ∧ OwnB wr wo.heap.size A8 c8 (bb (bitsOf l)) ∧ Below w.heap.size w wr) (fun _ v _ => 80 - (intOf v).toNat)
      case atStart => exact ⟨0, 0, n8, Nat.zero_le _, Nat.zero_le _, rfl, rfl, Nat.zero_add _, HR5.out, HA8.out, HW5.out⟩
      case round =>
        obtain ⟨i, p, m, hi, hi80, rfl, rfl, hpm, hrd, hall, hbel⟩ := hrel
        obtain ⟨w6, rfl⟩ : ∃ w6 : World, w6 = wr := ⟨_, rfl⟩
        by_cases hlt : i < tl.length ∧ i < 80
        · obtain ⟨hlt, hlt1⟩ := hlt
          have hd1 : decide (i < tl.length) = true := by simp; omega
          have hd2 : decide (i < 80) = true := by simp; omega
          have i1 : (i : Int) < (tl.length : Int) := by omega
          have i2 : (i : Int) < 80 := by omega
          obtain ⟨x, hx⟩ : ∃ x, tl[i]? = some x := ⟨tl[i], by simp [hlt]⟩
          obtain ⟨b, o, hA, hbl, x0, x1⟩ := HT0.out.at_ hx
          subst hA
          have y0 := (hbel.cell (p := ⟨b, o + i * 2, none⟩) hbl).trans x0
          have y1 := (hbel.cell (p := ⟨b, o + i * 2 + 1, none⟩) hbl).trans x1
          obtain ⟨ok1, ok2, ok3⟩ := HT0.out.1 x (List.mem_of_getElem? hx)
          obtain ⟨kd, xc⟩ := x
          simp only at y0 y1 ok1 ok2 ok3
          have hpb : (p : Int) ≤ 16000 := by omega
          have hmb : (m : Int) ≤ 16000 := by omega
          have esub : (n8 : Int) - (p : Int) = (m : Int) := by omega
          have hpm8 : p + m = 8 * l.length := by rw [hpm, HN8.out]
          have HLT : Hid (i < tl.length ∧ i < 80) := Lib.hid ⟨hlt, hlt1⟩
          have HPM := Lib.hid hpm
          have HPM8 := Lib.hid hpm8
          have HRD := Lib.hid hrd
          have HALL := Lib.hid hall
          have HBE := Lib.hid hbel
          clear hx x0 x1 hlt hlt1 hi hi80 hpm hpm8 hrd hall hbel
          have h4 : kd % 4 = 0 ∨ kd % 4 = 1 ∨ kd % 4 = 2 ∨ kd % 4 = 3 := by omega
          rcases h4 with h4 | h4 | h4 | h4
          · have ek : (kd : Int) % 4 = 0 := by omega
            by_cases hb : xc < 0 ∨ 32 < xc
            · have HG := Lib.hid (fun W => rgroup_bad gr xc W hb)
              have hdd : (decide (xc < 0) = true) ∨ (decide (xc < 0) = false ∧ decide (32 < xc) = true) := by
                rcases hb with hb | hb
                · exact .inl (by simp; omega)
                · exact .inr ⟨by simp; omega, by simp; omega⟩
              clear hb h4
              rcases hdd with hdd | ⟨hdd, hdd2⟩
              all_goals
                go_wp2_with fail
                refine (HG.out _).mono ?_
                rintro e w9 ⟨rfl, rfl⟩
                go_wp2_with fail
                refine (rat_t w2.heap.size gr A3 c3 l p _ HRD.out).mono ?_
                rintro e wA ⟨rfl, rfl⟩
                go_wp2_with fail
                refine (left_t w2.heap.size gr A3 c3 l p m _ HRD.out HPM8.out (by omega)).mono ?_
                rintro e wL ⟨rfl, qL, rfl⟩
                go_wp2_with fail
                go_roundw
                case rel => exact ⟨i + 1, p, m, by have := HLT.out; omega, by have := HLT.out; omega, by go_num, by go_num, by rw [HN8.out]; exact HPM8.out, HRD.out.drewN qL, HALL.out, below_drewN HBE.out qL⟩
                case measure => have := HLT.out; simp [intOf]; omega
            · obtain ⟨k, rfl⟩ := Int.eq_ofNat_of_zero_le (show 0 ≤ xc by omega)
              have hk32 : k ≤ 32 := by omega
              have hki : (k : Int) ≤ 32 := by omega
              have hdd : decide ((k : Int) < 0) = false := by simp
              have hdd2 : decide ((32 : Int) < (k : Int)) = false := by simp; omega
              have hdd3 : decide (32 < k) = false := by simp; omega
              by_cases hmk : m < k
              · have HG := Lib.hid (fun W h => rgroup_end w2.heap.size gr A3 c3 l p m k W h HPM8.out (by omega) hk32 hmk)
                have hmki : (m : Int) < (k : Int) := by omega
                clear hmk hb h4
                go_wp2_with fail
                refine (HG.out _ HRD.out).mono ?_
                rintro e w9 ⟨rfl, q0, rfl⟩
                have HR9 := Lib.hid (HRD.out.drewN q0)
                have HB9 := Lib.hid (below_drewN HBE.out q0)
                have HO9 : Hid (OwnB (w6.drewN q0) wo.heap.size A8 c8 (bb (bitsOf l))) := Lib.hid HALL.out
                generalize w6.drewN q0 = w9 at *
                go_wp2_with fail
                refine (rat_t w2.heap.size gr A3 c3 l p _ HR9.out).mono ?_
                rintro e wA ⟨rfl, rfl⟩
                go_wp2_with fail
                refine (left_t w2.heap.size gr A3 c3 l p m _ HR9.out HPM8.out (by omega)).mono ?_
                rintro e wL ⟨rfl, qL, rfl⟩
                go_wp2_with fail
                go_roundw
                case rel => exact ⟨i + 1, p, m, by have := HLT.out; omega, by have := HLT.out; omega, by go_num, by go_num, by rw [HN8.out]; exact HPM8.out, HR9.out.drewN qL, HO9.out, below_drewN HB9.out qL⟩
                case measure => have := HLT.out; simp [intOf]; omega
              · have hmki : ¬ (m : Int) < (k : Int) := by omega
                clear hb
                have HG := Lib.hid (fun W h => rgroup_t w2.heap.size gr A3 c3 l p m k W h HPM8.out (by omega) (by omega) (by omega))
                obtain ⟨q, hq⟩ : ∃ q, q = p + k := ⟨_, rfl⟩
                obtain ⟨m2, hm2⟩ : ∃ m2, m2 = m - k := ⟨_, rfl⟩
                have HQM : Hid (q + m2 = 8 * l.length) := Lib.hid (by have := HPM8.out; omega)
                have esub2 : (n8 : Int) - (q : Int) = (m2 : Int) := by have := HPM.out; omega
                have eadd : (p : Int) + (k : Int) = (q : Int) := by omega
                have hbl2 := slice_len (l := bb (bitsOf l)) (i := p) (j := q) (by rw [HBL8.out]; have := HPM.out; omega)
                have hqp : q - p = k := by omega
                have hrun := slice_run A8 n8 c8 p q (by omega) (by have := HPM.out; have := own_cap_ HALL.out; rw [HBL8.out] at this; omega)
                have HSB := Lib.hid (fun (W : World) (hw : OwnB W wo.heap.size A8 c8 (bb (bitsOf l))) => slice_bts (OwnB.reads hw) c8 p q (by rw [HBL8.out]; have := HPM.out; omega) (own_cap_ hw))
                have hbe : ((bb (bitsOf l)).drop p).take (q - p) = bb (((bitsOf l).drop p).take k) := by rw [hqp]; simp [bb, List.map_drop, List.map_take]
                rw [hbe] at HSB
                have hlk : (((bitsOf l).drop p).take k).length = k := by
                  rw [hbe, hqp, bb_length] at hbl2
                  exact hbl2
                rw [hqp] at hrun
                rw [← hq] at HG
                generalize sliceA A8 c8 p = A9 at *
                have HNM := Lib.hid (fun (W : World) h => num_k A9 (c8 - p) (((bitsOf l).drop p).take k) k W hlk h (by omega))
                generalize num (((bitsOf l).drop p).take k) = nv at *
                clear hbl2 hqp hbe hlk hq hm2 h4
                go_wp2_with fail
                refine (HG.out _ HRD.out).mono ?_
                rintro e w9 ⟨rfl, h9, o9⟩
                have HR9 := Lib.hid h9
                have HO9 := Lib.hid (own_read HALL.out HRD.out o9)
                have HB9 := Lib.hid (HBE.out.trans (rk_below o9 hgrw HBE.out.size))
                clear h9 o9
                go_wp2_with fail
                refine (HNM.out _ (HSB.out _ HO9.out)).mono ?_
                rintro e wN ⟨rfl, rfl⟩
                go_wp2_with fail
                refine (rat_t w2.heap.size gr A3 c3 l q _ HR9.out).mono ?_
                rintro e wA ⟨rfl, rfl⟩
                go_wp2_with fail
                refine (left_t w2.heap.size gr A3 c3 l q m2 _ HR9.out HQM.out (by omega)).mono ?_
                rintro e wL ⟨rfl, qL, rfl⟩
                go_wp2_with fail
                go_roundw
                case rel => exact ⟨i + 1, q, m2, by have := HLT.out; omega, by have := HLT.out; omega, by go_num, by go_num, by rw [HN8.out]; exact HQM.out, HR9.out.drewN qL, HO9.out, below_drewN HB9.out qL⟩
                case measure => have := HLT.out; simp [intOf]; omega
          · have ek : (kd : Int) % 4 = 1 := by omega
            have hdd3 : decide ((32 : Int) < 1) = false := by decide
            by_cases hmk : m < 1
            · have HG := Lib.hid (fun W h => rbit_bad w2.heap.size gr A3 c3 l p m W h HPM8.out (by omega) hmk)
              have hmki : (m : Int) < 1 := by omega
              clear hmk h4
              go_wp2_with fail
              refine (HG.out _ HRD.out).mono ?_
              rintro e w9 ⟨rfl, q0, rfl⟩
              have HR9 := Lib.hid (HRD.out.drewN q0)
              have HB9 := Lib.hid (below_drewN HBE.out q0)
              have HO9 : Hid (OwnB (w6.drewN q0) wo.heap.size A8 c8 (bb (bitsOf l))) := Lib.hid HALL.out
              generalize w6.drewN q0 = w9 at *
              go_wp2_with fail
              refine (rat_t w2.heap.size gr A3 c3 l p _ HR9.out).mono ?_
              rintro e wA ⟨rfl, rfl⟩
              go_wp2_with fail
              refine (left_t w2.heap.size gr A3 c3 l p m _ HR9.out HPM8.out (by omega)).mono ?_
              rintro e wL ⟨rfl, qL, rfl⟩
              go_wp2_with fail
              go_roundw
              case rel => exact ⟨i + 1, p, m, by have := HLT.out; omega, by have := HLT.out; omega, by go_num, by go_num, by rw [HN8.out]; exact HPM8.out, HR9.out.drewN qL, HO9.out, below_drewN HB9.out qL⟩
              case measure => have := HLT.out; simp [intOf]; omega
            · have hmki : ¬ (m : Int) < 1 := by omega
              have HG := Lib.hid (fun W h => rbit_t w2.heap.size gr A3 c3 l p m W h HPM8.out (by omega) (by omega))
              obtain ⟨q, hq⟩ : ∃ q, q = p + 1 := ⟨_, rfl⟩
              obtain ⟨m2, hm2⟩ : ∃ m2, m2 = m - 1 := ⟨_, rfl⟩
              have HQM : Hid (q + m2 = 8 * l.length) := Lib.hid (by have := HPM8.out; omega)
              have esub2 : (n8 : Int) - (q : Int) = (m2 : Int) := by have := HPM.out; omega
              have eadd : (p : Int) + (1 : Int) = (q : Int) := by omega
              have hbl2 := slice_len (l := bb (bitsOf l)) (i := p) (j := q) (by rw [HBL8.out]; have := HPM.out; omega)
              have hqp : q - p = 1 := by omega
              have hrun := slice_run A8 n8 c8 p q (by omega) (by have := HPM.out; have := own_cap_ HALL.out; rw [HBL8.out] at this; omega)
              have HSB := Lib.hid (fun (W : World) (hw : OwnB W wo.heap.size A8 c8 (bb (bitsOf l))) => slice_bts (OwnB.reads hw) c8 p q (by rw [HBL8.out]; have := HPM.out; omega) (own_cap_ hw))
              have hbe : ((bb (bitsOf l)).drop p).take (q - p) = bb (((bitsOf l).drop p).take 1) := by rw [hqp]; simp [bb, List.map_drop, List.map_take]
              rw [hbe] at HSB
              have hlk : (((bitsOf l).drop p).take 1).length = 1 := by
                rw [hbe, hqp, bb_length] at hbl2
                exact hbl2
              rw [hqp] at hrun
              rw [← hq] at HG
              generalize sliceA A8 c8 p = A9 at *
              have HNM := Lib.hid (fun (W : World) h => num_k A9 (c8 - p) (((bitsOf l).drop p).take 1) 1 W hlk h (by omega))
              generalize num (((bitsOf l).drop p).take 1) = nv at *
              clear hbl2 hqp hbe hlk hq hm2 h4
              go_wp2_with fail
              refine (HG.out _ HRD.out).mono ?_
              rintro e w9 ⟨rfl, h9, o9⟩
              have HR9 := Lib.hid h9
              have HO9 := Lib.hid (own_read HALL.out HRD.out o9)
              have HB9 := Lib.hid (HBE.out.trans (rk_below o9 hgrw HBE.out.size))
              clear h9 o9
              go_wp2_with fail
              refine (HNM.out _ (HSB.out _ HO9.out)).mono ?_
              rintro e wN ⟨rfl, rfl⟩
              go_wp2_with fail
              refine (rat_t w2.heap.size gr A3 c3 l q _ HR9.out).mono ?_
              rintro e wA ⟨rfl, rfl⟩
              go_wp2_with fail
              refine (left_t w2.heap.size gr A3 c3 l q m2 _ HR9.out HQM.out (by omega)).mono ?_
              rintro e wL ⟨rfl, qL, rfl⟩
              go_wp2_with fail
              go_roundw
              case rel => exact ⟨i + 1, q, m2, by have := HLT.out; omega, by have := HLT.out; omega, by go_num, by go_num, by rw [HN8.out]; exact HQM.out, HR9.out.drewN qL, HO9.out, below_drewN HB9.out qL⟩
              case measure => have := HLT.out; simp [intOf]; omega
          · have ek : (kd : Int) % 4 = 2 := by omega
            obtain ⟨q, hq⟩ : ∃ q, q = upN p := ⟨_, rfl⟩
            have hqe := hq
            unfold upN at hqe
            obtain ⟨m2, hm2⟩ : ∃ m2, m2 = n8 - q := ⟨_, rfl⟩
            have HQM : Hid (q + m2 = 8 * l.length) := Lib.hid (by have := HPM8.out; have := HN8.out; omega)
            have esub2 : (n8 : Int) - (q : Int) = (m2 : Int) := by have := HQM.out; have := HN8.out; omega
            have HAL := Lib.hid (fun W h => ralign_t w2.heap.size gr A3 c3 l p W h (by omega))
            rw [← hqe] at HAL
            have HUP := Lib.hid (fun W => rup_t p W (by omega))
            rw [← hq] at HUP
            clear hq hqe hm2 h4
            go_wp2_with fail
            refine (HAL.out _ HRD.out).mono ?_
            rintro e w9 ⟨rfl, h9, o9⟩
            have HR9 := Lib.hid h9
            have HO9 := Lib.hid (own_read HALL.out HRD.out o9)
            have HB9 := Lib.hid (HBE.out.trans (rk_below o9 hgrw HBE.out.size))
            clear h9 o9
            go_wp2_with fail
            refine (HUP.out _).mono ?_
            rintro e wU ⟨rfl, rfl⟩
            go_wp2_with fail
            refine (rat_t w2.heap.size gr A3 c3 l q _ HR9.out).mono ?_
            rintro e wA ⟨rfl, rfl⟩
            go_wp2_with fail
            refine (left_t w2.heap.size gr A3 c3 l q m2 _ HR9.out HQM.out (by omega)).mono ?_
            rintro e wL ⟨rfl, qL, rfl⟩
            go_wp2_with fail
            go_roundw
            case rel => exact ⟨i + 1, q, m2, by have := HLT.out; omega, by have := HLT.out; omega, by go_num, by go_num, by rw [HN8.out]; exact HQM.out, HR9.out.drewN qL, HO9.out, below_drewN HB9.out qL⟩
            case measure => have := HLT.out; simp [intOf]; omega
          · have ek : (kd : Int) % 4 = 3 := by omega
            obtain ⟨q, hq⟩ : ∃ q, q = upN p := ⟨_, rfl⟩
            have hqe := hq
            unfold upN at hqe
            obtain ⟨m2, hm2⟩ : ∃ m2, m2 = n8 - q := ⟨_, rfl⟩
            have HQM : Hid (q + m2 = 8 * l.length) := Lib.hid (by have := HPM8.out; have := HN8.out; omega)
            have hqm := HQM.out
            have esub2 : (n8 : Int) - (q : Int) = (m2 : Int) := by have := HQM.out; have := HN8.out; omega
            have HUP := Lib.hid (fun W => rup_t p W (by omega))
            have hm2i : (m2 : Int) ≤ 16000 := by have := HN8.out; omega
            have hqi : (q : Int) ≤ 16000 := by have := HN8.out; omega
            by_cases hb : xc < 0 ∨ (m2 : Int) / 8 < xc
            · have HG := Lib.hid (fun W h => rtext_bad w2.heap.size gr A3 c3 l p m2 xc W h (by rw [← hq]; exact HQM.out) (by omega) hb)
              rw [← hq] at HUP HG
              have hdd : (decide (xc < 0) = true) ∨ (decide (xc < 0) = false ∧ decide ((m2 : Int) / 8 < xc) = true) := by
                by_cases h1 : xc < 0
                · exact .inl (by simp; omega)
                · exact .inr ⟨by simp; omega, by simp; omega⟩
              clear hb h4 hq hqe hm2 hqm
              rcases hdd with hdd | ⟨hdd, hdd2⟩
              all_goals
                go_wp2_with fail
                refine (HG.out _ HRD.out).mono ?_
                rintro e w9 ⟨rfl, h9, o9⟩
                have HR9 := Lib.hid h9
                have HO9 := Lib.hid (own_read HALL.out HRD.out o9)
                have HB9 := Lib.hid (HBE.out.trans (rk_below o9 hgrw HBE.out.size))
                clear h9 o9
                go_wp2_with fail
                refine (HUP.out _).mono ?_
                rintro e wU ⟨rfl, rfl⟩
                go_wp2_with fail
                refine (rat_t w2.heap.size gr A3 c3 l q _ HR9.out).mono ?_
                rintro e wA ⟨rfl, rfl⟩
                go_wp2_with fail
                refine (left_t w2.heap.size gr A3 c3 l q m2 _ HR9.out HQM.out (by omega)).mono ?_
                rintro e wL ⟨rfl, qL, rfl⟩
                go_wp2_with fail
                go_roundw
                case rel => exact ⟨i + 1, q, m2, by have := HLT.out; omega, by have := HLT.out; omega, by go_num, by go_num, by rw [HN8.out]; exact HQM.out, HR9.out.drewN qL, HO9.out, below_drewN HB9.out qL⟩
                case measure => have := HLT.out; simp [intOf]; omega
            · obtain ⟨k, rfl⟩ := Int.eq_ofNat_of_zero_le (show 0 ≤ xc by omega)
              have hk : k ≤ m2 / 8 := by omega
              have HG := Lib.hid (fun W h => rtext_t w2.heap.size gr A3 c3 l p m2 k W h (by rw [← hq]; exact HQM.out) (by omega) hk)
              rw [← hq] at HUP HG
              obtain ⟨y, hy⟩ : ∃ y, y = q / 8 := ⟨_, rfl⟩
              have ey : (q : Int) / 8 = (y : Int) := by omega
              obtain ⟨z, hz⟩ : ∃ z, z = y + k := ⟨_, rfl⟩
              have ez : (y : Int) + (k : Int) = (z : Int) := by omega
              have ez2 : IntKind.i64.wrap (z : Int) = (z : Int) := IntWalk.i64_in _ ⟨by omega, by omega⟩
              have ey2 : IntKind.i64.wrap (y : Int) = (y : Int) := IntWalk.i64_in _ ⟨by omega, by omega⟩
              have hki : (k : Int) ≤ 2000 := by omega
              have hq88 : q = y * 8 := by omega
              have hzl : z ≤ l.length := by omega
              have hrun := slice_run A l.length c y z (by omega) (by have := HLC.out; omega)
              have hsl := slice_len (l := l) (i := y) hzl
              have hzy : z - y = k := by omega
              have HSB := Lib.hid (fun (W : World) (hw : Bts W W.heap.size A l) => slice_bts hw c y z hzl HLC.out)
              rw [hzy] at hrun hsl HSB
              generalize sliceA A c y = A9 at *
              obtain ⟨q2, hq2⟩ : ∃ q2, q2 = q + 8 * k := ⟨_, rfl⟩
              obtain ⟨m3, hm3⟩ : ∃ m3, m3 = m2 - 8 * k := ⟨_, rfl⟩
              have HQM2 : Hid (q2 + m3 = 8 * l.length) := Lib.hid (by omega)
              have esub3 : (n8 : Int) - (q2 : Int) = (m3 : Int) := by have := HN8.out; omega
              have eadd : (q : Int) + 8 * (k : Int) = (q2 : Int) := by omega
              rw [← hy, ← hq2] at HG
              have hdd : decide ((k : Int) < 0) = false := by simp
              have hdd2 : ¬ (m2 : Int) / 8 < (k : Int) := by omega
              have HSL := Lib.hid hsl
              clear hb h4 hq hqe hm2 hqm hk hy hz hq88 hzl hsl hzy hq2 hm3
              go_wp2_with fail
              refine (HG.out _ HRD.out).mono ?_
              rintro e w9 ⟨⟨A4, c4, rfl, h5⟩, h9, o9⟩
              have HR9 := Lib.hid h9
              have HO9 := Lib.hid (own_read HALL.out HRD.out o9)
              have HB9 := Lib.hid (HBE.out.trans (rk_below o9 hgrw HBE.out.size))
              clear h9 o9
              have HT9 := Lib.hid (OwnB.reads h5)
              clear h5
              go_wp2_with fail
              refine (HUP.out _).mono ?_
              rintro e wU ⟨rfl, rfl⟩
              obtain ⟨T, hT⟩ : ∃ T, T = (l.drop y).take k := ⟨_, rfl⟩
              have hbA := HSB.out _ (HS.out.at_below HB9.out)
              have hbT := HT9.out
              have hsl := HSL.out
              rw [← hT] at hbA hbT hsl
              have hs1 : ∀ n, (convert 25 9 (.slice A4 k c4)).run Try.prog (w9.drewN n) = .ok (.string (str T)) (w9.drewN n) := fun n => run_str Try.underlying25 Try.underlying5 Try.underlying9 (by unfold Bts at hbT; rw [hsl] at hbT; exact hbT)
              have hs2 : ∀ n, (convert 25 9 (.slice A9 k (c - y))).run Try.prog (w9.drewN n) = .ok (.string (str T)) (w9.drewN n) := fun n => run_str Try.underlying25 Try.underlying5 Try.underlying9 (by unfold Bts at hbA; rw [hsl] at hbA; exact hbA)
              clear hT hbA hbT hsl
              go_wp2_with fail
              go_quiet (fail)
              have HR10 := Lib.hid (HR9.out.drewN nq)
              have HB10 := Lib.hid (below_drewN HB9.out nq)
              have HO10 : Hid (OwnB (w9.drewN nq) wo.heap.size A8 c8 (bb (bitsOf l))) := Lib.hid HO9.out
              clear hs1 hs2
              generalize w9.drewN nq = w10 at *
              go_wp2_with fail
              refine (rat_t w2.heap.size gr A3 c3 l q2 _ HR10.out).mono ?_
              rintro e wA ⟨rfl, rfl⟩
              go_wp2_with fail
              refine (left_t w2.heap.size gr A3 c3 l q2 m3 _ HR10.out HQM2.out (by omega)).mono ?_
              rintro e wL ⟨rfl, qL, rfl⟩
              go_wp2_with fail
              go_roundw
              case rel => exact ⟨i + 1, q2, m3, by have := HLT.out; omega, by have := HLT.out; omega, by go_num, by go_num, by rw [HN8.out]; exact HQM2.out, HR10.out.drewN qL, HO10.out, below_drewN HB10.out qL⟩
              case measure => have := HLT.out; simp [intOf]; omega
        · have hex : (decide (i < tl.length) = false ∧ ¬ (i : Int) < (tl.length : Int)) ∨ (decide (i < tl.length) = true ∧ (i : Int) < (tl.length : Int) ∧ decide (i < 80) = false ∧ ¬ (i : Int) < 80) := by
            by_cases h1 : i < tl.length
            · exact .inr ⟨by simp; omega, by omega, by simp; omega, by omega⟩
            · exact .inl ⟨by simp; omega, by omega⟩
          clear hi hi80 hlt hpm
          rcases hex with ⟨hd1, i1⟩ | ⟨hd1, i1, hd2, i2⟩
          all_goals
            go_wp2_with fail
            go_ret
            exact ⟨rfl, hbel⟩
theorem bitioReads_walk (w : World) (A : Option Addr) (c : Nat) (l : List UInt8) (_m : l.length ≤ maxLen) (e : l.length ≤ c) (s : Bts w w.heap.size A l) (B : Option Addr) (d : Nat) (tl : List Tak) (m2 : tl.length ≤ maxLen) (st : Taks w B tl) :
    Calls Try.prog 7 #[.slice A l.length c, .slice B tl.length d] w fun e w' => e = .returned (.bool true) ∧ Below w.heap.size w w' := by
  by_cases h : 2000 < l.length
  · exact reads_long w A c l h _
  · exact reads_short w A c l (by omega) e s B d tl m2 st
end Go.Proofs.Ytboakhhmbjomfaa
