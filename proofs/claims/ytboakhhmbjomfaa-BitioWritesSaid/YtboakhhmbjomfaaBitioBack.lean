/- BitioBack walked: groups and codes that were written are read, codes turned. -/
import Derived.Test.YtboakhhmbjomfaaBitI
import Derived.Test.YtboakhhmbjomfaaOpenRows
namespace Go.Proofs.Ytboakhhmbjomfaa
open Go.RowKit
open Bt
/-- A number, how many bits it has, is it a code. -/
abbrev Itm := Nat × Int × Bool
def itc (x : Itm) : List Value := [.int .u32 (x.1 : Nat), .int .i64 x.2.1, .bool x.2.2]
def ItOk (x : Itm) : Prop := x.1 < 4294967296 ∧ -9223372036854775808 ≤ x.2.1 ∧ x.2.1 ≤ 9223372036854775807
def Its (w : World) (A : Option Addr) (l : List Itm) : Prop := (∀ x ∈ l, ItOk x) ∧ Reads w w.heap.size 3 A l.length (l.flatMap itc)
theorem flat_get {α : Type} {val : α → List Value} {s : Nat} (hlen : ∀ a, (val a).length = s) {l : List α} {i k : Nat} {x : α} (h : l[i]? = some x) (hk : k < s) : (l.flatMap val)[i * s + k]? = (val x)[k]? := by
  induction l generalizing i with
  | nil => simp at h
  | cons a l ih =>
    rw [List.flatMap_cons]
    cases i with
    | zero =>
      simp at h
      subst h
      rw [Nat.zero_mul, Nat.zero_add, List.getElem?_append_left (by rw [hlen]; exact hk)]
    | succ i =>
      rw [List.getElem?_append_right (by rw [hlen, Nat.add_mul]; omega), hlen, show (i + 1) * s + k - s = i * s + k by rw [Nat.add_mul]; omega]
      exact ih (by simpa using h)
theorem Its.at_ {w : World} {A : Option Addr} {l : List Itm} (h : Its w A l) {i : Nat} {x : Itm} (hx : l[i]? = some x) : ∃ b o, A = some ⟨b, o, none⟩ ∧ b < w.heap.size ∧ w.cell? ⟨b, o + i * 3, none⟩ = some (.int .u32 (x.1 : Nat)) ∧ w.cell? ⟨b, o + i * 3 + 1, none⟩ = some (.int .i64 x.2.1) ∧ w.cell? ⟨b, o + i * 3 + 2, none⟩ = some (.bool x.2.2) := by
  have hi := (List.getElem?_eq_some_iff.1 hx).1
  obtain ⟨b, o, e, hb, hc⟩ := h.2.2 (by omega)
  have g0 := flat_get (val := itc) (fun _ => rfl) hx (show 0 < 3 by decide)
  have g1 := flat_get (val := itc) (fun _ => rfl) hx (show 1 < 3 by decide)
  have g2 := flat_get (val := itc) (fun _ => rfl) hx (show 2 < 3 by decide)
  exact ⟨b, o, e, hb, by have := hc _ _ (g0.trans rfl); rwa [Nat.add_zero] at this, by have := hc _ _ (g1.trans rfl); rwa [← Nat.add_assoc] at this, by have := hc _ _ (g2.trans rfl); rwa [← Nat.add_assoc] at this⟩
theorem open_bitioBack_0 {H : Type} {enc : TypeId × Value → H} {w : World} {base : Nat} {spare : Nat → Bool} {held : Bool} {r : Reach} {b0 : Nat} {v : Value} {d : DataW H} {p : List MemPlace}
    (hv : Value.okWide Try.prog w r b0 22 v) (h : DataW.Trod enc Try.prog w base spare held 22 v d p) :
    ∃ (A : Option Addr) (c : Nat) (l : List Itm), v = .slice A l.length c ∧ l.length ≤ maxLen ∧ Its w A l := by
  obtain ⟨A, c, l, h1, h2, _, h3, h4⟩ := open_rows (s := 3) Try.underlying22 (by kernel_rfl) (by decide) hv h itc (fun _ => rfl) ItOk (fun n cs y hl hy => by
    obtain ⟨y0, y1, y2, m, _, _, t0, t1, t2⟩ := Go.Deep.trod_struct3 Try.underlying31 hy
    match cs, hl with
    | [c0, c1, c2], _ =>
      obtain ⟨z0, e0, _, w0⟩ := DataW.trod_int Try.underlying29 t0
      obtain ⟨z1, e1, _, w1⟩ := DataW.trod_int Try.underlying3 t1
      obtain ⟨z2, e2, _⟩ := DataW.trod_bool Try.underlying4 t2
      have b0 := WfBounds.u32 w0
      have b1 := WfBounds.i64 w1
      have f0 : c0 = .int .u32 z0 := by simpa [show Try.prog.cellsOf 29 = 1 by kernel_rfl] using e0
      have f1 : c1 = .int .i64 z1 := by simpa [show Try.prog.cellsOf 3 = 1 by kernel_rfl] using e1
      have f2 : c2 = .bool z2 := by simpa [show Try.prog.cellsOf 4 = 1 by kernel_rfl] using e2
      refine ⟨(z0.toNat, z1, z2), ?_, by simp only; omega, b1.1, b1.2⟩
      rw [f0, f1, f2, itc]
      simp only
      rw [show ((z0.toNat : Nat) : Int) = z0 by omega])
  exact ⟨A, c, l, h1, h2, h3, h4⟩
/-- The bits of one, of many. -/
def seg (x : Itm) : List Bool := if fitsB x.1 x.2.1 = true then (if x.2.2 = true then (gb x.1 x.2.1.toNat).reverse else gb x.1 x.2.1.toNat) else []
def segs (l : List Itm) : List Bool := l.flatMap seg
theorem segs_succ {l : List Itm} {i : Nat} {x : Itm} (h : l[i]? = some x) : segs (l.take (i + 1)) = segs (l.take i) ++ seg x := by
  rw [List.take_add_one, h]
  simp [segs]
theorem fits_yes {n : Nat} {c : Int} (h : fitsB n c = true) : ∃ k : Nat, c = (k : Int) ∧ k ≤ 32 ∧ n < 2 ^ k := by
  by_cases hx : c < 0 ∨ 32 < c
  · rw [fits_no hx] at h
    cases h
  · obtain ⟨k, rfl⟩ := Int.eq_ofNat_of_zero_le (show 0 ≤ c by omega)
    refine ⟨k, rfl, by omega, ?_⟩
    rw [fits_in (by omega), beq_iff_eq] at h
    exact (Nat.div_eq_zero_iff_lt (Nat.two_pow_pos k)).1 h
theorem quiet_left {P : Program} {f : FuncId} {args : Array Value} {w : World} {n : Nat} {v : Value}
    (h : Calls P f args (w.drewN n) fun e w' => e = .returned v ∧ w.drewN n = w') : Calls P f args (w.drewN n) fun e w'' => e = .returned v ∧ ∃ m, w'' = w.drewN m :=
  h.mono fun _ _ ⟨he, hm⟩ => ⟨he, n, hm.symm⟩
theorem segs_part {l : List Itm} {i j : Nat} {x : Itm} (hx : l[j]? = some x) (h : j < i) : ∃ rest, segs (l.take i) = segs (l.take j) ++ (seg x ++ rest) := by
  have e : l.take (j + 1) = (l.take i).take (j + 1) := by rw [List.take_take, Nat.min_eq_left (by omega)]
  refine ⟨segs ((l.take i).drop (j + 1)), ?_⟩
  rw [← List.append_assoc, ← segs_succ hx, e]
  unfold segs
  rw [← List.flatMap_append, List.take_append_drop]
/-- What is read of the packed bits, at a part of them. -/
theorem read_part {L a b r : List Bool} (h : L = a ++ (b ++ r)) : ((bitsOf (pack L)).drop a.length).take b.length = b := by
  rw [bits_pack, alignL, h, List.append_assoc, List.drop_left, List.append_assoc, List.take_left]
set_option maxHeartbeats 6400000 in
set_option maxRecDepth 100000 in
theorem bitioBack_walk (w : World) (A : Option Addr) (c : Nat) (l : List Itm) (m : l.length ≤ maxLen) (s : Its w A l) :
    Calls Try.prog 3 #[.slice A l.length c] w fun e w' => e = .returned (.bool true) ∧ Below w.heap.size w w' := by
  have HI0 := Lib.hid s
  unfold maxLen at m
  clear s
  go_enter Try.func3, Try.ntmps3
  go_wp2_with fail
  refine (alive_t _).mono ?_
  rintro e w1 ⟨rfl, hb1⟩
  have HB1 := Lib.hid hb1
  clear hb1
  go_wp2_with fail
  have hw1 := wri_new w1
  have hb2 : Below w.heap.size w (w1.alloc (.cells #[.slice none 0 0, .int .i64 0] 27)) := newB HB1.out _
  have hgw := HB1.out.size
  generalize w1.alloc (.cells #[.slice none 0 0, .int .i64 0] 27) = w2 at *
  generalize w1.heap.size = g at *
  have HW2 := Lib.hid hw1
  have HB2 := Lib.hid hb2
  clear hw1 hb2 HB1
  go_loopw [4, 5] (fun u v wr => ∃ (i : Nat) (A2 : Option Addr) (c2 : Nat), i ≤ l.length ∧ i ≤ 100 ∧ v = .int .i64 (i : Int) ∧ u = .int .i64 ((segs (l.take i)).length : Nat) ∧ (segs (l.take i)).length ≤ 32 * i ∧ Wri wr g A2 c2 (segs (l.take i)) ∧ Below w.heap.size w wr) (fun _ v _ => 100 - (intOf v).toNat)
  case atStart => exact ⟨0, none, 0, Nat.zero_le _, Nat.zero_le _, rfl, rfl, Nat.le_refl _, HW2.out, HB2.out⟩
  case round =>
    obtain ⟨i, A2, c2, hi, hi100, rfl, rfl, hlen, hwri, hbel⟩ := hrel
    obtain ⟨wo, rfl⟩ : ∃ wo : World, wo = wr := ⟨_, rfl⟩
    by_cases hlt : i < l.length ∧ i < 100
    · obtain ⟨hlt, hlt1⟩ := hlt
      have hd1 : decide (i < l.length) = true := by simp; omega
      have hd2 : decide (i < 100) = true := by simp; omega
      have i1 : (i : Int) < (l.length : Int) := by omega
      have i2 : (i : Int) < 100 := by omega
      obtain ⟨x, hx⟩ : ∃ x, l[i]? = some x := ⟨l[i], by simp [hlt]⟩
      obtain ⟨b, o, hA, hbl, x0, x1, x2⟩ := HI0.out.at_ hx
      subst hA
      have y0 := (hbel.cell (p := ⟨b, o + i * 3, none⟩) hbl).trans x0
      have y1 := (hbel.cell (p := ⟨b, o + i * 3 + 1, none⟩) hbl).trans x1
      have y2 := (hbel.cell (p := ⟨b, o + i * 3 + 2, none⟩) hbl).trans x2
      obtain ⟨ok1, ok2, ok3⟩ := HI0.out.1 x (List.mem_of_getElem? hx)
      have hsu := segs_succ hx
      obtain ⟨xn, xc, xb⟩ := x
      simp only at y0 y1 y2 ok1 ok2 ok3
      have hbw := Nat.lt_of_lt_of_le hbl hbel.size
      have HF := Lib.hid (fun W => rfits_t xn xc W ok1)
      have HWR := Lib.hid hwri
      have HBE := Lib.hid hbel
      have HLT : Hid (i < l.length ∧ i < 100) := Lib.hid ⟨hlt, hlt1⟩
      have HLEN := Lib.hid hlen
      clear hwri hbel hlt hlt1 hi hi100 hlen x0 x1 x2 hx
      by_cases hf : fitsB xn xc = true
      · obtain ⟨k, hk, hk32, hk2⟩ := fits_yes hf
        subst hk
        rw [hf] at HF
        have hk0 : (0 : Int) ≤ (k : Int) := by omega
        have hki : (k : Int) ≤ 32 := by omega
        generalize segs (l.take i) = L at *
        have hLi : (L.length : Int) ≤ 3200 := by have := HLEN.out; have := HLT.out; omega
        have hL32 : L.length + 32 ≤ 1000000000 := by omega
        cases xb with
        | true =>
          have hsg : segs (l.take (i + 1)) = L ++ (gb xn k).reverse := by
            rw [hsu, seg, if_pos hf]
            rfl
          have hsl : ((gb xn k).reverse).length = k := by simp [gb_length]
          have HSG := Lib.hid hsg
          have HSL := Lib.hid hsl
          have HCT := Lib.hid (fun W h => code_t g A2 c2 L xn k W h ok1 hk32 hf hL32)
          clear hsg hsl hf hsu
          go_wp2_with fail
          go_quiet ((go_at_call 9; exact quiet_left (HF.out _)))
          go_wp2_with fail
          obtain ⟨W, hW⟩ : ∃ W : World, W = { (wo.drewN nq) with drawn := (wo.drewN nq).drawn + 1 } := ⟨_, rfl⟩
          have k0 : W.cell? ⟨b, o + i * 3, none⟩ = some (.int .u32 (xn : Nat)) := by rw [hW]; exact y0
          have k1 : W.cell? ⟨b, o + i * 3 + 1, none⟩ = some (.int .i64 (k : Int)) := by rw [hW]; exact y1
          have hWB : Below wo.heap.size wo W := by rw [hW]; exact below_drewN (Below.refl _ _) (nq + 1)
          have HWB := Lib.hid hWB
          have HW := Lib.hid hW
          clear hW
          clear hWB
          refine wp_region_still_tail 11 (by kernel_rfl) (by kernel_rfl) ?_
          simp only [List.take_succ_cons, List.take_zero, List.drop_succ_cons, List.drop_zero]
          rw [← HW.out]
          repeat still_step
          refine wpStill_nil ?_
          go_wp2_with fail
          refine (HCT.out _ (HWR.out.below HWB.out)).mono ?_
          rintro e w5 ⟨rfl, A5, c5, h5, o5, _⟩
          have HW5 := Lib.hid h5
          have HB5 := Lib.hid ((nextB HBE.out HWB.out).trans (wk_below (HWR.out.below HWB.out) o5 hgw))
          clear h5 o5
          go_wp2_with fail
          go_roundw
          case rel => exact ⟨i + 1, A5, c5, by have := HLT.out; omega, by have := HLT.out; omega, by go_num, by rw [HSG.out, List.length_append, HSL.out]; go_num, by rw [HSG.out, List.length_append, HSL.out]; have := HLEN.out; omega, by rw [HSG.out]; exact HW5.out, HB5.out⟩
          case measure => have := HLT.out; simp [intOf]; omega
        | false =>
          have hsg : segs (l.take (i + 1)) = L ++ gb xn k := by
            rw [hsu, seg, if_pos hf]
            rfl
          have hsl : (gb xn k).length = k := by simp [gb_length]
          have HSG := Lib.hid hsg
          have HSL := Lib.hid hsl
          have HCT := Lib.hid (fun W h => group_t g A2 c2 L xn k W h ok1 hk32 hf hL32)
          clear hsg hsl hf hsu
          go_wp2_with fail
          go_quiet ((go_at_call 9; exact quiet_left (HF.out _)))
          go_wp2_with fail
          obtain ⟨W, hW⟩ : ∃ W : World, W = { (wo.drewN nq) with drawn := (wo.drewN nq).drawn + 1 } := ⟨_, rfl⟩
          have k0 : W.cell? ⟨b, o + i * 3, none⟩ = some (.int .u32 (xn : Nat)) := by rw [hW]; exact y0
          have k1 : W.cell? ⟨b, o + i * 3 + 1, none⟩ = some (.int .i64 (k : Int)) := by rw [hW]; exact y1
          have hWB : Below wo.heap.size wo W := by rw [hW]; exact below_drewN (Below.refl _ _) (nq + 1)
          have HWB := Lib.hid hWB
          have HW := Lib.hid hW
          clear hW
          clear hWB
          refine wp_region_still_tail 11 (by kernel_rfl) (by kernel_rfl) ?_
          simp only [List.take_succ_cons, List.take_zero, List.drop_succ_cons, List.drop_zero]
          rw [← HW.out]
          repeat still_step
          refine wpStill_nil ?_
          go_wp2_with fail
          refine (HCT.out _ (HWR.out.below HWB.out)).mono ?_
          rintro e w5 ⟨rfl, A5, c5, h5, o5, _⟩
          have HW5 := Lib.hid h5
          have HB5 := Lib.hid ((nextB HBE.out HWB.out).trans (wk_below (HWR.out.below HWB.out) o5 hgw))
          clear h5 o5
          go_wp2_with fail
          go_roundw
          case rel => exact ⟨i + 1, A5, c5, by have := HLT.out; omega, by have := HLT.out; omega, by go_num, by rw [HSG.out, List.length_append, HSL.out]; go_num, by rw [HSG.out, List.length_append, HSL.out]; have := HLEN.out; omega, by rw [HSG.out]; exact HW5.out, HB5.out⟩
          case measure => have := HLT.out; simp [intOf]; omega
      · have hff : fitsB xn xc = false := by simpa using hf
        rw [hff] at HF
        have hsu2 : segs (l.take (i + 1)) = segs (l.take i) := by
          rw [hsu, seg, if_neg hf, List.append_nil]
        have HSU := Lib.hid hsu2
        generalize segs (l.take i) = L at *
        clear hf hff hsu hsu2
        go_wp2_with fail
        go_quiet ((go_at_call 9; exact quiet_left (HF.out _)))
        go_wp2_with fail
        go_roundw
        case rel => exact ⟨i + 1, A2, c2, by have := HLT.out; omega, by have := HLT.out; omega, by go_num, by rw [HSU.out], by rw [HSU.out]; have := HLEN.out; omega, by rw [HSU.out]; exact HWR.out.drewN nq, below_drewN HBE.out nq⟩
        case measure => have := HLT.out; simp [intOf]; omega
    · have hex : (decide (i < l.length) = false ∧ ¬ (i : Int) < (l.length : Int)) ∨ (decide (i < l.length) = true ∧ (i : Int) < (l.length : Int) ∧ decide (i < 100) = false ∧ ¬ (i : Int) < 100) := by
        by_cases h1 : i < l.length
        · exact .inr ⟨by simp; omega, by omega, by simp; omega, by omega⟩
        · exact .inl ⟨by simp; omega, by omega⟩
      have HMI : Hid (i ≤ l.length ∧ i ≤ 100 ∧ (i = l.length ∨ i = 100)) := Lib.hid (by omega)
      obtain ⟨L, hL⟩ : ∃ L, L = segs (l.take i) := ⟨_, rfl⟩
      rw [← hL] at hwri hlen ⊢
      have HLS := Lib.hid hL
      have hL3 : L.length ≤ 3200 := by omega
      have hbp := fun (a b r : List Bool) (h : L = a ++ (b ++ r)) => read_part h
      have hpl := pack_length L
      have HBY := Lib.hid (fun W h => bytes_t g A2 c2 L W h (by omega))
      have HLN := Lib.hid (fun W h => len_t g A2 c2 L W h)
      generalize pack L = P at *
      have HBP := Lib.hid hbp
      have hP8 : 8 * P.length ≤ 3208 := by omega
      have e7 : ((L.length : Int) + 7) / 8 = (P.length : Int) := by omega
      have hL3i : (L.length : Int) ≤ 3200 := by omega
      have HPL : Hid (P.length = (L.length + 7) / 8) := Lib.hid hpl
      obtain ⟨lf, hlf⟩ : ∃ lf, L.length + lf = 8 * P.length := ⟨8 * P.length - L.length, by omega⟩
      have hlf8 : (lf : Int) < 8 := by omega
      have HLF := Lib.hid hlf
      have HWR := Lib.hid hwri
      have HBE := Lib.hid hbel
      clear hwri hbel hi hi100 hlen hlt hL hbp hpl hlf
      rcases hex with ⟨hd1, i1⟩ | ⟨hd1, i1, hd2, i2⟩
      all_goals
        go_wp2_with fail
        refine (HBY.out _ HWR.out).mono ?_
        rintro e w6 ⟨A6, c6, rfl, h6, b6⟩
        have H6 := Lib.hid (OwnB.reads h6)
        have HW6 := Lib.hid (HWR.out.below b6)
        have HB6 := Lib.hid (nextB HBE.out b6)
        clear h6 b6
        go_wp2_with fail
        refine (new_t A6 c6 P _ H6.out (by omega)).mono ?_
        rintro e w7 ⟨gr, A7, c7, rfl, hgr, h7, b7⟩
        have HR7 := Lib.hid h7
        have HW7 := Lib.hid (HW6.out.below b7)
        have HB7 := Lib.hid (nextB HB6.out b7)
        have hgw7 : w.heap.size ≤ gr := Nat.le_trans HB6.out.size hgr
        clear h7 b7 hgr
        go_wp2_with fail
        go_loopw [7] (fun u wr => ∃ j : Nat, j ≤ i ∧ u = .int .i64 (j : Int) ∧ Rdr wr w6.heap.size gr A7 c7 P (segs (l.take j)).length ∧ Wri wr g A2 c2 L ∧ Below w.heap.size w wr) (fun u _ => 100 - (intOf u).toNat)
        case atStart => exact ⟨0, Nat.zero_le _, rfl, HR7.out, HW7.out, HB7.out⟩
        case round =>
          obtain ⟨j, hj, rfl, hrd, hwri, hbel⟩ := hrel
          by_cases hji : j < i
          · have hmi := HMI.out
            have ha1 : decide (j < l.length) = true := by simp; omega
            have ha2 : decide (j < 100) = true := by simp; omega
            have j1 : (j : Int) < (l.length : Int) := by omega
            have j2 : (j : Int) < 100 := by omega
            obtain ⟨x, hx⟩ : ∃ x, l[j]? = some x := ⟨l[j], List.getElem?_eq_getElem (by omega)⟩
            obtain ⟨b, o, hA, hbl, x0, x1, x2⟩ := HI0.out.at_ hx
            subst hA
            have y0 := (hbel.cell (p := ⟨b, o + j * 3, none⟩) hbl).trans x0
            have y1 := (hbel.cell (p := ⟨b, o + j * 3 + 1, none⟩) hbl).trans x1
            have y2 := (hbel.cell (p := ⟨b, o + j * 3 + 2, none⟩) hbl).trans x2
            obtain ⟨ok1, ok2, ok3⟩ := HI0.out.1 x (List.mem_of_getElem? hx)
            have hsu := segs_succ hx
            obtain ⟨rest, hpart⟩ := segs_part hx hji
            rw [← HLS.out] at hpart
            have hread := HBP.out _ _ _ hpart
            have hlp : (segs (l.take j)).length + (seg x).length ≤ L.length := by rw [hpart]; simp
            obtain ⟨xn, xc, xb⟩ := x
            simp only at y0 y1 y2 ok1 ok2 ok3
            have HF := Lib.hid (fun W => rfits_t xn xc W ok1)
            have HRD := Lib.hid hrd
            have HWR2 := Lib.hid hwri
            have HBE2 := Lib.hid hbel
            have HJI := Lib.hid hji
            by_cases hf : fitsB xn xc = true
            · obtain ⟨k, hk, hk32, hk2⟩ := fits_yes hf
              subst hk
              rw [hf] at HF
              have hk0 : (0 : Int) ≤ (k : Int) := by omega
              have hki : (k : Int) ≤ 32 := by omega
              have hsk : (seg (xn, (k : Int), xb)).length = k := by
                rw [seg, if_pos hf]
                cases xb <;> simp [gb_length]
              rw [hsk] at hread hlp
              have hss : (segs (l.take (j + 1))).length = (segs (l.take j)).length + k := by rw [hsu, List.length_append, hsk]
              generalize (segs (l.take j)).length = p at *
              obtain ⟨m', hm'⟩ : ∃ m', p + m' = 8 * P.length := ⟨8 * P.length - p, by have := HPL.out; omega⟩
              have HGR := Lib.hid (fun W h => rgroup_t w6.heap.size gr A7 c7 P p m' k W h hm' (by omega) hk32 (by have := HPL.out; omega))
              rw [hread] at HGR
              have HSS := Lib.hid hss
              have htn := turnN_lt xn k
              have htn2 : turnN xn k < 4294967296 := Nat.lt_of_lt_of_le htn (Nat.le_trans (Nat.pow_le_pow_right (by decide) hk32) (by decide))
              have htt : turnN (turnN xn k) k = xn := by rw [turn_turn, Nat.mod_eq_of_lt hk2]
              have HTN := Lib.hid (fun W => turn_t (turnN xn k) (k : Int) W htn2 (by omega) (by omega))
              rw [turnI_in _ k hk32, htt] at HTN
              cases xb with
              | true =>
                have hns : num (seg (xn, (k : Int), true)) = turnN xn k := by
                  rw [seg, if_pos hf, if_pos rfl]
                  rfl
                rw [hns] at HGR
                generalize turnN xn k = tn at *
                clear hf hsu hpart hread hlp hsk hss hm' htn htt hns hx x0 x1 x2 hj hmi hrd hwri hbel hji
                go_wp2_with fail
                go_quiet ((go_at_call 9; exact quiet_left (HF.out _)))
                have hq : Below wr.heap.size wr (wr.drewN nq) := below_drewN (Below.refl _ _) nq
                have z0 := (hq.cell (p := ⟨b, o + j * 3, none⟩) (Nat.lt_of_lt_of_le hbl HBE2.out.size)).trans y0
                have z1 := (hq.cell (p := ⟨b, o + j * 3 + 1, none⟩) (Nat.lt_of_lt_of_le hbl HBE2.out.size)).trans y1
                have z2 := (hq.cell (p := ⟨b, o + j * 3 + 2, none⟩) (Nat.lt_of_lt_of_le hbl HBE2.out.size)).trans y2
                have HR3 := Lib.hid (HRD.out.drewN nq)
                have HW3 := Lib.hid (HWR2.out.drewN nq)
                have HB3 := Lib.hid (below_drewN HBE2.out nq)
                generalize wr.drewN nq = w8 at *
                clear y0 y1 y2 hq
                go_wp2_with fail
                refine (HGR.out _ HR3.out).mono ?_
                rintro e w9 ⟨rfl, h9, o9⟩
                have hb9 := rk_below o9 hgw7 HB3.out.size
                have y0 := (hb9.cell (p := ⟨b, o + j * 3, none⟩) hbl).trans z0
                have y1 := (hb9.cell (p := ⟨b, o + j * 3 + 1, none⟩) hbl).trans z1
                have y2 := (hb9.cell (p := ⟨b, o + j * 3 + 2, none⟩) hbl).trans z2
                have HR9 := Lib.hid h9
                have HW9 := Lib.hid (HW3.out.read HR3.out o9)
                have HB9 := Lib.hid (HB3.out.trans hb9)
                clear z0 z1 z2 h9 o9 hb9
                go_wp2_with fail
                refine (HTN.out _).mono ?_
                rintro e w10 ⟨rfl, rfl⟩
                go_wp2_with fail
                go_roundw
                case rel => exact ⟨j + 1, HJI.out, by go_num, by rw [HSS.out]; exact HR9.out, HW9.out, HB9.out⟩
                case measure => simp [intOf]; omega
              | false =>
                have hns : num (seg (xn, (k : Int), false)) = xn := by
                  rw [seg, if_pos hf, if_neg (by simp), num_gb]
                  exact Nat.mod_eq_of_lt hk2
                rw [hns] at HGR
                clear hf hsu hpart hread hlp hsk hss hm' htn htn2 htt hns hx x0 x1 x2 hj hmi hrd hwri hbel hji HTN
                go_wp2_with fail
                go_quiet ((go_at_call 9; exact quiet_left (HF.out _)))
                have hq : Below wr.heap.size wr (wr.drewN nq) := below_drewN (Below.refl _ _) nq
                have z0 := (hq.cell (p := ⟨b, o + j * 3, none⟩) (Nat.lt_of_lt_of_le hbl HBE2.out.size)).trans y0
                have z1 := (hq.cell (p := ⟨b, o + j * 3 + 1, none⟩) (Nat.lt_of_lt_of_le hbl HBE2.out.size)).trans y1
                have z2 := (hq.cell (p := ⟨b, o + j * 3 + 2, none⟩) (Nat.lt_of_lt_of_le hbl HBE2.out.size)).trans y2
                have HR3 := Lib.hid (HRD.out.drewN nq)
                have HW3 := Lib.hid (HWR2.out.drewN nq)
                have HB3 := Lib.hid (below_drewN HBE2.out nq)
                generalize wr.drewN nq = w8 at *
                clear y0 y1 y2 hq
                go_wp2_with fail
                refine (HGR.out _ HR3.out).mono ?_
                rintro e w9 ⟨rfl, h9, o9⟩
                have hb9 := rk_below o9 hgw7 HB3.out.size
                have y0 := (hb9.cell (p := ⟨b, o + j * 3, none⟩) hbl).trans z0
                have y1 := (hb9.cell (p := ⟨b, o + j * 3 + 1, none⟩) hbl).trans z1
                have y2 := (hb9.cell (p := ⟨b, o + j * 3 + 2, none⟩) hbl).trans z2
                have HR9 := Lib.hid h9
                have HW9 := Lib.hid (HW3.out.read HR3.out o9)
                have HB9 := Lib.hid (HB3.out.trans hb9)
                clear z0 z1 z2 h9 o9 hb9
                go_wp2_with fail
                go_roundw
                case rel => exact ⟨j + 1, HJI.out, by go_num, by rw [HSS.out]; exact HR9.out, HW9.out, HB9.out⟩
                case measure => simp [intOf]; omega
            · have hff : fitsB xn xc = false := by simpa using hf
              rw [hff] at HF
              have hsu2 : segs (l.take (j + 1)) = segs (l.take j) := by
                rw [hsu, seg, if_neg hf, List.append_nil]
              have HSU := Lib.hid hsu2
              clear hf hff hsu hsu2 hpart hread hlp hx x0 x1 x2 hj hmi hrd hwri hbel hji
              go_wp2_with fail
              go_quiet ((go_at_call 9; exact quiet_left (HF.out _)))
              go_wp2_with fail
              go_roundw
              case rel => exact ⟨j + 1, HJI.out, by go_num, by rw [HSU.out]; exact HRD.out.drewN nq, HWR2.out.drewN nq, below_drewN HBE2.out nq⟩
              case measure => simp [intOf]; omega
          · obtain rfl : i = j := by omega
            rw [← HLS.out] at hrd
            have HRD := Lib.hid hrd
            have HWR2 := Lib.hid hwri
            have HBE2 := Lib.hid hbel
            have HLT8 := Lib.hid (fun W h => left_t w6.heap.size gr A7 c7 P L.length lf W h HLF.out (by omega))
            clear hrd hwri hbel hj hji
            go_wp2_with fail
            refine (HLN.out _ HWR2.out).mono ?_
            rintro e w10 ⟨rfl, rfl⟩
            go_wp2_with fail
            refine (HBY.out _ HWR2.out).mono ?_
            rintro e w11 ⟨A11, c11, rfl, h11, b11⟩
            have HRD3 := Lib.hid (HRD.out.below b11)
            have HB11 := Lib.hid (nextB HBE2.out b11)
            clear h11 b11
            go_wp2_with fail
            refine (HLT8.out _ HRD3.out).mono ?_
            rintro e w12 ⟨rfl, q, rfl⟩
            go_wp2_with fail
            go_ret
            exact ⟨rfl, below_drewN HB11.out q⟩
end Go.Proofs.Ytboakhhmbjomfaa
