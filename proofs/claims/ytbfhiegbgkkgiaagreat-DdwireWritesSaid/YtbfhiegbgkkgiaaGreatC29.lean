/- The document's ranges: one, all of them, the key of a number; walked. -/
import Derived.Test.YtbfhiegbgkkgiaaGreatC28
import Derived.Test.YtbfhiegbgkkgiaaGreatC15
import Derived.Deep.DeepCutAuto
import Derived.Test.YtbfhiegbgkkgiaaGreatC25
import Derived.Test.YtbfhiegbgkkgiaaGreatC09
import Derived.Deep.RegionHeld3
namespace Go.Proofs.YtbfhiegbgkkgiaaGreat
open Go.RowKit
open Sc
theorem least_no (n : Nat) (w : World) : Calls Tryz.prog 103 #[.int .u64 (n : Int), .bool false] w fun e w' => e = .returned (.int .i64 9223372036854775807) ∧ w = w' := by
  go_enter Tryz.func103, Tryz.ntmps103
  go_wp2_with fail
  go_ret
  exact ⟨rfl, rfl⟩
theorem least_ok (n : Nat) (w : World) (hn : n < 18446744073709551616) : Calls Tryz.prog 103 #[.int .u64 (n : Int), .bool true] w fun e w' => e = .returned (.int .i64 ((min n 9223372036854775807 : Nat) : Int)) ∧ w = w' := by
  by_cases h : 9223372036854775807 < n
  · rw [show min n 9223372036854775807 = 9223372036854775807 by omega]
    have k1 : decide ((9223372036854775807 : Int) < (n : Int)) = true := by simp; omega
    clear h hn
    go_enter Tryz.func103, Tryz.ntmps103
    go_wp2_with fail
    go_ret
    exact ⟨rfl, rfl⟩
  · rw [show min n 9223372036854775807 = n by omega]
    have k1 : decide ((9223372036854775807 : Int) < (n : Int)) = false := by simp; omega
    have k2 : (n : Int) ≤ 9223372036854775807 := by omega
    have k3 : IntKind.i64.wrap (n : Int) = (n : Int) := IntWalk.i64_in _ ⟨by omega, by omega⟩
    have k4 : wrap64 (n : Int) = (n : Int) := by unfold wrap64; omega
    clear h hn
    go_enter Tryz.func103, Tryz.ntmps103
    go_wp2_with fail
    go_ret
    exact ⟨rfl, rfl⟩
set_option maxRecDepth 100000 in
set_option maxHeartbeats 1600000 in
theorem rfrom_t (a low : Nat) (w : World) (ha0 : 100 ≤ a) (ha : a ≤ 5000) (hl : low ≤ 9223372036854775807) :
    Calls Tryz.prog 79 #[.int .i64 (a : Int), .int .i64 (low : Int)] w fun e w' => e = .returned (spV (spanOf a low)) ∧ Below w.heap.size w w' := by
  have hprod : low * a ≤ 9223372036854775807 * 5000 := Nat.mul_le_mul hl ha
  have HM1 := Lib.hid (fun W => muldiv10_t low a 10000 (by omega) (by omega) (by decide) (by decide) W)
  rw [if_pos (by omega)] at HM1
  have HO1 := Lib.hid (fun W => least_ok (low + low * a / 10000) W (by omega))
  have hmid : min (low + low * a / 10000) 9223372036854775807 = midOf a low := rfl
  rw [hmid] at HO1
  obtain ⟨m1, m2⟩ := mid_le (a := a) hl
  have hs : spanOf a low = (low, midOf a low, highOf a (midOf a low)) := rfl
  rw [hs]
  obtain ⟨far, hfar⟩ : ∃ f, f = low * a / 10000 := ⟨_, rfl⟩
  have hfl : (far : Int) ≤ 4611686018427387904 := by omega
  rw [← hfar] at HM1 HO1
  obtain ⟨X, hX⟩ : ∃ X, X = low + far := ⟨_, rfl⟩
  have e1 : IntKind.u64.wrap ((low : Int) + (far : Int)) = (X : Int) := by rw [IntWalk.u64_in _ ⟨by omega, by omega⟩]; omega
  have e1b : (low : Int) + (far : Int) = (X : Int) := by omega
  rw [← hX] at HO1
  generalize midOf a low = mid at *
  obtain ⟨d, hd⟩ : ∃ d, d = 10000 - a := ⟨_, rfl⟩
  have e2 : 10000 - (a : Int) = (d : Int) := by omega
  have hdl : (d : Int) ≤ 9900 := by omega
  have HM2 := Lib.hid (fun W => muldiv10_t mid 10000 d (by omega) (by omega) (by omega) (by omega) W)
  have hhigh : highOf a mid = min (mid * 10000 / d) 9223372036854775807 := by unfold highOf; rw [hd]
  have hal : (a : Int) ≤ 5000 := by omega
  have hlow : (low : Int) ≤ 9223372036854775807 := by omega
  have hmidl : (mid : Int) ≤ 9223372036854775807 := by omega
  have e3 : IntKind.u64.wrap (low : Int) = (low : Int) := by rw [IntKind.wrap_u64]; omega
  have e4 : IntKind.u64.wrap (a : Int) = (a : Int) := by rw [IntKind.wrap_u64]; omega
  have e5 : IntKind.u64.wrap (mid : Int) = (mid : Int) := by rw [IntKind.wrap_u64]; omega
  have e6 : IntKind.u64.wrap (d : Int) = (d : Int) := by rw [IntKind.wrap_u64]; omega
  generalize low * a % 10000 = R1 at *
  have hcase : ∃ (Q R : Nat) (ok : Bool) (hi : Nat), highOf a mid = hi ∧ (∀ W : World, Calls Tryz.prog 102 #[.int .u64 (mid : Int), .int .u64 10000, .int .u64 (d : Int)] W fun e w' => e = .returned (.tuple #[.int .u64 (Q : Int), .int .u64 (R : Int), .bool ok]) ∧ Below W.heap.size W w') ∧ (∀ W : World, Calls Tryz.prog 103 #[.int .u64 (Q : Int), .bool ok] W fun e w' => e = .returned (.int .i64 (hi : Int)) ∧ W = w') := by
    by_cases hq : mid * 10000 / d < 18446744073709551616
    · refine ⟨mid * 10000 / d, mid * 10000 % d, true, _, hhigh, fun W => ?_, fun W => least_ok _ W hq⟩
      have := HM2.out W
      rwa [if_pos hq] at this
    · refine ⟨0, 0, false, 9223372036854775807, by rw [hhigh]; omega, fun W => ?_, fun W => least_no 0 W⟩
      have := HM2.out W
      rwa [if_neg hq] at this
  obtain ⟨Q, R, ok, hi, h1, h2, h3⟩ := hcase
  rw [h1]
  have HM3 := Lib.hid h2
  have HO3 := Lib.hid h3
  clear hprod hmid m1 m2 hs hfar hX hd hhigh ha0 ha hl HM2 h1 h2 h3
  go_enter Tryz.func79, Tryz.ntmps79
  go_wp2_with fail
  refine (HM1.out _).mono ?_
  rintro e w1 ⟨rfl, hb1⟩
  have HB1 := Lib.hid (nextB ((Below.refl _ _).alloc (Nat.le_refl _) _) hb1)
  have HK1 := Lib.hid ((Blk.new w _ _).below hb1 (by simp))
  clear hb1
  go_wp2_with fail
  refine (HO1.out _).mono ?_
  rintro e w2 ⟨rfl, rfl⟩
  go_wp2_with fail
  refine (HM3.out _).mono ?_
  rintro e w3 ⟨rfl, hb3⟩
  have HB3 := Lib.hid (nextB HB1.out hb3)
  have hk3 := HK1.out.below hb3 HK1.out.lt
  have d0 : w3.cell? ⟨w.heap.size, 0, none⟩ = some (.int .i64 0) := by rw [hk3.cell]; rfl
  have d1 : w3.cell? ⟨w.heap.size, 1, none⟩ = some (.int .i64 0) := by rw [hk3.cell]; rfl
  have d2 : w3.cell? ⟨w.heap.size, 2, none⟩ = some (.int .i64 0) := by rw [hk3.cell]; rfl
  have f0 := hk3.free 0
  have f1 := hk3.free 1
  have f2 := hk3.free 2
  have HK3 := Lib.hid hk3
  clear hb3 hk3
  go_wp2_with fail
  refine (HO3.out _).mono ?_
  rintro e w4 ⟨rfl, rfl⟩
  go_wp2_with fail
  have hbk : Blk (((w3.setCell ⟨w.heap.size, 0, none⟩ (.int .i64 (low : Int))).setCell ⟨w.heap.size, 1, none⟩ (.int .i64 (mid : Int))).setCell ⟨w.heap.size, 2, none⟩ (.int .i64 (hi : Int))) w.heap.size 89 #[.int .i64 (low : Int), .int .i64 (mid : Int), .int .i64 (hi : Int)] := by
    have h := ((HK3.out.put 0 (.int .i64 (low : Int))).put 1 (.int .i64 (mid : Int))).put 2 (.int .i64 (hi : Int))
    simpa using h
  refine bodyPost_ret (v := .agg #[.int .i64 (low : Int), .int .i64 (mid : Int), .int .i64 (hi : Int)]) (results_cell_row Tryz.results79 _ _ w.heap.size 89 _ (0, 0) _ rfl hbk Tryz.underlying89 (by rfl) (by kernel_rfl)) rfl ?_
  exact ⟨rfl, ((HB3.out.setCell (Nat.le_refl _) _).setCell (Nat.le_refl _) _).setCell (Nat.le_refl _) _⟩
theorem elem_rspan : Elem Tryz.prog 46 89 3 24 := elem_of Tryz.underlying46 (z := .agg #[.int .i64 0, .int .i64 0, .int .i64 0]) (by kernel_rfl) (by decide) (by decide)
/-- The document's ranges in memory. -/
def OwnR (w : World) (base : Nat) (A : Option Addr) (c : Nat) (L : List Span) : Prop := Own w base 89 3 A L.length c (scs L)
theorem rspan_new (w : World) (s : Span) : Reads (w.alloc (.cells #[.int .i64 (s.1 : Int), .int .i64 (s.2.1 : Int), .int .i64 (s.2.2 : Int)] 89)) (w.alloc (.cells #[.int .i64 (s.1 : Int), .int .i64 (s.2.1 : Int), .int .i64 (s.2.2 : Int)] 89)).heap.size 3 (some ⟨w.heap.size, 0, none⟩) 1 (scs [s]) :=
  Reads.lit (newest _ _) rfl rfl
set_option maxRecDepth 100000 in
set_option maxHeartbeats 1600000 in
theorem rall_t (a : Nat) (w : World) (ha0 : 100 ≤ a) (ha : a ≤ 5000) : Calls Tryz.prog 56 #[.int .i64 (a : Int)] w fun e w' => ∃ A c, e = .returned (.slice A (spans a).length c) ∧ OwnR w' w.heap.size A c (spans a) ∧ Below w.heap.size w w' := by
  have HAA := Lib.hid (And.intro ha0 ha)
  clear ha0 ha
  go_enter Tryz.func56, Tryz.ntmps56
  go_wp2_with fail
  go_loopw [3, 4] (fun u v wr => ∃ (T : List Span) (low f : Nat) (A : Option Addr) (c : Nat), v = .int .i64 (low : Int) ∧ u = .slice A T.length c ∧ At a T low f ∧ OwnR wr w.heap.size A c T ∧ Below w.heap.size w wr) (fun _ v _ => 9223372036854775807 - (intOf v).toNat)
  case atStart => exact ⟨[], 1, 4410, none, 0, rfl, rfl, At.start a, Own.nil _ _ _ _, Below.refl _ _⟩
  case round =>
    obtain ⟨T, low, f, A, c, rfl, rfl, hat, hown, hbel⟩ := hrel
    obtain ⟨wo, rfl⟩ : ∃ wo : World, wo = wr := ⟨_, rfl⟩
    have htl := hat.len
    have hpos := hat.pos
    have hTl : (T.length : Int) < 5000 := by omega
    obtain ⟨st1, st2⟩ := hat.step HAA.out.1 HAA.out.2
    have hlow1 := hat.low1
    have hlow2 := hat.low2
    obtain ⟨md1, md2⟩ := mid_le (a := a) hlow2
    obtain ⟨hg1, hg2⟩ := high_le HAA.out.2 md2
    have HFR := Lib.hid (rfrom_t a low wo HAA.out.1 HAA.out.2 hlow2)
    have hsp : spanOf a low = (low, midOf a low, highOf a (midOf a low)) := rfl
    rw [hsp] at HFR st1 st2
    generalize midOf a low = mid at *
    generalize highOf a mid = hi at *
    unfold spV at HFR
    dsimp only at HFR st1 st2
    have hhl : (hi : Int) ≤ 9223372036854775807 := by omega
    have HLH := Lib.hid (show low ≤ hi by omega)
    have HST1 := Lib.hid st1
    have HST2 := Lib.hid st2
    have HOWN := Lib.hid hown
    have HBEL := Lib.hid hbel
    have HTL := Lib.hid htl
    clear hat st1 st2 hlow1 hlow2 md1 md2 hg1 hg2 hsp hown hbel htl hpos
    go_wp2_with fail
    refine HFR.out.mono ?_
    rintro e w1 ⟨rfl, hb1⟩
    have hW2 : Below wo.heap.size wo (w1.alloc (.cells #[.int .i64 (low : Int), .int .i64 (mid : Int), .int .i64 (hi : Int)] 89)) := newB hb1 _
    have HO2 := Lib.hid (Own.below HOWN.out hW2)
    have HBW := Lib.hid (nextB HBEL.out hW2)
    have HBX2 := Lib.hid (Blk.new w1 89 #[.int .i64 (low : Int), .int .i64 (mid : Int), .int .i64 (hi : Int)])
    have HXA : Hid (blockOf A ≠ some w1.heap.size) := Lib.hid (fun e => by
      have := (Own.block (show Own wo w.heap.size 89 3 A T.length c (scs T) from HOWN.out) e).2
      have := hb1.size
      omega)
    clear hb1 hW2
    go_upto_region 5 with (fail)
    obtain ⟨gx, hgx⟩ : ∃ gx, gx = w1.heap.size := ⟨_, rfl⟩
    rw [← hgx] at HBX2 HXA ⊢
    generalize w1.alloc (.cells #[.int .i64 (low : Int), .int .i64 (mid : Int), .int .i64 (hi : Int)] 89) = W2 at *
    have x0 : W2.cell? ⟨gx, 0, none⟩ = some (.int .i64 (low : Int)) := by rw [HBX2.out.cell]; rfl
    have x1 : W2.cell? ⟨gx, 1, none⟩ = some (.int .i64 (mid : Int)) := by rw [HBX2.out.cell]; rfl
    have x2 : W2.cell? ⟨gx, 2, none⟩ = some (.int .i64 (hi : Int)) := by rw [HBX2.out.cell]; rfl
    clear hgx
    go_wp2_with (at_builtin; refine Hid.out ?_)
    have hO3 := Own.alloc (show Own W2 w.heap.size 89 3 A T.length c (scs T) from HO2.out) (.cells #[.int .i64 (low : Int), .int .i64 (mid : Int), .int .i64 (hi : Int)] 89)
    have hB3 := newB HBW.out (.cells #[.int .i64 (low : Int), .int .i64 (mid : Int), .int .i64 (hi : Int)] 89)
    refine wpList_app (xs := scs T) rfl rfl elem_rspan rfl hO3 rfl (rspan_new W2 (low, mid, hi)) (scs_one _) (T.length + 1) rfl (scs (T ++ [(low, mid, hi)])) (scs_append _ _).symm (by unfold maxLen; omega) (by omega) hB3.size ?_
    intro A4 c4 w4 o4 g4 q4
    have HBX4 := Lib.hid ((HBX2.out.alloc (.cells #[.int .i64 (low : Int), .int .i64 (mid : Int), .int .i64 (hi : Int)] 89)).grown g4 (fun e => HXA.out e.symm))
    have y2 : w4.cell? ⟨gx, 2, none⟩ = some (.int .i64 (hi : Int)) := by rw [HBX4.out.cell]; rfl
    have HO4 : Hid (OwnR w4 w.heap.size A4 c4 (T ++ [(low, mid, hi)])) := Lib.hid (by unfold OwnR; rw [List.length_append]; exact o4)
    have HB4 := Lib.hid (appB hB3 hO3 g4 (Nat.le_refl _) hB3.size)
    clear hO3 hB3 o4 g4 q4 x0 x1 x2
    by_cases hend : hi = 9223372036854775807
    · have k1 : ((hi : Int) == 9223372036854775807) = true := by simp; omega
      have HSP := Lib.hid (HST1.out hend)
      clear hend
      go_wp2_with fail
      go_ret
      rw [HSP.out]
      exact ⟨A4, c4, by rw [List.length_append]; rfl, HO4.out, HB4.out⟩
    · have k1 : ((hi : Int) == 9223372036854775807) = false := by simp; omega
      have k2 : (hi : Int) < 9223372036854775807 := by omega
      have HAT := Lib.hid (HST2.out hend)
      clear hend
      go_wp2_with fail
      go_roundw
      case rel => exact ⟨T ++ [(low, mid, hi)], hi + 1, f - 1, A4, c4, by go_num, by rw [List.length_append]; rfl, HAT.out, HO4.out, HB4.out⟩
      case measure => have := HLH.out; have := HAT.out.low2; simp [intOf]; omega
/-- The key of any number but the least one. -/
def keyZ (a : Nat) (v : Int) : Int := if v = 0 then 0 else if v < 0 then -((1 + ix (spans a) (-v).toNat : Nat) : Int) else ((1 + ix (spans a) v.toNat : Nat) : Int)
theorem OwnR.at_ {w : World} {base c : Nat} {A : Option Addr} {T : List Span} (h : OwnR w base A c T) {i : Nat} {s : Span} (hs : T[i]? = some s) : ∃ b, A = some ⟨b, 0, none⟩ ∧ w.cell? ⟨b, i * 3 + 2, none⟩ = some (.int .i64 (s.2.2 : Int)) := by
  have hi : 0 < T.length := by have := (List.getElem?_eq_some_iff.1 hs).1; omega
  obtain ⟨b, hA, hb, hl, _, hcl, _⟩ := Own.form (show Own w base 89 3 A T.length c (scs T) from h) hi
  obtain ⟨k1, k2, k3⟩ := scs_at hs
  exact ⟨b, hA, hcl _ _ k3⟩
theorem ret_i64 {a b : Int} (h : a = b) : Ending.returned (.int .i64 a) = .returned (.int .i64 b) := by rw [h]
set_option maxRecDepth 100000 in
set_option maxHeartbeats 1600000 in
theorem rkey12_t (base c : Nat) (A : Option Addr) (T : List Span) (v : Int) (w : World) (h : OwnR w base A c T) (hT : T.length ≤ 100000) (hs : Sorted T) (hv0 : -9223372036854775807 ≤ v) (hv1 : v ≤ 9223372036854775807) :
    Calls Tryz.prog 58 #[.slice A T.length c, .int .i64 v] w fun e w' => e = .returned (.int .i64 (if v = 0 then 0 else if v < 0 then -((1 + ix T (-v).toNat : Nat) : Int) else ((1 + ix T v.toNat : Nat) : Int))) ∧ w = w' := by
  have HH := Lib.hid h
  have HSR := Lib.hid hs
  have hTl : (T.length : Int) ≤ 100000 := by omega
  rcases Int.lt_trichotomy v 0 with h0 | h0 | h0
  · rw [if_neg (by omega), if_pos h0]
    obtain ⟨m, hm⟩ : ∃ m : Nat, m = (-v).toNat := ⟨_, rfl⟩
    rw [← hm]
    have e1 : (v == 0) = false := by simp; omega
    have e2 : decide (v < 0) = true := by simp; omega
    have e3 : IntKind.i64.wrap (-v) = (m : Int) := by rw [IntWalk.i64_in _ ⟨by omega, by omega⟩]; omega
    have e3b : -v = (m : Int) := by omega
    have w64 : wrap64 (m : Int) = (m : Int) := by unfold wrap64; omega
    obtain ⟨q, hq⟩ : ∃ q, q = ix T m := ⟨_, rfl⟩
    have hql := ix_le T m
    rw [← hq] at hql ⊢
    have HQ := Lib.hid hq
    have hql2 : (q : Int) ≤ 100000 := by omega
    have HQL := Lib.hid hql
    clear h hs hT h0 hm hv0 hv1 hq hql
    go_enter Tryz.func58, Tryz.ntmps58
    go_wp2_with fail
    go_loop [6] (fun u => ∃ k : Nat, u = .int .i64 (k : Int) ∧ k ≤ q) (fun u => q - (intOf u).toNat)
    case atStart => exact ⟨0, rfl, Nat.zero_le _⟩
    case round =>
      obtain ⟨k, rfl, hk⟩ := hrel
      have hql := HQL.out
      have hkb : (k : Int) ≤ 100000 := by omega
      by_cases hkl : k < T.length
      · obtain ⟨s, hs⟩ : ∃ s, T[k]? = some s := ⟨_, List.getElem?_eq_getElem hkl⟩
        obtain ⟨b, rfl, hc⟩ := HH.out.at_ hs
        have hix := ix_iff (v := m) HSR.out hs
        rw [← HQ.out] at hix
        obtain ⟨lo, md, hh⟩ := s
        dsimp only at hc hix
        have hkl2 : (k : Int) < (T.length : Int) := by omega
        have hkl3 : decide (k < T.length) = true := by simp; omega
        by_cases hlt : k < q
        · have g1 : decide ((hh : Int) < (m : Int)) = true := by have := hix.2 hlt; simp; omega
          have g1b : decide (hh < m) = true := by have := hix.2 hlt; simp; omega
          have HK := Lib.hid hlt
          clear hix hs hk hlt hql hkl
          go_wp2_with fail
          go_round
          case rel => exact ⟨k + 1, by go_num, HK.out⟩
          case measure => have := HK.out; simp [intOf]; omega
        · have g1 : decide ((hh : Int) < (m : Int)) = false := by
            have : ¬ hh < m := fun e => hlt (hix.1 e)
            simp; omega
          have g1b : decide (hh < m) = false := by
            have : ¬ hh < m := fun e => hlt (hix.1 e)
            simp; omega
          have HKQ := Lib.hid (show k = q by omega)
          clear hix hs hk hlt hql hkl
          go_wp2_with fail
          go_ret
          rw [HKQ.out]
          exact ⟨ret_i64 (by omega), rfl⟩
      · have g0 : decide ((k : Int) < (T.length : Int)) = false := by simp; omega
        have g0b : decide (k < T.length) = false := by simp; omega
        have HKQ := Lib.hid (show k = q by omega)
        clear hk hql hkl
        go_wp2_with fail
        go_ret
        rw [HKQ.out]
        exact ⟨ret_i64 (by omega), rfl⟩
  · subst h0
    rw [if_pos rfl]
    clear h hs hT hv0 hv1
    go_enter Tryz.func58, Tryz.ntmps58
    go_wp2_with fail
    go_ret
    exact ⟨rfl, rfl⟩
  · rw [if_neg (by omega), if_neg (by omega)]
    obtain ⟨m, rfl⟩ : ∃ m : Nat, v = (m : Int) := ⟨v.toNat, by omega⟩
    rw [Int.toNat_natCast]
    have e1 : ((m : Int) == 0) = false := by simp; omega
    have e1b : (m == 0) = false := by simp; omega
    have e2 : decide ((m : Int) < 0) = false := by simp
    obtain ⟨q, hq⟩ : ∃ q, q = ix T m := ⟨_, rfl⟩
    have hql := ix_le T m
    rw [← hq] at hql ⊢
    have HQ := Lib.hid hq
    have hql2 : (q : Int) ≤ 100000 := by omega
    have HQL := Lib.hid hql
    clear h hs hT h0 hv0 hv1 hq hql
    go_enter Tryz.func58, Tryz.ntmps58
    go_wp2_with fail
    go_loop [6] (fun u => ∃ k : Nat, u = .int .i64 (k : Int) ∧ k ≤ q) (fun u => q - (intOf u).toNat)
    case atStart => exact ⟨0, rfl, Nat.zero_le _⟩
    case round =>
      obtain ⟨k, rfl, hk⟩ := hrel
      have hql := HQL.out
      have hkb : (k : Int) ≤ 100000 := by omega
      by_cases hkl : k < T.length
      · obtain ⟨s, hs⟩ : ∃ s, T[k]? = some s := ⟨_, List.getElem?_eq_getElem hkl⟩
        obtain ⟨b, rfl, hc⟩ := HH.out.at_ hs
        have hix := ix_iff (v := m) HSR.out hs
        rw [← HQ.out] at hix
        obtain ⟨lo, md, hh⟩ := s
        dsimp only at hc hix
        have hkl2 : (k : Int) < (T.length : Int) := by omega
        have hkl3 : decide (k < T.length) = true := by simp; omega
        by_cases hlt : k < q
        · have g1 : decide ((hh : Int) < (m : Int)) = true := by have := hix.2 hlt; simp; omega
          have g1b : decide (hh < m) = true := by have := hix.2 hlt; simp; omega
          have HK := Lib.hid hlt
          clear hix hs hk hlt hql hkl
          go_wp2_with fail
          go_round
          case rel => exact ⟨k + 1, by go_num, HK.out⟩
          case measure => have := HK.out; simp [intOf]; omega
        · have g1 : decide ((hh : Int) < (m : Int)) = false := by
            have : ¬ hh < m := fun e => hlt (hix.1 e)
            simp; omega
          have g1b : decide (hh < m) = false := by
            have : ¬ hh < m := fun e => hlt (hix.1 e)
            simp; omega
          have HKQ := Lib.hid (show k = q by omega)
          clear hix hs hk hlt hql hkl
          go_wp2_with fail
          go_ret
          rw [HKQ.out]
          exact ⟨ret_i64 (by omega), rfl⟩
      · have g0 : decide ((k : Int) < (T.length : Int)) = false := by simp; omega
        have g0b : decide (k < T.length) = false := by simp; omega
        have HKQ := Lib.hid (show k = q by omega)
        clear hk hql hkl
        go_wp2_with fail
        go_ret
        rw [HKQ.out]
        exact ⟨ret_i64 (by omega), rfl⟩
end Go.Proofs.YtbfhiegbgkkgiaaGreat
/- Sketches: any number is added; the document's sketches; walked. -/

namespace Go.Proofs.YtbfhiegbgkkgiaaGreat
open Go.RowKit
open Pl
open Sc
theorem skey_zero (g : Nat) (w : World) :
    Calls Tryz.prog 53 #[.pointer (some ⟨g, 0, none⟩), .int .i64 0] w fun e w' => e = .returned (.tuple #[.int .i64 0, .int .i64 0]) ∧ Below w.heap.size w w' := by
  go_enter Tryz.func53, Tryz.ntmps53
  go_wp2_with fail
  go_ret2
  exact ⟨rfl, ((Below.refl _ _).alloc (Nat.le_refl _) _).alloc (by simp) _⟩
theorem skey_min (g : Nat) (w : World) :
    Calls Tryz.prog 53 #[.pointer (some ⟨g, 0, none⟩), .int .i64 (-9223372036854775808)] w fun e w' => e = .returned (.tuple #[.int .i64 0, .int .i64 5]) ∧ Below w.heap.size w w' := by
  go_enter Tryz.func53, Tryz.ntmps53
  go_wp2_with fail
  go_ret2
  exact ⟨rfl, ((Below.refl _ _).alloc (Nat.le_refl _) _).alloc (by simp) _⟩
theorem skey_neg (g c a : Nat) (A : Option Addr) (T : List Span) (v : Nat) (w : World) (h : Scl w g A c a T) (hT : T.length ≤ 100000) (hs : Sorted T) (hv0 : 1 ≤ v) (hv1 : v ≤ 9223372036854775807) (u : Int) (hu : u = -(v : Int)) :
    Calls Tryz.prog 53 #[.pointer (some ⟨g, 0, none⟩), .int .i64 u] w fun e w' => e = .returned (.tuple #[.int .i64 (-((1 + ix T v : Nat) : Int)), .int .i64 0]) ∧ Below w.heap.size w w' := by
  have HK := Lib.hid (fun W (h : Scl W g A c a T) => skey_t g c a A T v W h hT hs hv0 hv1)
  have HH := Lib.hid h
  have hle := ix_le T v
  obtain ⟨q, hq⟩ : ∃ q, q = 1 + ix T v := ⟨_, rfl⟩
  rw [← hq] at HK ⊢
  have hqb : (q : Int) ≤ 100001 := by omega
  have x1 : (u == -9223372036854775808) = false := by simp; omega
  have x2 : (u == 0) = false := by simp; omega
  have x3 : decide (u < 0) = true := by simp; omega
  have x4 : -u = (v : Int) := by omega
  have x5 : wrap64 (v : Int) = (v : Int) := by unfold wrap64; omega
  clear h hT hs hle hq hv0 hv1 hu
  go_enter Tryz.func53, Tryz.ntmps53
  go_wp2_with fail
  have hb2 : Below w.heap.size w ((w.alloc (.cells #[.pointer (some ⟨g, 0, none⟩)] 78)).alloc (.cells #[.int .i64 u] 2)) := ((Below.refl _ _).alloc (Nat.le_refl _) _).alloc (by simp) _
  refine (HK.out _ (HH.out.below hb2)).mono ?_
  rintro e w2 ⟨rfl, b2⟩
  have HB := Lib.hid (hb2.trans (b2.mono hb2.size))
  clear hb2 b2
  go_wp2_with fail
  go_ret2
  exact ⟨rfl, HB.out⟩
/-- A scale's key of any number but the least one. -/
theorem skey_z (g c a : Nat) (A : Option Addr) (v : Int) (w : World) (h : Scl w g A c a (spans a)) (ha0 : 100 ≤ a) (ha : a ≤ 5000) (hv0 : -9223372036854775807 ≤ v) (hv1 : v ≤ 9223372036854775807) :
    Calls Tryz.prog 53 #[.pointer (some ⟨g, 0, none⟩), .int .i64 v] w fun e w' => e = .returned (.tuple #[.int .i64 (keyZ a v), .int .i64 0]) ∧ Below w.heap.size w w' := by
  have hl := spans_len' a
  unfold keyZ
  rcases Int.lt_trichotomy v 0 with h0 | h0 | h0
  · rw [if_neg (by omega), if_pos h0]
    exact skey_neg g c a A (spans a) (-v).toNat w h (by omega) (spans_sorted ha0 ha) (by omega) (by omega) v (by omega)
  · subst h0
    rw [if_pos rfl]
    exact skey_zero g w
  · rw [if_neg (by omega), if_neg (by omega)]
    have := skey_t g c a A (spans a) v.toNat w h (by omega) (spans_sorted ha0 ha) (by omega) (by omega)
    rwa [Int.toNat_of_nonneg (by omega)] at this
theorem keyZ_fits (a : Nat) (v : Int) : -4411 ≤ keyZ a v ∧ keyZ a v ≤ 4411 := by
  have hl := spans_len' a
  have h1 := ix_le (spans a) v.toNat
  have h2 := ix_le (spans a) (-v).toNat
  unfold keyZ
  split
  · omega
  · split <;> omega
section
variable {p q cs a g gl c : Nat} {As A : Option Addr} {m : Int} {all : List Pr} {w : World} (h : Skt w p q As cs a g gl A c m all)
include h
theorem daddz_t (v : Int) (n : Nat) (ha0 : 100 ≤ a) (ha : a ≤ 5000) (hf : Fine all) (hl : all.length < 100000) (hm0 : 2 ≤ m) (hm1 : m ≤ 4097) (hv0 : -9223372036854775807 ≤ v) (hv1 : v ≤ 9223372036854775807) (hn : 1 ≤ n) :
    Calls Tryz.prog 22 #[.pointer (some ⟨p, 0, none⟩), .int .i64 v, .int .u64 (n : Int)] w fun e w' => e = .returned (.int .i64 (radd all (keyZ a v) n 0).2) ∧ ∃ A' c', Skt w' p q As cs a g gl A' c' m (radd all (keyZ a v) n 0).1 ∧ Stored g gl A m (radd all (keyZ a v) n 0).1 w w' A' c' := by
  have c0 := h.c0
  have c1 := h.c1
  have HK := Lib.hid (skey_z q cs a As v w h.scl ha0 ha hv0 hv1)
  have HAD := Lib.hid (fun W (h : Sto W g gl A c m all) => sadd_t g gl A c m all (keyZ a v) n W h hf hl hm0 hm1)
  have HH := Lib.hid h
  have hp := h.blk.lt
  have x1 : ((n : Int) == 0) = false := by simp; omega
  have x2 : (n == 0) = false := by simp; omega
  clear h hf hl hm0 hm1 hv0 hv1 hn ha0 ha
  generalize radd all (keyZ a v) n 0 = R at *
  generalize keyZ a v = K at *
  obtain ⟨R1, R2⟩ := R
  dsimp only at *
  go_enter Tryz.func22, Tryz.ntmps22
  go_wp2_with fail
  refine HK.out.mono ?_
  rintro e w1 ⟨rfl, b1⟩
  have H1 := Lib.hid (HH.out.below b1)
  have B1 := Lib.hid b1
  have d1 := H1.out.c1
  clear b1 c0 c1
  go_wp2_with fail
  refine (HAD.out w1 H1.out.sto).mono ?_
  rintro e w2 ⟨rfl, A', c', k⟩
  have HK2 := Lib.hid k
  clear k
  go_wp2_with fail
  go_ret
  have hst : Stored g gl A m R1 w w2 A' c' := ⟨HK2.out.sto, (Only.of_below B1.out).trans (HK2.out.only.step (Only.refl _ _) (fun i hi => .inl hi)), fun x hx => (HK2.out.new x hx).imp id (fun h => Nat.le_trans B1.out.size h)⟩
  exact ⟨rfl, A', c', HH.out.stored hst, hst⟩
theorem daddmin_t (n : Nat) (hn : 1 ≤ n) :
    Calls Tryz.prog 22 #[.pointer (some ⟨p, 0, none⟩), .int .i64 (-9223372036854775808), .int .u64 (n : Int)] w fun e w' => e = .returned (.int .i64 5) ∧ Below w.heap.size w w' := by
  have c0 := h.c0
  have c1 := h.c1
  have HK := Lib.hid (skey_min q w)
  have x1 : ((n : Int) == 0) = false := by simp; omega
  have x2 : (n == 0) = false := by simp; omega
  clear h hn
  go_enter Tryz.func22, Tryz.ntmps22
  go_wp2_with fail
  refine HK.out.mono ?_
  rintro e w1 ⟨rfl, b1⟩
  have B1 := Lib.hid b1
  clear b1 c0 c1
  go_wp2_with fail
  go_ret
  exact ⟨rfl, B1.out⟩
end
theorem add13_new (A : Option Addr) (c B : Nat) (L : List Pr) (k : Int) (n : Nat) (w : World) (h : OwnP w B A c L) (h0 : n ≠ 0) (k0 : -1048576 ≤ k) (k1 : k ≤ 1048576) (hm : L.length ≤ 16777216) (ht : tot L + n ≤ 4611686018427387904) :
    Calls Tryz.prog 57 #[.slice A L.length c, .int .i64 k, .int .u64 (n : Int), .int .i64 0] w fun e w' => ∃ A' c', e = .returned (.tuple #[.slice A' (put L k n).length c', .int .i64 0]) ∧ OwnP w' w.heap.size A' c' (put L k n) ∧ Below w.heap.size w w' := by
  have b0 : ((n : Int) == 0) = false := by simp; omega
  have HT := fun B W' h => total13_t A c B L W' h (by unfold maxLen; omega) (by omega)
  replace HT := Lib.hid HT
  have HH := Lib.hid h
  have HPU := fun W' h => put13_t A c L k n W' h hm (by omega)
  replace HPU := Lib.hid HPU
  have d4 : decide (4611686018427387904 - ((tot L : Nat) : Int) < (n : Int)) = false := by simp; omega
  have htt : ((tot L : Nat) : Int) ≤ 4611686018427387904 := by omega
  clear h h0 hm ht
  go_enter Tryz.func57, Tryz.ntmps57
  go_wp2_with fail
  refine (HT.out _ _ HH.out.reads).mono ?_
  rintro e w1 ⟨rfl, rfl⟩
  go_wp2_with fail
  refine (HPU.out _ HH.out.reads).mono ?_
  rintro e w2 ⟨A2, c2, rfl, ho, hb⟩
  have HO := Lib.hid ho
  have HB := Lib.hid hb
  clear ho hb
  go_wp2_with fail
  go_ret2
  exact ⟨A2, c2, rfl, HO.out, HB.out⟩
/-- Block r is one of the document's sketches. -/
structure RSk (w : World) (base r : Nat) (Ar : Option Addr) (cr a m : Nat) (Al : Option Addr) (cl : Nat) (all : List Pr) : Prop where
  blk : Blk w r 48 #[.slice Ar (spans a).length cr, .int .i64 (a : Int), .int .i64 (m : Int), .slice Al all.length cl]
  rng : OwnR w base Ar cr (spans a)
  all : OwnP w base Al cl all
theorem RSk.below {w w' : World} {base r cr a m cl : Nat} {Ar Al : Option Addr} {all : List Pr} (h : RSk w base r Ar cr a m Al cl all) (hb : Below w.heap.size w w') : RSk w' base r Ar cr a m Al cl all := ⟨h.blk.below hb h.blk.lt, Own.below h.rng hb, Own.below h.all hb⟩
theorem rnew20_t (a m : Nat) (w : World) (ha0 : 100 ≤ a) (ha : a ≤ 5000) (hm0 : 2 ≤ m) (hm1 : m ≤ 4096) :
    Calls Tryz.prog 24 #[.int .i64 (a : Int), .int .i64 (m : Int)] w fun e w' => ∃ r Ar cr, e = .returned (.pointer (some ⟨r, 0, none⟩)) ∧ w.heap.size ≤ r ∧ RSk w' w.heap.size r Ar cr a m none 0 [] ∧ Below w.heap.size w w' := by
  have HA := Lib.hid (rall_t a w ha0 ha)
  have e1 : decide ((a : Int) < 100) = false := by simp; omega
  have e2 : decide ((5000 : Int) < (a : Int)) = false := by simp; omega
  have e3 : decide ((m : Int) < 2) = false := by simp; omega
  have e4 : decide ((4096 : Int) < (m : Int)) = false := by simp; omega
  clear ha0 ha hm0 hm1
  generalize hT : (spans a).length = n at *
  have HT := Lib.hid hT
  clear hT
  go_enter Tryz.func24, Tryz.ntmps24
  go_wp2_with fail
  refine HA.out.mono ?_
  rintro e w1 ⟨Ar, cr, rfl, h1, b1⟩
  have H1 := Lib.hid h1
  have B1 := Lib.hid b1
  clear h1 b1
  go_wp2_with fail
  go_ret
  have bb : Below w1.heap.size w1 (w1.alloc (.cells #[.slice Ar n cr, .int .i64 (a : Int), .int .i64 (m : Int), .slice none 0 0] 48)) := (Below.refl _ _).alloc (Nat.le_refl _) _
  exact ⟨w1.heap.size, Ar, cr, rfl, B1.out.size, ⟨by rw [HT.out]; exact Blk.new _ _ _, Own.below H1.out bb, Own.nil _ _ _ _⟩, nextB B1.out bb⟩
end Go.Proofs.YtbfhiegbgkkgiaaGreat
/- The document's sketches: Add, walked. -/

namespace Go.Proofs.YtbfhiegbgkkgiaaGreat
open Go.RowKit
open Pl
open Sc
theorem RSk.drew {w : World} {base r cr a m cl : Nat} {Ar Al : Option Addr} {all : List Pr} (h : RSk w base r Ar cr a m Al cl all) : RSk w.drew base r Ar cr a m Al cl all := ⟨h.blk, h.rng, h.all⟩
set_option maxRecDepth 100000 in
set_option maxHeartbeats 1600000 in
theorem radd20_t (base r cr a m cl : Nat) (Ar Al : Option Addr) (all : List Pr) (v : Int) (n : Nat) (w : World) (h : RSk w base r Ar cr a m Al cl all) (ha0 : 100 ≤ a) (ha : a ≤ 5000) (hv0 : -9223372036854775807 ≤ v) (hv1 : v ≤ 9223372036854775807) (hn : n ≠ 0) (hl : all.length ≤ 16777216) (ht : tot all + n ≤ 4611686018427387904) (hb : base ≤ w.heap.size) :
    Calls Tryz.prog 26 #[.pointer (some ⟨r, 0, none⟩), .int .i64 v, .int .u64 (n : Int)] w fun e w' => e = .returned (.int .i64 0) ∧ ∃ A' c', RSk w' base r Ar cr a m A' c' (put all (keyZ a v) n) ∧ Only (fun i => i = r) w w' ∧ (∀ x, blockOf A' = some x → w.heap.size ≤ x) := by
  have hl44 := spans_len' a
  have hk := keyZ_fits a v
  have HK := Lib.hid (fun W (h : OwnR W base Ar cr (spans a)) => rkey12_t base cr Ar (spans a) v W h (by omega) (spans_sorted ha0 ha) hv0 hv1)
  have hke : (if v = 0 then 0 else if v < 0 then -((1 + ix (spans a) (-v).toNat : Nat) : Int) else ((1 + ix (spans a) v.toNat : Nat) : Int)) = keyZ a v := rfl
  rw [hke] at HK
  have HA := Lib.hid (fun W (h : OwnP W base Al cl all) => add13_new Al cl base all (keyZ a v) n W h hn (by omega) (by omega) hl ht)
  have HD := Lib.hid h.drew
  have HH := Lib.hid h
  have e1 : ((n : Int) == 0) = false := by simp; omega
  have e1b : (n == 0) = false := by simp; omega
  have e2 : decide (v < -9223372036854775807) = false := by simp; omega
  obtain ⟨n0, hn0⟩ : ∃ n0, n0 = (spans a).length := ⟨_, rfl⟩
  have c3 : w.cell? ⟨r, 3, none⟩ = some (.slice Al all.length cl) := by rw [h.blk.cell]; rfl
  have c0 : w.cell? ⟨r, 0, none⟩ = some (.slice Ar n0 cr) := by rw [h.blk.cell, hn0]; rfl
  have HT := Lib.hid hn0.symm
  rw [← hn0] at HK
  have HBA := Lib.hid hb
  clear h ha0 ha hv0 hv1 hn hl ht hb hke hk hn0 hl44
  generalize keyZ a v = K at *
  generalize put all K n = L2 at *
  go_enter Tryz.func26, Tryz.ntmps26
  go_wp2_with fail
  refine wp_region_noPanic ?_
  refine wp_region_held_drew (S := (fun W => W.cell? ⟨r, 3, none⟩ = some (.slice Al all.length cl) ∧ W.cell? ⟨r, 0, none⟩ = some (.slice Ar n0 cr))) (by kernel_rfl) ⟨c3, c0⟩ (fun hHeld => ?_)
  refine wpAnyH_take (i := 0) (oi := ?_) (v := ?_) ?_ ?_ ?_ ?_ ?_ ?_ ?_ ?_
  rotate_left 2
  · simp only [List.getElem?_toArray, List.getElem?_cons_zero]; rfl
  · kernel_rfl
  · kernel_rfl
  · kernel_rfl
  · exact fun _ _ _ h => h
  · exact Or.inl ⟨by kernel_rfl, by intro w hSw; (try dsimp only at hSw); go_simp; try with_reducible rfl⟩
  · assumption
  try go_simp
  refine wpAnyH_take (i := 1) (oi := ?_) (v := ?_) ?_ ?_ ?_ ?_ ?_ ?_ ?_ ?_
  rotate_left 2
  · simp only [List.getElem?_toArray, List.getElem?_cons_succ, List.getElem?_cons_zero]; rfl
  · kernel_rfl
  · kernel_rfl
  · kernel_rfl
  · exact fun _ _ _ h => h
  · exact Or.inl ⟨by kernel_rfl, by intro w hSw; (try dsimp only at hSw); go_simp; try with_reducible rfl⟩
  · assumption
  try go_simp
  refine wpAnyH_take (i := 2) (oi := ?_) (v := ?_) ?_ ?_ ?_ ?_ ?_ ?_ ?_ ?_
  rotate_left 2
  · simp only [List.getElem?_toArray, List.getElem?_cons_succ, List.getElem?_cons_zero]; rfl
  · kernel_rfl
  · kernel_rfl
  · kernel_rfl
  · exact fun _ _ _ h => h
  · exact Or.inl ⟨by kernel_rfl, by intro w hSw; (try dsimp only at hSw); go_simp; try with_reducible rfl⟩
  · assumption
  try go_simp
  refine wpAnyH_take (i := 3) (oi := ?_) (v := ?_) ?_ ?_ ?_ ?_ ?_ ?_ ?_ ?_
  rotate_left 2
  · simp only [List.getElem?_toArray, List.getElem?_cons_succ, List.getElem?_cons_zero]; rfl
  · kernel_rfl
  · kernel_rfl
  · kernel_rfl
  · exact fun _ _ _ h => h
  · exact Or.inl ⟨by kernel_rfl, by intro w hSw; (try dsimp only at hSw); go_simp; try with_reducible rfl⟩
  · assumption
  try go_simp
  refine wpAnyH_take (i := 4) (oi := ?_) (v := ?_) ?_ ?_ ?_ ?_ ?_ ?_ ?_ ?_
  rotate_left 2
  · simp only [List.getElem?_toArray, List.getElem?_cons_succ, List.getElem?_cons_zero]; rfl
  · kernel_rfl
  · kernel_rfl
  · kernel_rfl
  · exact fun _ _ _ h => h
  · exact Or.inl ⟨by kernel_rfl, by intro w hSw; (try dsimp only at hSw); go_simp; try with_reducible rfl⟩
  · assumption
  try go_simp
  refine wpAnyH_take (i := 5) (oi := ?_) (v := ?_) ?_ ?_ ?_ ?_ ?_ ?_ ?_ ?_
  rotate_left 2
  · simp only [List.getElem?_toArray, List.getElem?_cons_succ, List.getElem?_cons_zero]; rfl
  · kernel_rfl
  · kernel_rfl
  · kernel_rfl
  · exact fun _ _ _ h => h
  · exact Or.inl ⟨by kernel_rfl, by intro w hSw; (try dsimp only at hSw); go_simp; try with_reducible rfl⟩
  · assumption
  try go_simp
  refine wpAnyH_take (i := 6) (oi := ?_) (v := ?_) ?_ ?_ ?_ ?_ ?_ ?_ ?_ ?_
  rotate_left 2
  · simp only [List.getElem?_toArray, List.getElem?_cons_succ, List.getElem?_cons_zero]; rfl
  · kernel_rfl
  · kernel_rfl
  · kernel_rfl
  · exact fun _ _ _ h => h
  · exact Or.inl ⟨by kernel_rfl, by intro w hSw; (try dsimp only at hSw); go_simp; try with_reducible rfl⟩
  · assumption
  try go_simp
  refine wpAnyH_take (i := 7) (oi := ?_) (v := ?_) ?_ ?_ ?_ ?_ ?_ ?_ ?_ ?_
  rotate_left 2
  · simp only [List.getElem?_toArray, List.getElem?_cons_succ, List.getElem?_cons_zero]; rfl
  · kernel_rfl
  · kernel_rfl
  · kernel_rfl
  · exact fun _ _ _ h => h
  · exact Or.inl ⟨by kernel_rfl, by intro w hSw; (try dsimp only at hSw); go_simp; try with_reducible rfl⟩
  · assumption
  try go_simp
  refine wpAnyH_take (i := 8) (oi := ?_) (v := ?_) ?_ ?_ ?_ ?_ ?_ ?_ ?_ ?_
  rotate_left 2
  · simp only [List.getElem?_toArray, List.getElem?_cons_succ, List.getElem?_cons_zero]; rfl
  · kernel_rfl
  · kernel_rfl
  · kernel_rfl
  · exact fun _ _ _ h => h
  · exact Or.inl ⟨by kernel_rfl, by intro w hSw; (try dsimp only at hSw); go_simp; try with_reducible rfl⟩
  · assumption
  try go_simp
  refine wpAnyH_take (i := 10) (oi := ?_) (v := ?_) ?_ ?_ ?_ ?_ ?_ ?_ ?_ ?_
  rotate_left 2
  · simp only [List.getElem?_toArray, List.getElem?_cons_succ, List.getElem?_cons_zero]; rfl
  · kernel_rfl
  · kernel_rfl
  · kernel_rfl
  · exact fun _ _ _ h => h
  · exact Or.inl ⟨by kernel_rfl, by intro w hSw; (try dsimp only at hSw); go_simp; try with_reducible rfl⟩
  · assumption
  try go_simp
  refine wpAnyH_ready (rs := [9]) (by kernel_rfl) (by simp) ?_
  refine AllReadyH.cons (o := ?_) ?_ ?_ AllReadyH.nil
  rotate_left 1
  · simp only [List.getElem?_toArray, List.getElem?_cons_succ, List.getElem?_cons_zero]; rfl
  intro K hK
  go_simp
  refine (HK.out w.drew HD.out.rng).mono ?_
  rintro e w1 ⟨rfl, rfl⟩
  refine hK.out _ _ ?_ (fun hHeld => ?_)
  · exact ⟨c3, c0⟩
  clear hK K
  try go_simp
  refine wpAnyH_ready (rs := [11]) (by kernel_rfl) (by simp) ?_
  refine AllReadyH.cons (o := ?_) ?_ ?_ AllReadyH.nil
  rotate_left 1
  · simp only [List.getElem?_toArray, List.getElem?_cons_succ, List.getElem?_cons_zero]; rfl
  intro K hK
  go_simp
  refine (HA.out w.drew HD.out.all).mono ?_
  rintro e w2 ⟨A2, c2, rfl, o2, b2⟩
  have HR2 := Lib.hid (RSk.below HD.out b2)
  have HO2 := Lib.hid o2
  have HB2 := Lib.hid b2
  have d3 : w2.cell? ⟨r, 3, none⟩ = some (.slice Al all.length cl) := by rw [HR2.out.blk.cell]; rfl
  have d0 : w2.cell? ⟨r, 0, none⟩ = some (.slice Ar n0 cr) := by rw [HR2.out.blk.cell, ← HT.out]; rfl
  have f3 := HR2.out.blk.free 3
  clear o2 b2
  refine hK.out _ _ ?_ (fun hHeld => ?_)
  · exact ⟨d3, d0⟩
  clear hK K
  try go_simp
  refine wpAnyH_take (i := 12) (oi := ?_) (v := ?_) ?_ ?_ ?_ ?_ ?_ ?_ ?_ ?_
  rotate_left 2
  · simp only [List.getElem?_toArray, List.getElem?_cons_succ, List.getElem?_cons_zero]; rfl
  · kernel_rfl
  · kernel_rfl
  · kernel_rfl
  · exact fun _ _ _ h => h
  · exact Or.inl ⟨by kernel_rfl, by intro w hSw; (try dsimp only at hSw); go_simp; try with_reducible rfl⟩
  · assumption
  try go_simp
  refine wpAnyH_take (i := 13) (oi := ?_) (v := ?_) ?_ ?_ ?_ ?_ ?_ ?_ ?_ ?_
  rotate_left 2
  · simp only [List.getElem?_toArray, List.getElem?_cons_succ, List.getElem?_cons_zero]; rfl
  · kernel_rfl
  · kernel_rfl
  · kernel_rfl
  · exact fun _ _ _ h => h
  · exact Or.inl ⟨by kernel_rfl, by intro w hSw; (try dsimp only at hSw); go_simp; try with_reducible rfl⟩
  · assumption
  try go_simp
  refine wpAnyH_take (i := 14) (oi := ?_) (v := ?_) ?_ ?_ ?_ ?_ ?_ ?_ ?_ ?_
  rotate_left 2
  · simp only [List.getElem?_toArray, List.getElem?_cons_succ, List.getElem?_cons_zero]; rfl
  · kernel_rfl
  · kernel_rfl
  · kernel_rfl
  · exact fun _ _ _ h => h
  · exact Or.inl ⟨by kernel_rfl, by intro w hSw; (try dsimp only at hSw); go_simp; try with_reducible rfl⟩
  · assumption
  try go_simp
  refine wpAnyH_take (i := 15) (oi := ?_) (v := ?_) ?_ ?_ ?_ ?_ ?_ ?_ ?_ ?_
  rotate_left 2
  · simp only [List.getElem?_toArray, List.getElem?_cons_succ, List.getElem?_cons_zero]; rfl
  · kernel_rfl
  · kernel_rfl
  · kernel_rfl
  · exact fun _ _ _ h => h
  · exact Or.inl ⟨by kernel_rfl, by intro w hSw; (try dsimp only at hSw); go_simp; try with_reducible rfl⟩
  · assumption
  try go_simp
  refine wpAnyH_take (i := 16) (oi := ?_) (v := ?_) ?_ ?_ ?_ ?_ ?_ ?_ ?_ ?_
  rotate_left 2
  · simp only [List.getElem?_toArray, List.getElem?_cons_succ, List.getElem?_cons_zero]; rfl
  · kernel_rfl
  · kernel_rfl
  · kernel_rfl
  · exact fun _ _ _ h => h
  · exact Or.inl ⟨by kernel_rfl, by intro w hSw; (try dsimp only at hSw); go_simp; try with_reducible rfl⟩
  · assumption
  try go_simp
  refine wpAnyH_done (by kernel_rfl) ?_ _
  refine NoPanic.normal ?_
  go_wp2_with fail
  go_ret
  refine ⟨rfl, A2, c2, ⟨?_, ?_, ?_⟩, ?_, fun x hx => (Own.block HO2.out hx).1⟩
  · have := HR2.out.blk.put 3 (.slice A2 L2.length c2)
    simpa using this
  · exact Own.setOther HR2.out.rng (p := ⟨r, 3, none⟩) (Own.ne_blk HR2.out.rng HR2.out.blk (by decide)) _
  · refine Own.setOther (Own.mono HO2.out HBA.out) (p := ⟨r, 3, none⟩) (fun e => ?_) _
    have h1 := (Own.block HO2.out e).1
    have h2 := HH.out.blk.lt
    have h3 : w.drew.heap.size = w.heap.size := rfl
    dsimp only at h1
    omega
  · exact Only.set (K := fun i => i = r) (p := ⟨r, 3, none⟩) ((Only.of_below ((Below.refl w.heap.size w).drew.trans HB2.out))) (.inl rfl) _
end Go.Proofs.YtbfhiegbgkkgiaaGreat
