/- Dense: Count, Len walked. -/
import Derived.Test.YtknimekfkkihpaaDenseC
namespace Go.Proofs.Ytknimekfkkihpaa
open Go.RowKit
open Ds

set_option maxHeartbeats 1600000 in
theorem count_t (g : Nat) (A : Option Addr) (c base : Nat) (f k : Int) (l : List Nat) (t : Nat) (w : World) (h : Sto w base g A c f l t) (hi : Inv f l t) :
    Calls Try.prog 26 #[.pointer (some ⟨g, 0, none⟩), .int .i64 k] w fun e w' => e = .returned (.int .u64 (cntS f l k : Nat)) ∧ ∃ n, w' = w.drewN n := by
  have c0 := h.c0
  have c1 := h.c1
  have HH := Lib.hid h
  obtain ⟨lo, hi, len, -, -⟩ := hi
  clear h
  by_cases hl : l.length = 0
  · have hz := len_eq_zero hl
    rw [cntS_out (by omega)]
    clear hl
    go_enter Try.func26, Try.ntmps26
    go_wp2_with fail
    go_quiet (fail)
    go_wp2_with fail
    go_ret
    exact ⟨rfl, _, rfl⟩
  have hz := len_ne_zero hl
  have s1 : IntKind.i64.wrap (f + (l.length : Int)) = f + l.length := IntWalk.i64_in _ ⟨by omega, by omega⟩
  have s2 : IntKind.i64.wrap (f + (l.length : Int) - 1) = f + l.length - 1 := IntWalk.i64_in _ ⟨by omega, by omega⟩
  by_cases h1 : k < f
  · have d1 : decide (k < f) = true := by simpa using h1
    rw [cntS_out (by omega)]
    clear hl
    go_enter Try.func26, Try.ntmps26
    go_wp2_with fail
    go_quiet (fail)
    go_wp2_with fail
    go_ret
    exact ⟨rfl, _, rfl⟩
  have d1 : decide (k < f) = false := by simpa using h1
  by_cases h2 : f + l.length - 1 < k
  · have d2 : decide (f + (l.length : Int) - 1 < k) = true := by simpa using h2
    rw [cntS_out (by omega)]
    clear hl
    go_enter Try.func26, Try.ntmps26
    go_wp2_with fail
    go_quiet (fail)
    go_wp2_with fail
    go_ret
    exact ⟨rfl, _, rfl⟩
  have d2 : decide (f + (l.length : Int) - 1 < k) = false := by simpa using h2
  obtain ⟨q, hq⟩ : ∃ q : Nat, (q : Int) = k - f := ⟨(k - f).toNat, by omega⟩
  have hql : q < l.length := by omega
  have hqm : (q : Int) < (l.length : Int) := by omega
  have hq0 : (0 : Int) ≤ (q : Int) := by omega
  have hsub : IntKind.i64.wrap (k - f) = (q : Int) := by rw [hq]; exact IntWalk.i64_in _ ⟨by omega, by omega⟩
  have hget := u64s_get hql
  have hv : cntS f l k = l.getD q 0 := by unfold cntS; rw [if_pos (by omega), show (k - f).toNat = q by omega]
  rw [hv]
  obtain ⟨b, o, rfl, hbb, hbl, hmc, hcells, hfree⟩ := HH.out.2.form (by omega)
  have dq : w.cell? ⟨b, o + q, none⟩ = some (.int .u64 (l.getD q 0 : Nat)) := hcells q _ hget
  have hcc : (l.length : Int) ≤ (c : Int) := by omega
  generalize l.getD q 0 = v at *
  clear hl hq hql hget hv hcells hfree hmc hbb
  go_enter Try.func26, Try.ntmps26
  go_wp2_with fail
  go_quiet (fail)
  go_wp2_with fail
  go_quiet (fail)
  go_wp2_with fail
  go_ret
  exact ⟨rfl, _, by rw [World.drewN_drewN]⟩
set_option maxHeartbeats 400000 in
theorem len_t (g : Nat) (A : Option Addr) (c base : Nat) (f : Int) (l : List Nat) (t : Nat) (w : World) (h : Sto w base g A c f l t) (hi : Inv f l t) :
    Calls Try.prog 29 #[.pointer (some ⟨g, 0, none⟩)] w fun e w' => e = .returned (.int .i64 ((prs f l).length : Nat)) ∧ Below w.heap.size w w' := by
  have HH := Lib.hid h
  have HI := Lib.hid hi
  clear h hi
  go_enter Try.func29, Try.ntmps29
  go_wp2_with fail
  refine (pairs_t g A c base f l t _ HH.out HI.out).mono ?_
  rintro e w1 ⟨A1, c1, rfl, hown, hb⟩
  go_wp2_with fail
  go_ret
  exact ⟨rfl, hb⟩
end Go.Proofs.Ytknimekfkkihpaa
