/- Dense: Add walked. -/
import Derived.Test.YtknimekfkkihpaaDenseA
namespace Go.Proofs.Ytknimekfkkihpaa
open Go.RowKit
open Ds

/-- What a method that writes a store leaves. -/
def StoPost (base g : Nat) (A : Option Addr) (f : Int) (l : List Nat) (t : Nat) (w w' : World) : Prop :=
  ∃ A' c', Sto w' base g A' c' f l t ∧ (blockOf A' = blockOf A ∨ ∃ b, blockOf A' = some b ∧ w.heap.size ≤ b) ∧ Only (fun i => i = g ∨ blockOf A = some i) w w'
theorem u64s_get {l : List Nat} {i : Nat} (h : i < l.length) : (u64s l)[i]? = some (.int .u64 (l.getD i 0 : Nat)) := by
  simp [u64s, h]
theorem u64s_incr {l : List Nat} {i n : Nat} : (u64s l).set i (.int .u64 ((l.getD i 0 + n : Nat) : Int)) = u64s (incr l i n) := by
  rw [incr_set, u64s, u64s, List.map_set]
theorem getD_le_sum {l : List Nat} {i : Nat} : l.getD i 0 ≤ l.sum := by
  induction l generalizing i with
  | nil => simp
  | cons a l ih =>
    cases i with
    | zero => simp
    | succ i => have := ih (i := i); simp at this ⊢; omega
set_option maxHeartbeats 1600000 in
theorem add_yes (g : Nat) (A : Option Addr) (c base : Nat) (f k : Int) (l : List Nat) (t n : Nat) (w : World) (h : Sto w base g A c f l t) (hi : Inv f l t) (hbase : base ≤ w.heap.size) (k0 : -9223372036854775808 ≤ k) (k1 : k ≤ 9223372036854775807) (hn : n ≤ 18446744073709551615) (hc : chk f l t k n = 0) :
    Calls Try.prog 8 #[.pointer (some ⟨g, 0, none⟩), .int .i64 k, .int .u64 (n : Int)] w fun e w' => e = .returned (.int .i64 0) ∧ StoPost base g A (reachF f l k) (addL f l k n) (t + n) w w' := by
  have HC := check_t g A c base f k l t n
  rw [hc] at HC
  obtain ⟨hn0, hk0, hk1, hw, hcap⟩ := chk_zero hc
  have HR := fun W h hb => reach_t g A c base f k l t W h hi hb (by omega) (by omega) hw
  have hin := reach_in f l k
  have hlen := reachL_len f l k
  have hsum := reach_sum f l k
  have hwide : ((reachL f l k).length : Int) ≤ 8192 := by unfold wide at hw; rw [hlen]; omega
  have hlo : -1048576 ≤ reachF f l k ∧ reachF f l k ≤ 1048576 := by
    obtain ⟨lo, hi2, len, -, -⟩ := hi
    unfold reachF
    by_cases h0 : l.length = 0
    · rw [if_pos h0]; omega
    · rw [if_neg h0]
      by_cases h1 : k < f
      · rw [if_pos h1]; omega
      · rw [if_neg h1]; omega
  unfold addL
  rw [hi.sum] at hsum
  have hbm := hi.cap
  generalize reachF f l k = f1 at *
  generalize reachL f l k = l1 at *
  obtain ⟨q, hq⟩ : ∃ q : Nat, (q : Int) = k - f1 := ⟨(k - f1).toNat, by omega⟩
  have hq2 : (k - f1).toNat = q := by omega
  rw [hq2]
  have hql : q < l1.length := by omega
  have hqm : (q : Int) < (l1.length : Int) := by omega
  have hq0 : (0 : Int) ≤ (q : Int) := by omega
  have hsub : IntKind.i64.wrap (k - f1) = (q : Int) := by rw [hq]; exact IntWalk.i64_in _ ⟨by omega, by omega⟩
  have hget := u64s_get hql
  have hle : l1.getD q 0 ≤ t := by rw [← hsum]; exact getD_le_sum
  have hinc := u64s_incr (l := l1) (i := q) (n := n)
  have hilen := incr_len (l := l1) (i := q) (n := n)
  obtain ⟨v, hv⟩ : ∃ v, v = l1.getD q 0 := ⟨_, rfl⟩
  rw [← hv] at hget hle hinc
  obtain ⟨L2, hL2⟩ : ∃ L2, L2 = incr l1 q n := ⟨_, rfl⟩
  rw [← hL2] at hinc hilen ⊢
  obtain ⟨m, hm⟩ : ∃ m, m = l1.length := ⟨_, rfl⟩
  have hvn : (v : Int) + (n : Int) ≤ 4611686018427387904 := by omega
  have htn : (t : Int) + (n : Int) ≤ 4611686018427387904 := by omega
  have HI := Lib.hid hi
  have HQL := Lib.hid hql
  have HG := Lib.hid hget
  have HN := Lib.hid hinc
  have HL := Lib.hid hilen
  have HMM := Lib.hid hm
  have HH := Lib.hid h
  replace HC := Lib.hid HC
  replace HR := Lib.hid HR
  rw [← hm] at hqm
  clear hv hL2 hq hq2 hql hsum hlen hin hw hc hi hget hinc hilen hm h hwide hle hcap
  go_enter Try.func8, Try.ntmps8
  go_wp2_with fail
  refine (HC.out _ HH.out HI.out k0 k1 hn).mono ?_
  rintro e w0 ⟨rfl, n0, rfl⟩
  go_wp2_with fail
  refine (HR.out _ (show Sto (w.drewN n0) base g A c f l t from HH.out) hbase).mono ?_
  rintro e w1 ⟨A1, c1, rfl, hsto, hloc, honly⟩
  obtain ⟨b, o, rfl, hbb, hbl, hmc, hcells, hfree⟩ := hsto.2.form (by have := HMM.out; omega)
  rw [← HMM.out] at hmc
  have hcc : (m : Int) ≤ (c1 : Int) := by omega
  have d0 : w1.cell? ⟨g, 0, none⟩ = some (.int .i64 f1) := hsto.c0
  have d1 : w1.cell? ⟨g, 1, none⟩ = some (.slice (some ⟨b, o, none⟩) m c1) := by rw [HMM.out]; exact hsto.c1
  have d2 : w1.cell? ⟨g, 2, none⟩ = some (.int .u64 (t : Int)) := hsto.c2
  have dq : w1.cell? ⟨b, o + q, none⟩ = some (.int .u64 (v : Nat)) := hcells q _ HG.out
  have fq : w1.frozen? ⟨b, o + q, none⟩ = false := hfree (o + q)
  have f2 : w1.frozen? ⟨g, 2, none⟩ = false := hsto.1.free 2
  have hne : b ≠ g := by
    intro e
    exact hsto.2.ne_blk hsto.1 (by decide) (by rw [e]; rfl)
  have hne2 : g ≠ b := fun e => hne e.symm
  have HS := Lib.hid hsto
  have HO := Lib.hid honly
  have HLO := Lib.hid hloc
  clear hsto honly hloc hcells hfree hmc hbb
  go_wp2_with fail
  refine wp_region_noPanic ?_
  refine wp_region_T (S := fun w' => w'.cell? ⟨g, 0, none⟩ = some (.int .i64 f1) ∧ w'.cell? ⟨g, 1, none⟩ = some (.slice (some ⟨b, o, none⟩) m c1) ∧ w'.cell? ⟨b, o + q, none⟩ = some (.int .u64 (v : Nat))) (L := 15) (by kernel_rfl) ⟨d0, d1, dq⟩ (fun hHeld => ?_)
  refine wpAnyT_take (i := 0) (oi := ?_) (v := ?_) ?_ ?_ ?_ ?_ ?_ ?_ ?_ ?_ ?_
  rotate_left 2
  · simp only [List.getElem?_toArray, List.getElem?_cons_zero]; rfl
  · kernel_rfl
  · kernel_rfl
  · kernel_rfl
  · kernel_rfl
  · exact fun _ _ _ h => h
  · exact Or.inl ⟨by kernel_rfl, by intro w hSw; (try dsimp only at hSw); go_simp; try with_reducible rfl⟩
  · assumption
  try go_simp
  refine wpAnyT_take (i := 1) (oi := ?_) (v := ?_) ?_ ?_ ?_ ?_ ?_ ?_ ?_ ?_ ?_
  rotate_left 2
  · simp only [List.getElem?_toArray, List.getElem?_cons_succ, List.getElem?_cons_zero]; rfl
  · kernel_rfl
  · kernel_rfl
  · kernel_rfl
  · kernel_rfl
  · exact fun _ _ _ h => h
  · exact Or.inl ⟨by kernel_rfl, by intro w hSw; (try dsimp only at hSw); go_simp; try with_reducible rfl⟩
  · assumption
  try go_simp
  refine wpAnyT_take (i := 2) (oi := ?_) (v := ?_) ?_ ?_ ?_ ?_ ?_ ?_ ?_ ?_ ?_
  rotate_left 2
  · simp only [List.getElem?_toArray, List.getElem?_cons_succ, List.getElem?_cons_zero]; rfl
  · kernel_rfl
  · kernel_rfl
  · kernel_rfl
  · kernel_rfl
  · exact fun _ _ _ h => h
  · exact Or.inl ⟨by kernel_rfl, by intro w hSw; (try dsimp only at hSw); go_simp; try with_reducible rfl⟩
  · assumption
  try go_simp
  refine wpAnyT_take (i := 3) (oi := ?_) (v := ?_) ?_ ?_ ?_ ?_ ?_ ?_ ?_ ?_ ?_
  rotate_left 2
  · simp only [List.getElem?_toArray, List.getElem?_cons_succ, List.getElem?_cons_zero]; rfl
  · kernel_rfl
  · kernel_rfl
  · kernel_rfl
  · kernel_rfl
  · exact fun _ _ _ h => h
  · exact Or.inl ⟨by kernel_rfl, by intro w hSw; (try dsimp only at hSw); go_simp; try with_reducible rfl⟩
  · assumption
  try go_simp
  refine wpAnyT_take (i := 4) (oi := ?_) (v := ?_) ?_ ?_ ?_ ?_ ?_ ?_ ?_ ?_ ?_
  rotate_left 2
  · simp only [List.getElem?_toArray, List.getElem?_cons_succ, List.getElem?_cons_zero]; rfl
  · kernel_rfl
  · kernel_rfl
  · kernel_rfl
  · kernel_rfl
  · exact fun _ _ _ h => h
  · exact Or.inl ⟨by kernel_rfl, by intro w hSw; (try dsimp only at hSw); go_simp; try with_reducible rfl⟩
  · assumption
  try go_simp
  refine wpAnyT_take (i := 5) (oi := ?_) (v := ?_) ?_ ?_ ?_ ?_ ?_ ?_ ?_ ?_ ?_
  rotate_left 2
  · simp only [List.getElem?_toArray, List.getElem?_cons_succ, List.getElem?_cons_zero]; rfl
  · kernel_rfl
  · kernel_rfl
  · kernel_rfl
  · kernel_rfl
  · exact fun _ _ _ h => h
  · exact Or.inl ⟨by kernel_rfl, by intro w hSw; (try dsimp only at hSw); go_simp; try with_reducible rfl⟩
  · assumption
  try go_simp
  refine wpAnyT_take (i := 6) (oi := ?_) (v := ?_) ?_ ?_ ?_ ?_ ?_ ?_ ?_ ?_ ?_
  rotate_left 2
  · simp only [List.getElem?_toArray, List.getElem?_cons_succ, List.getElem?_cons_zero]; rfl
  · kernel_rfl
  · kernel_rfl
  · kernel_rfl
  · kernel_rfl
  · exact fun _ _ _ h => h
  · exact Or.inl ⟨by kernel_rfl, by intro w hSw; (try dsimp only at hSw); go_simp; try with_reducible rfl⟩
  · assumption
  try go_simp
  refine wpAnyT_take (i := 7) (oi := ?_) (v := ?_) ?_ ?_ ?_ ?_ ?_ ?_ ?_ ?_ ?_
  rotate_left 2
  · simp only [List.getElem?_toArray, List.getElem?_cons_succ, List.getElem?_cons_zero]; rfl
  · kernel_rfl
  · kernel_rfl
  · kernel_rfl
  · kernel_rfl
  · exact fun _ _ _ h => h
  · exact Or.inl ⟨by kernel_rfl, by intro w hSw; (try dsimp only at hSw); go_simp; try with_reducible rfl⟩
  · assumption
  try go_simp
  refine wpAnyT_take (i := 8) (oi := ?_) (v := ?_) ?_ ?_ ?_ ?_ ?_ ?_ ?_ ?_ ?_
  rotate_left 2
  · simp only [List.getElem?_toArray, List.getElem?_cons_succ, List.getElem?_cons_zero]; rfl
  · kernel_rfl
  · kernel_rfl
  · kernel_rfl
  · kernel_rfl
  · exact fun _ _ _ h => h
  · exact Or.inl ⟨by kernel_rfl, by intro w hSw; (try dsimp only at hSw); go_simp; try with_reducible rfl⟩
  · assumption
  try go_simp
  refine wpAnyT_take (i := 9) (oi := ?_) (v := ?_) ?_ ?_ ?_ ?_ ?_ ?_ ?_ ?_ ?_
  rotate_left 2
  · simp only [List.getElem?_toArray, List.getElem?_cons_succ, List.getElem?_cons_zero]; rfl
  · kernel_rfl
  · kernel_rfl
  · kernel_rfl
  · kernel_rfl
  · exact fun _ _ _ h => h
  · exact Or.inl ⟨by kernel_rfl, by intro w hSw; (try dsimp only at hSw); go_simp; try with_reducible rfl⟩
  · assumption
  try go_simp
  refine wpAnyT_take (i := 10) (oi := ?_) (v := ?_) ?_ ?_ ?_ ?_ ?_ ?_ ?_ ?_ ?_
  rotate_left 2
  · simp only [List.getElem?_toArray, List.getElem?_cons_succ, List.getElem?_cons_zero]; rfl
  · kernel_rfl
  · kernel_rfl
  · kernel_rfl
  · kernel_rfl
  · exact fun _ _ _ h => h
  · exact Or.inl ⟨by kernel_rfl, by intro w hSw; (try dsimp only at hSw); go_simp; try with_reducible rfl⟩
  · assumption
  try go_simp
  refine wpAnyT_take (i := 11) (oi := ?_) (v := ?_) ?_ ?_ ?_ ?_ ?_ ?_ ?_ ?_ ?_
  rotate_left 2
  · simp only [List.getElem?_toArray, List.getElem?_cons_succ, List.getElem?_cons_zero]; rfl
  · kernel_rfl
  · kernel_rfl
  · kernel_rfl
  · kernel_rfl
  · exact fun _ _ _ h => h
  · exact Or.inl ⟨by kernel_rfl, by intro w hSw; (try dsimp only at hSw); go_simp; try with_reducible rfl⟩
  · assumption
  try go_simp
  refine wpAnyT_take (i := 12) (oi := ?_) (v := ?_) ?_ ?_ ?_ ?_ ?_ ?_ ?_ ?_ ?_
  rotate_left 2
  · simp only [List.getElem?_toArray, List.getElem?_cons_succ, List.getElem?_cons_zero]; rfl
  · kernel_rfl
  · kernel_rfl
  · kernel_rfl
  · kernel_rfl
  · exact fun _ _ _ h => h
  · exact Or.inl ⟨by kernel_rfl, by intro w hSw; (try dsimp only at hSw); go_simp; try with_reducible rfl⟩
  · assumption
  try go_simp
  refine wpAnyT_take (i := 13) (oi := ?_) (v := ?_) ?_ ?_ ?_ ?_ ?_ ?_ ?_ ?_ ?_
  rotate_left 2
  · simp only [List.getElem?_toArray, List.getElem?_cons_succ, List.getElem?_cons_zero]; rfl
  · kernel_rfl
  · kernel_rfl
  · kernel_rfl
  · kernel_rfl
  · exact fun _ _ _ h => h
  · exact Or.inl ⟨by kernel_rfl, by intro w hSw; (try dsimp only at hSw); go_simp; try with_reducible rfl⟩
  · assumption
  try go_simp
  refine wpAnyT_take (i := 14) (oi := ?_) (v := ?_) ?_ ?_ ?_ ?_ ?_ ?_ ?_ ?_ ?_
  rotate_left 2
  · simp only [List.getElem?_toArray, List.getElem?_cons_succ, List.getElem?_cons_zero]; rfl
  · kernel_rfl
  · kernel_rfl
  · kernel_rfl
  · kernel_rfl
  · exact fun _ _ _ h => h
  · exact Or.inl ⟨by kernel_rfl, by intro w hSw; (try dsimp only at hSw); go_simp; try with_reducible rfl⟩
  · assumption
  try go_simp
  refine wpAnyT_one (i := 15) (o := ?_) ?_ ?_ ?_
  rotate_left 1
  · simp only [List.getElem?_toArray, List.getElem?_cons_succ, List.getElem?_cons_zero]; rfl
  · kernel_rfl
  intro K hK
  go_simp
  refine hK.out _ _ ?_ (fun hHeld => ?_)
  · exact fun h => absurd rfl h
  clear hK K
  try go_simp
  refine wpAnyT_done (by kernel_rfl) ?_ _
  refine NoPanic.normal ?_
  go_wp2_with fail
  go_ret
  have hstep := HLO.out
  refine ⟨rfl, some ⟨b, o, none⟩, c1, ⟨?_, ?_⟩, hstep, ?_⟩
  · have h := ((HS.out.1.far (p := ⟨b, o + q, none⟩) hne2 (.int .u64 ((v : Int) + n))).put 2 (.int .u64 ((t : Int) + n))).drew
    rw [HL.out, show ((t + n : Nat) : Int) = (t : Int) + n by omega]
    exact h
  · have h : OwnO (w1.setCell ⟨b, o + q, none⟩ (.int .u64 ((v : Int) + n))) base 26 (some ⟨b, o, none⟩) l1.length c1 ((u64s l1).set q (.int .u64 ((v : Int) + n))) := HS.out.2.stored q (by have := HQL.out; omega) _
    rw [show (v : Int) + n = ((v + n : Nat) : Int) by omega, HN.out] at h
    rw [HL.out, show (v : Int) + n = ((v + n : Nat) : Int) by omega]
    exact (h.setOther (p := ⟨g, 2, none⟩) (by intro e; exact hne (by simpa [blockOf] using e)) _).drew
  · refine (((((Only.refl _ w).drewN n0).step HO.out (fun i hi => .inl hi)).set ?_ _).set (.inl (.inl rfl)) _).drew
    rcases HLO.out with h | ⟨b', h, hb'⟩
    · exact .inl (.inr h.symm)
    · have : b = b' := by simpa [blockOf] using h
      exact .inr (by rw [this]; exact hb')
set_option maxHeartbeats 400000 in
theorem add_no (g : Nat) (A : Option Addr) (c base : Nat) (f k : Int) (l : List Nat) (t n : Nat) (w : World) (h : Sto w base g A c f l t) (hi : Inv f l t) (k0 : -9223372036854775808 ≤ k) (k1 : k ≤ 9223372036854775807) (hn : n ≤ 18446744073709551615) (hc : chk f l t k n ≠ 0) :
    Calls Try.prog 8 #[.pointer (some ⟨g, 0, none⟩), .int .i64 k, .int .u64 (n : Int)] w fun e w' => e = .returned (.int .i64 (chk f l t k n)) ∧ ∃ m, w' = w.drewN m := by
  have HC := check_t g A c base f k l t n
  have hb : (chk f l t k n == 0) = false := by simpa using hc
  generalize chk f l t k n = e0 at *
  replace HC := Lib.hid HC
  have HH := Lib.hid h
  have HI := Lib.hid hi
  clear h hi hc
  go_enter Try.func8, Try.ntmps8
  go_wp2_with fail
  refine (HC.out _ HH.out HI.out k0 k1 hn).mono ?_
  rintro e w0 ⟨rfl, n0, rfl⟩
  go_wp2_with fail
  go_ret
  exact ⟨rfl, n0, rfl⟩
/-- The state behind an Add, whether it was taken or not. -/
def addF (f : Int) (l : List Nat) (t : Nat) (k : Int) (n : Nat) : Int × List Nat × Nat := if chk f l t k n = 0 then (reachF f l k, addL f l k n, t + n) else (f, l, t)
theorem add_t (g : Nat) (A : Option Addr) (c base : Nat) (f k : Int) (l : List Nat) (t n : Nat) (w : World) (h : Sto w base g A c f l t) (hi : Inv f l t) (hbase : base ≤ w.heap.size) (k0 : -9223372036854775808 ≤ k) (k1 : k ≤ 9223372036854775807) (hn : n ≤ 18446744073709551615) :
    Calls Try.prog 8 #[.pointer (some ⟨g, 0, none⟩), .int .i64 k, .int .u64 (n : Int)] w fun e w' => e = .returned (.int .i64 (chk f l t k n)) ∧ StoPost base g A (addF f l t k n).1 (addF f l t k n).2.1 (addF f l t k n).2.2 w w' := by
  by_cases hc : chk f l t k n = 0
  · rw [hc, show addF f l t k n = (reachF f l k, addL f l k n, t + n) by rw [addF, if_pos hc]]
    exact add_yes g A c base f k l t n w h hi hbase k0 k1 hn hc
  · rw [show addF f l t k n = (f, l, t) by rw [addF, if_neg hc]]
    refine (add_no g A c base f k l t n w h hi k0 k1 hn hc).mono ?_
    rintro e w' ⟨rfl, m, rfl⟩
    exact ⟨rfl, A, c, h, .inl rfl, (Only.refl _ w).drewN m⟩
end Go.Proofs.Ytknimekfkkihpaa
