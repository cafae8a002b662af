/- A window of counts and the list of its pairs, plain. No program. -/
import Derived.Test.YtknimekfkkihpaaPairPlain
namespace Go.Proofs.Ytknimekfkkihpaa
namespace Ds
open Pl
/-- The pairs of a window that begins at key f. -/
def prs : Int → List Nat → List Pr
  | _, [] => []
  | f, n :: l => if n = 0 then prs (f + 1) l else (f, n) :: prs (f + 1) l
def cntS (f : Int) (l : List Nat) (k : Int) : Nat := if f ≤ k then l.getD (k - f).toNat 0 else 0
theorem prs_ge {f : Int} {l : List Nat} : ∀ p ∈ prs f l, f ≤ p.1 ∧ p.1 < f + l.length ∧ 0 < p.2 := by
  induction l generalizing f with
  | nil => intro p h; cases h
  | cons n l ih =>
    intro p h
    rw [prs] at h
    by_cases hn : n = 0
    · rw [if_pos hn] at h
      have := ih p h
      simp only [List.length_cons]; omega
    · rw [if_neg hn] at h
      rcases List.mem_cons.1 h with rfl | h
      · simp only [List.length_cons]; omega
      · have := ih p h
        simp only [List.length_cons]; omega
theorem prs_srt {f : Int} {l : List Nat} : Srt (prs f l) := by
  induction l generalizing f with
  | nil => exact Srt.nil
  | cons n l ih =>
    rw [prs]
    by_cases hn : n = 0
    · rw [if_pos hn]; exact ih
    · rw [if_neg hn]
      exact srt_cons.2 ⟨fun q hq => by have := prs_ge q hq; simp only; omega, ih⟩
theorem prs_pos {f : Int} {l : List Nat} : Pos (prs f l) := fun p h => (prs_ge p h).2.2
theorem prs_tot {f : Int} {l : List Nat} : tot (prs f l) = l.sum := by
  induction l generalizing f with
  | nil => rfl
  | cons n l ih =>
    rw [prs]
    by_cases hn : n = 0
    · rw [if_pos hn, ih]; simp [hn]
    · rw [if_neg hn, tot_cons, ih]; simp
theorem prs_cnt {f : Int} {l : List Nat} (k : Int) : cnt (prs f l) k = cntS f l k := by
  induction l generalizing f with
  | nil => simp [prs, cnt, cntS]
  | cons n l ih =>
    rw [prs]
    have e : cntS f (n :: l) k = if f = k then n else cntS (f + 1) l k := by
      unfold cntS
      by_cases h1 : f = k
      · subst h1; simp
      · by_cases h2 : f ≤ k
        · rw [if_pos h2, if_neg h1, if_pos (by omega)]
          obtain ⟨j, hj⟩ : ∃ j, (k - f).toNat = j + 1 := ⟨(k - f).toNat - 1, by omega⟩
          rw [hj, show (k - (f + 1)).toNat = j by omega]
          simp
        · rw [if_neg h2, if_neg h1, if_neg (by omega)]
    rw [e]
    by_cases hn : n = 0
    · rw [if_pos hn, ih]
      by_cases h1 : f = k
      · subst h1
        rw [if_pos rfl, hn]
        unfold cntS
        rw [if_neg (by omega)]
      · rw [if_neg h1]
    · rw [if_neg hn, cnt, ih]
theorem prs_len {f : Int} {l : List Nat} : (prs f l).length ≤ l.length := by
  induction l generalizing f with
  | nil => exact Nat.le_refl _
  | cons n l ih =>
    rw [prs]
    have := ih (f := f + 1)
    by_cases hn : n = 0
    · rw [if_pos hn]; simp only [List.length_cons]; omega
    · rw [if_neg hn]; simp only [List.length_cons]; omega
theorem prs_snoc {f : Int} {l : List Nat} {n : Nat} : prs f (l ++ [n]) = prs f l ++ if n = 0 then [] else [(f + l.length, n)] := by
  induction l generalizing f with
  | nil => simp only [List.nil_append, prs]; by_cases hn : n = 0 <;> simp [hn]
  | cons m l ih =>
    rw [List.cons_append, prs, prs, ih]
    have e : f + 1 + (l.length : Int) = f + ((m :: l).length : Int) := by simp only [List.length_cons]; omega
    rw [e]
    by_cases hm : m = 0
    · rw [if_pos hm, if_pos hm]
    · rw [if_neg hm, if_neg hm]; rfl
/-- The window's ends count something. -/
def Ends (l : List Nat) : Prop := l ≠ [] → l.head? ≠ some 0 ∧ l.getLast? ≠ some 0
theorem prs_first {f : Int} {l : List Nat} (h : Ends l) (hl : l ≠ []) : ∃ n m, prs f l = (f, n) :: m := by
  cases l with
  | nil => exact absurd rfl hl
  | cons n l =>
    have := (h hl).1
    have hn : n ≠ 0 := by simpa using this
    exact ⟨n, _, by rw [prs, if_neg hn]⟩
theorem prs_last {f : Int} {l : List Nat} (h : Ends l) (hl : l ≠ []) : ∃ n m, prs f l = m ++ [(f + l.length - 1, n)] := by
  obtain ⟨l', n, rfl⟩ : ∃ l' n, l = l' ++ [n] := ⟨l.dropLast, l.getLast hl, (List.dropLast_concat_getLast hl).symm⟩
  have := (h hl).2
  have hn : n ≠ 0 := by simpa using this
  refine ⟨n, prs f l', ?_⟩
  rw [prs_snoc, if_neg hn]
  congr 3
  simp only [List.length_append, List.length_cons, List.length_nil]; omega
theorem prs_nil {f : Int} {l : List Nat} (h : Ends l) : prs f l = [] ↔ l = [] := by
  constructor
  · intro e
    by_cases hl : l = []
    · exact hl
    · obtain ⟨n, m, e2⟩ := prs_first (f := f) h hl
      rw [e2] at e; cases e
  · rintro rfl; rfl
/-- The window reaches to a key. -/
def reachF (f : Int) (l : List Nat) (k : Int) : Int := if l.length = 0 then k else if k < f then k else f
def reachL (f : Int) (l : List Nat) (k : Int) : List Nat :=
  if l.length = 0 then [0] else if k < f then List.replicate (f - k).toNat 0 ++ l else if f + l.length ≤ k then l ++ List.replicate (k - f - l.length + 1).toNat 0 else l
/-- n more at place i. -/
def incr : List Nat → Nat → Nat → List Nat
  | [], _, _ => []
  | m :: l, 0, n => (m + n) :: l
  | m :: l, i + 1, n => m :: incr l i n
theorem incr_len {l : List Nat} {i n : Nat} : (incr l i n).length = l.length := by
  induction l generalizing i with
  | nil => rfl
  | cons m l ih => cases i <;> simp [incr, ih]
theorem incr_set {l : List Nat} {i n : Nat} : incr l i n = l.set i (l.getD i 0 + n) := by
  induction l generalizing i with
  | nil => rfl
  | cons m l ih => cases i <;> simp [incr, ih]
theorem incr_get {l : List Nat} {i n j : Nat} (hi : i < l.length) : (incr l i n).getD j 0 = l.getD j 0 + if j = i then n else 0 := by
  induction l generalizing i j with
  | nil => simp at hi
  | cons m l ih =>
    cases i with
    | zero => cases j <;> simp [incr]
    | succ i =>
      cases j with
      | zero => simp [incr]
      | succ j =>
        have := ih (i := i) (j := j) (by simpa using hi)
        simpa [incr] using this
theorem incr_sum {l : List Nat} {i n : Nat} (hi : i < l.length) : (incr l i n).sum = l.sum + n := by
  induction l generalizing i with
  | nil => simp at hi
  | cons m l ih =>
    cases i with
    | zero => simp [incr]; omega
    | succ i =>
      have := ih (i := i) (by simpa using hi)
      simp [incr, this]; omega
theorem getD_left {l m : List Nat} {i : Nat} (h : i < l.length) : (l ++ m).getD i 0 = l.getD i 0 := by simp [List.getD, List.getElem?_append_left h]
theorem getD_right {l m : List Nat} {i : Nat} (h : l.length ≤ i) : (l ++ m).getD i 0 = m.getD (i - l.length) 0 := by simp [List.getD, List.getElem?_append_right h]
theorem getD_zeros (n i : Nat) : (List.replicate n 0).getD i 0 = 0 := by
  simp only [List.getD, List.getElem?_replicate]
  split <;> rfl
theorem reach_in (f : Int) (l : List Nat) (k : Int) : reachF f l k ≤ k ∧ k < reachF f l k + (reachL f l k).length := by
  unfold reachF reachL
  by_cases h0 : l.length = 0
  · rw [if_pos h0, if_pos h0]; simp; omega
  · rw [if_neg h0, if_neg h0]
    by_cases h1 : k < f
    · rw [if_pos h1, if_pos h1]; simp; omega
    · rw [if_neg h1, if_neg h1]
      by_cases h2 : f + l.length ≤ k
      · rw [if_pos h2]; simp; omega
      · rw [if_neg h2]; omega
theorem reach_cnt (f : Int) (l : List Nat) (k j : Int) : cntS (reachF f l k) (reachL f l k) j = cntS f l j := by
  unfold reachF reachL
  by_cases h0 : l.length = 0
  · rw [if_pos h0, if_pos h0]
    have : l = [] := List.eq_nil_of_length_eq_zero h0
    subst this
    unfold cntS
    by_cases hk : k ≤ j
    · rw [if_pos hk]
      cases (j - k).toNat <;> simp
    · rw [if_neg hk]; simp
  · rw [if_neg h0, if_neg h0]
    by_cases h1 : k < f
    · rw [if_pos h1, if_pos h1]
      unfold cntS
      by_cases hj : f ≤ j
      · rw [if_pos hj, if_pos (by omega), getD_right (by simp; omega)]
        congr 1
        simp; omega
      · rw [if_neg hj]
        by_cases hkj : k ≤ j
        · rw [if_pos hkj, getD_left (by simp; omega), getD_zeros]
        · rw [if_neg hkj]
    · rw [if_neg h1, if_neg h1]
      by_cases h2 : f + l.length ≤ k
      · rw [if_pos h2]
        unfold cntS
        by_cases hj : f ≤ j
        · rw [if_pos hj, if_pos hj]
          by_cases hj2 : (j - f).toNat < l.length
          · rw [getD_left hj2]
          · rw [getD_right (by omega)]
            have e : l.getD (j - f).toNat 0 = 0 := by simp [List.getD, List.getElem?_eq_none (show l.length ≤ (j - f).toNat by omega)]
            rw [e, getD_zeros]
        · rw [if_neg hj, if_neg hj]
      · rw [if_neg h2]
theorem reach_sum (f : Int) (l : List Nat) (k : Int) : (reachL f l k).sum = l.sum := by
  unfold reachL
  by_cases h0 : l.length = 0
  · rw [if_pos h0]
    have : l = [] := List.eq_nil_of_length_eq_zero h0
    subst this; rfl
  · rw [if_neg h0]
    by_cases h1 : k < f
    · rw [if_pos h1]; simp
    · rw [if_neg h1]
      by_cases h2 : f + l.length ≤ k
      · rw [if_pos h2]; simp
      · rw [if_neg h2]
/-- n more of key k. -/
def addL (f : Int) (l : List Nat) (k : Int) (n : Nat) : List Nat := incr (reachL f l k) (k - reachF f l k).toNat n
theorem add_cnt (f : Int) (l : List Nat) (k : Int) (n : Nat) (j : Int) : cntS (reachF f l k) (addL f l k n) j = cntS f l j + if j = k then n else 0 := by
  have h := reach_in f l k
  have hc := reach_cnt f l k j
  unfold addL
  unfold cntS at hc ⊢
  by_cases hj : reachF f l k ≤ j
  · rw [if_pos hj] at hc ⊢
    rw [incr_get (by omega), hc]
    congr 1
    by_cases hjk : j = k
    · rw [if_pos hjk, if_pos (by omega)]
    · rw [if_neg hjk, if_neg (by omega)]
  · rw [if_neg hj] at hc ⊢
    rw [← hc, if_neg (by omega)]
theorem add_sum (f : Int) (l : List Nat) (k : Int) (n : Nat) : (addL f l k n).sum = l.sum + n := by
  have h := reach_in f l k
  unfold addL
  rw [incr_sum (by omega), reach_sum]
theorem add_prs (f : Int) (l : List Nat) (k : Int) (n : Nat) (hn : 0 < n) : prs (reachF f l k) (addL f l k n) = put (prs f l) k n :=
  ext prs_srt prs_pos (put_srt prs_srt) (put_pos prs_pos hn) fun j => by rw [prs_cnt, add_cnt, put_cnt prs_srt, prs_cnt]
theorem ends_iff {f : Int} {l : List Nat} (hl : l ≠ []) : Ends l ↔ 0 < cntS f l f ∧ 0 < cntS f l (f + l.length - 1) := by
  have hp : 0 < l.length := List.length_pos_iff.2 hl
  have e1 : cntS f l f = l.getD 0 0 := by simp [cntS]
  have e2 : cntS f l (f + l.length - 1) = l.getD (l.length - 1) 0 := by
    unfold cntS
    rw [if_pos (by omega), show (f + (l.length : Int) - 1 - f).toNat = l.length - 1 by omega]
  rw [e1, e2]
  have a1 : l.head? = some (l.getD 0 0) := by cases l with
    | nil => exact absurd rfl hl
    | cons a l => simp
  have a2 : l.getLast? = some (l.getD (l.length - 1) 0) := by
    rw [List.getLast?_eq_getElem?, List.getD_eq_getElem?_getD, List.getElem?_eq_getElem (show l.length - 1 < l.length by omega)]
    rfl
  constructor
  · intro h
    have := h hl
    rw [a1, a2] at this
    simp at this
    simp only [List.getD_eq_getElem?_getD] at *
    omega
  · intro h _
    rw [a1, a2]
    simp
    simp only [List.getD_eq_getElem?_getD] at *
    omega
theorem reachL_len (f : Int) (l : List Nat) (k : Int) : ((reachL f l k).length : Int) = if l.length = 0 then 1 else max k (f + l.length - 1) - min k f + 1 := by
  unfold reachL
  by_cases h0 : l.length = 0
  · rw [if_pos h0, if_pos h0]; rfl
  · rw [if_neg h0, if_neg h0]
    by_cases h1 : k < f
    · rw [if_pos h1]; simp; omega
    · rw [if_neg h1]
      by_cases h2 : f + l.length ≤ k
      · rw [if_pos h2]; simp; omega
      · rw [if_neg h2]; omega
theorem addL_len (f : Int) (l : List Nat) (k : Int) (n : Nat) : (addL f l k n).length = (reachL f l k).length := incr_len
theorem add_ends {f : Int} {l : List Nat} {k : Int} {n : Nat} (h : Ends l) (hn : 0 < n) : Ends (addL f l k n) := by
  have hr := reach_in f l k
  have hlen := reachL_len f l k
  have hne : addL f l k n ≠ [] := by
    intro e
    have := addL_len f l k n
    rw [e] at this
    simp at this
    omega
  rw [ends_iff (f := reachF f l k) hne, add_cnt, add_cnt, addL_len, hlen]
  by_cases h0 : l.length = 0
  · have : l = [] := List.eq_nil_of_length_eq_zero h0
    subst this
    have e : reachF f [] k = k := by simp [reachF]
    rw [e]
    simp
    omega
  · have hl : l ≠ [] := fun e => h0 (by rw [e]; rfl)
    obtain ⟨h1, h2⟩ := (ends_iff (f := f) hl).1 h
    rw [if_neg h0]
    unfold reachF
    rw [if_neg h0]
    by_cases hk : k < f
    · rw [if_pos hk, if_pos rfl]
      refine ⟨by omega, ?_⟩
      rw [show k + (max k (f + (l.length : Int) - 1) - min k f + 1) - 1 = f + l.length - 1 by omega]
      omega
    · rw [if_neg hk]
      refine ⟨by omega, ?_⟩
      by_cases hf : f + l.length - 1 ≤ k
      · rw [if_pos (show f + (max k (f + (l.length : Int) - 1) - min k f + 1) - 1 = k by omega)]; omega
      · rw [show f + (max k (f + (l.length : Int) - 1) - min k f + 1) - 1 = f + l.length - 1 by omega]; omega
theorem cntS_out {f : Int} {l : List Nat} {k : Int} (h : k < f ∨ f + l.length ≤ k) : cntS f l k = 0 := by
  unfold cntS
  by_cases hk : f ≤ k
  · rw [if_pos hk]; simp [List.getD, List.getElem?_eq_none (show l.length ≤ (k - f).toNat by omega)]
  · rw [if_neg hk]
def wide (f : Int) (l : List Nat) (k : Int) : Int := if l.length = 0 then 1 else max k (f + l.length - 1) - min k f + 1
/-- May a count be added: the error's number. -/
def chk (f : Int) (l : List Nat) (t : Nat) (k : Int) (n : Nat) : Int :=
  if n = 0 then 4 else if k < -1048576 ∨ 1048576 < k then 5 else if 8192 < wide f l k then 130 else if 4611686018427387904 - t < n then 6 else 0
theorem chk_range (f : Int) (l : List Nat) (t : Nat) (k : Int) (n : Nat) : chk f l t k n = 0 ∨ chk f l t k n = 4 ∨ chk f l t k n = 5 ∨ chk f l t k n = 6 ∨ chk f l t k n = 130 := by
  unfold chk
  split
  · simp
  · split
    · simp
    · split
      · simp
      · split <;> simp
theorem chk_zero {f : Int} {l : List Nat} {t : Nat} {k : Int} {n : Nat} (h : chk f l t k n = 0) : 0 < n ∧ -1048576 ≤ k ∧ k ≤ 1048576 ∧ wide f l k ≤ 8192 ∧ n ≤ 4611686018427387904 - t := by
  unfold chk at h
  by_cases h1 : n = 0
  · rw [if_pos h1] at h; cases h
  · rw [if_neg h1] at h
    by_cases h2 : k < -1048576 ∨ 1048576 < k
    · rw [if_pos h2] at h; cases h
    · rw [if_neg h2] at h
      by_cases h3 : 8192 < wide f l k
      · rw [if_pos h3] at h; cases h
      · rw [if_neg h3] at h
        by_cases h4 : 4611686018427387904 - t < n
        · rw [if_pos h4] at h; cases h
        · omega
end Ds
end Go.Proofs.Ytknimekfkkihpaa
