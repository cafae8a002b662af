/- Dense: Drop, plain. -/
import Derived.Test.YtknimekfkkihpaaDenseG
namespace Go.Proofs.Ytknimekfkkihpaa
open Ds Pl

theorem getD_take {l : List Nat} {m i : Nat} : (l.take m).getD i 0 = if i < m then l.getD i 0 else 0 := by
  simp only [List.getD, List.getElem?_take]
  split <;> rfl
theorem getD_drop {l : List Nat} {m i : Nat} : (l.drop m).getD i 0 = l.getD (m + i) 0 := by simp [List.getD]
theorem getD_over {l : List Nat} {i : Nat} (h : l.length ≤ i) : l.getD i 0 = 0 := by simp [List.getD, List.getElem?_eq_none h]
theorem getD_set {l : List Nat} {q i v : Nat} (hq : q < l.length) : (l.set q v).getD i 0 = if i = q then v else l.getD i 0 := by
  simp only [List.getD, List.getElem?_set]
  by_cases h : q = i
  · subst h; rw [if_pos rfl, if_pos hq, if_pos rfl]; rfl
  · rw [if_neg h, if_neg (fun e => h e.symm)]
/-- The length without the noughts behind. -/
def tl (l : List Nat) : Nat := l.length - nz l.reverse
theorem tl_le (l : List Nat) : tl l ≤ l.length := Nat.sub_le _ _
theorem tl_over {l : List Nat} {i : Nat} (h : tl l ≤ i) : l.getD i 0 = 0 := by
  by_cases hi : i < l.length
  · have h1 : l.length - 1 - i < nz l.reverse := by unfold tl at h; have := nz_le l.reverse; rw [List.length_reverse] at this; omega
    have h2 := nz_zero h1
    simp only [List.getD] at h2 ⊢
    rw [List.getElem?_reverse (by omega), show l.length - 1 - (l.length - 1 - i) = i by omega] at h2
    exact h2
  · exact getD_over (by omega)
theorem tl_at {l : List Nat} (h : 0 < tl l) : l.getD (tl l - 1) 0 ≠ 0 := by
  have h0 := tl_le l
  have h1 : nz l.reverse < l.reverse.length := by rw [List.length_reverse]; unfold tl at h; omega
  have h2 := nz_at h1
  simp only [List.getD] at h2 ⊢
  rw [List.length_reverse] at h1
  rw [List.getElem?_reverse h1] at h2
  have e : l.length - 1 - nz l.reverse = tl l - 1 := by unfold tl; omega
  rw [e] at h2
  exact h2
theorem tl_pos {l : List Nat} (h : nz l < l.length) : nz l < tl l := by
  rcases Nat.lt_or_ge (nz l) (tl l) with h1 | h1
  · exact h1
  · exact absurd (tl_over h1) (nz_at h)
/-- The state behind a Drop. -/
def dropS (s : St) (k : Int) : St :=
  if cntS s.1 s.2.1 k = 0 then s
  else if nz (s.2.1.set (k - s.1).toNat 0) < (s.2.1.set (k - s.1).toNat 0).length then
    (s.1 + nz (s.2.1.set (k - s.1).toNat 0), ((s.2.1.set (k - s.1).toNat 0).take (tl (s.2.1.set (k - s.1).toNat 0))).drop (nz (s.2.1.set (k - s.1).toNat 0)), s.2.2 - cntS s.1 s.2.1 k)
  else (0, [], 0)
theorem cnt_in {f : Int} {l : List Nat} {k : Int} (h : cntS f l k ≠ 0) : f ≤ k ∧ k < f + l.length ∧ cntS f l k = l.getD (k - f).toNat 0 := by
  by_cases h1 : k < f ∨ f + l.length ≤ k
  · exact absurd (cntS_out h1) h
  · refine ⟨by omega, by omega, ?_⟩
    unfold cntS; rw [if_pos (by omega)]
theorem sum_set {l : List Nat} {q : Nat} (hq : q < l.length) : (l.set q 0).sum + l.getD q 0 = l.sum := by
  induction l generalizing q with
  | nil => simp at hq
  | cons a l ih =>
    cases q with
    | zero => simp; omega
    | succ q =>
      have := ih (q := q) (by simpa using hq)
      simp at this ⊢; omega
theorem sum_cut (l : List Nat) : ((l.take (tl l)).drop (nz l)).sum = l.sum := by
  have h1 : ∀ (l : List Nat) (m : Nat), (∀ i, m ≤ i → l.getD i 0 = 0) → (l.take m).sum = l.sum := fun l => by
    induction l with
    | nil => intro m _; simp
    | cons a l ih =>
      intro m h
      cases m with
      | zero =>
        have h0 : a = 0 := by have := h 0 (Nat.le_refl _); simpa using this
        have h2 := ih 0 (fun i _ => by have := h (i + 1) (by omega); simpa using this)
        simp at h2 ⊢
        omega
      | succ m =>
        have h2 := ih m (fun i hi => by have := h (i + 1) (by omega); simpa using this)
        simp [h2]
  have h2 : ∀ (l : List Nat) (m : Nat), (∀ i, i < m → l.getD i 0 = 0) → (l.drop m).sum = l.sum := fun l => by
    induction l with
    | nil => intro m _; simp
    | cons a l ih =>
      intro m h
      cases m with
      | zero => rfl
      | succ m =>
        have h0 : a = 0 := by have := h 0 (by omega); simpa using this
        have h3 := ih m (fun i hi => by have := h (i + 1) (by omega); simpa using this)
        simp [h3, h0]
  rw [h2 _ _ (fun i hi => by rw [getD_take]; split; exact nz_zero hi; rfl), h1 _ _ (fun i hi => tl_over hi)]
theorem dropS_cnt {s : St} (k j : Int) : cntS (dropS s k).1 (dropS s k).2.1 j = if j = k then 0 else cntS s.1 s.2.1 j := by
  unfold dropS
  by_cases hn : cntS s.1 s.2.1 k = 0
  · rw [if_pos hn]
    by_cases hj : j = k
    · rw [if_pos hj, hj, hn]
    · rw [if_neg hj]
  · rw [if_neg hn]
    obtain ⟨k1, k2, _⟩ := cnt_in hn
    have hq : (k - s.1).toNat < s.2.1.length := by omega
    have hset : ∀ i : Nat, (s.2.1.set (k - s.1).toNat 0).getD i 0 = if i = (k - s.1).toNat then 0 else s.2.1.getD i 0 := fun i => getD_set hq
    have hold : ∀ i : Nat, s.1 + i = j → (s.2.1.set (k - s.1).toNat 0).getD i 0 = if j = k then 0 else cntS s.1 s.2.1 j := fun i hi => by
      rw [hset]
      by_cases hj : j = k
      · rw [if_pos (by omega), if_pos hj]
      · rw [if_neg (by omega), if_neg hj]
        unfold cntS
        rw [if_pos (by omega), show (j - s.1).toNat = i by omega]
    by_cases hz : nz (s.2.1.set (k - s.1).toNat 0) < (s.2.1.set (k - s.1).toNat 0).length
    · rw [if_pos hz]
      generalize s.2.1.set (k - s.1).toNat 0 = l1 at *
      simp only
      by_cases hf : s.1 ≤ j
      · obtain ⟨i, hi⟩ : ∃ i : Nat, s.1 + i = j := ⟨(j - s.1).toNat, by omega⟩
        rw [← hold i hi]
        unfold cntS
        by_cases hz2 : s.1 + (nz l1 : Int) ≤ j
        · rw [if_pos hz2, getD_drop, show nz l1 + (j - (s.1 + (nz l1 : Int))).toNat = i by omega, getD_take]
          by_cases ht : i < tl l1
          · rw [if_pos ht]
          · rw [if_neg ht, tl_over (by omega)]
        · rw [if_neg hz2, nz_zero (by omega)]
      · rw [cntS_out (.inl (by omega)), cntS_out (.inl (by omega))]
        split <;> rfl
    · rw [if_neg hz]
      have hz2 : ∀ i, (s.2.1.set (k - s.1).toNat 0).getD i 0 = 0 := fun i => by
        by_cases hi : i < (s.2.1.set (k - s.1).toNat 0).length
        · exact nz_zero (by omega)
        · exact getD_over (by omega)
      rw [show cntS (0, ([] : List Nat), 0).1 (0, ([] : List Nat), 0).2.1 j = 0 by simp [cntS]]
      by_cases hf : s.1 ≤ j
      · obtain ⟨i, hi⟩ : ∃ i : Nat, s.1 + i = j := ⟨(j - s.1).toNat, by omega⟩
        rw [← hold i hi, hz2]
      · rw [cntS_out (.inl (by omega))]
        split <;> rfl
theorem dropS_prs {s : St} (k : Int) : prs (dropS s k).1 (dropS s k).2.1 = without (prs s.1 s.2.1) k :=
  ext prs_srt prs_pos (without_srt prs_srt) (without_pos prs_pos) fun j => by rw [prs_cnt, dropS_cnt, without_cnt, prs_cnt]
theorem dropS_inv {s : St} (h : InvS s) (k : Int) : InvS (dropS s k) := by
  unfold dropS
  by_cases hn : cntS s.1 s.2.1 k = 0
  · rw [if_pos hn]; exact h
  · rw [if_neg hn]
    obtain ⟨k1, k2, k3⟩ := cnt_in hn
    have hq : (k - s.1).toNat < s.2.1.length := by omega
    have hsum := sum_set hq
    have hlen : (s.2.1.set (k - s.1).toNat 0).length = s.2.1.length := by simp
    by_cases hz : nz (s.2.1.set (k - s.1).toNat 0) < (s.2.1.set (k - s.1).toNat 0).length
    · rw [if_pos hz, k3]
      generalize s.2.1.set (k - s.1).toNat 0 = l1 at *
      have h1 := tl_le l1
      have h2 := sum_cut l1
      obtain ⟨lo, hi, len, sum, cap⟩ := h
      refine ⟨by simp only; omega, ?_, ?_, by simp only; omega, by simp only; omega⟩
      · simp only [List.length_drop, List.length_take]; omega
      · simp only [List.length_drop, List.length_take]; omega
    · rw [if_neg hz]
      exact ⟨by simp only; omega, by simp, by simp, rfl, by simp⟩
theorem dropS_ends {s : St} (h : EndsS s) (k : Int) : EndsS (dropS s k) := by
  unfold dropS
  by_cases hn : cntS s.1 s.2.1 k = 0
  · rw [if_pos hn]; exact h
  · rw [if_neg hn]
    by_cases hz : nz (s.2.1.set (k - s.1).toNat 0) < (s.2.1.set (k - s.1).toNat 0).length
    · rw [if_pos hz]
      generalize s.2.1.set (k - s.1).toNat 0 = l1 at *
      have h1 := tl_pos hz
      have h2 := tl_le l1
      have hlen : ((l1.take (tl l1)).drop (nz l1)).length = tl l1 - nz l1 := by simp only [List.length_drop, List.length_take]; omega
      have hne : (l1.take (tl l1)).drop (nz l1) ≠ [] := fun e => by rw [e] at hlen; simp at hlen; omega
      refine (ends_iff (f := 0) hne).2 ⟨?_, ?_⟩
      · unfold cntS
        rw [if_pos (Int.le_refl _), getD_drop, show nz l1 + ((0 : Int) - 0).toNat = nz l1 by simp, getD_take, if_pos (by omega)]
        have := nz_at hz
        omega
      · unfold cntS
        rw [hlen, if_pos (by omega), getD_drop, getD_take, show nz l1 + (0 + ((tl l1 - nz l1 : Nat) : Int) - 1 - 0).toNat = tl l1 - 1 by omega, if_pos (by omega)]
        have := tl_at (l := l1) (by omega)
        omega
    · rw [if_neg hz]
      exact fun hh => absurd rfl hh
end Go.Proofs.Ytknimekfkkihpaa
