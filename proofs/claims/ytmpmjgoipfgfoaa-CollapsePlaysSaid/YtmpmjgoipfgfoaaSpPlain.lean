/- Sparse lists of pairs, plain: places, sums, what an insertion makes. No program. -/
import Derived.Test.YtmpmjgoipfgfoaaPairPlain
namespace Go.Proofs.Ytmpmjgoipfgfoaa
namespace Pl
/-- How many keys are less than k. -/
def lo (L : List Pr) (k : Int) : Nat := L.countP (fun p => decide (p.1 < k))
theorem lo_le (L : List Pr) (k : Int) : lo L k ≤ L.length := List.countP_le_length
theorem lo_cons (p : Pr) (L : List Pr) (k : Int) : lo (p :: L) k = lo L k + if p.1 < k then 1 else 0 := by
  unfold lo
  rw [List.countP_cons]
  by_cases h : p.1 < k <;> simp [h]
theorem lo_zero {L : List Pr} {k : Int} (h : ∀ q ∈ L, k ≤ q.1) : lo L k = 0 := by
  unfold lo
  rw [List.countP_eq_zero]
  intro q hq
  have := h q hq
  simp
  omega
theorem lo_iff {L : List Pr} (hs : Srt L) {k : Int} : ∀ {i : Nat} {p : Pr}, L[i]? = some p → (p.1 < k ↔ i < lo L k) := by
  induction L with
  | nil => intro i p h; simp at h
  | cons q L ih =>
    intro i p h
    obtain ⟨h1, h2⟩ := srt_cons.1 hs
    rw [lo_cons]
    cases i with
    | zero =>
      simp at h
      subst h
      by_cases hk : q.1 < k
      · rw [if_pos hk]; omega
      · rw [if_neg hk, lo_zero (fun r hr => by have := h1 r hr; omega)]; omega
    | succ i =>
      have h3 := ih h2 (i := i) (p := p) (by simpa using h)
      have h4 := h1 p (List.mem_of_getElem? (by simpa using h))
      by_cases hk : q.1 < k
      · rw [if_pos hk]; omega
      · rw [if_neg hk, lo_zero (fun r hr => by have := h1 r hr; omega)]; omega
/-- Is there the key k? -/
def hasK (L : List Pr) (k : Int) : Bool := match L[lo L k]? with
  | some p => decide (p.1 = k)
  | none => false
theorem put_cons_lt {p : Pr} {L : List Pr} {k : Int} {n : Nat} (h : p.1 < k) : put (p :: L) k n = p :: put L k n := by rw [put, if_pos h]
/-- A key that isn't there is inserted at its place. -/
theorem put_ins {L : List Pr} (hs : Srt L) {k : Int} {n : Nat} (h : hasK L k = false) : put L k n = L.take (lo L k) ++ (k, n) :: L.drop (lo L k) := by
  induction L with
  | nil => rfl
  | cons p L ih =>
    obtain ⟨h1, h2⟩ := srt_cons.1 hs
    by_cases hk : p.1 < k
    · have e : lo (p :: L) k = lo L k + 1 := by rw [lo_cons, if_pos hk]
      have h3 : hasK L k = false := by
        unfold hasK at h ⊢
        rw [e, List.getElem?_cons_succ] at h
        exact h
      rw [put_cons_lt hk, e, List.take_succ_cons, List.drop_succ_cons, ih h2 h3]
      rfl
    · have e : lo (p :: L) k = 0 := by rw [lo_cons, if_neg hk, lo_zero (fun r hr => by have := h1 r hr; omega)]
      have h3 : p.1 ≠ k := by
        unfold hasK at h
        rw [e] at h
        simpa using h
      rw [put, if_neg hk, if_neg h3, e]
      rfl
/-- A key that is there counts n more. -/
theorem put_set {L : List Pr} (hs : Srt L) {k : Int} {n : Nat} (h : hasK L k = true) : ∃ m, L[lo L k]? = some (k, m) ∧ put L k n = L.set (lo L k) (k, m + n) := by
  induction L with
  | nil => simp [hasK] at h
  | cons p L ih =>
    obtain ⟨h1, h2⟩ := srt_cons.1 hs
    by_cases hk : p.1 < k
    · have e : lo (p :: L) k = lo L k + 1 := by rw [lo_cons, if_pos hk]
      have h3 : hasK L k = true := by
        unfold hasK at h ⊢
        rw [e, List.getElem?_cons_succ] at h
        exact h
      obtain ⟨m, h4, h5⟩ := ih h2 h3
      exact ⟨m, by rw [e, List.getElem?_cons_succ, h4], by rw [put_cons_lt hk, e, List.set_cons_succ, h5]⟩
    · have e : lo (p :: L) k = 0 := by rw [lo_cons, if_neg hk, lo_zero (fun r hr => by have := h1 r hr; omega)]
      have h3 : p.1 = k := by
        unfold hasK at h
        rw [e] at h
        simpa using h
      refine ⟨p.2, by rw [e, ← h3]; rfl, ?_⟩
      rw [put, if_neg hk, if_pos h3, e]
      rfl
theorem hasK_of {L : List Pr} {k : Int} {p : Pr} (h : L[lo L k]? = some p) : hasK L k = decide (p.1 = k) := by unfold hasK; rw [h]
theorem hasK_end {L : List Pr} {k : Int} (h : L.length ≤ lo L k) : hasK L k = false := by unfold hasK; rw [List.getElem?_eq_none h]
theorem tot_take_next {L : List Pr} {i : Nat} {p : Pr} (h : L[i]? = some p) : tot (L.take (i + 1)) = tot (L.take i) + p.2 := by
  rw [List.take_add_one, h, tot_append]
  simp [tot]
theorem tot_take_le' (L : List Pr) (i : Nat) : tot (L.take i) ≤ tot L := by
  have h : tot (L.take i) + tot (L.drop i) = tot L := by rw [← tot_append, List.take_append_drop]
  omega
/-- The sum of all with lesser keys. -/
def below (L : List Pr) (k : Int) : Nat := tot (L.filter (fun p => decide (p.1 < k)))
theorem below_take {L : List Pr} (hs : Srt L) (k : Int) : below L k = tot (L.take (lo L k)) := by
  induction L with
  | nil => rfl
  | cons p L ih =>
    obtain ⟨h1, h2⟩ := srt_cons.1 hs
    unfold below at ih ⊢
    rw [lo_cons, List.filter_cons]
    by_cases hk : p.1 < k
    · rw [if_pos (by simpa using hk), if_pos hk, List.take_succ_cons, tot_cons, tot_cons, ih h2]
    · rw [if_neg (by simpa using hk), if_neg hk, ih h2, lo_zero (fun r hr => by have := h1 r hr; omega)]
      rfl
theorem hasK_iff {L : List Pr} (hs : Srt L) {k : Int} : hasK L k = true ↔ ∃ p ∈ L, p.1 = k := by
  constructor
  · intro h
    obtain ⟨m, h1, _⟩ := put_set hs (n := 0) h
    exact ⟨(k, m), List.mem_of_getElem? h1, rfl⟩
  · rintro ⟨p, hp, rfl⟩
    cases hh : hasK L p.1 with
    | true => rfl
    | false =>
      exfalso
      obtain ⟨i, hi⟩ := List.mem_iff_getElem?.1 hp
      have h1 := lo_iff hs (k := p.1) hi
      have hge : lo L p.1 ≤ i := by
        rcases Nat.lt_or_ge i (lo L p.1) with h | h
        · have := h1.2 h; omega
        · exact h
      have hlt : lo L p.1 < L.length := Nat.lt_of_le_of_lt hge (List.getElem?_eq_some_iff.1 hi).1
      obtain ⟨q, hq⟩ : ∃ q, L[lo L p.1]? = some q := ⟨_, List.getElem?_eq_getElem hlt⟩
      have h2 := lo_iff hs (k := p.1) hq
      have h3 : q.1 ≠ p.1 := by
        rw [hasK_of hq] at hh
        exact of_decide_eq_false hh
      rcases Nat.lt_or_ge (lo L p.1) i with h | h
      · have h4 := List.pairwise_iff_getElem.1 hs (lo L p.1) i hlt (List.getElem?_eq_some_iff.1 hi).1 h
        rw [(List.getElem?_eq_some_iff.1 hq).2, (List.getElem?_eq_some_iff.1 hi).2] at h4
        have : ¬ q.1 < p.1 := fun h => absurd (h2.1 h) (Nat.lt_irrefl _)
        omega
      · have : lo L p.1 = i := by omega
        rw [this, hi] at hq
        injection hq with hq
        exact h3 (by rw [hq])
theorem lo_succ {L : List Pr} (hs : Srt L) (k : Int) : lo L (k + 1) = lo L k + if hasK L k then 1 else 0 := by
  induction L with
  | nil => rfl
  | cons p L ih =>
    obtain ⟨h1, h2⟩ := srt_cons.1 hs
    rw [lo_cons, lo_cons, ih h2]
    by_cases hk : p.1 < k
    · have e : hasK (p :: L) k = hasK L k := by
        rw [Bool.eq_iff_iff, hasK_iff hs, hasK_iff h2]
        constructor
        · rintro ⟨q, hq, rfl⟩
          rcases List.mem_cons.1 hq with rfl | hq
          · omega
          · exact ⟨q, hq, rfl⟩
        · rintro ⟨q, hq, rfl⟩
          exact ⟨q, List.mem_cons_of_mem _ hq, rfl⟩
      rw [if_pos hk, if_pos (show p.1 < k + 1 by omega), e]
      omega
    · have hz : hasK L k = false := by
        cases hh : hasK L k with
        | false => rfl
        | true =>
          obtain ⟨q, hq, rfl⟩ := (hasK_iff h2).1 hh
          have := h1 q hq
          omega
      rw [if_neg hk, hz, lo_zero (fun r hr => by have := h1 r hr; omega)]
      by_cases he : p.1 = k
      · have : hasK (p :: L) k = true := (hasK_iff hs).2 ⟨p, by simp, he⟩
        rw [this, if_pos (show p.1 < k + 1 by omega)]
        simp
      · have : hasK (p :: L) k = false := by
          cases hh : hasK (p :: L) k with
          | false => rfl
          | true =>
            obtain ⟨q, hq, e⟩ := (hasK_iff hs).1 hh
            rcases List.mem_cons.1 hq with rfl | hq
            · exact absurd e he
            · have := h1 q hq
              omega
        rw [this, if_neg (show ¬ p.1 < k + 1 by omega)]
        simp
/-- Keys have bounds: what is beyond them has no other place. -/
theorem lo_clamp {L : List Pr} (hk : ∀ p ∈ L, -1048576 ≤ p.1 ∧ p.1 ≤ 1048576) {k kk : Int} (h : kk = k ∨ (1048577 ≤ kk ∧ 1048577 ≤ k) ∨ (kk ≤ -1048576 ∧ k ≤ -1048576)) : lo L kk = lo L k := by
  unfold lo
  refine List.countP_congr fun p hp => ?_
  have := hk p hp
  simp only [decide_eq_true_eq]
  omega
/-- The key of a rank. -/
def rank : List Pr → Nat → Int
  | [], _ => 0
  | p :: L, r => if r ≤ p.2 then p.1 else rank L (r - p.2)
theorem rank_at {L : List Pr} {i : Nat} {p : Pr} {r : Nat} (hp : L[i]? = some p) (h1 : tot (L.take i) < r) (h2 : r ≤ tot (L.take i) + p.2) : rank L r = p.1 := by
  induction L generalizing i r with
  | nil => simp at hp
  | cons q L ih =>
    cases i with
    | zero =>
      simp at hp
      subst hp
      rw [List.take_zero, tot_nil] at h1 h2
      rw [rank, if_pos (by omega)]
    | succ i =>
      rw [List.take_succ_cons, tot_cons] at h1 h2
      rw [rank, if_neg (by omega)]
      exact ih (by simpa using hp) (by omega) (by omega)
/-- The m greatest keys; the least of them counts all that is cut off, too. -/
def cutI (L : List Pr) (i : Nat) : List Pr := match L.drop i with
  | [] => []
  | p :: R => (p.1, p.2 + tot (L.take i)) :: R
def cutN (m : Int) : Nat := (max m 1).toNat
def cutL (L : List Pr) (m : Int) : List Pr × Nat := if L.length ≤ cutN m then (L, 0) else (cutI L (L.length - cutN m), tot (L.take (L.length - cutN m)))
theorem cutI_len (L : List Pr) (i : Nat) : (cutI L i).length = L.length - i := by
  unfold cutI
  rw [← List.length_drop]
  cases L.drop i <;> rfl
theorem cutI_tot {L : List Pr} {i : Nat} (h : i < L.length) : tot (cutI L i) = tot L := by
  have h1 : tot (L.take i) + tot (L.drop i) = tot L := by rw [← tot_append, List.take_append_drop]
  unfold cutI
  cases hd : L.drop i with
  | nil =>
    have := congrArg List.length hd
    rw [List.length_drop] at this
    simp at this
    omega
  | cons p R =>
    rw [hd, tot_cons] at h1
    rw [tot_cons]
    omega
theorem drop_srt {L : List Pr} (hs : Srt L) (i : Nat) : Srt (L.drop i) := List.Pairwise.sublist (List.drop_sublist i L) hs
theorem cutI_srt {L : List Pr} (hs : Srt L) (i : Nat) : Srt (cutI L i) := by
  have h := drop_srt hs i
  unfold cutI
  cases hd : L.drop i with
  | nil => exact Srt.nil
  | cons p R =>
    rw [hd] at h
    exact srt_cons.2 ⟨(srt_cons.1 h).1, (srt_cons.1 h).2⟩
theorem cutI_pos {L : List Pr} (hp : Pos L) (i : Nat) : Pos (cutI L i) := by
  have h : Pos (L.drop i) := fun p hq => hp p (List.mem_of_mem_drop hq)
  unfold cutI
  cases hd : L.drop i with
  | nil => exact Pos.nil
  | cons p R =>
    rw [hd] at h
    exact pos_cons.2 ⟨by have := (pos_cons.1 h).1; simp only; omega, (pos_cons.1 h).2⟩
theorem cutI_keys {L : List Pr} {i : Nat} {P : Int → Prop} (h : ∀ p ∈ L, P p.1) : ∀ p ∈ cutI L i, P p.1 := by
  unfold cutI
  cases hd : L.drop i with
  | nil => intro p hp; cases hp
  | cons q R =>
    have hm : ∀ p ∈ q :: R, P p.1 := fun p hp => h p (List.mem_of_mem_drop (by rw [hd]; exact hp))
    intro p hp
    rcases List.mem_cons.1 hp with rfl | hp
    · exact hm q (by simp)
    · exact hm p (by simp [hp])
end Pl
end Go.Proofs.Ytmpmjgoipfgfoaa
