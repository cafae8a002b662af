/- Lists of pairs (a key, how many), plain: sorted ones are told by their counts; what the document's functions make of them. No program. -/
import Derived.Tactics
namespace Go.Proofs.Ytmpmjgoipfgfoaa
abbrev Pr := Int × Nat
namespace Pl
def cnt : List Pr → Int → Nat
  | [], _ => 0
  | p :: l, k => if p.1 = k then p.2 else cnt l k
def tot (l : List Pr) : Nat := (l.map (·.2)).sum
def Srt (l : List Pr) : Prop := l.Pairwise (fun p q => p.1 < q.1)
def Pos (l : List Pr) : Prop := ∀ p ∈ l, 0 < p.2
/-- n more of key k. -/
def put : List Pr → Int → Nat → List Pr
  | [], k, n => [(k, n)]
  | p :: l, k, n => if p.1 < k then p :: put l k n else if p.1 = k then (k, p.2 + n) :: l else (k, n) :: p :: l
def without (l : List Pr) (k : Int) : List Pr := l.filter (fun p => p.1 != k)
theorem tot_nil : tot [] = 0 := rfl
theorem tot_cons (p : Pr) (l : List Pr) : tot (p :: l) = p.2 + tot l := by simp [tot]
theorem tot_append (l m : List Pr) : tot (l ++ m) = tot l + tot m := by simp [tot]
theorem tot_pos {l : List Pr} (hp : Pos l) (h : l ≠ []) : 0 < tot l := by
  cases l with
  | nil => exact absurd rfl h
  | cons p l => rw [tot_cons]; have := hp p (by simp); omega
theorem Srt.nil : Srt [] := List.Pairwise.nil
theorem Pos.nil : Pos [] := by intro p h; cases h
theorem srt_cons {p : Pr} {l : List Pr} : Srt (p :: l) ↔ (∀ q ∈ l, p.1 < q.1) ∧ Srt l := List.pairwise_cons
theorem pos_cons {p : Pr} {l : List Pr} : Pos (p :: l) ↔ 0 < p.2 ∧ Pos l := by simp [Pos]
theorem cnt_zero {l : List Pr} {k : Int} (h : ∀ q ∈ l, q.1 ≠ k) : cnt l k = 0 := by
  induction l with
  | nil => rfl
  | cons p l ih => rw [cnt, if_neg (h p (by simp))]; exact ih fun q hq => h q (by simp [hq])
theorem cnt_lt {l : List Pr} {k : Int} (h : ∀ q ∈ l, k < q.1) : cnt l k = 0 := cnt_zero fun q hq => by have := h q hq; omega
theorem cnt_mem {l : List Pr} {k : Int} (h : cnt l k ≠ 0) : (k, cnt l k) ∈ l := by
  induction l with
  | nil => exact absurd rfl h
  | cons p l ih =>
    rw [cnt] at h ⊢
    by_cases hk : p.1 = k
    · rw [if_pos hk]; subst hk; simp
    · rw [if_neg hk] at h ⊢; exact List.mem_cons_of_mem _ (ih h)
theorem cnt_of_mem {l : List Pr} (hs : Srt l) {p : Pr} (h : p ∈ l) : cnt l p.1 = p.2 := by
  induction l with
  | nil => cases h
  | cons q l ih =>
    obtain ⟨h1, h2⟩ := srt_cons.1 hs
    rw [cnt]
    rcases List.mem_cons.1 h with rfl | h
    · rw [if_pos rfl]
    · rw [if_neg (by have := h1 p h; omega)]; exact ih h2 h
/-- Sorted lists of the same counts are one. -/
theorem ext {l m : List Pr} (hl : Srt l) (hlp : Pos l) (hm : Srt m) (hmp : Pos m) (h : ∀ k, cnt l k = cnt m k) : l = m := by
  induction l generalizing m with
  | nil =>
    cases m with
    | nil => rfl
    | cons q m =>
      have := h q.1
      rw [cnt, cnt, if_pos rfl] at this
      have := (pos_cons.1 hmp).1
      omega
  | cons p l ih =>
    cases m with
    | nil =>
      have := h p.1
      rw [cnt, cnt, if_pos rfl] at this
      have := (pos_cons.1 hlp).1
      omega
    | cons q m =>
      obtain ⟨a1, a2⟩ := srt_cons.1 hl
      obtain ⟨b1, b2⟩ := srt_cons.1 hm
      obtain ⟨a3, a4⟩ := pos_cons.1 hlp
      obtain ⟨b3, b4⟩ := pos_cons.1 hmp
      have hk : p.1 = q.1 := by
        rcases Int.lt_trichotomy p.1 q.1 with hlt | heq | hgt
        · have := h p.1
          rw [cnt, if_pos rfl, cnt_lt (l := q :: m) (fun r hr => by
            rcases List.mem_cons.1 hr with rfl | hr
            · exact hlt
            · have := b1 r hr; omega)] at this
          omega
        · exact heq
        · have := h q.1
          rw [cnt_lt (l := p :: l) (fun r hr => by
            rcases List.mem_cons.1 hr with rfl | hr
            · exact hgt
            · have := a1 r hr; omega), cnt, if_pos rfl] at this
          omega
      have hn : p.2 = q.2 := by
        have := h p.1
        rw [cnt, if_pos rfl, cnt, if_pos hk.symm] at this
        exact this
      have hpq : p = q := Prod.ext hk hn
      subst hpq
      congr 1
      refine ih a2 a4 b2 b4 fun k => ?_
      by_cases hk : p.1 = k
      · subst hk
        rw [cnt_lt a1, cnt_lt b1]
      · have := h k
        rw [cnt, cnt, if_neg hk, if_neg hk] at this
        exact this
theorem put_keys {l : List Pr} {k : Int} {n : Nat} : ∀ q ∈ put l k n, q.1 = k ∨ ∃ p ∈ l, p.1 = q.1 := by
  induction l with
  | nil => intro q hq; simp [put] at hq; subst hq; exact .inl rfl
  | cons p l ih =>
    intro q hq
    rw [put] at hq
    by_cases h1 : p.1 < k
    · rw [if_pos h1] at hq
      rcases List.mem_cons.1 hq with rfl | hq
      · exact .inr ⟨_, by simp, rfl⟩
      · rcases ih q hq with h | ⟨r, hr, e⟩
        · exact .inl h
        · exact .inr ⟨r, by simp [hr], e⟩
    · rw [if_neg h1] at hq
      by_cases h2 : p.1 = k
      · rw [if_pos h2] at hq
        rcases List.mem_cons.1 hq with rfl | hq
        · exact .inl rfl
        · exact .inr ⟨q, by simp [hq], rfl⟩
      · rw [if_neg h2] at hq
        rcases List.mem_cons.1 hq with rfl | hq
        · exact .inl rfl
        · exact .inr ⟨q, hq, rfl⟩
theorem put_srt {l : List Pr} {k : Int} {n : Nat} (hs : Srt l) : Srt (put l k n) := by
  induction l with
  | nil => exact List.pairwise_singleton _ _
  | cons p l ih =>
    obtain ⟨h1, h2⟩ := srt_cons.1 hs
    rw [put]
    by_cases c1 : p.1 < k
    · rw [if_pos c1]
      refine srt_cons.2 ⟨fun q hq => ?_, ih h2⟩
      rcases put_keys q hq with h | ⟨r, hr, e⟩
      · omega
      · have := h1 r hr; omega
    · rw [if_neg c1]
      by_cases c2 : p.1 = k
      · rw [if_pos c2]
        exact srt_cons.2 ⟨fun q hq => by have := h1 q hq; simp only; omega, h2⟩
      · rw [if_neg c2]
        refine srt_cons.2 ⟨fun q hq => ?_, hs⟩
        rcases List.mem_cons.1 hq with rfl | hq
        · simp only; omega
        · have := h1 q hq; simp only; omega
theorem put_pos {l : List Pr} {k : Int} {n : Nat} (hp : Pos l) (hn : 0 < n) : Pos (put l k n) := by
  induction l with
  | nil => intro q hq; simp [put] at hq; subst hq; exact hn
  | cons p l ih =>
    obtain ⟨h1, h2⟩ := pos_cons.1 hp
    rw [put]
    by_cases c1 : p.1 < k
    · rw [if_pos c1]; exact pos_cons.2 ⟨h1, ih h2⟩
    · rw [if_neg c1]
      by_cases c2 : p.1 = k
      · rw [if_pos c2]; exact pos_cons.2 ⟨by simp only; omega, h2⟩
      · rw [if_neg c2]; exact pos_cons.2 ⟨hn, hp⟩
theorem put_cnt {l : List Pr} {k : Int} {n : Nat} (hs : Srt l) (j : Int) : cnt (put l k n) j = cnt l j + if j = k then n else 0 := by
  induction l with
  | nil =>
    rw [put, cnt, cnt]
    by_cases h : j = k
    · subst h; simp
    · rw [if_neg (fun e => h e.symm), if_neg h]; rfl
  | cons p l ih =>
    obtain ⟨h1, h2⟩ := srt_cons.1 hs
    rw [put]
    by_cases c1 : p.1 < k
    · rw [if_pos c1, cnt, cnt]
      by_cases hj : p.1 = j
      · rw [if_pos hj, if_pos hj, if_neg (by omega)]; omega
      · rw [if_neg hj, if_neg hj]; exact ih h2
    · rw [if_neg c1]
      by_cases c2 : p.1 = k
      · rw [if_pos c2, cnt, cnt]
        by_cases hj : j = k
        · subst hj; rw [if_pos rfl, if_pos c2, if_pos rfl]
        · rw [if_neg (fun e => hj e.symm), if_neg (fun e => hj (by omega)), if_neg hj]; omega
      · rw [if_neg c2, cnt]
        by_cases hj : j = k
        · subst hj
          rw [if_pos rfl, if_pos rfl, cnt, if_neg c2, cnt_lt (fun q hq => by have := h1 q hq; omega)]; omega
        · simp only
          rw [if_neg (fun e => hj e.symm), if_neg hj]; omega
theorem put_tot {l : List Pr} {k : Int} {n : Nat} : tot (put l k n) = tot l + n := by
  induction l with
  | nil => simp [put, tot]
  | cons p l ih =>
    rw [put]
    by_cases c1 : p.1 < k
    · rw [if_pos c1, tot_cons, tot_cons, ih]; omega
    · rw [if_neg c1]
      by_cases c2 : p.1 = k
      · rw [if_pos c2, tot_cons, tot_cons]; simp only; omega
      · rw [if_neg c2, tot_cons, tot_cons]; simp only; omega
theorem put_ne {l : List Pr} {k : Int} {n : Nat} : put l k n ≠ [] := by
  cases l with
  | nil => simp [put]
  | cons p l =>
    rw [put]
    by_cases c1 : p.1 < k
    · rw [if_pos c1]; simp
    · rw [if_neg c1]
      by_cases c2 : p.1 = k
      · rw [if_pos c2]; simp
      · rw [if_neg c2]; simp
theorem put_len {l : List Pr} {k : Int} {n : Nat} : (put l k n).length ≤ l.length + 1 := by
  induction l with
  | nil => simp [put]
  | cons p l ih =>
    rw [put]
    by_cases c1 : p.1 < k
    · rw [if_pos c1]; simp; omega
    · rw [if_neg c1]
      by_cases c2 : p.1 = k
      · rw [if_pos c2]; simp
      · rw [if_neg c2]; simp
theorem without_srt {l : List Pr} {k : Int} (hs : Srt l) : Srt (without l k) := List.Pairwise.filter _ hs
theorem without_pos {l : List Pr} {k : Int} (hp : Pos l) : Pos (without l k) := fun p h => hp p (List.mem_filter.1 h).1
theorem without_cnt {l : List Pr} {k : Int} (j : Int) : cnt (without l k) j = if j = k then 0 else cnt l j := by
  induction l with
  | nil => simp [without, cnt]
  | cons p l ih =>
    unfold without at ih ⊢
    rw [List.filter_cons]
    by_cases hk : p.1 = k
    · have : (p.1 != k) = false := by simp [hk]
      rw [this, if_neg (by simp), ih, cnt]
      by_cases hj : j = k
      · rw [if_pos hj, if_pos hj]
      · rw [if_neg hj, if_neg hj, if_neg (by omega)]
    · have : (p.1 != k) = true := by simp [hk]
      rw [this, if_pos rfl, cnt, ih, cnt]
      by_cases hj : p.1 = j
      · rw [if_pos hj, if_neg (by omega), if_pos hj]
      · rw [if_neg hj, if_neg hj]
theorem tot_le_of_mem {l : List Pr} {p : Pr} (h : p ∈ l) : p.2 ≤ tot l := by
  induction l with
  | nil => cases h
  | cons q l ih =>
    rw [tot_cons]
    rcases List.mem_cons.1 h with rfl | h
    · omega
    · have := ih h; omega
theorem without_tot {l : List Pr} {k : Int} (hs : Srt l) : tot (without l k) + cnt l k = tot l := by
  induction l with
  | nil => simp [without, tot, cnt]
  | cons p l ih =>
    obtain ⟨h1, h2⟩ := srt_cons.1 hs
    have ih := ih h2
    unfold without at ih ⊢
    rw [List.filter_cons, cnt, tot_cons]
    by_cases hk : p.1 = k
    · have : (p.1 != k) = false := by simp [hk]
      rw [this, if_neg (by simp), if_pos hk]
      rw [cnt_lt (l := l) (fun q hq => by have := h1 q hq; omega)] at ih
      omega
    · have : (p.1 != k) = true := by simp [hk]
      rw [this, if_pos rfl, if_neg hk, tot_cons]
      omega
/-- All pairs of m, too. -/
def puts (l m : List Pr) : List Pr := m.foldl (fun o p => put o p.1 p.2) l
theorem puts_nil (l : List Pr) : puts l [] = l := rfl
theorem puts_snoc (l m : List Pr) (p : Pr) : puts l (m ++ [p]) = put (puts l m) p.1 p.2 := by simp [puts]
theorem puts_facts {l m : List Pr} (hs : Srt l) (hp : Pos l) (hm : Pos m) : Srt (puts l m) ∧ Pos (puts l m) ∧ tot (puts l m) = tot l + tot m := by
  induction m generalizing l with
  | nil => exact ⟨hs, hp, by simp [puts, tot]⟩
  | cons p m ih =>
    obtain ⟨h1, h2⟩ := pos_cons.1 hm
    obtain ⟨a, b, c⟩ := ih (l := put l p.1 p.2) (put_srt hs) (put_pos hp h1) h2
    exact ⟨a, b, by rw [show puts l (p :: m) = puts (put l p.1 p.2) m from rfl, c, put_tot, tot_cons]; omega⟩
theorem puts_cnt {l m : List Pr} (hs : Srt l) (hm : Srt m) (j : Int) : cnt (puts l m) j = cnt l j + cnt m j := by
  induction m generalizing l with
  | nil => simp [puts, cnt]
  | cons p m ih =>
    obtain ⟨h1, h2⟩ := srt_cons.1 hm
    rw [show puts l (p :: m) = puts (put l p.1 p.2) m from rfl, ih (put_srt hs) h2, put_cnt hs, cnt]
    by_cases hj : p.1 = j
    · subst hj
      rw [if_pos rfl, if_pos rfl, cnt_lt h1]; omega
    · rw [if_neg hj, if_neg (fun e => hj e.symm)]; omega
theorem puts_len {l m : List Pr} : (puts l m).length ≤ l.length + m.length := by
  induction m generalizing l with
  | nil => simp [puts]
  | cons p m ih =>
    have h1 := ih (l := put l p.1 p.2)
    have h2 := put_len (l := l) (k := p.1) (n := p.2)
    rw [show puts l (p :: m) = puts (put l p.1 p.2) m from rfl]
    simp only [List.length_cons]; omega
end Pl
end Go.Proofs.Ytmpmjgoipfgfoaa
