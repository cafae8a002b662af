/- Match, plain: texts that repeat themselves; a text whose like lies far behind. -/
import Derived.Test.YtcfmfhkajngknaaMatchToks
namespace Go.Proofs.Ytcfmfhkajngknaa.Mt

/-- Of a text with a period: behind the first period a token is as long as it may be, and not from farther back. -/
theorem tok_long {t : List UInt8} {p a : Nat} (hp : 1 ≤ p) (hp2 : p ≤ 300) (hper : ∀ i : Nat, i + p < t.length → t[i + p]? = t[i]?) (ha : p ≤ a) (hal : a < t.length) :
    (3 ≤ min 258 (t.length - a) → (tok t a).1 = min 258 (t.length - a) ∧ 1 ≤ (tok t a).2 ∧ (tok t a).2 ≤ p) ∧ (min 258 (t.length - a) < 3 → tok t a = (0, 0)) := by
  constructor
  · intro h3
    have hge : min 258 (t.length - a) ≤ sm t (a - p) a 258 := sm_ge (by omega) fun j hj => by
      have := hper (a - p + j) (by omega)
      rw [show a - p + j + p = a + j by omega] at this
      exact ⟨this.symm, by omega⟩
    rcases tok_scan (b := t) (a := a) (by omega) with ⟨_, h⟩ | ⟨q, ⟨hq1, hq2, hq3⟩, h0, e, h⟩
    · have := h (a - p) ⟨by omega, by omega, by omega⟩
      omega
    · have h1 := h (a - p) ⟨by omega, by omega, by omega⟩
      have h2 := sm_le t 258 q a
      have h4 := sm_in t 258 q a
      rw [e] at h1 ⊢
      simp only at h1 ⊢
      refine ⟨by omega, by omega, ?_⟩
      rcases Nat.lt_or_ge q (a - p) with hlt | hge2
      · have := h1.2 hlt
        omega
      · omega
  · intro h3
    unfold tok
    rw [if_neg (by omega)]

section
variable {b T : List UInt8} {s : Nat} (hn : 3 ≤ b.length) (hn2 : b.length ≤ 40) (hs : 32768 ≤ s) (hT : T.length = s + b.length)
  (h1 : ∀ i : Nat, i < b.length → T[i]? = b[i]?) (h2 : ∀ i : Nat, b.length ≤ i → i < s → T[i]? = some 7) (h3 : ∀ i : Nat, T[s + i]? = b[i]?) (h7 : ∀ i : Nat, b[i]? ≠ some 7)
include hn hn2 hs hT h1 h2 h3 h7
/-- No token reaches from the 7s into the second text. -/
theorem far_cross {a : Nat} (ha : a < s) : a + max 1 (tok T a).1 ≤ s := by
  rcases tok_is T a with h | ⟨p, hp, _, h4, _, h⟩
  · rw [h]; simp only; omega
  · rw [h]
    simp only
    rcases Nat.lt_or_ge s (a + sm T p a 258) with hx | hx
    · exfalso
      have e1 := (sm_get (b := T) (f := 258) (i := p) (k := a) (n := s - a) (by omega)).1
      have e2 := (sm_get (b := T) (f := 258) (i := p) (k := a) (n := s - a - 1) (by omega)).1
      rw [show a + (s - a) = s + 0 by omega, h3] at e1
      rw [show a + (s - a - 1) = s - 1 by omega, h2 (s - 1) (by omega) (by omega)] at e2
      rcases Nat.lt_or_ge (p + (s - a)) b.length with h5 | h5
      · rw [h1 _ (by omega)] at e2
        exact h7 _ e2
      · rw [h2 _ h5 (by omega)] at e1
        exact h7 _ e1.symm
    · omega
theorem far_pre : ∀ n a, a ≤ s → s - a ≤ n → ∃ pre, toks T a = pre ++ toks T s := by
  intro n
  induction n with
  | zero =>
    intro a h4 h5
    obtain rfl : a = s := by omega
    exact ⟨[], rfl⟩
  | succ n ih =>
    intro a h4 h5
    rcases Nat.lt_or_ge a s with h6 | h6
    · have hc := far_cross hn hn2 hs hT h1 h2 h3 h7 h6
      obtain ⟨pre, hpre⟩ := ih _ hc (by omega)
      exact ⟨mk T a :: pre, by rw [toks_step (by omega), hpre]; rfl⟩
    · obtain rfl : a = s := by omega
      exact ⟨[], rfl⟩
omit hs in
theorem far_at (h0 : s = 32768) : toks T s = [(0, b.length, 32768)] := by
  have hsm : sm T 0 s 258 = b.length := by
    have hle := sm_in T 258 0 s
    have hge : b.length ≤ sm T 0 s 258 := sm_ge (by omega) fun j hj => ⟨by rw [h3, Nat.zero_add, h1 j hj], by omega⟩
    omega
  have htok : tok T s = (b.length, 32768) := by
    rcases tok_scan (b := T) (a := s) (by omega) with ⟨_, h⟩ | ⟨q, ⟨hq1, hq2, hq3⟩, _, e, h⟩
    · have := h 0 ⟨by omega, by omega, by omega⟩
      omega
    · have h4 := (h 0 ⟨by omega, by omega, by omega⟩).1
      have h5 := sm_in T 258 q s
      rw [e] at h4 ⊢
      simp only at h4
      have h6 : sm T q s 258 = b.length := by omega
      have e0 := (sm_get (b := T) (f := 258) (i := q) (k := s) (n := 0) (by omega)).1
      rw [h3] at e0
      rcases Nat.lt_or_ge q b.length with h8 | h8
      · rcases Nat.eq_zero_or_pos q with rfl | hq
        · rw [h6, h0]
        · exfalso
          have e1 := (sm_get (b := T) (f := 258) (i := q) (k := s) (n := b.length - q) (by omega)).1
          rw [h3, h2 _ (by omega) (by omega)] at e1
          exact h7 _ e1.symm
      · exfalso
        rw [Nat.add_zero, h2 _ h8 hq1] at e0
        exact h7 _ e0.symm
  rw [toks_step (by omega), htok, toks_end (by simp only; omega)]
  unfold mk
  rw [htok, if_neg (by simp only; omega)]
omit hs h1 in
/-- The last token comes from near. -/
theorem far_last (h0 : 32768 < s) : ∀ a, a ≤ T.length → s ≤ a → ∀ d ∈ (toks T a).getLast?, d.2.2 ≤ b.length := by
  refine toks_ind (P := fun a => s ≤ a → ∀ d ∈ (toks T a).getLast?, d.2.2 ≤ b.length) ?_ ?_
  · intro _ d hd
    rw [toks_end (Nat.le_refl _)] at hd
    simp at hd
  · intro a ha ih hsa d hd
    have hto := tok_to T ha
    rw [toks_step ha] at hd
    rcases Nat.lt_or_ge (a + max 1 (tok T a).1) T.length with hlt | hge
    · refine ih (by omega) d ?_
      rw [toks_step hlt] at hd ⊢
      simpa using hd
    · rw [toks_end hge] at hd
      simp only [List.getLast?_singleton, Option.mem_def, Option.some.injEq] at hd
      subst hd
      rw [mk_back]
      rcases tok_is T a with h | ⟨p, hp, h4, h5, h6, h⟩
      · rw [h]; exact Nat.zero_le _
      · rw [h] at hge ⊢
        simp only at hge ⊢
        have e0 := (sm_get (b := T) (f := 258) (i := p) (k := a) (n := 0) (by omega)).1
        rcases Nat.lt_or_ge p b.length with h8 | h8
        · exfalso
          have e1 := (sm_get (b := T) (f := 258) (i := p) (k := a) (n := b.length - p) (by omega)).1
          rw [h2 _ (by omega) (by omega), show a + (b.length - p) = s + (a - s + (b.length - p)) by omega, h3] at e1
          exact h7 _ e1.symm
        · rcases Nat.lt_or_ge p s with h9 | h9
          · exfalso
            rw [Nat.add_zero, h2 _ h8 h9, show a + 0 = s + (a - s) by omega, h3] at e0
            exact h7 _ e0.symm
          · omega
end
end Go.Proofs.Ytcfmfhkajngknaa.Mt
