/- Match, plain: what is alike, the best of what was there, the tokens. -/
namespace Go.Proofs.Ytcfmfhkajngknaa.Mt

/-- How many bytes are alike from i and from k on, at most f. -/
def sm (b : List UInt8) : Nat → Nat → Nat → Nat
  | _, _, 0 => 0
  | i, k, f + 1 => if k < b.length ∧ b[i]? = b[k]? then sm b (i + 1) (k + 1) f + 1 else 0
theorem sm_le (b : List UInt8) (f i k : Nat) : sm b i k f ≤ f := by
  induction f generalizing i k with
  | zero => simp [sm]
  | succ f ih =>
    unfold sm
    split
    · have := ih (i + 1) (k + 1); omega
    · omega
theorem sm_in (b : List UInt8) (f i k : Nat) : sm b i k f = 0 ∨ k + sm b i k f ≤ b.length := by
  induction f generalizing i k with
  | zero => simp [sm]
  | succ f ih =>
    unfold sm
    split
    · rename_i h
      rcases ih (i + 1) (k + 1) with h2 | h2 <;> omega
    · exact .inl rfl
theorem sm_get {b : List UInt8} {f i k n : Nat} (h : n < sm b i k f) : b[i + n]? = b[k + n]? ∧ k + n < b.length := by
  induction f generalizing i k n with
  | zero => simp [sm] at h
  | succ f ih =>
    unfold sm at h
    split at h
    · rename_i h2
      cases n with
      | zero => exact ⟨h2.2, h2.1⟩
      | succ n =>
        have := ih (i := i + 1) (k := k + 1) (n := n) (by omega)
        rw [show i + (n + 1) = i + 1 + n by omega, show k + (n + 1) = k + 1 + n by omega]
        exact this
    · omega
theorem sm_ge {b : List UInt8} {f i k n : Nat} (hf : n ≤ f) (h : ∀ j, j < n → b[i + j]? = b[k + j]? ∧ k + j < b.length) : n ≤ sm b i k f := by
  induction f generalizing i k n with
  | zero => omega
  | succ f ih =>
    cases n with
    | zero => exact Nat.zero_le _
    | succ n =>
      have h0 := h 0 (by omega)
      unfold sm
      rw [if_pos ⟨h0.2, h0.1⟩]
      have := ih (i := i + 1) (k := k + 1) (n := n) (by omega) (fun j hj => by
        have := h (j + 1) (by omega)
        rw [show i + (j + 1) = i + 1 + j by omega, show k + (j + 1) = k + 1 + j by omega] at this
        exact this)
      omega
/-- One step of the loop. -/
theorem sm_step {b : List UInt8} {f i k n : Nat} (hn : n < f) (h1 : k + n < b.length) (h2 : b[i + n]? = b[k + n]?) (h : n + sm b (i + n) (k + n) (f - n) = sm b i k f) : n + 1 + sm b (i + (n + 1)) (k + (n + 1)) (f - (n + 1)) = sm b i k f := by
  rw [← h, show f - n = f - (n + 1) + 1 by omega, sm, if_pos ⟨h1, h2⟩, show i + n + 1 = i + (n + 1) by omega, show k + n + 1 = k + (n + 1) by omega]
  omega
theorem sm_end {b : List UInt8} {f i k n : Nat} (hx : n = f ∨ ¬ k + n < b.length ∨ b[i + n]? ≠ b[k + n]?) (h : n + sm b (i + n) (k + n) (f - n) = sm b i k f) : n = sm b i k f := by
  rw [← h]
  have : sm b (i + n) (k + n) (f - n) = 0 := by
    cases hc : f - n with
    | zero => rfl
    | succ m =>
      unfold sm
      rw [if_neg]
      rintro ⟨h1, h2⟩
      rcases hx with h3 | h3 | h3
      · omega
      · exact h3 h1
      · exact h3 h2
  omega

/-- The three bytes at a place. -/
def at3 (b : List UInt8) (i : Nat) (x y z : UInt8) : Bool := b[i]? == some x && b[i + 1]? == some y && b[i + 2]? == some z
/-- The places, below n, at which three bytes stand. -/
def ps (b : List UInt8) (n : Nat) (x y z : UInt8) : List Nat := (List.range n).filter fun i => at3 b i x y z
theorem ps_mem {b : List UInt8} {n p : Nat} {x y z : UInt8} : p ∈ ps b n x y z ↔ p < n ∧ b[p]? = some x ∧ b[p + 1]? = some y ∧ b[p + 2]? = some z := by
  simp [ps, at3, and_assoc]
theorem ps_succ (b : List UInt8) (n : Nat) (x y z : UInt8) : ps b (n + 1) x y z = if at3 b n x y z then ps b n x y z ++ [n] else ps b n x y z := by
  unfold ps
  rw [List.range_succ, List.filter_append]
  by_cases h : at3 b n x y z
  · simp [h]
  · simp [h]
theorem ps_len (b : List UInt8) (n : Nat) (x y z : UInt8) : (ps b n x y z).length ≤ n := by
  have := List.length_filter_le (fun i => at3 b i x y z) (List.range n)
  simpa [ps] using this
theorem ps_sorted (b : List UInt8) (n : Nat) (x y z : UInt8) : (ps b n x y z).Pairwise (· < ·) := List.Pairwise.filter _ List.pairwise_lt_range

/-- The best of what was there: from the nearest place on; the first of the longest. -/
def scan (b : List UInt8) (a : Nat) : List Nat → Nat × Nat → Nat × Nat
  | [], t => t
  | p :: r, t => if 32768 < a - p then t else
      if (if t.1 < sm b p a 258 then (sm b p a 258, a - p) else t).1 = 258 then (if t.1 < sm b p a 258 then (sm b p a 258, a - p) else t) else scan b a r (if t.1 < sm b p a 258 then (sm b p a 258, a - p) else t)
/-- The longest, and the nearest of these, among the places that P tells. -/
def Best (b : List UInt8) (a : Nat) (P : Nat → Prop) (t : Nat × Nat) : Prop :=
  (t = (0, 0) ∧ ∀ p, P p → sm b p a 258 = 0) ∨ ∃ p, P p ∧ 0 < t.1 ∧ t = (sm b p a 258, a - p) ∧ ∀ p', P p' → sm b p' a 258 ≤ t.1 ∧ (p < p' → sm b p' a 258 < t.1)
theorem Best.unique {b : List UInt8} {a : Nat} {P : Nat → Prop} {t t' : Nat × Nat} (h : Best b a P t) (h' : Best b a P t') : t = t' := by
  rcases h with ⟨rfl, h⟩ | ⟨p, hp, h0, rfl, h⟩
  · rcases h' with ⟨rfl, _⟩ | ⟨p, hp, h0, rfl, _⟩
    · rfl
    · rw [h p hp] at h0; simp at h0
  · rcases h' with ⟨rfl, h'⟩ | ⟨q, hq, h0', rfl, h'⟩
    · rw [h' p hp] at h0; simp at h0
    · have e1 := h q hq
      have e2 := h' p hp
      simp only at e1 e2
      rcases Nat.lt_trichotomy p q with hlt | rfl | hlt
      · have := e1.2 hlt; omega
      · rfl
      · have := e2.2 hlt; omega
theorem scan_best {b : List UInt8} {a : Nat} {L : List Nat} {t : Nat × Nat} {P : Nat → Prop} (hL : L.Pairwise (· > ·)) (ha : ∀ p ∈ L, p < a) (hP : ∀ p, P p → ∀ q ∈ L, q < p) (h : Best b a P t) (ht : t.1 < 258) :
    Best b a (fun p => P p ∨ (p ∈ L ∧ a - p ≤ 32768)) (scan b a L t) := by
  induction L generalizing t P with
  | nil =>
    simp only [scan]
    refine h.imp (fun ⟨e, h⟩ => ⟨e, fun p hp => ?_⟩) (fun ⟨p, hp, h0, e, h⟩ => ⟨p, .inl hp, h0, e, fun p' hp' => ?_⟩)
    · rcases hp with hp | ⟨hp, _⟩
      · exact h p hp
      · simp at hp
    · rcases hp' with hp' | ⟨hp', _⟩
      · exact h p' hp'
      · simp at hp'
  | cons p r ih =>
    have hpr := List.pairwise_cons.1 hL
    unfold scan
    by_cases hw : 32768 < a - p
    · rw [if_pos hw]
      have hno : ∀ q, q ∈ p :: r → ¬ a - q ≤ 32768 := fun q hq => by
        rcases List.mem_cons.1 hq with rfl | hq
        · omega
        · have := hpr.1 q hq
          have := ha p (by simp)
          omega
      refine h.imp (fun ⟨e, h⟩ => ⟨e, fun q hq => ?_⟩) (fun ⟨p0, hp, h0, e, h⟩ => ⟨p0, .inl hp, h0, e, fun q hq => ?_⟩)
      · rcases hq with hq | ⟨hq, hq2⟩
        · exact h q hq
        · exact absurd hq2 (hno q hq)
      · rcases hq with hq | ⟨hq, hq2⟩
        · exact h q hq
        · exact absurd hq2 (hno q hq)
    · rw [if_neg hw]
      have hstep : Best b a (fun q => P q ∨ q = p) (if t.1 < sm b p a 258 then (sm b p a 258, a - p) else t) := by
        by_cases hlt : t.1 < sm b p a 258
        · rw [if_pos hlt]
          refine .inr ⟨p, .inr rfl, by simp only; omega, rfl, fun q hq => ?_⟩
          rcases hq with hq | rfl
          · have hpq := hP q hq p (by simp)
            have : sm b q a 258 ≤ t.1 := by
              rcases h with ⟨rfl, h⟩ | ⟨p0, _, _, _, h⟩
              · rw [h q hq]; exact Nat.zero_le _
              · exact (h q hq).1
            simp only
            omega
          · exact ⟨Nat.le_refl _, fun hh => absurd hh (Nat.lt_irrefl _)⟩
        · rw [if_neg hlt]
          rcases h with ⟨rfl, h⟩ | ⟨p0, hp0, h0, e, h⟩
          · refine .inl ⟨rfl, fun q hq => ?_⟩
            rcases hq with hq | rfl
            · exact h q hq
            · simp only at hlt; omega
          · refine .inr ⟨p0, .inl hp0, h0, e, fun q hq => ?_⟩
            rcases hq with hq | rfl
            · exact h q hq
            · have := hP p0 hp0 q (by simp)
              exact ⟨by omega, fun hh => by omega⟩
      generalize (if t.1 < sm b p a 258 then (sm b p a 258, a - p) else t) = t2 at *
      by_cases hm : t2.1 = 258
      · rw [if_pos hm]
        rcases hstep with ⟨rfl, _⟩ | ⟨p0, hp0, h0, e, h2⟩
        · simp at hm
        · refine .inr ⟨p0, hp0.imp id (fun e => ⟨by simp [e], by subst e; omega⟩), h0, e, fun q hq => ?_⟩
          have hle := sm_le b 258 q a
          rcases hq with hq | ⟨hq, hq2⟩
          · exact h2 q (.inl hq)
          · rcases List.mem_cons.1 hq with rfl | hq
            · exact h2 q (.inr rfl)
            · refine ⟨by omega, fun hh => ?_⟩
              have h5 := hpr.1 q hq
              rcases hp0 with hp0 | rfl
              · have := hP p0 hp0 q (by simp [hq])
                omega
              · omega
      · rw [if_neg hm]
        have hle : t2.1 < 258 := by
          rcases hstep with ⟨rfl, _⟩ | ⟨p0, _, _, e, _⟩
          · simp
          · have := sm_le b 258 p0 a
            rw [e] at hm ⊢
            simp only at hm ⊢
            omega
        have hih := ih (t := t2) (P := fun q => P q ∨ q = p) hpr.2 (fun q hq => ha q (by simp [hq])) (fun q hq q' hq' => by
          rcases hq with hq | rfl
          · exact hP q hq q' (by simp [hq'])
          · exact hpr.1 q' hq') hstep hle
        have hiff : ∀ q, ((P q ∨ q = p) ∨ (q ∈ r ∧ a - q ≤ 32768)) ↔ (P q ∨ (q ∈ p :: r ∧ a - q ≤ 32768)) := fun q => by
          constructor
          · rintro ((h | rfl) | ⟨h, h2⟩)
            · exact .inl h
            · exact .inr ⟨by simp, by omega⟩
            · exact .inr ⟨by simp [h], h2⟩
          · rintro (h | ⟨h, h2⟩)
            · exact .inl (.inl h)
            · rcases List.mem_cons.1 h with rfl | h
              · exact .inl (.inr rfl)
              · exact .inr ⟨h, h2⟩
        rw [show (fun q => (P q ∨ q = p) ∨ (q ∈ r ∧ a - q ≤ 32768)) = (fun q => P q ∨ (q ∈ p :: r ∧ a - q ≤ 32768)) from funext fun q => propext (hiff q)] at hih
        exact hih
end Go.Proofs.Ytcfmfhkajngknaa.Mt
