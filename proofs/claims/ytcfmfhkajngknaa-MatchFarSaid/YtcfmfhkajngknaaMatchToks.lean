/- Match, plain: the tokens of a text; what they tell, and weigh. -/
import Derived.Test.YtcfmfhkajngknaaMatchPlain
namespace Go.Proofs.Ytcfmfhkajngknaa.Mt

/-- The token at a place: how long, how far back; (0, 0): a byte. -/
def tok (b : List UInt8) (a : Nat) : Nat × Nat := if a + 3 ≤ b.length then scan b a (ps b a (b.getD a 0) (b.getD (a + 1) 0) (b.getD (a + 2) 0)).reverse (0, 0) else (0, 0)
theorem sm_three {b : List UInt8} {p a : Nat} (ha : a + 3 ≤ b.length) (_ : p < a) : 3 ≤ sm b p a 258 ↔ (b[p]? = some (b.getD a 0) ∧ b[p + 1]? = some (b.getD (a + 1) 0) ∧ b[p + 2]? = some (b.getD (a + 2) 0)) := by
  have e : ∀ j, j < 3 → b[a + j]? = some (b.getD (a + j) 0) := fun j hj => by
    rw [List.getElem?_eq_getElem (by omega), List.getD_eq_getElem?_getD, List.getElem?_eq_getElem (by omega)]
    rfl
  constructor
  · intro h
    have h0 := sm_get (b := b) (f := 258) (i := p) (k := a) (n := 0) (by omega)
    have h1 := sm_get (b := b) (f := 258) (i := p) (k := a) (n := 1) (by omega)
    have h2 := sm_get (b := b) (f := 258) (i := p) (k := a) (n := 2) (by omega)
    exact ⟨h0.1.trans (e 0 (by omega)), h1.1.trans (e 1 (by omega)), h2.1.trans (e 2 (by omega))⟩
  · rintro ⟨h0, h1, h2⟩
    refine sm_ge (by omega) fun j hj => ⟨?_, by omega⟩
    rw [e j hj]
    match j, hj with
    | 0, _ => exact h0
    | 1, _ => exact h1
    | 2, _ => exact h2
theorem tok_scan {b : List UInt8} {a : Nat} (ha : a + 3 ≤ b.length) : Best b a (fun p => p < a ∧ a - p ≤ 32768 ∧ 3 ≤ sm b p a 258) (tok b a) := by
  unfold tok
  rw [if_pos ha]
  have h := scan_best (b := b) (a := a) (L := (ps b a (b.getD a 0) (b.getD (a + 1) 0) (b.getD (a + 2) 0)).reverse) (t := (0, 0)) (P := fun _ => False)
    (by rw [List.pairwise_reverse]; exact ps_sorted _ _ _ _ _) (fun p hp => (ps_mem.1 (by simpa using hp)).1) (fun _ h => h.elim) (.inl ⟨rfl, fun _ h => h.elim⟩) (by simp)
  have e : (fun p => False ∨ (p ∈ (ps b a (b.getD a 0) (b.getD (a + 1) 0) (b.getD (a + 2) 0)).reverse ∧ a - p ≤ 32768)) = (fun p => p < a ∧ a - p ≤ 32768 ∧ 3 ≤ sm b p a 258) := by
    funext p
    apply propext
    rw [List.mem_reverse, ps_mem]
    constructor
    · rintro (h | ⟨⟨h1, h2⟩, h3⟩)
      · exact h.elim
      · exact ⟨h1, h3, (sm_three ha h1).2 h2⟩
    · rintro ⟨h1, h2, h3⟩
      exact .inr ⟨⟨h1, (sm_three ha h1).1 h3⟩, h2⟩
  rw [e] at h
  exact h
/-- The token is the document's: the best of all places, where it is long enough. -/
theorem tok_best {b : List UInt8} {a : Nat} {t : Nat × Nat} (h : Best b a (fun p => p < a ∧ a - p ≤ 32768) t) : tok b a = if 3 ≤ t.1 then t else (0, 0) := by
  by_cases ha : a + 3 ≤ b.length
  · refine (tok_scan ha).unique ?_
    split
    · rename_i h3
      rcases h with ⟨rfl, _⟩ | ⟨p, hp, h0, rfl, h⟩
      · simp at h3
      · exact .inr ⟨p, ⟨hp.1, hp.2, h3⟩, h0, rfl, fun p' hp' => h p' ⟨hp'.1, hp'.2.1⟩⟩
    · rename_i h3
      refine .inl ⟨rfl, fun p hp => ?_⟩
      rcases h with ⟨rfl, h⟩ | ⟨p0, _, _, _, h⟩
      · exact h p ⟨hp.1, hp.2.1⟩
      · have := (h p ⟨hp.1, hp.2.1⟩).1
        omega
  · unfold tok
    rw [if_neg ha, if_neg]
    intro h3
    rcases h with ⟨rfl, _⟩ | ⟨p, _, h0, rfl, _⟩
    · simp at h3
    · rcases sm_in b 258 p a with h1 | h1
      · rw [h1] at h3; simp at h3
      · simp only at h3; omega
/-- What a token is. -/
theorem tok_is (b : List UInt8) (a : Nat) : tok b a = (0, 0) ∨ ∃ p, p < a ∧ a - p ≤ 32768 ∧ 3 ≤ sm b p a 258 ∧ a + sm b p a 258 ≤ b.length ∧ tok b a = (sm b p a 258, a - p) := by
  by_cases ha : a + 3 ≤ b.length
  · rcases tok_scan ha with ⟨h, _⟩ | ⟨p, hp, h0, h, _⟩
    · exact .inl h
    · refine .inr ⟨p, hp.1, hp.2.1, hp.2.2, ?_, h⟩
      rcases sm_in b 258 p a with h1 | h1
      · omega
      · exact h1
  · left
    unfold tok
    rw [if_neg ha]
theorem tok_len (b : List UInt8) (a : Nat) : ((tok b a).1 = 0 ∧ (tok b a).2 = 0) ∨ (3 ≤ (tok b a).1 ∧ (tok b a).1 ≤ 258 ∧ a + (tok b a).1 ≤ b.length ∧ 1 ≤ (tok b a).2 ∧ (tok b a).2 ≤ a ∧ (tok b a).2 ≤ 32768) := by
  rcases tok_is b a with h | ⟨p, h1, h2, h3, h4, h⟩
  · rw [h]; exact .inl ⟨rfl, rfl⟩
  · right
    have := sm_le b 258 p a
    rw [h]
    simp only
    omega
theorem tok_to (b : List UInt8) {a : Nat} (h : a < b.length) : a + max 1 (tok b a).1 ≤ b.length := by
  rcases tok_len b a with h1 | h1 <;> omega

/-- A token: its byte, how long, how far back. -/
abbrev Tk := UInt8 × Nat × Nat
def mk (b : List UInt8) (a : Nat) : Tk := if (tok b a).1 = 0 then (b.getD a 0, 0, 0) else (0, (tok b a).1, (tok b a).2)
theorem mk_len (b : List UInt8) (a : Nat) : (mk b a).2.1 = (tok b a).1 := by
  unfold mk
  split
  · rename_i h; exact h.symm
  · rfl
theorem mk_back (b : List UInt8) (a : Nat) : (mk b a).2.2 = (tok b a).2 := by
  unfold mk
  split
  · rcases tok_len b a with h | h
    · exact h.2.symm
    · omega
  · rfl
/-- The tokens from a place on. -/
def toks (b : List UInt8) (a : Nat) : List Tk := if a < b.length then mk b a :: toks b (a + max 1 (tok b a).1) else []
termination_by b.length - a
theorem toks_step {b : List UInt8} {a : Nat} (h : a < b.length) : toks b a = mk b a :: toks b (a + max 1 (tok b a).1) := by rw [toks, if_pos h]
theorem toks_end {b : List UInt8} {a : Nat} (h : b.length ≤ a) : toks b a = [] := by rw [toks, if_neg (by omega)]
/-- By steps, for reckoning. -/
def toksF (b : List UInt8) : Nat → Nat → List Tk
  | 0, _ => []
  | n + 1, a => if a < b.length then mk b a :: toksF b n (a + max 1 (tok b a).1) else []
theorem toks_F (b : List UInt8) (n a : Nat) (h : b.length ≤ a + n) : toks b a = toksF b n a := by
  induction n generalizing a with
  | zero => rw [toks_end (by omega)]; rfl
  | succ n ih =>
    unfold toksF
    split
    · rename_i h2
      rw [toks_step h2, ih _ (by omega)]
    · exact toks_end (by omega)
theorem toks_ind {b : List UInt8} {P : Nat → Prop} (h0 : P b.length) (h : ∀ a, a < b.length → P (a + max 1 (tok b a).1) → P a) : ∀ a, a ≤ b.length → P a := by
  have H : ∀ n a, a ≤ b.length → b.length - a ≤ n → P a := by
    intro n
    induction n with
    | zero =>
      intro a h1 h2
      obtain rfl : a = b.length := by omega
      exact h0
    | succ n ih =>
      intro a h1 h2
      rcases Nat.lt_or_ge a b.length with h3 | h3
      · exact h a h3 (ih _ (tok_to b h3) (by omega))
      · obtain rfl : a = b.length := by omega
        exact h0
  exact fun a ha => H _ a ha (Nat.le_refl _)

theorem toks_length {b : List UInt8} : ∀ a, a ≤ b.length → (toks b a).length ≤ b.length - a :=
  toks_ind (by rw [toks_end (Nat.le_refl _)]; simp) fun a h ih => by
    rw [toks_step h, List.length_cons]
    omega

/-- So many bytes, each from so far back. -/
def copyN (b : List UInt8) (k : Nat) : Nat → List UInt8
  | 0 => b
  | n + 1 => copyN b k n ++ [(copyN b k n).getD ((copyN b k n).length - k) 0]
theorem copyN_length (b : List UInt8) (k n : Nat) : (copyN b k n).length = b.length + n := by
  induction n with
  | zero => rfl
  | succ n ih => simp [copyN, ih]; omega
/-- What a token tells behind a text. -/
def tell1 (b : List UInt8) (t : Tk) : List UInt8 := if t.2.2 = 0 then b ++ [t.1] else copyN b t.2.2 t.2.1
/-- May it be? -/
def RightT (t : Tk) (n : Nat) : Prop := (t.2.1 = 0 ∧ t.2.2 = 0 ∧ n < 1048576) ∨ (t.1 = 0 ∧ 1 ≤ t.2.2 ∧ t.2.2 ≤ 32768 ∧ t.2.2 ≤ n ∧ 3 ≤ t.2.1 ∧ t.2.1 ≤ 258 ∧ t.2.1 + n ≤ 1048576)
def Rights : List UInt8 → List Tk → Prop
  | _, [] => True
  | b, t :: l => RightT t b.length ∧ Rights (tell1 b t) l
theorem tell_mk {b : List UInt8} {a : Nat} (h : a < b.length) : tell1 (b.take a) (mk b a) = b.take (a + max 1 (tok b a).1) := by
  rcases tok_is b a with h1 | ⟨p, h1, h2, h3, h4, h5⟩
  · unfold tell1 mk
    rw [h1]
    simp only [if_true]
    rw [show a + max 1 0 = a + 1 by omega, List.take_succ_eq_append_getElem h, List.getD_eq_getElem?_getD, List.getElem?_eq_getElem h]
    rfl
  · have hm : mk b a = (0, sm b p a 258, a - p) := by
      unfold mk
      rw [h5, if_neg (by simp only; omega)]
    rw [hm, h5]
    unfold tell1
    simp only
    rw [if_neg (by omega)]
    have H : ∀ n, n ≤ sm b p a 258 → copyN (b.take a) (a - p) n = b.take (a + n) := by
      intro n
      induction n with
      | zero => intro _; rfl
      | succ n ih =>
        intro hn
        have hg := sm_get (b := b) (f := 258) (i := p) (k := a) (n := n) (by omega)
        rw [copyN, ih (by omega), List.length_take, Nat.min_eq_left (by omega), show a + n - (a - p) = p + n by omega, ← Nat.add_assoc, List.take_succ_eq_append_getElem (by omega)]
        rw [List.getD_eq_getElem?_getD, List.getElem?_take, if_pos (by omega), hg.1, List.getElem?_eq_getElem (by omega)]
        rfl
    rw [H _ (Nat.le_refl _), Nat.max_eq_right (by omega)]
theorem mk_right {b : List UInt8} {a : Nat} (h : a < b.length) (hm : b.length ≤ 1048576) : RightT (mk b a) a := by
  unfold RightT mk
  rcases tok_len b a with h1 | h1
  · rw [if_pos h1.1]
    exact .inl ⟨rfl, rfl, by omega⟩
  · rw [if_neg (by omega)]
    exact .inr ⟨rfl, by simp only; omega⟩
theorem toks_right {b : List UInt8} (hm : b.length ≤ 1048576) : ∀ a, a ≤ b.length → Rights (b.take a) (toks b a) :=
  toks_ind (by rw [toks_end (Nat.le_refl _)]; trivial) fun a h ih => by
    rw [toks_step h]
    refine ⟨?_, ?_⟩
    · rw [List.length_take, Nat.min_eq_left (by omega)]
      exact mk_right h hm
    · rw [tell_mk h]
      exact ih
theorem toks_tell {b : List UInt8} : ∀ a, a ≤ b.length → (toks b a).foldl tell1 (b.take a) = b :=
  toks_ind (by rw [toks_end (Nat.le_refl _), List.take_length]; rfl) fun a h ih => by
    rw [toks_step h, List.foldl_cons, tell_mk h]
    exact ih

/-- How many are bytes, how many aren't, how many bytes these tell. -/
def weigh : List Tk → Nat × Nat × Nat
  | [] => (0, 0, 0)
  | t :: l => if t.2.2 = 0 then ((weigh l).1 + 1, (weigh l).2.1, (weigh l).2.2) else ((weigh l).1, (weigh l).2.1 + 1, (weigh l).2.2 + t.2.1)
theorem weigh_length (l : List Tk) : (weigh l).1 + (weigh l).2.1 = l.length := by
  induction l with
  | nil => rfl
  | cons t l ih =>
    unfold weigh
    split <;> simp only [List.length_cons] <;> omega
theorem toks_weigh {b : List UInt8} : ∀ a, a ≤ b.length → (weigh (toks b a)).1 + (weigh (toks b a)).2.2 = b.length - a ∧ 3 * (weigh (toks b a)).2.1 ≤ (weigh (toks b a)).2.2 ∧ (weigh (toks b a)).2.2 ≤ 258 * (weigh (toks b a)).2.1 :=
  toks_ind (by rw [toks_end (Nat.le_refl _)]; simp [weigh]) fun a h ih => by
    rw [toks_step h, weigh, mk_back, mk_len]
    rcases tok_len b a with h1 | h1
    · rw [if_pos h1.2]
      simp only
      omega
    · rw [if_neg (by omega)]
      simp only
      omega
end Go.Proofs.Ytcfmfhkajngknaa.Mt
