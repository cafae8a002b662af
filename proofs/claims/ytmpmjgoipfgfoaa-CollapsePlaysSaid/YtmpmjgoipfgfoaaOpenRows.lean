/- What the row's reading of an argument gives to the walks: slices whose elements have several cells. Over any program. -/
import Derived.Test.YtmpmjgoipfgfoaaOpen
import Derived.Deep.Strs
namespace Go.Proofs.Ytmpmjgoipfgfoaa
open Go.ChangeShapes Go.WideShapes Go.ChangeAt Go.RowKit
section
variable {H : Type} {enc : TypeId × Value → H} {P : Program} {w : World} {base : Nat} {spare : Nat → Bool} {held : Bool}
theorem flatMap_get {α : Type} {val : α → List Value} {s : Nat} (hlen : ∀ a, (val a).length = s) {l : List α} {j : Nat} {u : Value} (h : (l.flatMap val)[j]? = some u) : ∃ a, l[j / s]? = some a ∧ (val a)[j % s]? = some u := by
  induction l generalizing j with
  | nil => simp at h
  | cons a l ih =>
    rw [List.flatMap_cons] at h
    by_cases hj : j < s
    · rw [List.getElem?_append_left (by rw [hlen]; exact hj)] at h
      rw [Nat.div_eq_of_lt hj, Nat.mod_eq_of_lt hj]
      exact ⟨a, rfl, h⟩
    · have hs : 0 < s := by
        rcases Nat.eq_zero_or_pos s with h0 | h0
        · subst h0
          have hnil : ∀ b, val b = [] := fun b => List.eq_nil_of_length_eq_zero (hlen b)
          have : (val a ++ l.flatMap val) = [] := by
            rw [hnil a]
            have e : ∀ m : List α, m.flatMap val = [] := fun m => by
              induction m with
              | nil => rfl
              | cons b m ihm => rw [List.flatMap_cons, hnil b, ihm]; rfl
            rw [e]; rfl
          rw [this] at h
          simp at h
        · exact h0
      rw [List.getElem?_append_right (by rw [hlen]; omega), hlen] at h
      obtain ⟨b, h1, h2⟩ := ih h
      have e1 : j / s = (j - s) / s + 1 := by
        rw [show j = (j - s) + s by omega, Nat.add_div_right _ hs]
        simp
      have e2 : j % s = (j - s) % s := by
        rw [show j = (j - s) + s by omega, Nat.add_mod_right]
        simp
      rw [e1, e2]
      exact ⟨b, by simpa using h1, h2⟩
theorem flatMap_len {α : Type} {val : α → List Value} {s : Nat} (hlen : ∀ a, (val a).length = s) (l : List α) : (l.flatMap val).length = l.length * s := by
  induction l with
  | nil => simp
  | cons a l ih => rw [List.flatMap_cons, List.length_append, hlen, ih, List.length_cons, Nat.add_mul, Nat.one_mul, Nat.add_comm]
theorem open_rows {t e : TypeId} {s : Nat} {r : Reach} {b0 : Nat} {v : Value} {d : DataW H} {p : List MemPlace} (ht : P.underlying t = some (.slice e)) (hC : P.cellsOf e = s) (hs : 0 < s)
    (hv : Value.okWide P w r b0 t v) (h : DataW.Trod enc P w base spare held t v d p) {α : Type} (val : α → List Value) (hlen : ∀ a, (val a).length = s) (ok : α → Prop)
    (hel : ∀ (n : Nat) (cs : List Value) (y : DataW H × List MemPlace), cs.length = s → DataW.trod enc P w base spare held n e cs = some y → ∃ a, cs = val a ∧ ok a) :
    ∃ (A : Option Addr) (c : Nat) (l : List α), v = .slice A l.length c ∧ l.length ≤ maxLen ∧ l.length ≤ c ∧ (∀ a ∈ l, ok a) ∧ Reads w w.heap.size s A l.length (l.flatMap val) := by
  obtain ⟨a, len, cap, rfl⟩ := okWide_slice ht hv
  obtain ⟨fuel, hf⟩ := h
  rcases Go.Deep.open_slice ht hf with ⟨hcs, _⟩ | ⟨x, l, c, m, n, D, Pl, hcs, _, hl, hm, hmm, _, hV⟩
  · simp [Value.cells] at hcs
    obtain ⟨rfl, rfl, rfl⟩ := hcs
    exact ⟨none, 0, [], rfl, by simp, by simp, by simp, Reads.empty _ _ _ _⟩
  · simp [Value.cells] at hcs
    obtain ⟨rfl, rfl, rfl⟩ := hcs
    rw [hC] at hV
    have hlm : len ≤ m := by rw [hmm]; split <;> omega
    have hpick : ∀ i, i < len → ∃ a, ok a ∧ ∀ k, k < s → w.cell? ((x.add (i * s)).add k) = (val a)[k]? := fun i hi => by
      obtain ⟨cs', h1, h2⟩ := hV i (by omega)
      obtain ⟨_, hl2, hc2⟩ := World.cells?_some h1
      obtain ⟨a, rfl, hok⟩ := hel n cs' _ hl2 h2
      exact ⟨a, hok, hc2⟩
    by_cases h0 : len = 0
    · subst h0
      exact ⟨some x, cap, [], rfl, by simp, by simp, by simp, Reads.empty _ _ _ _⟩
    · obtain ⟨a0, _, h0c⟩ := hpick 0 (by omega)
      haveI : Inhabited α := ⟨a0⟩
      obtain ⟨F, hF⟩ := Go.Deep.choose_lt hpick
      have h00 := h0c 0 hs
      have h0v : ∃ u, (val a0)[0]? = some u := ⟨(val a0)[0]'(by rw [hlen]; exact hs), by simp [hlen, hs]⟩
      obtain ⟨u0, hu0⟩ := h0v
      rw [hu0, add_assoc] at h00
      obtain ⟨b, o, sp⟩ := x
      have hsp : sp = none := by
        have := World.cell?_spot h00
        simpa [Addr.add] using this
      subst hsp
      refine ⟨some ⟨b, o, none⟩, cap, (List.range len).map F, by simp, by simp <;> omega, by simp <;> omega, ?_, by rw [flatMap_len hlen]; try simp, fun _ => ⟨b, o, rfl, ?_, fun j u hu => ?_⟩⟩
      · intro a ha
        obtain ⟨i, hi, rfl⟩ := List.mem_map.1 ha
        exact (hF i (by simpa using hi)).1
      · have := World.block_lt_of_cell? w _ h00
        rwa [block_add] at this
      · obtain ⟨a, h1, h2⟩ := flatMap_get hlen hu
        have hj : j / s < len := by
          have := (List.getElem?_eq_some_iff.1 h1).1
          simpa using this
        have e1 := (hF (j / s) hj).2 (j % s) (Nat.mod_lt _ hs)
        rw [add_lit, add_lit] at e1
        have e2 : o + j / s * s + j % s = o + j := by
          have := Nat.div_add_mod j s
          rw [Nat.mul_comm] at this
          omega
        rw [e2] at e1
        rw [e1, ← h2]
        have e3 : ((List.range len).map F)[j / s]? = some (F (j / s)) := by simp [hj]
        rw [e3] at h1
        injection h1 with h1
        rw [h1]
end
end Go.Proofs.Ytmpmjgoipfgfoaa
