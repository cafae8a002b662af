/- Dense: several stores of the call's own, apart from each other. -/
import Derived.Test.YtknimekfkkihpaaDenseE
import Derived.Test.YtknimekfkkihpaaRef13A
namespace Go.Proofs.Ytknimekfkkihpaa
open Go.RowKit
open Ds Pl

def upd (S : Nat → St) (g : Nat) (s : St) (i : Nat) : St := if i = g then s else S i
theorem upd_same (S : Nat → St) (g : Nat) (s : St) : upd S g s g = s := if_pos rfl
theorem upd_ne (S : Nat → St) {g i : Nat} (s : St) (h : i ≠ g) : upd S g s i = S i := if_neg h
def InvS (s : St) : Prop := Inv s.1 s.2.1 s.2.2
/-- The stores 'ids', each in the state that S says, no two in one block, from block 'base' on. -/
def Sts (w : World) (base : Nat) (ids : List Nat) (S : Nat → St) : Prop :=
  ∃ A : Nat → Option Addr × Nat, (∀ g ∈ ids, base ≤ g ∧ InvS (S g) ∧ Sto w base g (A g).1 (A g).2 (S g).1 (S g).2.1 (S g).2.2) ∧
    ∀ g ∈ ids, ∀ g' ∈ ids, g ≠ g' → ∀ b, blockOf (A g).1 = some b → blockOf (A g').1 ≠ some b
section
variable {w w' : World} {base : Nat} {ids : List Nat} {S : Nat → St}
theorem Sts.none (w : World) (base : Nat) (S : Nat → St) : Sts w base [] S := ⟨fun _ => (Option.none, 0), by simp, by simp⟩
theorem Sts.below (h : Sts w base ids S) (hb : Below w.heap.size w w') : Sts w' base ids S := by
  obtain ⟨A, h1, h2⟩ := h
  exact ⟨A, fun g hg => ⟨(h1 g hg).1, (h1 g hg).2.1, sto_below (h1 g hg).2.2 hb⟩, h2⟩
theorem Sts.drewN (h : Sts w base ids S) (n : Nat) : Sts (w.drewN n) base ids S := h
theorem Sts.inv (h : Sts w base ids S) {g : Nat} (hg : g ∈ ids) : InvS (S g) := by
  obtain ⟨A, h1, _⟩ := h
  exact (h1 g hg).2.1
theorem Sts.get (h : Sts w base ids S) {g : Nat} (hg : g ∈ ids) : ∃ A c, Sto w base g A c (S g).1 (S g).2.1 (S g).2.2 := by
  obtain ⟨A, h1, _⟩ := h
  exact ⟨_, _, (h1 g hg).2.2⟩
theorem Sts.lt (h : Sts w base ids S) {g : Nat} (hg : g ∈ ids) : g < w.heap.size := by
  obtain ⟨A, c, h1⟩ := h.get hg
  exact h1.1.lt
theorem Sts.new (h : Sts w base ids S) (hb : base ≤ w.heap.size) : Sts (w.alloc (.cells #[.int .i64 0, .slice Option.none 0 0, .int .u64 0] 28)) base (w.heap.size :: ids) (upd S w.heap.size (0, [], 0)) := by
  have hlt := fun g hg => h.lt (g := g) hg
  obtain ⟨A, h1, h2⟩ := h
  refine ⟨fun i => if i = w.heap.size then (Option.none, 0) else A i, fun g hg => ?_, fun g hg g' hg' hne b hbk => ?_⟩
  · by_cases e : g = w.heap.size
    · subst e
      rw [upd_same]
      refine ⟨hb, ⟨by simp only; omega, by simp, by simp, rfl, by simp⟩, ?_⟩
      simp only [if_pos]
      exact ⟨Blk.new w _ _, OwnO.nil _ _ _⟩
    · have hg' : g ∈ ids := by simpa [e] using hg
      rw [upd_ne _ _ e]
      simp only [if_neg e]
      exact ⟨(h1 g hg').1, (h1 g hg').2.1, sto_below (h1 g hg').2.2 ((Below.refl _ _).alloc (Nat.le_refl _) _)⟩
  · by_cases e : g = w.heap.size
    · subst e
      simp [blockOf] at hbk
    · by_cases e' : g' = w.heap.size
      · subst e'
        simp [blockOf]
      · simp only [if_neg e, if_neg e'] at hbk ⊢
        exact h2 g (by simpa [e] using hg) g' (by simpa [e'] using hg') hne b hbk
/-- What a method that writes one of them leaves. -/
theorem Sts.step {g : Nat} {s' : St} (h1 : ∀ g' ∈ ids, base ≤ g' ∧ InvS (S g')) {A : Nat → Option Addr × Nat} (h2 : ∀ g' ∈ ids, Sto w base g' (A g').1 (A g').2 (S g').1 (S g').2.1 (S g').2.2)
    (h3 : ∀ g ∈ ids, ∀ g' ∈ ids, g ≠ g' → ∀ b, blockOf (A g).1 = some b → blockOf (A g').1 ≠ some b) (hg : g ∈ ids) (hi : InvS s') (hb : base ≤ w.heap.size) (hp : StoPost base g (A g).1 s'.1 s'.2.1 s'.2.2 w w') :
    Sts w' base ids (upd S g s') ∧ Below base w w' := by
  obtain ⟨A', c', hs, hloc, honly⟩ := hp
  have hK : ∀ g' ∈ ids, g' ≠ g → ¬ (g' = g ∨ blockOf (A g).1 = some g') := fun g' hg' hne h => by
    rcases h with h | h
    · exact hne h
    · exact (h2 g hg).2.ne_blk (h2 g' hg').1 (by decide) h
  have hKb : ∀ g' ∈ ids, g' ≠ g → ∀ b, blockOf (A g').1 = some b → ¬ (b = g ∨ blockOf (A g).1 = some b) := fun g' hg' hne b hbk h => by
    rcases h with h | h
    · subst h
      exact (h2 g' hg').2.ne_blk (h2 b hg).1 (by decide) hbk
    · exact h3 g' hg' g hg hne b hbk h
  refine ⟨⟨fun i => if i = g then (A', c') else A i, fun g' hg' => ?_, fun g1 hg1 g2 hg2 hne b hbk => ?_⟩, ?_⟩
  · by_cases e : g' = g
    · subst e
      rw [upd_same]
      simp only [if_pos]
      exact ⟨(h1 g' hg).1, hi, hs⟩
    · rw [upd_ne _ _ e]
      simp only [if_neg e]
      exact ⟨(h1 g' hg').1, (h1 g' hg').2, (h2 g' hg').1.only honly (hK g' hg' e), (h2 g' hg').2.only honly (fun b hbk => hKb g' hg' e b hbk)⟩
  · by_cases e : g1 = g
    · have e2 : g2 ≠ g := fun h => hne (e.trans h.symm)
      simp only [if_pos e, if_neg e2] at hbk ⊢
      rcases hloc with h | ⟨b', h, hb'⟩
      · subst e
        rw [h] at hbk
        exact h3 g1 hg g2 hg2 hne b hbk
      · intro h4
        have := ((h2 g2 hg2).2.block h4).2
        rw [h] at hbk
        injection hbk with hbk
        omega
    · by_cases e2 : g2 = g
      · simp only [if_neg e, if_pos e2] at hbk ⊢
        rcases hloc with h | ⟨b', h, hb'⟩
        · rw [h]
          subst e2
          exact h3 g1 hg1 g2 hg hne b hbk
        · intro h4
          have := ((h2 g1 hg1).2.block hbk).2
          rw [h] at h4
          injection h4 with h4
          omega
      · simp only [if_neg e, if_neg e2] at hbk ⊢
        exact h3 g1 hg1 g2 hg2 hne b hbk
  · refine honly.below hb (fun i hi => ?_)
    rcases hi with rfl | hi
    · exact (h1 i hg).1
    · exact ((h2 g hg).2.block hi).1
/-- The contracts over such stores. -/
theorem sadd_t (g : Nat) (k : Int) (n : Nat) (w : World) (hbase : base ≤ w.heap.size) (h : Sts w base ids S) (hg : g ∈ ids) (k0 : -9223372036854775808 ≤ k) (k1 : k ≤ 9223372036854775807) (hn : n ≤ 18446744073709551615) :
    Calls Try.prog 8 #[.pointer (some ⟨g, 0, Option.none⟩), .int .i64 k, .int .u64 (n : Int)] w fun e w' => e = .returned (.int .i64 (chk (S g).1 (S g).2.1 (S g).2.2 k n)) ∧ Sts w' base ids (upd S g (addS (S g) (k, n))) ∧ Below base w w' := by
  have hinv := fun g' hg' => h.inv (g := g') hg'
  obtain ⟨A, h1, h2⟩ := h
  refine (add_t g _ _ base _ k _ _ n w (h1 g hg).2.2 (h1 g hg).2.1 hbase k0 k1 hn).mono ?_
  rintro e w' ⟨rfl, hp⟩
  exact ⟨rfl, Sts.step (s' := addS (S g) (k, n)) (fun g' hg' => ⟨(h1 g' hg').1, hinv g' hg'⟩) (fun g' hg' => (h1 g' hg').2.2) h2 hg (inv_add (h1 g hg).2.1) hbase hp⟩
theorem spairs_t (g : Nat) (w : World) (h : Sts w base ids S) (hg : g ∈ ids) :
    Calls Try.prog 10 #[.pointer (some ⟨g, 0, Option.none⟩)] w (PairsPost w (prs (S g).1 (S g).2.1)) := by
  obtain ⟨A, c, hs⟩ := h.get hg
  exact pairs_t g A c base _ _ _ w hs (h.inv hg)
theorem stotal_t (g : Nat) (w : World) (h : Sts w base ids S) (hg : g ∈ ids) :
    Calls Try.prog 11 #[.pointer (some ⟨g, 0, Option.none⟩)] w fun e w' => e = .returned (.int .u64 ((S g).2.2 : Nat)) ∧ w' = w := by
  obtain ⟨A, c, hs⟩ := h.get hg
  exact total_t g A c base _ _ _ w hs
theorem sends_t (g : Nat) (w : World) (h : Sts w base ids S) (hg : g ∈ ids) :
    Calls Try.prog 20 #[.pointer (some ⟨g, 0, Option.none⟩)] w fun e w' => e = .returned (endsV (S g).1 (S g).2.1) ∧ ∃ n, w' = w.drewN n := by
  obtain ⟨A, c, hs⟩ := h.get hg
  exact ends_t g A c base _ _ _ w hs (h.inv hg)
theorem take_t (g g2 : Nat) (A A2 : Option Addr) (c c2 base base2 : Nat) (s s2 : St) (w : World) (h2 : Sto w base2 g2 A2 c2 s2.1 s2.2.1 s2.2.2) (hi2 : InvS s2) (h : Sto w base g A c s.1 s.2.1 s.2.2) (hi : InvS s) (hbase : base ≤ w.heap.size) :
    Calls Try.prog 13 #[.pointer (some ⟨g, 0, Option.none⟩), .pointer (some ⟨g2, 0, Option.none⟩)] w (TakePost base g A (tkc s.1 s.2.1 s.2.2 s2.1 s2.2.1 s2.2.2) (if tkc s.1 s.2.1 s.2.2 s2.1 s2.2.1 s2.2.2 = 0 then adds s (prs s2.1 s2.2.1) else s) w) := by
  obtain ⟨f, l, t⟩ := s
  obtain ⟨f2, l2, t2⟩ := s2
  simp only at *
  unfold tkc
  by_cases hl : l2.length = 0
  · rw [if_pos hl, if_pos rfl]
    have : l2 = [] := List.eq_nil_of_length_eq_zero hl
    subst this
    exact take_ends g g2 A A2 c c2 base base2 f f2 l [] t t2 w h2 hi2 h rfl
  · rw [if_neg hl]
    by_cases hw : l.length ≠ 0 ∧ 8192 < max (f + l.length - 1) (f2 + l2.length - 1) - min f f2 + 1
    · rw [if_pos hw, if_neg (by decide)]
      exact take_full g g2 A A2 c c2 base base2 f f2 l l2 t t2 w h2 hi2 h hi hl hw.1 hw.2
    · rw [if_neg hw]
      have hsm : l.length = 0 ∨ max (f + l.length - 1) (f2 + l2.length - 1) - min f f2 + 1 ≤ 8192 := by omega
      by_cases hc : 4611686018427387904 - t < t2
      · rw [if_pos hc, if_neg (by decide)]
        exact take_cap g g2 A A2 c c2 base base2 f f2 l l2 t t2 w h2 hi2 h hi hl hsm hc
      · rw [if_neg hc, if_pos rfl]
        exact take_yes g g2 A A2 c c2 base base2 f f2 l l2 t t2 w h2 hi2 h hi hl hsm (by omega) hbase
/-- The state behind a Take. -/
def takeS (s s2 : St) : St := if tkc s.1 s.2.1 s.2.2 s2.1 s2.2.1 s2.2.2 = 0 then adds s (prs s2.1 s2.2.1) else s
theorem inv_take {s s2 : St} (h : InvS s) : InvS (takeS s s2) := by
  unfold takeS
  split
  · exact inv_adds h
  · exact h
theorem stake_t (g g2 : Nat) (w : World) (hbase : base ≤ w.heap.size) (h : Sts w base ids S) (hg : g ∈ ids) (hg2 : g2 ∈ ids) :
    Calls Try.prog 13 #[.pointer (some ⟨g, 0, Option.none⟩), .pointer (some ⟨g2, 0, Option.none⟩)] w fun e w' => e = .returned (.int .i64 (tkc (S g).1 (S g).2.1 (S g).2.2 (S g2).1 (S g2).2.1 (S g2).2.2)) ∧ Sts w' base ids (upd S g (takeS (S g) (S g2))) ∧ Below base w w' := by
  have hinv := fun g' hg' => h.inv (g := g') hg'
  obtain ⟨A, h1, h2⟩ := h
  refine (take_t g g2 _ _ _ _ base base (S g) (S g2) w (h1 g2 hg2).2.2 (h1 g2 hg2).2.1 (h1 g hg).2.2 (h1 g hg).2.1 hbase).mono ?_
  rintro e w' ⟨rfl, hp⟩
  exact ⟨rfl, Sts.step (s' := takeS (S g) (S g2)) (fun g' hg' => ⟨(h1 g' hg').1, hinv g' hg'⟩) (fun g' hg' => (h1 g' hg').2.2) h2 hg (inv_take (h1 g hg).2.1) hbase hp⟩
end
end Go.Proofs.Ytknimekfkkihpaa
