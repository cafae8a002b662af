/- Dense: a store's Take and the document's. Plain; the contracts of Drop and Clear over several stores. -/
import Derived.Test.YtknimekfkkihpaaDenseDrop
import Derived.Test.YtknimekfkkihpaaRef13C
namespace Go.Proofs.Ytknimekfkkihpaa
open Go.RowKit
open Ds Pl

/-- The window lies between a and b. -/
def Btw (a b : Int) (s : St) : Prop := s.2.1.length = 0 ∨ (a ≤ s.1 ∧ s.1 + s.2.1.length - 1 ≤ b)
theorem chk_btw {a b : Int} {s : St} {p : Pr} (h : Btw a b s) (hab : b - a + 1 ≤ 8192) (k0 : a ≤ p.1) (k1 : p.1 ≤ b) (ha : -1048576 ≤ a) (hb : b ≤ 1048576) (hn : 0 < p.2) (ht : s.2.2 + p.2 ≤ 4611686018427387904) : chk s.1 s.2.1 s.2.2 p.1 p.2 = 0 := by
  unfold chk
  rw [if_neg (by omega), if_neg (by omega), if_neg, if_neg (by omega)]
  unfold wide
  unfold Btw at h
  by_cases h0 : s.2.1.length = 0
  · rw [if_pos h0]; omega
  · rw [if_neg h0]; omega
theorem btw_add {a b : Int} {s : St} {p : Pr} (h : Btw a b s) (k0 : a ≤ p.1) (k1 : p.1 ≤ b) (hc : chk s.1 s.2.1 s.2.2 p.1 p.2 = 0) : Btw a b (addS s p) := by
  rw [addS_yes hc]
  have hlen := reachL_len s.1 s.2.1 p.1
  have hal := addL_len s.1 s.2.1 p.1 p.2
  unfold Btw at h ⊢
  refine .inr ?_
  simp only
  rw [hal, hlen]
  unfold reachF
  by_cases h0 : s.2.1.length = 0
  · rw [if_pos h0, if_pos h0]; omega
  · rw [if_neg h0, if_neg h0]
    by_cases hk : p.1 < s.1
    · rw [if_pos hk]; omega
    · rw [if_neg hk]; omega
theorem adds_puts {a b : Int} {L : List Pr} {s : St} (h : Btw a b s) (hab : b - a + 1 ≤ 8192) (ha : -1048576 ≤ a) (hb : b ≤ 1048576) (hk : ∀ p ∈ L, a ≤ p.1 ∧ p.1 ≤ b ∧ 0 < p.2) (ht : s.2.2 + tot L ≤ 4611686018427387904) : prs (adds s L).1 (adds s L).2.1 = puts (prs s.1 s.2.1) L := by
  induction L generalizing s with
  | nil => rfl
  | cons p L ih =>
    rw [tot_cons] at ht
    obtain ⟨k0, k1, k2⟩ := hk p (by simp)
    have hc := chk_btw h hab k0 k1 ha hb k2 (by omega)
    have h2 := ih (s := addS s p) (btw_add h k0 k1 hc) (fun q hq => hk q (by simp [hq])) (by rw [addS_yes hc]; simp only; omega)
    rw [show adds s (p :: L) = adds (addS s p) L from rfl, h2, addS_yes hc]
    simp only
    rw [add_prs _ _ _ _ k2]
    rfl
theorem ends_adds {L : List Pr} {s : St} (h : EndsS s) : EndsS (adds s L) := by
  induction L generalizing s with
  | nil => exact h
  | cons p L ih => exact ih (ends_addS h)
theorem ends_take {s s2 : St} (h : EndsS s) : EndsS (takeS s s2) := by
  unfold takeS
  split
  · exact ends_adds h
  · exact h
theorem rtake_prs {s s2 : St} (hi : InvS s) (hi2 : InvS s2) (he : EndsS s) (he2 : EndsS s2) : rtake (prs s.1 s.2.1) (prs s2.1 s2.2.1) 8192 = (prs (takeS s s2).1 (takeS s s2).2.1, tkc s.1 s.2.1 s.2.2 s2.1 s2.2.1 s2.2.2) := by
  have t1 : tot (prs s.1 s.2.1) = s.2.2 := by rw [prs_tot, hi.sum]
  have t2 : tot (prs s2.1 s2.2.1) = s2.2.2 := by rw [prs_tot, hi2.sum]
  obtain ⟨lo, hi1, len, _, cap⟩ := hi
  obtain ⟨lo2, hi3, len2, _, cap2⟩ := hi2
  have hd : tkc s.1 s.2.1 s.2.2 s2.1 s2.2.1 s2.2.2 = if s2.2.1.length = 0 then 0 else if s.2.1.length ≠ 0 ∧ 8192 < max (s.1 + s.2.1.length - 1) (s2.1 + s2.2.1.length - 1) - min s.1 s2.1 + 1 then 130 else if 4611686018427387904 - s.2.2 < s2.2.2 then 6 else 0 := rfl
  unfold rtake
  rw [t1, t2]
  by_cases h2 : s2.2.1.length = 0
  · have e : s2.2.1 = [] := List.eq_nil_of_length_eq_zero h2
    rw [if_pos h2] at hd
    rw [hd, if_pos (by rw [e]; rfl)]
    unfold takeS
    rw [if_pos hd, e]
    rfl
  rw [if_neg h2] at hd
  have hne2 : s2.2.1 ≠ [] := fun e => h2 (by rw [e]; rfl)
  obtain ⟨n2, m2, e2⟩ := prs_first (f := s2.1) he2 hne2
  obtain ⟨n2', m2', e2'⟩ := prs_last (f := s2.1) he2 hne2
  rw [if_neg (by rw [e2]; simp)]
  have keys2 : ∀ p ∈ prs s2.1 s2.2.1, s2.1 ≤ p.1 ∧ p.1 ≤ s2.1 + s2.2.1.length - 1 ∧ 0 < p.2 := fun p hp => by
    have := prs_ge p hp
    omega
  by_cases h1 : s.2.1.length = 0
  · have e : s.2.1 = [] := List.eq_nil_of_length_eq_zero h1
    rw [if_neg (fun x => x.1 h1)] at hd
    rw [if_neg (fun x => x.2.1 (by rw [e]; rfl))]
    by_cases hc : 4611686018427387904 - s.2.2 < s2.2.2
    · rw [if_pos hc] at hd ⊢
      rw [hd]; unfold takeS; rw [if_neg (by rw [hd]; decide)]
    · rw [if_neg hc] at hd ⊢
      rw [hd]; unfold takeS; rw [if_pos hd, adds_puts (a := s2.1) (b := s2.1 + s2.2.1.length - 1) (.inl h1) (by omega) (by omega) (by omega) keys2 (by omega)]
  · have hne : s.2.1 ≠ [] := fun e => h1 (by rw [e]; rfl)
    obtain ⟨n, m, e1⟩ := prs_first (f := s.1) he hne
    obtain ⟨n', m', e1'⟩ := prs_last (f := s.1) he hne
    have hwl : wideLL (prs s.1 s.2.1) (prs s2.1 s2.2.1) = max (s.1 + s.2.1.length - 1) (s2.1 + s2.2.1.length - 1) - min s.1 s2.1 + 1 := by
      unfold wideLL
      rw [show (prs s.1 s.2.1).head? = some (s.1, n) by rw [e1]; rfl, show (prs s.1 s.2.1).getLast? = some (s.1 + s.2.1.length - 1, n') by rw [e1']; simp, show (prs s2.1 s2.2.1).head? = some (s2.1, n2) by rw [e2]; rfl, show (prs s2.1 s2.2.1).getLast? = some (s2.1 + s2.2.1.length - 1, n2') by rw [e2']; simp]
    rw [hwl]
    by_cases hw : 8192 < max (s.1 + s.2.1.length - 1) (s2.1 + s2.2.1.length - 1) - min s.1 s2.1 + 1
    · rw [if_pos ⟨h1, hw⟩] at hd
      rw [if_pos ⟨by decide, by rw [e1]; simp, hw⟩, hd]
      unfold takeS; rw [if_neg (by rw [hd]; decide)]
    · rw [if_neg (fun x => hw x.2)] at hd
      rw [if_neg (fun x => hw x.2.2)]
      by_cases hc : 4611686018427387904 - s.2.2 < s2.2.2
      · rw [if_pos hc] at hd ⊢
        rw [hd]; unfold takeS; rw [if_neg (by rw [hd]; decide)]
      · rw [if_neg hc] at hd ⊢
        rw [hd]; unfold takeS
        rw [if_pos hd, adds_puts (a := min s.1 s2.1) (b := max (s.1 + s.2.1.length - 1) (s2.1 + s2.2.1.length - 1)) (.inr (by omega)) (by omega) (by omega) (by omega) (fun p hp => by have := keys2 p hp; omega) (by omega)]
/-- Drop and Clear over several stores. -/
theorem sdrop_t {base : Nat} {ids : List Nat} {S : Nat → St} (g : Nat) (k : Int) (w : World) (hbase : base ≤ w.heap.size) (h : Sts w base ids S) (hg : g ∈ ids) :
    Calls Try.prog 15 #[.pointer (some ⟨g, 0, Option.none⟩), .int .i64 k] w fun e w' => e = .returned (.int .u64 (cntS (S g).1 (S g).2.1 k : Nat)) ∧ Sts w' base ids (upd S g (dropS (S g) k)) ∧ Below base w w' ∧ Turned g w w' := by
  have hinv := fun g' hg' => h.inv (g := g') hg'
  obtain ⟨A, h1, h2⟩ := h
  have key : Calls Try.prog 15 #[.pointer (some ⟨g, 0, Option.none⟩), .int .i64 k] w fun e w' => e = .returned (.int .u64 (cntS (S g).1 (S g).2.1 k : Nat)) ∧ StoPostN base g (A g).1 (dropS (S g) k).1 (dropS (S g) k).2.1 (dropS (S g) k).2.2 w w' := by
    by_cases hn : cntS (S g).1 (S g).2.1 k = 0
    · refine (drop_none g _ _ base _ k _ _ w (h1 g hg).2.2 (h1 g hg).2.1 hn).mono ?_
      rintro e w' ⟨rfl, n, rfl⟩
      rw [hn]
      refine ⟨rfl, (A g).1, (A g).2, ?_, fun b hb => .inl hb, (Only.refl _ w).drewN n⟩
      have e : dropS (S g) k = S g := by unfold dropS; rw [if_pos hn]
      rw [e]
      exact (h1 g hg).2.2
    · exact drop_some g _ _ base _ k _ _ w (h1 g hg).2.2 (h1 g hg).2.1 hn
  refine key.mono ?_
  rintro e w' ⟨rfl, hp⟩
  obtain ⟨a, b⟩ := Sts.stepN (s' := dropS (S g) k) (fun g' hg' => ⟨(h1 g' hg').1, hinv g' hg'⟩) (fun g' hg' => (h1 g' hg').2.2) h2 hg (dropS_inv (h1 g hg).2.1 k) hbase hp
  exact ⟨rfl, a, b, turnedN_of (s := S g) (s' := dropS (S g) k) (h1 g hg).2.2 hp⟩
theorem sclear_t {base : Nat} {ids : List Nat} {S : Nat → St} (g : Nat) (w : World) (hbase : base ≤ w.heap.size) (h : Sts w base ids S) (hg : g ∈ ids) :
    Calls Try.prog 18 #[.pointer (some ⟨g, 0, Option.none⟩)] w fun e w' => e = .returned (.tuple #[]) ∧ Sts w' base ids (upd S g e0) ∧ Below base w w' ∧ Turned g w w' := by
  have hinv := fun g' hg' => h.inv (g := g') hg'
  obtain ⟨A, h1, h2⟩ := h
  refine (clear_t g _ _ base _ _ _ w (h1 g hg).2.2).mono ?_
  rintro e w' ⟨rfl, hp⟩
  obtain ⟨a, b⟩ := Sts.stepN (s' := e0) (fun g' hg' => ⟨(h1 g' hg').1, hinv g' hg'⟩) (fun g' hg' => (h1 g' hg').2.2) h2 hg ⟨by simp only [e0]; omega, by simp [e0], by simp [e0], rfl, by simp [e0]⟩ hbase hp
  exact ⟨rfl, a, b, turnedN_of (s := S g) (s' := e0) (h1 g hg).2.2 hp⟩
end Go.Proofs.Ytknimekfkkihpaa
