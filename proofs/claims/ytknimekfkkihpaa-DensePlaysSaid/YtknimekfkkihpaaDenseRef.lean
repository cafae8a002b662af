/- Dense: a store and the document's list go side by side. Plain. -/
import Derived.Test.YtknimekfkkihpaaDenseAdds
import Derived.Test.YtknimekfkkihpaaRef13B
namespace Go.Proofs.Ytknimekfkkihpaa
open Ds Pl

theorem wide_prs {f : Int} {l : List Nat} (h : Ds.Ends l) (k : Int) : wideL (prs f l) k = wide f l k := by
  unfold wide wideL
  by_cases hl : l.length = 0
  · have : l = [] := List.eq_nil_of_length_eq_zero hl
    subst this
    rfl
  · have hne : l ≠ [] := fun e => hl (by rw [e]; rfl)
    obtain ⟨n, m, e1⟩ := prs_first (f := f) h hne
    obtain ⟨n', m', e2⟩ := prs_last (f := f) h hne
    have h1 : (prs f l).head? = some (f, n) := by rw [e1]; rfl
    have h2 : (prs f l).getLast? = some (f + l.length - 1, n') := by rw [e2]; simp
    rw [if_neg hl, h1, h2]
def EndsS (s : St) : Prop := Ds.Ends s.2.1
theorem ends_addS {s : St} {p : Pr} (h : EndsS s) : EndsS (addS s p) := by
  by_cases hc : chk s.1 s.2.1 s.2.2 p.1 p.2 = 0
  · rw [addS_yes hc]
    exact add_ends h (chk_zero hc).1
  · rw [addS_no hc]; exact h
theorem radd_prs {s : St} (hi : InvS s) (he : EndsS s) (k : Int) (n : Nat) : radd (prs s.1 s.2.1) k n 8192 = (prs (addS s (k, n)).1 (addS s (k, n)).2.1, chk s.1 s.2.1 s.2.2 k n) := by
  have hw := wide_prs (f := s.1) he k
  have ht : tot (prs s.1 s.2.1) = s.2.2 := by rw [prs_tot, hi.sum]
  have hc : chk s.1 s.2.1 s.2.2 k n = if n = 0 then 4 else if k < -1048576 ∨ 1048576 < k then 5 else if 8192 < wide s.1 s.2.1 k then 130 else if 4611686018427387904 - s.2.2 < n then 6 else 0 := rfl
  unfold radd
  rw [hw, ht]
  by_cases h0 : n = 0
  · rw [if_pos h0] at hc ⊢
    rw [hc, addS_no (by simp only; rw [hc]; decide)]
  rw [if_neg h0] at hc ⊢
  by_cases h1 : k < -1048576 ∨ 1048576 < k
  · rw [if_pos h1] at hc ⊢
    rw [hc, addS_no (by simp only; rw [hc]; decide)]
  rw [if_neg h1] at hc ⊢
  by_cases h2 : 8192 < wide s.1 s.2.1 k
  · rw [if_pos h2] at hc
    rw [if_pos ⟨by decide, h2⟩, hc, addS_no (by simp only; rw [hc]; decide)]
  rw [if_neg h2] at hc
  rw [if_neg (fun x => h2 x.2)]
  by_cases h3 : 4611686018427387904 - s.2.2 < n
  · rw [if_pos h3] at hc ⊢
    rw [hc, addS_no (by simp only; rw [hc]; decide)]
  rw [if_neg h3] at hc ⊢
  rw [hc, addS_yes (by simp only; rw [hc])]
  simp only
  rw [add_prs _ _ _ _ (by omega)]
theorem prs_in {s : St} (hi : InvS s) : KeysIn (prs s.1 s.2.1) := fun p hp => by
  have h1 := prs_ge p hp
  have h2 := hi.lo
  have h3 := hi.hi
  omega
theorem prs_mlen {s : St} (hi : InvS s) : (prs s.1 s.2.1).length ≤ 8192 := Nat.le_trans prs_len hi.len
end Go.Proofs.Ytknimekfkkihpaa
