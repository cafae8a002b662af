/- Dense: many keys counted in a narrow window, plain. -/
import Derived.Test.YtknimekfkkihpaaDenseAlive
namespace Go.Proofs.Ytknimekfkkihpaa
open Ds Pl

def Tight (s : St) : Prop := s.2.1.length = 0 ∨ (-3999 ≤ s.1 ∧ s.1 + s.2.1.length - 1 ≤ 3999)
def KeyOk (p : Pr) : Prop := -3999 ≤ p.1 ∧ p.1 ≤ 3999
def sumk (L : List Pr) (j : Int) : Nat := (L.map fun p => if p.1 = j then p.2 else 0).sum
theorem sumk_cons (p : Pr) (L : List Pr) (j : Int) : sumk (p :: L) j = (if p.1 = j then p.2 else 0) + sumk L j := by simp [sumk]
theorem sumk_append (L M : List Pr) (j : Int) : sumk (L ++ M) j = sumk L j + sumk M j := by simp [sumk]
theorem sumk_reverse (L : List Pr) (j : Int) : sumk L.reverse j = sumk L j := by simp [sumk, List.sum_reverse]
theorem tot_reverse (L : List Pr) : tot L.reverse = tot L := by simp [tot, List.sum_reverse]
theorem sumk_srt {L : List Pr} (h : Srt L) (j : Int) : sumk L j = cnt L j := by
  induction L with
  | nil => rfl
  | cons p L ih =>
    obtain ⟨h1, h2⟩ := srt_cons.1 h
    rw [sumk_cons, cnt, ih h2]
    by_cases hj : p.1 = j
    · rw [if_pos hj, if_pos hj, cnt_lt (by rw [← hj]; exact h1)]; omega
    · rw [if_neg hj, if_neg hj]; omega
theorem chk_tight {s : St} {p : Pr} (h : Tight s) (hk : KeyOk p) (ht : s.2.2 + p.2 ≤ 4611686018427387904) : chk s.1 s.2.1 s.2.2 p.1 p.2 = if p.2 = 0 then 4 else 0 := by
  obtain ⟨k0, k1⟩ := hk
  unfold chk
  by_cases hn : p.2 = 0
  · rw [if_pos hn, if_pos hn]
  · rw [if_neg hn, if_neg hn, if_neg (by omega), if_neg, if_neg (by omega)]
    unfold wide
    unfold Tight at h
    by_cases h0 : s.2.1.length = 0
    · rw [if_pos h0]; omega
    · rw [if_neg h0]; omega
theorem addS_tight {s : St} {p : Pr} (h : Tight s) (hk : KeyOk p) (ht : s.2.2 + p.2 ≤ 4611686018427387904) :
    Tight (addS s p) ∧ (addS s p).2.2 = s.2.2 + p.2 ∧ ∀ j, cntS (addS s p).1 (addS s p).2.1 j = cntS s.1 s.2.1 j + if p.1 = j then p.2 else 0 := by
  have hc := chk_tight h hk ht
  by_cases hn : p.2 = 0
  · rw [if_pos hn] at hc
    rw [addS_no (by rw [hc]; decide)]
    refine ⟨h, by omega, fun j => ?_⟩
    split <;> omega
  · rw [if_neg hn] at hc
    rw [addS_yes hc]
    refine ⟨?_, rfl, fun j => ?_⟩
    · have hlen := reachL_len s.1 s.2.1 p.1
      have hal := addL_len s.1 s.2.1 p.1 p.2
      obtain ⟨k0, k1⟩ := hk
      unfold Tight at h ⊢
      refine .inr ?_
      simp only
      rw [hal, hlen]
      unfold reachF
      by_cases h0 : s.2.1.length = 0
      · rw [if_pos h0, if_pos h0]; omega
      · rw [if_neg h0, if_neg h0]
        by_cases hk : p.1 < s.1
        · rw [if_pos hk]; omega
        · rw [if_neg hk]; omega
    · simp only
      rw [add_cnt]
      by_cases hj : p.1 = j
      · rw [if_pos hj, if_pos hj.symm]
      · rw [if_neg hj, if_neg (fun e => hj e.symm)]
theorem adds_tight {L : List Pr} {s : St} (h : Tight s) (hk : ∀ p ∈ L, KeyOk p) (ht : s.2.2 + tot L ≤ 4611686018427387904) :
    Tight (adds s L) ∧ (adds s L).2.2 = s.2.2 + tot L ∧ ∀ j, cntS (adds s L).1 (adds s L).2.1 j = cntS s.1 s.2.1 j + sumk L j := by
  induction L generalizing s with
  | nil => exact ⟨h, rfl, fun j => rfl⟩
  | cons p L ih =>
    rw [tot_cons] at ht
    obtain ⟨a, b, c⟩ := addS_tight h (hk p (by simp)) (by omega)
    obtain ⟨a2, b2, c2⟩ := ih (s := addS s p) a (fun q hq => hk q (by simp [hq])) (by omega)
    refine ⟨a2, ?_, fun j => ?_⟩
    · rw [show adds s (p :: L) = adds (addS s p) L from rfl, b2, b, tot_cons]; omega
    · rw [show adds s (p :: L) = adds (addS s p) L from rfl, c2, c, sumk_cons]; omega
/-- Two stores that counted the same, by keys, tell the same pairs. -/
theorem prs_same {s s' : St} (h : ∀ j, cntS s.1 s.2.1 j = cntS s'.1 s'.2.1 j) : prs s.1 s.2.1 = prs s'.1 s'.2.1 :=
  ext prs_srt prs_pos prs_srt prs_pos fun j => by rw [prs_cnt, prs_cnt, h]
theorem tight0 : Tight e0 := .inl rfl
theorem adds0_tight {L : List Pr} (hk : ∀ p ∈ L, KeyOk p) (ht : tot L ≤ 4611686018427387904) :
    Tight (adds e0 L) ∧ (adds e0 L).2.2 = tot L ∧ ∀ j, cntS (adds e0 L).1 (adds e0 L).2.1 j = sumk L j := by
  obtain ⟨a, b, c⟩ := adds_tight (s := e0) tight0 hk (by simpa [e0] using ht)
  refine ⟨a, by rw [b]; simp [e0], fun j => ?_⟩
  rw [c, show cntS e0.1 e0.2.1 j = 0 from cntS_out (by simp [e0]; omega)]
  omega
/-- The law's item. -/
def item (n : Nat) (p : Pr) : Pr := (p.1.tmod 4000, p.2 % n)
def item1 (p : Pr) : Pr := (p.1.tmod 4000, 1 + p.2 % 1000)
theorem tmod_range (x : Int) : -3999 ≤ x.tmod 4000 ∧ x.tmod 4000 ≤ 3999 := by
  rcases Int.le_total 0 x with h | h
  · rw [Int.tmod_eq_emod_of_nonneg h]
    have := Int.emod_nonneg x (show (4000 : Int) ≠ 0 by decide)
    have := Int.emod_lt_of_pos x (show (0 : Int) < 4000 by decide)
    omega
  · have e : x.tmod 4000 = -((-x).tmod 4000) := by rw [Int.neg_tmod, Int.neg_neg]
    rw [e, Int.tmod_eq_emod_of_nonneg (by omega)]
    have := Int.emod_nonneg (-x) (show (4000 : Int) ≠ 0 by decide)
    have := Int.emod_lt_of_pos (-x) (show (0 : Int) < 4000 by decide)
    omega
theorem item_ok (n : Nat) (p : Pr) : KeyOk (item n p) := tmod_range _
theorem item1_ok (p : Pr) : KeyOk (item1 p) := tmod_range _
theorem tot_map_le {f : Pr → Pr} {m : Nat} (hf : ∀ p, (f p).2 ≤ m) (L : List Pr) : tot (L.map f) ≤ L.length * m := by
  induction L with
  | nil => simp [tot]
  | cons p L ih => rw [List.map_cons, tot_cons, List.length_cons, Nat.add_mul, Nat.one_mul]; have := hf p; omega
theorem map_get {f : Pr → Pr} {l : List Pr} {k : Nat} {p : Pr} (h : l[k]? = some p) : (l.map f)[k]? = some (f p) := by simp [h]
theorem rev_get {l : List Pr} {k : Nat} {p : Pr} (hk : k < l.length) (h : l[l.length - 1 - k]? = some p) : l.reverse[k]? = some p := by
  rw [List.getElem?_reverse hk]; exact h
theorem chk_adds {L : List Pr} {k : Nat} {p : Pr} (hk : ∀ p ∈ L, KeyOk p) (ht : tot L ≤ 4611686018427387904) (h : L[k]? = some p) : chk (adds e0 (L.take k)).1 (adds e0 (L.take k)).2.1 (adds e0 (L.take k)).2.2 p.1 p.2 = if p.2 = 0 then 4 else 0 := by
  obtain ⟨h1, e⟩ := List.getElem?_eq_some_iff.1 h
  have hle : tot (L.take k) + p.2 ≤ tot L := by
    have h2 := tot_take h1
    have h3 := tot_take_le (L := L) (k := k + 1)
    rw [e] at h2
    omega
  obtain ⟨a, b, _⟩ := adds0_tight (L := L.take k) (fun q hq => hk q (List.mem_of_mem_take hq)) (by omega)
  exact chk_tight a (hk p (by rw [← e]; exact List.getElem_mem h1)) (by rw [b]; omega)
end Go.Proofs.Ytknimekfkkihpaa
