/- Stores with a budget, plain: what is kept of all that was counted, and how much is folded, when more is counted, or two are taken together. No program. -/
import Derived.Test.YtmpmjgoipfgfoaaSpCutP
namespace Go.Proofs.Ytmpmjgoipfgfoaa
namespace Pl
/-- The least key, or 0. -/
def firstK : List Pr → Int
  | [] => 0
  | p :: _ => p.1
theorem cutN_pos (c : Int) : 1 ≤ cutN c := by unfold cutN; omega
theorem cutL_nil (c : Int) : cutL [] c = ([], 0) := by unfold cutL; rw [if_pos (show ([] : List Pr).length ≤ cutN c from Nat.zero_le _)]
theorem cutL_ne {L : List Pr} (h : L ≠ []) (c : Int) : (cutL L c).1 ≠ [] := by
  have := cutN_pos c
  have hl := List.length_pos_iff.2 h
  refine List.length_pos_iff.1 ?_
  unfold cutL
  split
  · exact hl
  · simp only [cutI_len]; omega
/-- What is kept of a list, and what is folded. -/
structure KeptOf (c : Int) (X : List Pr) (k : Int) : Prop where
  first : firstK (cutL X c).1 = k
  clamp : Clamp k X (cutL X c).1
  fold : (cutL X c).2 = below X k
  mem : ∃ p ∈ X, p.1 = k
  upk : up X k ≤ cutN c
  full : (cutL X c).2 ≠ 0 → up X k = cutN c
  len : (cutL X c).1.length = up X k
theorem up_cons_first {p : Pr} {L : List Pr} (hs : Srt (p :: L)) : up (p :: L) p.1 = (p :: L).length := up_all (fun q hq => by
  rcases List.mem_cons.1 hq with rfl | hq
  · exact Int.le_refl _
  · have := (srt_cons.1 hs).1 q hq; omega)
theorem kept_of {X : List Pr} (hs : Srt X) (hp : Pos X) (c : Int) (hX : X ≠ []) : ∃ k, KeptOf c X k := by
  have hc := cutN_pos c
  by_cases hl : X.length ≤ cutN c
  · have e : cutL X c = (X, 0) := by unfold cutL; rw [if_pos hl]
    cases X with
    | nil => exact absurd rfl hX
    | cons p L =>
      have hle : ∀ q ∈ p :: L, p.1 ≤ q.1 := fun q hq => by
        rcases List.mem_cons.1 hq with rfl | hq
        · exact Int.le_refl _
        · have := (srt_cons.1 hs).1 q hq; omega
      refine ⟨p.1, by rw [e]; rfl, by rw [e]; exact clamp_self hs hp hle, by rw [e, below_none hle], ⟨p, by simp, rfl⟩, by rw [up_cons_first hs]; exact hl, fun h => absurd (by rw [e]) h, by rw [e, up_cons_first hs]⟩
  · have hi : X.length - cutN c < X.length := by omega
    have e : cutL X c = (cutI X (X.length - cutN c), tot (X.take (X.length - cutN c))) := by unfold cutL; rw [if_neg hl]
    obtain ⟨p, R, e1, e2, e3⟩ := cutI_split hi
    obtain ⟨hlt, hgt⟩ := take_less hs e1
    obtain ⟨q, hq, hcl, hu⟩ := cut_clamp hs hp hi
    have hqp : q.1 = p.1 := by
      -- the key of the clamp is the one at the place
      have h1 := up_split hs e1
      have hlen : X.length = (X.take (X.length - cutN c)).length + (R.length + 1) := by
        have := congrArg List.length e1
        rw [List.length_append, List.length_cons] at this
        exact this
      rw [List.length_take] at hlen
      rcases Int.lt_trichotomy q.1 p.1 with h | h | h
      · have := up_lt hs h hq rfl; omega
      · exact h
      · have := up_lt hs h (List.mem_of_getElem? e3) rfl; omega
    rw [hqp] at hcl hu
    refine ⟨p.1, by rw [e, e2]; rfl, by rw [e]; exact hcl, ?_, ⟨p, List.mem_of_getElem? e3, rfl⟩, by omega, fun _ => by omega, by rw [e]; simp only [cutI_len]; omega⟩
    rw [e]
    have h1 : below X p.1 = below (X.take (X.length - cutN c) ++ p :: R) p.1 := by rw [← e1]
    rw [h1, below_append, below_all hlt, below_none (fun q hq => by
      rcases List.mem_cons.1 hq with rfl | hq
      · exact Int.le_refl _
      · have := hgt q hq; omega)]
    rfl
/-- What was folded of X, as it counts in a store whose least key is k. -/
def stays (X : List Pr × Nat) (k : Int) : Nat := if 0 < X.2 ∧ firstK X.1 = k then X.2 else 0
theorem below_mono {X : List Pr} {a b : Int} (h : a ≤ b) : below X a ≤ below X b := by
  induction X with
  | nil => exact Nat.le_refl _
  | cons p X ih =>
    rw [below_cons, below_cons]
    by_cases h1 : p.1 < a
    · rw [if_pos h1, if_pos (by omega)]; omega
    · rw [if_neg h1]; omega
theorem fold_part {X R : List Pr} (hX : Srt X) (hXp : Pos X) (hR : Srt R) (c : Int) {k : Int} (hin : ∀ p ∈ X, ∃ q ∈ R, q.1 = p.1) (hk : ∃ p ∈ R, p.1 = k) (hu : up R k ≤ cutN c) :
    below X k = below (cutL X c).1 k + stays (cutL X c) k := by
  by_cases h0 : X = []
  · subst h0
    rw [cutL_nil]
    rfl
  obtain ⟨k0, h⟩ := kept_of hX hXp c h0
  unfold stays
  rw [h.first]
  rcases Int.lt_trichotomy k0 k with h1 | h1 | h1
  · rw [if_neg (by omega), h.clamp.under k h1]; rfl
  · subst h1
    rw [below_none h.clamp.least, h.fold]
    by_cases hz : below X k0 = 0
    · rw [if_neg (by omega), hz]
    · rw [if_pos ⟨by omega, rfl⟩, Nat.zero_add]
  · have e1 : below (cutL X c).1 k = 0 := below_none (fun q hq => by have := h.clamp.least q hq; omega)
    rw [if_neg (by omega), e1]
    by_cases hz : (cutL X c).2 = 0
    · have h2 := below_mono (X := X) (a := k) (b := k0) (by omega)
      rw [← h.fold, hz] at h2
      omega
    · exfalso
      have h2 := h.full hz
      have h3 := up_sub (k := k0) hX hR (fun p hp _ => hin p hp)
      obtain ⟨p, hp, e⟩ := hk
      have h4 := up_lt hR h1 hp e
      omega
/-- Two lists taken together: what is folded of all is what is cut off of what was kept of both, and what was folded of each, where its least key is still the least one. -/
theorem fold_join {L M : List Pr} (hl : Srt L) (hlp : Pos L) (hm : Srt M) (hmp : Pos M) (c : Int) :
    (cutL (puts L M) c).2 = (cutL (puts (cutL L c).1 (cutL M c).1) c).2 + stays (cutL L c) (firstK (cutL (puts L M) c).1) + stays (cutL M c) (firstK (cutL (puts L M) c).1) := by
  obtain ⟨hrs, hrp, _⟩ := puts_facts hl hlp hmp
  have hcnt : ∀ j, cnt (puts L M) j = cnt L j + cnt M j := puts_cnt hl hm
  have hinL : ∀ p ∈ L, ∃ q ∈ puts L M, q.1 = p.1 := fun p hp => key_of_cnt (by rw [hcnt]; have := cnt_pos hl hlp hp; omega)
  have hinM : ∀ p ∈ M, ∃ q ∈ puts L M, q.1 = p.1 := fun p hp => key_of_cnt (by rw [hcnt]; have := cnt_pos hm hmp hp; omega)
  by_cases hR : puts L M = []
  · have hL : L = [] := by
      cases L with
      | nil => rfl
      | cons p L => obtain ⟨q, hq, _⟩ := hinL p (by simp); rw [hR] at hq; cases hq
    have hM : M = [] := by
      cases M with
      | nil => rfl
      | cons p M => obtain ⟨q, hq, _⟩ := hinM p (by simp); rw [hR] at hq; cases hq
    subst hL; subst hM
    rw [show puts ([] : List Pr) [] = [] from rfl, cutL_nil]
    rfl
  have htw := cut_twice hl hlp hm hmp c
  obtain ⟨k, h⟩ := kept_of hrs hrp c hR
  have hLs : Srt (cutL L c).1 ∧ Pos (cutL L c).1 := by
    by_cases h0 : L = []
    · subst h0; rw [cutL_nil]; exact ⟨Srt.nil, Pos.nil⟩
    · obtain ⟨_, h⟩ := kept_of hl hlp c h0; exact ⟨h.clamp.srt, h.clamp.pos⟩
  have hMs : Srt (cutL M c).1 ∧ Pos (cutL M c).1 := by
    by_cases h0 : M = []
    · subst h0; rw [cutL_nil]; exact ⟨Srt.nil, Pos.nil⟩
    · obtain ⟨_, h⟩ := kept_of hm hmp c h0; exact ⟨h.clamp.srt, h.clamp.pos⟩
  obtain ⟨hps, hpp, _⟩ := puts_facts hLs.1 hLs.2 hMs.2
  have hP : puts (cutL L c).1 (cutL M c).1 ≠ [] := fun h0 => by
    have h1 := cutL_ne hR c
    rw [h0, cutL_nil] at htw
    exact h1 htw.symm
  obtain ⟨k2, h2⟩ := kept_of hps hpp c hP
  have hk2 : k2 = k := by rw [← h2.first, htw, h.first]
  subst hk2
  rw [h.first, h.fold, h2.fold, below_puts, below_puts, fold_part hl hlp hrs c hinL h.mem h.upk, fold_part hm hmp hrs c hinM h.mem h.upk]
  omega
theorem cutL_one (k : Int) (n : Nat) (c : Int) : cutL [(k, n)] c = ([(k, n)], 0) := by
  have := cutN_pos c
  unfold cutL
  rw [if_pos (by simpa using this)]
theorem put_puts (L : List Pr) (k : Int) (n : Nat) : put L k n = puts L [(k, n)] := rfl
theorem kept_put {L : List Pr} (hl : Srt L) (hlp : Pos L) (c : Int) (k : Int) {n : Nat} (hn : 0 < n) : (cutL (put (cutL L c).1 k n) c).1 = (cutL (put L k n) c).1 := by
  have h := cut_twice hl hlp (M := [(k, n)]) (srt_cons.2 ⟨(fun q hq => by cases hq), Srt.nil⟩) (pos_cons.2 ⟨hn, Pos.nil⟩) c
  rw [cutL_one] at h
  exact h
theorem fold_put {L : List Pr} (hl : Srt L) (hlp : Pos L) (c : Int) (k : Int) {n : Nat} (hn : 0 < n) : (cutL (put L k n) c).2 = (cutL (put (cutL L c).1 k n) c).2 + stays (cutL L c) (firstK (cutL (put L k n) c).1) := by
  have h := fold_join hl hlp (M := [(k, n)]) (srt_cons.2 ⟨(fun q hq => by cases hq), Srt.nil⟩) (pos_cons.2 ⟨hn, Pos.nil⟩) c
  rw [cutL_one] at h
  have e : stays ([(k, n)], 0) (firstK (cutL (puts L [(k, n)]) c).1) = 0 := by unfold stays; rw [if_neg (by simp)]
  rw [e] at h
  exact h
/-- The rank of what is kept: vague, or as it is among all. -/
theorem kept_rank {L : List Pr} (hs : Srt L) (hp : Pos L) (c : Int) {r : Nat} (h1 : 1 ≤ r) (h2 : r ≤ tot L) :
    (0 < (cutL L c).2 ∧ rank (cutL L c).1 r = firstK (cutL L c).1 → rank L r ≤ rank (cutL L c).1 r) ∧ (¬ (0 < (cutL L c).2 ∧ rank (cutL L c).1 r = firstK (cutL L c).1) → rank (cutL L c).1 r = rank L r) := by
  have hc := cutN_pos c
  by_cases hl : L.length ≤ cutN c
  · have e : cutL L c = (L, 0) := by unfold cutL; rw [if_pos hl]
    rw [e]
    exact ⟨fun h => absurd h.1 (by simp), fun _ => rfl⟩
  have hi : L.length - cutN c < L.length := by omega
  have e : cutL L c = (cutI L (L.length - cutN c), tot (L.take (L.length - cutN c))) := by unfold cutL; rw [if_neg hl]
  refine ⟨fun _ => by rw [e]; exact cutI_rank hs hi h1 h2, fun hv => ?_⟩
  obtain ⟨p, R, e1, e2, e3⟩ := cutI_split hi
  have hpos : 0 < tot (L.take (L.length - cutN c)) := by
    refine tot_pos (fun q hq => hp q (List.mem_of_mem_take hq)) (fun h0 => ?_)
    have := congrArg List.length h0
    rw [List.length_take] at this
    simp at this
    omega
  have e4 : rank (cutI L (L.length - cutN c)) r = if r ≤ p.2 + tot (L.take (L.length - cutN c)) then p.1 else rank R (r - (p.2 + tot (L.take (L.length - cutN c)))) := by rw [e2, rank]
  rw [e] at hv ⊢
  dsimp only at hv ⊢
  have hf : firstK (cutI L (L.length - cutN c)) = p.1 := by rw [e2]; rfl
  rw [e4, hf] at hv
  rw [e4]
  by_cases hC : r ≤ p.2 + tot (L.take (L.length - cutN c))
  · rw [if_pos hC] at hv
    exact absurd ⟨hpos, rfl⟩ hv
  · have h5 : rank L r = rank (L.take (L.length - cutN c) ++ p :: R) r := by rw [← e1]
    rw [if_neg hC, h5, rank_append, if_neg (by omega), rank, if_neg (by omega), show r - tot (L.take (L.length - cutN c)) - p.2 = r - (p.2 + tot (L.take (L.length - cutN c))) by omega]
theorem up_anti {L : List Pr} {a b : Int} (h : a ≤ b) : up L b ≤ up L a := by
  induction L with
  | nil => exact Nat.le_refl _
  | cons p L ih =>
    unfold up at ih ⊢
    rw [List.filter_cons, List.filter_cons]
    by_cases h1 : b ≤ p.1
    · rw [if_pos (by simpa using h1), if_pos (by simp; omega), List.length_cons, List.length_cons]; omega
    · rw [if_neg (by simpa using h1)]
      split
      · rw [List.length_cons]; omega
      · exact ih
theorem up_above {L : List Pr} (k : Int) : up L (k + 1) = (L.filter (fun p => decide (k < p.1))).length := by
  unfold up
  congr 1
/-- A rank is vague just if more keys than the budget were counted, and its own key isn't among the greatest ones, one fewer. -/
theorem kept_vague {L : List Pr} (hs : Srt L) (hp : Pos L) (c : Int) {r : Nat} (h1 : 1 ≤ r) (h2 : r ≤ tot L) :
    (0 < (cutL L c).2 ∧ rank (cutL L c).1 r = firstK (cutL L c).1) ↔ (cutN c < L.length ∧ cutN c ≤ up L (rank L r + 1) + 1) := by
  have hc := cutN_pos c
  by_cases hl : L.length ≤ cutN c
  · have e : cutL L c = (L, 0) := by unfold cutL; rw [if_pos hl]
    rw [e]
    exact ⟨fun h => absurd h.1 (by simp), fun h => absurd h.1 (by omega)⟩
  have hi : L.length - cutN c < L.length := by omega
  have e : cutL L c = (cutI L (L.length - cutN c), tot (L.take (L.length - cutN c))) := by unfold cutL; rw [if_neg hl]
  obtain ⟨p, R, e1, e2, e3⟩ := cutI_split hi
  obtain ⟨hlt, hgt⟩ := take_less hs e1
  have hpos : 0 < tot (L.take (L.length - cutN c)) := by
    refine tot_pos (fun q hq => hp q (List.mem_of_mem_take hq)) (fun h0 => ?_)
    have := congrArg List.length h0
    rw [List.length_take] at this
    simp at this
    omega
  have hlen : L.length = (L.take (L.length - cutN c)).length + (R.length + 1) := by
    have := congrArg List.length e1
    rw [List.length_append, List.length_cons] at this
    exact this
  rw [List.length_take] at hlen
  have e4 : rank (cutI L (L.length - cutN c)) r = if r ≤ p.2 + tot (L.take (L.length - cutN c)) then p.1 else rank R (r - (p.2 + tot (L.take (L.length - cutN c)))) := by rw [e2, rank]
  have hf : firstK (cutI L (L.length - cutN c)) = p.1 := by rw [e2]; rfl
  have ht : tot L = tot (L.take (L.length - cutN c)) + (p.2 + tot R) := by rw [← tot_cons, ← tot_append, ← e1]
  have h5 : rank L r = rank (L.take (L.length - cutN c) ++ p :: R) r := by rw [← e1]
  have hmp : p ∈ L := List.mem_of_getElem? e3
  have hup := up_split hs e1
  rw [e]
  dsimp only
  rw [hf, e4]
  by_cases hC : r ≤ p.2 + tot (L.take (L.length - cutN c))
  · rw [if_pos hC]
    refine ⟨fun _ => ⟨by omega, ?_⟩, fun _ => ⟨hpos, rfl⟩⟩
    have hown : rank L r ≤ p.1 := by
      rw [h5, rank_append]
      split
      · rename_i hA
        obtain ⟨q, hq, eq⟩ := rank_mem h1 hA.1
        have := hlt q hq
        omega
      · rw [rank]
        rename_i hA
        have hB : tot (L.take (L.length - cutN c)) < r := by
          rcases Nat.lt_or_ge (tot (L.take (L.length - cutN c))) r with h | h
          · exact h
          · exact absurd ⟨h, fun h0 => by rw [h0, tot_nil] at hpos; omega⟩ hA
        rw [if_pos (by omega)]
        exact Int.le_refl _
    have h6 : up L (p.1 + 1) = R.length := by
      unfold up
      rw [e1, List.filter_append, List.filter_eq_nil_iff.2 (fun q hq => by have := hlt q hq; simp; omega), List.nil_append, List.filter_cons_of_neg (by simp; omega),
        List.filter_eq_self.2 (fun q hq => by have := hgt q hq; simp; omega)]
    have h7 : up L (p.1 + 1) ≤ up L (rank L r + 1) := up_anti (by omega)
    omega
  · rw [if_neg hC]
    obtain ⟨q, hq, eq⟩ := rank_mem (L := R) (r := r - (p.2 + tot (L.take (L.length - cutN c)))) (by omega) (by omega)
    have hqp := hgt q hq
    refine ⟨fun h => by have := h.2; omega, fun h => ?_⟩
    exfalso
    have hown : rank L r = q.1 := by
      rw [h5, rank_append, if_neg (by omega), rank, if_neg (by omega), ← eq, show r - tot (L.take (L.length - cutN c)) - p.2 = r - (p.2 + tot (L.take (L.length - cutN c))) by omega]
    rw [hown] at h
    have h8 := up_lt hs (show q.1 < q.1 + 1 by omega) (show q ∈ L by rw [e1]; exact List.mem_append_right _ (by simp [hq])) rfl
    have h9 := up_lt hs hqp hmp rfl
    omega
end Pl
end Go.Proofs.Ytmpmjgoipfgfoaa
