/- Sparse lists cut, plain: ranks, counts, and that it doesn't matter whether two lists were cut ahead of being taken together. -/
import Derived.Test.YtmpmjgoipfgfoaaSpPlain
namespace Go.Proofs.Ytmpmjgoipfgfoaa
namespace Pl
theorem rank_append (A B : List Pr) (r : Nat) : rank (A ++ B) r = if r ≤ tot A ∧ A ≠ [] then rank A r else rank B (r - tot A) := by
  induction A generalizing r with
  | nil => simp [tot]
  | cons p A ih =>
    rw [List.cons_append, rank, rank, tot_cons]
    by_cases h : r ≤ p.2
    · rw [if_pos h, if_pos ⟨by omega, by simp⟩, if_pos h]
    · rw [if_neg h, ih]
      by_cases hA : A = []
      · subst hA
        rw [if_neg (by simp), if_neg (by rw [tot_nil]; omega), tot_nil]
        congr 1
      · by_cases h2 : r ≤ p.2 + tot A
        · rw [if_pos ⟨by omega, hA⟩, if_pos ⟨h2, by simp⟩, if_neg h]
        · rw [if_neg (by omega), if_neg (by omega)]
          congr 1
          omega
theorem rank_mem {L : List Pr} {r : Nat} (h1 : 1 ≤ r) (h2 : r ≤ tot L) : ∃ p ∈ L, rank L r = p.1 := by
  induction L generalizing r with
  | nil => rw [tot_nil] at h2; omega
  | cons p L ih =>
    rw [tot_cons] at h2
    rw [rank]
    by_cases h : r ≤ p.2
    · rw [if_pos h]; exact ⟨p, by simp, rfl⟩
    · rw [if_neg h]
      obtain ⟨q, hq, e⟩ := ih (r := r - p.2) (by omega) (by omega)
      exact ⟨q, by simp [hq], e⟩
theorem cutI_split {L : List Pr} {i : Nat} (h : i < L.length) : ∃ p R, L = L.take i ++ p :: R ∧ cutI L i = (p.1, p.2 + tot (L.take i)) :: R ∧ L[i]? = some p := by
  have h1 : L.drop i = L[i] :: L.drop (i + 1) := List.drop_eq_getElem_cons h
  refine ⟨L[i], L.drop (i + 1), ?_, ?_, List.getElem?_eq_getElem h⟩
  · rw [← h1, List.take_append_drop]
  · unfold cutI
    rw [h1]
theorem take_less {L : List Pr} (hs : Srt L) {i : Nat} {p : Pr} {R : List Pr} (h : L = L.take i ++ p :: R) : (∀ q ∈ L.take i, q.1 < p.1) ∧ (∀ q ∈ R, p.1 < q.1) := by
  have hs2 : Srt (L.take i ++ p :: R) := by rw [← h]; exact hs
  obtain ⟨_, a2, a3⟩ := List.pairwise_append.1 hs2
  exact ⟨fun q hq => a3 q hq p (by simp), (srt_cons.1 a2).1⟩
/-- No rank's key becomes less. -/
theorem cutI_rank {L : List Pr} (hs : Srt L) {i : Nat} (hi : i < L.length) {r : Nat} (h1 : 1 ≤ r) (_h2 : r ≤ tot L) : rank L r ≤ rank (cutI L i) r := by
  obtain ⟨p, R, e1, e2, _⟩ := cutI_split hi
  obtain ⟨hl, hr⟩ := take_less hs e1
  have ht : tot L = tot (L.take i) + (p.2 + tot R) := by rw [← tot_cons, ← tot_append, ← e1]
  have e3 : rank L r = if r ≤ tot (L.take i) ∧ L.take i ≠ [] then rank (L.take i) r else rank (p :: R) (r - tot (L.take i)) := by
    rw [← rank_append, ← e1]
  have e4 : rank (cutI L i) r = if r ≤ p.2 + tot (L.take i) then p.1 else rank R (r - (p.2 + tot (L.take i))) := by rw [e2, rank]
  rw [e3, e4]
  by_cases hA : r ≤ tot (L.take i) ∧ L.take i ≠ []
  · rw [if_pos hA, if_pos (by omega)]
    obtain ⟨q, hq, e⟩ := rank_mem h1 hA.1
    rw [e]
    have := hl q hq
    omega
  · have hB : tot (L.take i) < r := by
      rcases Nat.lt_or_ge (tot (L.take i)) r with h | h
      · exact h
      · by_cases hn : L.take i = []
        · rw [hn, tot_nil] at h; omega
        · exact absurd ⟨h, hn⟩ hA
    rw [if_neg hA, rank]
    by_cases hC : r ≤ p.2 + tot (L.take i)
    · rw [if_pos (by omega), if_pos hC]
      exact Int.le_refl _
    · rw [if_neg (by omega), if_neg hC, show r - tot (L.take i) - p.2 = r - (p.2 + tot (L.take i)) by omega]
      exact Int.le_refl _
/-- Keys that stay have their counts, but the least one. -/
theorem cutI_count {L : List Pr} (hs : Srt L) {i t : Nat} (hi : i < L.length) {q : Pr} (ht : 0 < t) (hq : (cutI L i)[t]? = some q) : cnt L q.1 = q.2 := by
  obtain ⟨p, R, e1, e2, _⟩ := cutI_split hi
  rw [e2] at hq
  cases t with
  | zero => omega
  | succ t =>
    rw [List.getElem?_cons_succ] at hq
    exact cnt_of_mem hs (by rw [e1]; exact List.mem_append_right _ (by simp [List.mem_of_getElem? hq]))
/-- Sorted lists: fewer keys, no greater length. -/
theorem srt_sub : ∀ (R L : List Pr), Srt L → Srt R → (∀ p ∈ L, ∃ q ∈ R, q.1 = p.1) → L.length ≤ R.length
  | [], L, _, _, h => by
    cases L with
    | nil => exact Nat.le_refl _
    | cons p L => obtain ⟨q, hq, _⟩ := h p (by simp); cases hq
  | q :: R, [], _, _, _ => Nat.zero_le _
  | q :: R, p :: L, hl, hr, h => by
    obtain ⟨a1, a2⟩ := srt_cons.1 hl
    obtain ⟨b1, b2⟩ := srt_cons.1 hr
    obtain ⟨x, hx, e⟩ := h p (by simp)
    rcases List.mem_cons.1 hx with rfl | hx2
    · have h3 := srt_sub R L a2 b2 (fun y hy => by
        obtain ⟨z, hz, e2⟩ := h y (by simp [hy])
        rcases List.mem_cons.1 hz with rfl | hz
        · have := a1 y hy; omega
        · exact ⟨z, hz, e2⟩)
      simp only [List.length_cons]
      omega
    · have h3 := srt_sub R (p :: L) hl b2 (fun y hy => by
        obtain ⟨z, hz, e2⟩ := h y hy
        rcases List.mem_cons.1 hz with rfl | hz
        · have h4 := b1 x hx2
          rcases List.mem_cons.1 hy with rfl | hy
          · omega
          · have := a1 y hy; omega
        · exact ⟨z, hz, e2⟩)
      simp only [List.length_cons] at h3 ⊢
      omega
/-- How many keys are not less than k. -/
def up (L : List Pr) (k : Int) : Nat := (L.filter (fun p => decide (k ≤ p.1))).length
theorem filter_srt {L : List Pr} (hs : Srt L) (P : Pr → Bool) : Srt (L.filter P) := List.Pairwise.filter _ hs
theorem up_sub {L R : List Pr} (hl : Srt L) (hr : Srt R) {k : Int} (h : ∀ p ∈ L, k ≤ p.1 → ∃ q ∈ R, q.1 = p.1) : up L k ≤ up R k := by
  refine srt_sub _ _ (filter_srt hl _) (filter_srt hr _) (fun p hp => ?_)
  obtain ⟨h1, h2⟩ := List.mem_filter.1 hp
  have h3 := of_decide_eq_true h2
  obtain ⟨q, hq, e⟩ := h p h1 h3
  exact ⟨q, List.mem_filter.2 ⟨hq, decide_eq_true (by omega)⟩, e⟩
theorem up_all {L : List Pr} {k : Int} (h : ∀ p ∈ L, k ≤ p.1) : up L k = L.length := by
  unfold up
  rw [List.filter_eq_self.2 (fun p hp => decide_eq_true (h p hp))]
theorem up_split {L : List Pr} (hs : Srt L) {i : Nat} {p : Pr} {R : List Pr} (h : L = L.take i ++ p :: R) : up L p.1 = R.length + 1 := by
  obtain ⟨hl, hr⟩ := take_less hs h
  unfold up
  rw [h, List.filter_append, List.filter_eq_nil_iff.2 (fun q hq => by have := hl q hq; simp; omega), List.nil_append,
    List.filter_eq_self.2 (fun q hq => by
      rcases List.mem_cons.1 hq with rfl | hq
      · simp
      · have := hr q hq; simp; omega), List.length_cons]
theorem up_le (L : List Pr) (k : Int) : up L k ≤ L.length := List.length_filter_le _ _
theorem up_lt {R : List Pr} (hr : Srt R) {k j : Int} (h : k < j) {q : Pr} (hq : q ∈ R) (e : q.1 = k) : up R j + 1 ≤ up R k := by
  have h1 : (q :: R.filter (fun p => decide (j ≤ p.1))).length ≤ (R.filter (fun p => decide (k ≤ p.1))).length := by
    refine srt_sub _ _ (srt_cons.2 ⟨fun x hx => ?_, filter_srt hr _⟩) (filter_srt hr _) (fun x hx => ?_)
    · have := of_decide_eq_true (List.mem_filter.1 hx).2
      omega
    · rcases List.mem_cons.1 hx with rfl | hx
      · exact ⟨x, List.mem_filter.2 ⟨hq, decide_eq_true (by omega)⟩, rfl⟩
      · obtain ⟨h2, h3⟩ := List.mem_filter.1 hx
        have := of_decide_eq_true h3
        exact ⟨x, List.mem_filter.2 ⟨h2, decide_eq_true (by omega)⟩, rfl⟩
  rw [List.length_cons] at h1
  exact h1
theorem below_append (A B : List Pr) (K : Int) : below (A ++ B) K = below A K + below B K := by
  unfold below
  rw [List.filter_append, tot_append]
theorem below_cons (p : Pr) (L : List Pr) (K : Int) : below (p :: L) K = (if p.1 < K then p.2 else 0) + below L K := by
  unfold below
  rw [List.filter_cons]
  by_cases h : p.1 < K
  · rw [if_pos (by simpa using h), if_pos h, tot_cons]
  · rw [if_neg (by simpa using h), if_neg h, Nat.zero_add]
theorem below_all {L : List Pr} {K : Int} (h : ∀ p ∈ L, p.1 < K) : below L K = tot L := by
  unfold below
  rw [List.filter_eq_self.2 (fun p hp => decide_eq_true (h p hp))]
theorem below_none {L : List Pr} {K : Int} (h : ∀ p ∈ L, K ≤ p.1) : below L K = 0 := by
  unfold below
  rw [List.filter_eq_nil_iff.2 (fun p hp => by have := h p hp; simp; omega)]
  rfl
theorem below_put {L : List Pr} {k : Int} {n : Nat} (K : Int) : below (put L k n) K = below L K + if k < K then n else 0 := by
  induction L with
  | nil => rw [put, below_cons]; simp [below, tot]
  | cons p L ih =>
    rw [put]
    by_cases c1 : p.1 < k
    · rw [if_pos c1, below_cons, ih, below_cons]; omega
    · rw [if_neg c1]
      by_cases c2 : p.1 = k
      · rw [if_pos c2, below_cons, below_cons, ← c2]
        simp only
        by_cases h : p.1 < K
        · rw [if_pos h, if_pos h, if_pos h]; omega
        · rw [if_neg h, if_neg h, if_neg h]; omega
      · rw [if_neg c2, below_cons, below_cons]
        simp only
        omega
theorem below_puts {L M : List Pr} (K : Int) : below (puts L M) K = below L K + below M K := by
  induction M generalizing L with
  | nil => simp [puts, below, tot]
  | cons p M ih => rw [show puts L (p :: M) = puts (put L p.1 p.2) M from rfl, ih, below_put, below_cons]; omega
theorem puts_keys {L M : List Pr} : ∀ q ∈ puts L M, (∃ p ∈ L, p.1 = q.1) ∨ ∃ p ∈ M, p.1 = q.1 := by
  induction M generalizing L with
  | nil => intro q hq; exact .inl ⟨q, hq, rfl⟩
  | cons x M ih =>
    intro q hq
    rcases ih q hq with ⟨p, hp, e⟩ | ⟨p, hp, e⟩
    · rcases put_keys p hp with h | ⟨y, hy, e2⟩
      · exact .inr ⟨x, by simp, by omega⟩
      · exact .inl ⟨y, hy, by omega⟩
    · exact .inr ⟨p, by simp [hp], e⟩
theorem key_of_cnt {L : List Pr} {k : Int} (h : cnt L k ≠ 0) : ∃ p ∈ L, p.1 = k := ⟨_, cnt_mem h, rfl⟩
theorem cnt_pos {L : List Pr} (hs : Srt L) (hp : Pos L) {p : Pr} (h : p ∈ L) : cnt L p.1 ≠ 0 := by rw [cnt_of_mem hs h]; have := hp p h; omega
/-- M is L with all that is below the key k counted at k. -/
structure Clamp (k : Int) (L M : List Pr) : Prop where
  srt : Srt M
  pos : Pos M
  above : ∀ j, k < j → cnt M j = cnt L j
  under : ∀ K, k < K → below M K = below L K
  least : ∀ q ∈ M, k ≤ q.1
  keys : ∀ q ∈ M, ∃ p ∈ L, p.1 = q.1
theorem cut_clamp {L : List Pr} (hs : Srt L) (hp : Pos L) {i : Nat} (hi : i < L.length) : ∃ p, p ∈ L ∧ Clamp p.1 L (cutI L i) ∧ up L p.1 = L.length - i := by
  obtain ⟨p, R, e1, e2, e3⟩ := cutI_split hi
  obtain ⟨hl, hr⟩ := take_less hs e1
  have hlen : L.length = (L.take i).length + (R.length + 1) := by
    have := congrArg List.length e1
    rw [List.length_append, List.length_cons] at this
    exact this
  have hti : (L.take i).length = i := by rw [List.length_take]; omega
  refine ⟨p, List.mem_of_getElem? e3, ⟨cutI_srt hs i, cutI_pos hp i, fun j hj => ?_, fun K hK => ?_, fun q hq => ?_, fun q hq => ?_⟩, by rw [up_split hs e1]; omega⟩
  · rw [e2]
    have hc : cnt L j = cnt R j := by
      have : ∀ (A : List Pr), (∀ q ∈ A, q.1 ≠ j) → cnt (A ++ p :: R) j = cnt (p :: R) j := by
        intro A
        induction A with
        | nil => intro _; rfl
        | cons a A ih => intro h; rw [List.cons_append, cnt, if_neg (h a (by simp)), ih (fun q hq => h q (by simp [hq]))]
      rw [e1, this _ (fun q hq => by have := hl q hq; omega), cnt, if_neg (by omega)]
    rw [hc, cnt, if_neg (by simp only; omega)]
  · rw [e2, below_cons]
    have hb : below L K = tot (L.take i) + (p.2 + below R K) := by
      have h1 : below L K = below (L.take i ++ p :: R) K := by rw [← e1]
      rw [h1, below_append, below_all (fun q hq => by have := hl q hq; omega), below_cons, if_pos hK]
    rw [hb, if_pos (by simpa using hK)]
    simp only
    omega
  · rw [e2] at hq
    rcases List.mem_cons.1 hq with rfl | hq
    · exact Int.le_refl _
    · have := hr q hq; omega
  · rw [e2] at hq
    rcases List.mem_cons.1 hq with rfl | hq
    · exact ⟨p, List.mem_of_getElem? e3, rfl⟩
    · exact ⟨q, by rw [e1]; exact List.mem_append_right _ (by simp [hq]), rfl⟩
theorem clamp_self {L : List Pr} (hs : Srt L) (hp : Pos L) {k : Int} (h : ∀ q ∈ L, k ≤ q.1) : Clamp k L L := ⟨hs, hp, fun _ _ => rfl, fun _ _ => rfl, h, fun q hq => ⟨q, hq, rfl⟩⟩
/-- Two clamps of one list at one key, that both hold it, are one. -/
theorem clamp_eq {k : Int} {L M M' : List Pr} (h : Clamp k L M) (h' : Clamp k L M') : M = M' := by
  refine ext h.srt h.pos h'.srt h'.pos (fun j => ?_)
  have hb : ∀ (X : List Pr), Srt X → (∀ q ∈ X, k ≤ q.1) → below X (k + 1) = cnt X k := by
    intro X hX
    induction X with
    | nil => intro _; rfl
    | cons x X ih =>
      intro hx
      obtain ⟨a1, a2⟩ := srt_cons.1 hX
      rw [below_cons, cnt]
      by_cases he : x.1 = k
      · rw [if_pos (by omega), if_pos he, below_none (fun q hq => by have := a1 q hq; omega), Nat.add_zero]
      · have := hx x (by simp)
        rw [if_neg (by omega), if_neg he, ih a2 (fun q hq => hx q (by simp [hq])), Nat.zero_add]
  rcases Int.lt_trichotomy j k with hj | hj | hj
  · rw [cnt_lt (fun q hq => by have := h.least q hq; omega), cnt_lt (fun q hq => by have := h'.least q hq; omega)]
  · subst hj
    rw [← hb M h.srt h.least, ← hb M' h'.srt h'.least, h.under _ (by omega), h'.under _ (by omega)]
  · rw [h.above j hj, h'.above j hj]
/-- What stays of two lists, taken together and cut, doesn't hang on whether they were cut ahead of that. -/
theorem cut_twice {L M : List Pr} (hl : Srt L) (hlp : Pos L) (hm : Srt M) (hmp : Pos M) (c : Int) : (cutL (puts (cutL L c).1 (cutL M c).1) c).1 = (cutL (puts L M) c).1 := by
  have hc1 : 1 ≤ cutN c := by unfold cutN; omega
  obtain ⟨hrs, hrp, _⟩ := puts_facts hl hlp hmp
  have hcnt : ∀ j, cnt (puts L M) j = cnt L j + cnt M j := puts_cnt hl hm
  have hinL : ∀ p ∈ L, ∃ q ∈ puts L M, q.1 = p.1 := fun p hp => key_of_cnt (by rw [hcnt]; have := cnt_pos hl hlp hp; omega)
  have hinM : ∀ p ∈ M, ∃ q ∈ puts L M, q.1 = p.1 := fun p hp => key_of_cnt (by rw [hcnt]; have := cnt_pos hm hmp hp; omega)
  by_cases hR : (puts L M).length ≤ cutN c
  · have h1 := srt_sub _ _ hl hrs hinL
    have h2 := srt_sub _ _ hm hrs hinM
    have e1 : cutL L c = (L, 0) := by unfold cutL; rw [if_pos (by omega)]
    have e2 : cutL M c = (M, 0) := by unfold cutL; rw [if_pos (by omega)]
    rw [e1, e2]
  · obtain ⟨pR, hpR, hcR, huR⟩ := cut_clamp hrs hrp (i := (puts L M).length - cutN c) (by omega)
    have huR2 : up (puts L M) pR.1 = cutN c := by omega
    have ecR : (cutL (puts L M) c).1 = cutI (puts L M) ((puts L M).length - cutN c) := by unfold cutL; rw [if_neg hR]
    -- each of the two lists is clamped at a key that is not greater
    have hone : ∀ (X : List Pr), Srt X → Pos X → (∀ p ∈ X, ∃ q ∈ puts L M, q.1 = p.1) → ∃ k, k ≤ pR.1 ∧ Clamp k X (cutL X c).1 := by
      intro X hX hXp hXin
      by_cases hXl : X.length ≤ cutN c
      · have e : (cutL X c).1 = X := by unfold cutL; rw [if_pos hXl]
        rw [e]
        cases X with
        | nil => exact ⟨pR.1, Int.le_refl _, clamp_self hX hXp (fun q hq => by cases hq)⟩
        | cons x X =>
          refine ⟨min x.1 pR.1, by omega, clamp_self hX hXp (fun q hq => ?_)⟩
          rcases List.mem_cons.1 hq with rfl | hq
          · omega
          · have := (srt_cons.1 hX).1 q hq; omega
      · have e : (cutL X c).1 = cutI X (X.length - cutN c) := by unfold cutL; rw [if_neg hXl]
        rw [e]
        obtain ⟨pX, hpX, hcX, huX⟩ := cut_clamp hX hXp (i := X.length - cutN c) (by omega)
        refine ⟨pX.1, ?_, hcX⟩
        rcases Int.lt_or_le pR.1 pX.1 with h | h
        · exfalso
          have h1 := up_sub (k := pX.1) hX hrs (fun p hp _ => hXin p hp)
          have h2 := up_lt hrs h hpR rfl
          omega
        · exact h
    obtain ⟨kL, hkL, hcL⟩ := hone L hl hlp hinL
    obtain ⟨kM, hkM, hcM⟩ := hone M hm hmp hinM
    generalize (cutL L c).1 = L' at *
    generalize (cutL M c).1 = M' at *
    obtain ⟨hps, hpp, _⟩ := puts_facts hcL.srt hcL.pos hcM.pos
    have hcntP : ∀ j, cnt (puts L' M') j = cnt L' j + cnt M' j := puts_cnt hcL.srt hcM.srt
    have hkeysP : ∀ p ∈ puts L' M', ∃ q ∈ puts L M, q.1 = p.1 := fun p hp => by
      rcases puts_keys p hp with ⟨x, hx, e⟩ | ⟨x, hx, e⟩
      · obtain ⟨y, hy, e2⟩ := hcL.keys x hx
        obtain ⟨z, hz, e3⟩ := hinL y hy
        exact ⟨z, hz, by omega⟩
      · obtain ⟨y, hy, e2⟩ := hcM.keys x hx
        obtain ⟨z, hz, e3⟩ := hinM y hy
        exact ⟨z, hz, by omega⟩
    -- what is not less than the key is in both
    have hkeep : ∀ (X X' : List Pr) (k : Int), k ≤ pR.1 → Srt X → Pos X → Clamp k X X' → ∀ j, pR.1 ≤ j → cnt X j ≠ 0 → cnt X' j ≠ 0 := by
      intro X X' k hk hX hXp hcl j hj hne
      rcases Int.lt_or_le k j with h | h
      · rw [hcl.above j h]; exact hne
      · have he : j = k := by omega
        subst he
        have h1 := hcl.under (j + 1) (by omega)
        intro h0
        have h2 : below X' (j + 1) = 0 := below_none (fun q hq => by
          have h3 := hcl.least q hq
          rcases Int.lt_or_le j q.1 with h4 | h4
          · omega
          · have h5 : q.1 = j := by omega
            have := cnt_pos hcl.srt hcl.pos hq
            rw [h5] at this
            exact absurd h0 this)
        rw [h2] at h1
        obtain ⟨p, hp, e⟩ := key_of_cnt hne
        have h6 : p.2 ≤ below X (j + 1) := by
          unfold below
          exact tot_le_of_mem (List.mem_filter.2 ⟨hp, decide_eq_true (by omega)⟩)
        have := hXp p hp
        omega
    have hin2 : ∀ p ∈ puts L M, pR.1 ≤ p.1 → ∃ q ∈ puts L' M', q.1 = p.1 := fun p hp hj => by
      have h1 := cnt_pos hrs hrp hp
      rw [hcnt] at h1
      refine key_of_cnt ?_
      rw [hcntP]
      by_cases h2 : cnt L p.1 = 0
      · have := hkeep M M' kM hkM hm hmp hcM p.1 hj (by omega); omega
      · have := hkeep L L' kL hkL hl hlp hcL p.1 hj h2; omega
    have huP : up (puts L' M') pR.1 = cutN c := by
      have h1 := up_sub (k := pR.1) hps hrs (fun p hp _ => hkeysP p hp)
      have h2 := up_sub (k := pR.1) hrs hps hin2
      omega
    have hPc : Clamp pR.1 (puts L M) (cutL (puts L' M') c).1 := by
      have hab : ∀ j, pR.1 < j → cnt (puts L' M') j = cnt (puts L M) j := fun j hj => by rw [hcntP, hcnt, hcL.above j (by omega), hcM.above j (by omega)]
      have hun : ∀ K, pR.1 < K → below (puts L' M') K = below (puts L M) K := fun K hK => by rw [below_puts, below_puts, hcL.under K (by omega), hcM.under K (by omega)]
      by_cases hP : (puts L' M').length ≤ cutN c
      · have e : (cutL (puts L' M') c).1 = puts L' M' := by unfold cutL; rw [if_pos hP]
        rw [e]
        refine ⟨hps, hpp, hab, hun, fun q hq => ?_, hkeysP⟩
        have h1 : (puts L' M').filter (fun p => decide (pR.1 ≤ p.1)) = puts L' M' := List.filter_sublist.eq_of_length (by
          have h3 := up_le (puts L' M') pR.1
          unfold up at huP h3
          omega)
        rw [← h1] at hq
        exact of_decide_eq_true (List.mem_filter.1 hq).2
      · obtain ⟨pP, hpP, hcP, huP2⟩ := cut_clamp hps hpp (i := (puts L' M').length - cutN c) (by omega)
        have e : (cutL (puts L' M') c).1 = cutI (puts L' M') ((puts L' M').length - cutN c) := by unfold cutL; rw [if_neg hP]
        have hk : pP.1 = pR.1 := by
          rcases Int.lt_trichotomy pP.1 pR.1 with h | h | h
          · have := up_lt hps h hpP rfl; omega
          · exact h
          · obtain ⟨q, hq, e2⟩ := hin2 pR hpR (Int.le_refl _)
            have := up_lt hps (k := pR.1) h hq e2
            omega
        rw [e]
        rw [hk] at hcP
        exact ⟨hcP.srt, hcP.pos, fun j hj => by rw [hcP.above j hj, hab j hj], fun K hK => by rw [hcP.under K hK, hun K hK], hcP.least, fun q hq => by
          obtain ⟨x, hx, e1⟩ := hcP.keys q hq
          obtain ⟨y, hy, e2⟩ := hkeysP x hx
          exact ⟨y, hy, by omega⟩⟩
    rw [ecR]
    exact clamp_eq hPc hcR
end Pl
end Go.Proofs.Ytmpmjgoipfgfoaa
