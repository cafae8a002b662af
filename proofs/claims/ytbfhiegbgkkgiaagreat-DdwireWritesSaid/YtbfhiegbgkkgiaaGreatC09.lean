/- Sparse lists cut, plain: ranks, counts, and that it doesn't matter whether two lists were cut ahead of being taken together. -/
import Derived.Test.YtbfhiegbgkkgiaaGreatC03
import Derived.Test.YtbfhiegbgkkgiaaGreatC08
namespace Go.Proofs.YtbfhiegbgkkgiaaGreat
namespace Pl
theorem rank_append (A B : List Pr) (r : Nat) : rank (A ++ B) r = if r ≤ tot A ∧ A ≠ [] then rank A r else rank B (r - tot A) := by
  induction A generalizing r with
  | nil => simp [tot]
  | cons p A ih =>
    rw [List.cons_append, rank, rank, tot_cons]
    by_cases h : r ≤ p.2
    · rw [if_pos h, if_pos ⟨by omega, by simp⟩, if_pos h]
    · rw [if_neg h, ih]
      by_cases hA : A = []
      · subst hA
        rw [if_neg (by simp), if_neg (by rw [tot_nil]; omega), tot_nil]
        congr 1
      · by_cases h2 : r ≤ p.2 + tot A
        · rw [if_pos ⟨by omega, hA⟩, if_pos ⟨h2, by simp⟩, if_neg h]
        · rw [if_neg (by omega), if_neg (by omega)]
          congr 1
          omega
theorem rank_mem {L : List Pr} {r : Nat} (h1 : 1 ≤ r) (h2 : r ≤ tot L) : ∃ p ∈ L, rank L r = p.1 := by
  induction L generalizing r with
  | nil => rw [tot_nil] at h2; omega
  | cons p L ih =>
    rw [tot_cons] at h2
    rw [rank]
    by_cases h : r ≤ p.2
    · rw [if_pos h]; exact ⟨p, by simp, rfl⟩
    · rw [if_neg h]
      obtain ⟨q, hq, e⟩ := ih (r := r - p.2) (by omega) (by omega)
      exact ⟨q, by simp [hq], e⟩
theorem cutI_split {L : List Pr} {i : Nat} (h : i < L.length) : ∃ p R, L = L.take i ++ p :: R ∧ cutI L i = (p.1, p.2 + tot (L.take i)) :: R ∧ L[i]? = some p := by
  have h1 : L.drop i = L[i] :: L.drop (i + 1) := List.drop_eq_getElem_cons h
  refine ⟨L[i], L.drop (i + 1), ?_, ?_, List.getElem?_eq_getElem h⟩
  · rw [← h1, List.take_append_drop]
  · unfold cutI
    rw [h1]
theorem take_less {L : List Pr} (hs : Srt L) {i : Nat} {p : Pr} {R : List Pr} (h : L = L.take i ++ p :: R) : (∀ q ∈ L.take i, q.1 < p.1) ∧ (∀ q ∈ R, p.1 < q.1) := by
  have hs2 : Srt (L.take i ++ p :: R) := by rw [← h]; exact hs
  obtain ⟨_, a2, a3⟩ := List.pairwise_append.1 hs2
  exact ⟨fun q hq => a3 q hq p (by simp), (srt_cons.1 a2).1⟩
/-- No rank's key becomes less. -/
theorem cutI_rank {L : List Pr} (hs : Srt L) {i : Nat} (hi : i < L.length) {r : Nat} (h1 : 1 ≤ r) (_h2 : r ≤ tot L) : rank L r ≤ rank (cutI L i) r := by
  obtain ⟨p, R, e1, e2, _⟩ := cutI_split hi
  obtain ⟨hl, hr⟩ := take_less hs e1
  have ht : tot L = tot (L.take i) + (p.2 + tot R) := by rw [← tot_cons, ← tot_append, ← e1]
  have e3 : rank L r = if r ≤ tot (L.take i) ∧ L.take i ≠ [] then rank (L.take i) r else rank (p :: R) (r - tot (L.take i)) := by
    rw [← rank_append, ← e1]
  have e4 : rank (cutI L i) r = if r ≤ p.2 + tot (L.take i) then p.1 else rank R (r - (p.2 + tot (L.take i))) := by rw [e2, rank]
  rw [e3, e4]
  by_cases hA : r ≤ tot (L.take i) ∧ L.take i ≠ []
  · rw [if_pos hA, if_pos (by omega)]
    obtain ⟨q, hq, e⟩ := rank_mem h1 hA.1
    rw [e]
    have := hl q hq
    omega
  · have hB : tot (L.take i) < r := by
      rcases Nat.lt_or_ge (tot (L.take i)) r with h | h
      · exact h
      · by_cases hn : L.take i = []
        · rw [hn, tot_nil] at h; omega
        · exact absurd ⟨h, hn⟩ hA
    rw [if_neg hA, rank]
    by_cases hC : r ≤ p.2 + tot (L.take i)
    · rw [if_pos (by omega), if_pos hC]
      exact Int.le_refl _
    · rw [if_neg (by omega), if_neg hC, show r - tot (L.take i) - p.2 = r - (p.2 + tot (L.take i)) by omega]
      exact Int.le_refl _
/-- Keys that stay have their counts, but the least one. -/
theorem cutI_count {L : List Pr} (hs : Srt L) {i t : Nat} (hi : i < L.length) {q : Pr} (ht : 0 < t) (hq : (cutI L i)[t]? = some q) : cnt L q.1 = q.2 := by
  obtain ⟨p, R, e1, e2, _⟩ := cutI_split hi
  rw [e2] at hq
  cases t with
  | zero => omega
  | succ t =>
    rw [List.getElem?_cons_succ] at hq
    exact cnt_of_mem hs (by rw [e1]; exact List.mem_append_right _ (by simp [List.mem_of_getElem? hq]))
/-- Sorted lists: fewer keys, no greater length. -/
theorem srt_sub : ∀ (R L : List Pr), Srt L → Srt R → (∀ p ∈ L, ∃ q ∈ R, q.1 = p.1) → L.length ≤ R.length
  | [], L, _, _, h => by
    cases L with
    | nil => exact Nat.le_refl _
    | cons p L => obtain ⟨q, hq, _⟩ := h p (by simp); cases hq
  | q :: R, [], _, _, _ => Nat.zero_le _
  | q :: R, p :: L, hl, hr, h => by
    obtain ⟨a1, a2⟩ := srt_cons.1 hl
    obtain ⟨b1, b2⟩ := srt_cons.1 hr
    obtain ⟨x, hx, e⟩ := h p (by simp)
    rcases List.mem_cons.1 hx with rfl | hx2
    · have h3 := srt_sub R L a2 b2 (fun y hy => by
        obtain ⟨z, hz, e2⟩ := h y (by simp [hy])
        rcases List.mem_cons.1 hz with rfl | hz
        · have := a1 y hy; omega
        · exact ⟨z, hz, e2⟩)
      simp only [List.length_cons]
      omega
    · have h3 := srt_sub R (p :: L) hl b2 (fun y hy => by
        obtain ⟨z, hz, e2⟩ := h y hy
        rcases List.mem_cons.1 hz with rfl | hz
        · have h4 := b1 x hx2
          rcases List.mem_cons.1 hy with rfl | hy
          · omega
          · have := a1 y hy; omega
        · exact ⟨z, hz, e2⟩)
      simp only [List.length_cons] at h3 ⊢
      omega
/-- How many keys are not less than k. -/
def up (L : List Pr) (k : Int) : Nat := (L.filter (fun p => decide (k ≤ p.1))).length
theorem filter_srt {L : List Pr} (hs : Srt L) (P : Pr → Bool) : Srt (L.filter P) := List.Pairwise.filter _ hs
theorem up_sub {L R : List Pr} (hl : Srt L) (hr : Srt R) {k : Int} (h : ∀ p ∈ L, k ≤ p.1 → ∃ q ∈ R, q.1 = p.1) : up L k ≤ up R k := by
  refine srt_sub _ _ (filter_srt hl _) (filter_srt hr _) (fun p hp => ?_)
  obtain ⟨h1, h2⟩ := List.mem_filter.1 hp
  have h3 := of_decide_eq_true h2
  obtain ⟨q, hq, e⟩ := h p h1 h3
  exact ⟨q, List.mem_filter.2 ⟨hq, decide_eq_true (by omega)⟩, e⟩
theorem up_all {L : List Pr} {k : Int} (h : ∀ p ∈ L, k ≤ p.1) : up L k = L.length := by
  unfold up
  rw [List.filter_eq_self.2 (fun p hp => decide_eq_true (h p hp))]
theorem up_split {L : List Pr} (hs : Srt L) {i : Nat} {p : Pr} {R : List Pr} (h : L = L.take i ++ p :: R) : up L p.1 = R.length + 1 := by
  obtain ⟨hl, hr⟩ := take_less hs h
  unfold up
  rw [h, List.filter_append, List.filter_eq_nil_iff.2 (fun q hq => by have := hl q hq; simp; omega), List.nil_append,
    List.filter_eq_self.2 (fun q hq => by
      rcases List.mem_cons.1 hq with rfl | hq
      · simp
      · have := hr q hq; simp; omega), List.length_cons]
theorem up_le (L : List Pr) (k : Int) : up L k ≤ L.length := List.length_filter_le _ _
theorem up_lt {R : List Pr} (hr : Srt R) {k j : Int} (h : k < j) {q : Pr} (hq : q ∈ R) (e : q.1 = k) : up R j + 1 ≤ up R k := by
  have h1 : (q :: R.filter (fun p => decide (j ≤ p.1))).length ≤ (R.filter (fun p => decide (k ≤ p.1))).length := by
    refine srt_sub _ _ (srt_cons.2 ⟨fun x hx => ?_, filter_srt hr _⟩) (filter_srt hr _) (fun x hx => ?_)
    · have := of_decide_eq_true (List.mem_filter.1 hx).2
      omega
    · rcases List.mem_cons.1 hx with rfl | hx
      · exact ⟨x, List.mem_filter.2 ⟨hq, decide_eq_true (by omega)⟩, rfl⟩
      · obtain ⟨h2, h3⟩ := List.mem_filter.1 hx
        have := of_decide_eq_true h3
        exact ⟨x, List.mem_filter.2 ⟨h2, decide_eq_true (by omega)⟩, rfl⟩
  rw [List.length_cons] at h1
  exact h1
theorem below_append (A B : List Pr) (K : Int) : below (A ++ B) K = below A K + below B K := by
  unfold below
  rw [List.filter_append, tot_append]
theorem below_cons (p : Pr) (L : List Pr) (K : Int) : below (p :: L) K = (if p.1 < K then p.2 else 0) + below L K := by
  unfold below
  rw [List.filter_cons]
  by_cases h : p.1 < K
  · rw [if_pos (by simpa using h), if_pos h, tot_cons]
  · rw [if_neg (by simpa using h), if_neg h, Nat.zero_add]
theorem below_all {L : List Pr} {K : Int} (h : ∀ p ∈ L, p.1 < K) : below L K = tot L := by
  unfold below
  rw [List.filter_eq_self.2 (fun p hp => decide_eq_true (h p hp))]
theorem below_none {L : List Pr} {K : Int} (h : ∀ p ∈ L, K ≤ p.1) : below L K = 0 := by
  unfold below
  rw [List.filter_eq_nil_iff.2 (fun p hp => by have := h p hp; simp; omega)]
  rfl
theorem below_put {L : List Pr} {k : Int} {n : Nat} (K : Int) : below (put L k n) K = below L K + if k < K then n else 0 := by
  induction L with
  | nil => rw [put, below_cons]; simp [below, tot]
  | cons p L ih =>
    rw [put]
    by_cases c1 : p.1 < k
    · rw [if_pos c1, below_cons, ih, below_cons]; omega
    · rw [if_neg c1]
      by_cases c2 : p.1 = k
      · rw [if_pos c2, below_cons, below_cons, ← c2]
        simp only
        by_cases h : p.1 < K
        · rw [if_pos h, if_pos h, if_pos h]; omega
        · rw [if_neg h, if_neg h, if_neg h]; omega
      · rw [if_neg c2, below_cons, below_cons]
        simp only
        omega
theorem below_puts {L M : List Pr} (K : Int) : below (puts L M) K = below L K + below M K := by
  induction M generalizing L with
  | nil => simp [puts, below, tot]
  | cons p M ih => rw [show puts L (p :: M) = puts (put L p.1 p.2) M from rfl, ih, below_put, below_cons]; omega
theorem puts_keys {L M : List Pr} : ∀ q ∈ puts L M, (∃ p ∈ L, p.1 = q.1) ∨ ∃ p ∈ M, p.1 = q.1 := by
  induction M generalizing L with
  | nil => intro q hq; exact .inl ⟨q, hq, rfl⟩
  | cons x M ih =>
    intro q hq
    rcases ih q hq with ⟨p, hp, e⟩ | ⟨p, hp, e⟩
    · rcases put_keys p hp with h | ⟨y, hy, e2⟩
      · exact .inr ⟨x, by simp, by omega⟩
      · exact .inl ⟨y, hy, by omega⟩
    · exact .inr ⟨p, by simp [hp], e⟩
theorem key_of_cnt {L : List Pr} {k : Int} (h : cnt L k ≠ 0) : ∃ p ∈ L, p.1 = k := ⟨_, cnt_mem h, rfl⟩
theorem cnt_pos {L : List Pr} (hs : Srt L) (hp : Pos L) {p : Pr} (h : p ∈ L) : cnt L p.1 ≠ 0 := by rw [cnt_of_mem hs h]; have := hp p h; omega
/-- M is L with all that is below the key k counted at k. -/
structure Clamp (k : Int) (L M : List Pr) : Prop where
  srt : Srt M
  pos : Pos M
  above : ∀ j, k < j → cnt M j = cnt L j
  under : ∀ K, k < K → below M K = below L K
  least : ∀ q ∈ M, k ≤ q.1
  keys : ∀ q ∈ M, ∃ p ∈ L, p.1 = q.1
theorem cut_clamp {L : List Pr} (hs : Srt L) (hp : Pos L) {i : Nat} (hi : i < L.length) : ∃ p, p ∈ L ∧ Clamp p.1 L (cutI L i) ∧ up L p.1 = L.length - i := by
  obtain ⟨p, R, e1, e2, e3⟩ := cutI_split hi
  obtain ⟨hl, hr⟩ := take_less hs e1
  have hlen : L.length = (L.take i).length + (R.length + 1) := by
    have := congrArg List.length e1
    rw [List.length_append, List.length_cons] at this
    exact this
  have hti : (L.take i).length = i := by rw [List.length_take]; omega
  refine ⟨p, List.mem_of_getElem? e3, ⟨cutI_srt hs i, cutI_pos hp i, fun j hj => ?_, fun K hK => ?_, fun q hq => ?_, fun q hq => ?_⟩, by rw [up_split hs e1]; omega⟩
  · rw [e2]
    have hc : cnt L j = cnt R j := by
      have : ∀ (A : List Pr), (∀ q ∈ A, q.1 ≠ j) → cnt (A ++ p :: R) j = cnt (p :: R) j := by
        intro A
        induction A with
        | nil => intro _; rfl
        | cons a A ih => intro h; rw [List.cons_append, cnt, if_neg (h a (by simp)), ih (fun q hq => h q (by simp [hq]))]
      rw [e1, this _ (fun q hq => by have := hl q hq; omega), cnt, if_neg (by omega)]
    rw [hc, cnt, if_neg (by simp only; omega)]
  · rw [e2, below_cons]
    have hb : below L K = tot (L.take i) + (p.2 + below R K) := by
      have h1 : below L K = below (L.take i ++ p :: R) K := by rw [← e1]
      rw [h1, below_append, below_all (fun q hq => by have := hl q hq; omega), below_cons, if_pos hK]
    rw [hb, if_pos (by simpa using hK)]
    simp only
    omega
  · rw [e2] at hq
    rcases List.mem_cons.1 hq with rfl | hq
    · exact Int.le_refl _
    · have := hr q hq; omega
  · rw [e2] at hq
    rcases List.mem_cons.1 hq with rfl | hq
    · exact ⟨p, List.mem_of_getElem? e3, rfl⟩
    · exact ⟨q, by rw [e1]; exact List.mem_append_right _ (by simp [hq]), rfl⟩
theorem clamp_self {L : List Pr} (hs : Srt L) (hp : Pos L) {k : Int} (h : ∀ q ∈ L, k ≤ q.1) : Clamp k L L := ⟨hs, hp, fun _ _ => rfl, fun _ _ => rfl, h, fun q hq => ⟨q, hq, rfl⟩⟩
/-- Two clamps of one list at one key, that both hold it, are one. -/
theorem clamp_eq {k : Int} {L M M' : List Pr} (h : Clamp k L M) (h' : Clamp k L M') : M = M' := by
  refine ext h.srt h.pos h'.srt h'.pos (fun j => ?_)
  have hb : ∀ (X : List Pr), Srt X → (∀ q ∈ X, k ≤ q.1) → below X (k + 1) = cnt X k := by
    intro X hX
    induction X with
    | nil => intro _; rfl
    | cons x X ih =>
      intro hx
      obtain ⟨a1, a2⟩ := srt_cons.1 hX
      rw [below_cons, cnt]
      by_cases he : x.1 = k
      · rw [if_pos (by omega), if_pos he, below_none (fun q hq => by have := a1 q hq; omega), Nat.add_zero]
      · have := hx x (by simp)
        rw [if_neg (by omega), if_neg he, ih a2 (fun q hq => hx q (by simp [hq])), Nat.zero_add]
  rcases Int.lt_trichotomy j k with hj | hj | hj
  · rw [cnt_lt (fun q hq => by have := h.least q hq; omega), cnt_lt (fun q hq => by have := h'.least q hq; omega)]
  · subst hj
    rw [← hb M h.srt h.least, ← hb M' h'.srt h'.least, h.under _ (by omega), h'.under _ (by omega)]
  · rw [h.above j hj, h'.above j hj]
/-- What stays of two lists, taken together and cut, doesn't hang on whether they were cut ahead of that. -/
theorem cut_twice {L M : List Pr} (hl : Srt L) (hlp : Pos L) (hm : Srt M) (hmp : Pos M) (c : Int) : (cutL (puts (cutL L c).1 (cutL M c).1) c).1 = (cutL (puts L M) c).1 := by
  have hc1 : 1 ≤ cutN c := by unfold cutN; omega
  obtain ⟨hrs, hrp, _⟩ := puts_facts hl hlp hmp
  have hcnt : ∀ j, cnt (puts L M) j = cnt L j + cnt M j := puts_cnt hl hm
  have hinL : ∀ p ∈ L, ∃ q ∈ puts L M, q.1 = p.1 := fun p hp => key_of_cnt (by rw [hcnt]; have := cnt_pos hl hlp hp; omega)
  have hinM : ∀ p ∈ M, ∃ q ∈ puts L M, q.1 = p.1 := fun p hp => key_of_cnt (by rw [hcnt]; have := cnt_pos hm hmp hp; omega)
  by_cases hR : (puts L M).length ≤ cutN c
  · have h1 := srt_sub _ _ hl hrs hinL
    have h2 := srt_sub _ _ hm hrs hinM
    have e1 : cutL L c = (L, 0) := by unfold cutL; rw [if_pos (by omega)]
    have e2 : cutL M c = (M, 0) := by unfold cutL; rw [if_pos (by omega)]
    rw [e1, e2]
  · obtain ⟨pR, hpR, hcR, huR⟩ := cut_clamp hrs hrp (i := (puts L M).length - cutN c) (by omega)
    have huR2 : up (puts L M) pR.1 = cutN c := by omega
    have ecR : (cutL (puts L M) c).1 = cutI (puts L M) ((puts L M).length - cutN c) := by unfold cutL; rw [if_neg hR]
    -- each of the two lists is clamped at a key that is not greater
    have hone : ∀ (X : List Pr), Srt X → Pos X → (∀ p ∈ X, ∃ q ∈ puts L M, q.1 = p.1) → ∃ k, k ≤ pR.1 ∧ Clamp k X (cutL X c).1 := by
      intro X hX hXp hXin
      by_cases hXl : X.length ≤ cutN c
      · have e : (cutL X c).1 = X := by unfold cutL; rw [if_pos hXl]
        rw [e]
        cases X with
        | nil => exact ⟨pR.1, Int.le_refl _, clamp_self hX hXp (fun q hq => by cases hq)⟩
        | cons x X =>
          refine ⟨min x.1 pR.1, by omega, clamp_self hX hXp (fun q hq => ?_)⟩
          rcases List.mem_cons.1 hq with rfl | hq
          · omega
          · have := (srt_cons.1 hX).1 q hq; omega
      · have e : (cutL X c).1 = cutI X (X.length - cutN c) := by unfold cutL; rw [if_neg hXl]
        rw [e]
        obtain ⟨pX, hpX, hcX, huX⟩ := cut_clamp hX hXp (i := X.length - cutN c) (by omega)
        refine ⟨pX.1, ?_, hcX⟩
        rcases Int.lt_or_le pR.1 pX.1 with h | h
        · exfalso
          have h1 := up_sub (k := pX.1) hX hrs (fun p hp _ => hXin p hp)
          have h2 := up_lt hrs h hpR rfl
          omega
        · exact h
    obtain ⟨kL, hkL, hcL⟩ := hone L hl hlp hinL
    obtain ⟨kM, hkM, hcM⟩ := hone M hm hmp hinM
    generalize (cutL L c).1 = L' at *
    generalize (cutL M c).1 = M' at *
    obtain ⟨hps, hpp, _⟩ := puts_facts hcL.srt hcL.pos hcM.pos
    have hcntP : ∀ j, cnt (puts L' M') j = cnt L' j + cnt M' j := puts_cnt hcL.srt hcM.srt
    have hkeysP : ∀ p ∈ puts L' M', ∃ q ∈ puts L M, q.1 = p.1 := fun p hp => by
      rcases puts_keys p hp with ⟨x, hx, e⟩ | ⟨x, hx, e⟩
      · obtain ⟨y, hy, e2⟩ := hcL.keys x hx
        obtain ⟨z, hz, e3⟩ := hinL y hy
        exact ⟨z, hz, by omega⟩
      · obtain ⟨y, hy, e2⟩ := hcM.keys x hx
        obtain ⟨z, hz, e3⟩ := hinM y hy
        exact ⟨z, hz, by omega⟩
    -- what is not less than the key is in both
    have hkeep : ∀ (X X' : List Pr) (k : Int), k ≤ pR.1 → Srt X → Pos X → Clamp k X X' → ∀ j, pR.1 ≤ j → cnt X j ≠ 0 → cnt X' j ≠ 0 := by
      intro X X' k hk hX hXp hcl j hj hne
      rcases Int.lt_or_le k j with h | h
      · rw [hcl.above j h]; exact hne
      · have he : j = k := by omega
        subst he
        have h1 := hcl.under (j + 1) (by omega)
        intro h0
        have h2 : below X' (j + 1) = 0 := below_none (fun q hq => by
          have h3 := hcl.least q hq
          rcases Int.lt_or_le j q.1 with h4 | h4
          · omega
          · have h5 : q.1 = j := by omega
            have := cnt_pos hcl.srt hcl.pos hq
            rw [h5] at this
            exact absurd h0 this)
        rw [h2] at h1
        obtain ⟨p, hp, e⟩ := key_of_cnt hne
        have h6 : p.2 ≤ below X (j + 1) := by
          unfold below
          exact tot_le_of_mem (List.mem_filter.2 ⟨hp, decide_eq_true (by omega)⟩)
        have := hXp p hp
        omega
    have hin2 : ∀ p ∈ puts L M, pR.1 ≤ p.1 → ∃ q ∈ puts L' M', q.1 = p.1 := fun p hp hj => by
      have h1 := cnt_pos hrs hrp hp
      rw [hcnt] at h1
      refine key_of_cnt ?_
      rw [hcntP]
      by_cases h2 : cnt L p.1 = 0
      · have := hkeep M M' kM hkM hm hmp hcM p.1 hj (by omega); omega
      · have := hkeep L L' kL hkL hl hlp hcL p.1 hj h2; omega
    have huP : up (puts L' M') pR.1 = cutN c := by
      have h1 := up_sub (k := pR.1) hps hrs (fun p hp _ => hkeysP p hp)
      have h2 := up_sub (k := pR.1) hrs hps hin2
      omega
    have hPc : Clamp pR.1 (puts L M) (cutL (puts L' M') c).1 := by
      have hab : ∀ j, pR.1 < j → cnt (puts L' M') j = cnt (puts L M) j := fun j hj => by rw [hcntP, hcnt, hcL.above j (by omega), hcM.above j (by omega)]
      have hun : ∀ K, pR.1 < K → below (puts L' M') K = below (puts L M) K := fun K hK => by rw [below_puts, below_puts, hcL.under K (by omega), hcM.under K (by omega)]
      by_cases hP : (puts L' M').length ≤ cutN c
      · have e : (cutL (puts L' M') c).1 = puts L' M' := by unfold cutL; rw [if_pos hP]
        rw [e]
        refine ⟨hps, hpp, hab, hun, fun q hq => ?_, hkeysP⟩
        have h1 : (puts L' M').filter (fun p => decide (pR.1 ≤ p.1)) = puts L' M' := List.filter_sublist.eq_of_length (by
          have h3 := up_le (puts L' M') pR.1
          unfold up at huP h3
          omega)
        rw [← h1] at hq
        exact of_decide_eq_true (List.mem_filter.1 hq).2
      · obtain ⟨pP, hpP, hcP, huP2⟩ := cut_clamp hps hpp (i := (puts L' M').length - cutN c) (by omega)
        have e : (cutL (puts L' M') c).1 = cutI (puts L' M') ((puts L' M').length - cutN c) := by unfold cutL; rw [if_neg hP]
        have hk : pP.1 = pR.1 := by
          rcases Int.lt_trichotomy pP.1 pR.1 with h | h | h
          · have := up_lt hps h hpP rfl; omega
          · exact h
          · obtain ⟨q, hq, e2⟩ := hin2 pR hpR (Int.le_refl _)
            have := up_lt hps (k := pR.1) h hq e2
            omega
        rw [e]
        rw [hk] at hcP
        exact ⟨hcP.srt, hcP.pos, fun j hj => by rw [hcP.above j hj, hab j hj], fun K hK => by rw [hcP.under K hK, hun K hK], hcP.least, fun q hq => by
          obtain ⟨x, hx, e1⟩ := hcP.keys q hq
          obtain ⟨y, hy, e2⟩ := hkeysP x hx
          exact ⟨y, hy, by omega⟩⟩
    rw [ecR]
    exact clamp_eq hPc hcR
end Pl
end Go.Proofs.YtbfhiegbgkkgiaaGreat
/- Stores with a budget, plain: what is kept of all that was counted, and how much is folded, when more is counted, or two are taken together. No program. -/

namespace Go.Proofs.YtbfhiegbgkkgiaaGreat
namespace Pl
/-- The least key, or 0. -/
def firstK : List Pr → Int
  | [] => 0
  | p :: _ => p.1
theorem cutN_pos (c : Int) : 1 ≤ cutN c := by unfold cutN; omega
theorem cutL_nil (c : Int) : cutL [] c = ([], 0) := by unfold cutL; rw [if_pos (show ([] : List Pr).length ≤ cutN c from Nat.zero_le _)]
theorem cutL_ne {L : List Pr} (h : L ≠ []) (c : Int) : (cutL L c).1 ≠ [] := by
  have := cutN_pos c
  have hl := List.length_pos_iff.2 h
  refine List.length_pos_iff.1 ?_
  unfold cutL
  split
  · exact hl
  · simp only [cutI_len]; omega
/-- What is kept of a list, and what is folded. -/
structure KeptOf (c : Int) (X : List Pr) (k : Int) : Prop where
  first : firstK (cutL X c).1 = k
  clamp : Clamp k X (cutL X c).1
  fold : (cutL X c).2 = below X k
  mem : ∃ p ∈ X, p.1 = k
  upk : up X k ≤ cutN c
  full : (cutL X c).2 ≠ 0 → up X k = cutN c
  len : (cutL X c).1.length = up X k
theorem up_cons_first {p : Pr} {L : List Pr} (hs : Srt (p :: L)) : up (p :: L) p.1 = (p :: L).length := up_all (fun q hq => by
  rcases List.mem_cons.1 hq with rfl | hq
  · exact Int.le_refl _
  · have := (srt_cons.1 hs).1 q hq; omega)
theorem kept_of {X : List Pr} (hs : Srt X) (hp : Pos X) (c : Int) (hX : X ≠ []) : ∃ k, KeptOf c X k := by
  have hc := cutN_pos c
  by_cases hl : X.length ≤ cutN c
  · have e : cutL X c = (X, 0) := by unfold cutL; rw [if_pos hl]
    cases X with
    | nil => exact absurd rfl hX
    | cons p L =>
      have hle : ∀ q ∈ p :: L, p.1 ≤ q.1 := fun q hq => by
        rcases List.mem_cons.1 hq with rfl | hq
        · exact Int.le_refl _
        · have := (srt_cons.1 hs).1 q hq; omega
      refine ⟨p.1, by rw [e]; rfl, by rw [e]; exact clamp_self hs hp hle, by rw [e, below_none hle], ⟨p, by simp, rfl⟩, by rw [up_cons_first hs]; exact hl, fun h => absurd (by rw [e]) h, by rw [e, up_cons_first hs]⟩
  · have hi : X.length - cutN c < X.length := by omega
    have e : cutL X c = (cutI X (X.length - cutN c), tot (X.take (X.length - cutN c))) := by unfold cutL; rw [if_neg hl]
    obtain ⟨p, R, e1, e2, e3⟩ := cutI_split hi
    obtain ⟨hlt, hgt⟩ := take_less hs e1
    obtain ⟨q, hq, hcl, hu⟩ := cut_clamp hs hp hi
    have hqp : q.1 = p.1 := by
      -- the key of the clamp is the one at the place
      have h1 := up_split hs e1
      have hlen : X.length = (X.take (X.length - cutN c)).length + (R.length + 1) := by
        have := congrArg List.length e1
        rw [List.length_append, List.length_cons] at this
        exact this
      rw [List.length_take] at hlen
      rcases Int.lt_trichotomy q.1 p.1 with h | h | h
      · have := up_lt hs h hq rfl; omega
      · exact h
      · have := up_lt hs h (List.mem_of_getElem? e3) rfl; omega
    rw [hqp] at hcl hu
    refine ⟨p.1, by rw [e, e2]; rfl, by rw [e]; exact hcl, ?_, ⟨p, List.mem_of_getElem? e3, rfl⟩, by omega, fun _ => by omega, by rw [e]; simp only [cutI_len]; omega⟩
    rw [e]
    have h1 : below X p.1 = below (X.take (X.length - cutN c) ++ p :: R) p.1 := by rw [← e1]
    rw [h1, below_append, below_all hlt, below_none (fun q hq => by
      rcases List.mem_cons.1 hq with rfl | hq
      · exact Int.le_refl _
      · have := hgt q hq; omega)]
    rfl
/-- What was folded of X, as it counts in a store whose least key is k. -/
def stays (X : List Pr × Nat) (k : Int) : Nat := if 0 < X.2 ∧ firstK X.1 = k then X.2 else 0
theorem below_mono {X : List Pr} {a b : Int} (h : a ≤ b) : below X a ≤ below X b := by
  induction X with
  | nil => exact Nat.le_refl _
  | cons p X ih =>
    rw [below_cons, below_cons]
    by_cases h1 : p.1 < a
    · rw [if_pos h1, if_pos (by omega)]; omega
    · rw [if_neg h1]; omega
theorem fold_part {X R : List Pr} (hX : Srt X) (hXp : Pos X) (hR : Srt R) (c : Int) {k : Int} (hin : ∀ p ∈ X, ∃ q ∈ R, q.1 = p.1) (hk : ∃ p ∈ R, p.1 = k) (hu : up R k ≤ cutN c) :
    below X k = below (cutL X c).1 k + stays (cutL X c) k := by
  by_cases h0 : X = []
  · subst h0
    rw [cutL_nil]
    rfl
  obtain ⟨k0, h⟩ := kept_of hX hXp c h0
  unfold stays
  rw [h.first]
  rcases Int.lt_trichotomy k0 k with h1 | h1 | h1
  · rw [if_neg (by omega), h.clamp.under k h1]; rfl
  · subst h1
    rw [below_none h.clamp.least, h.fold]
    by_cases hz : below X k0 = 0
    · rw [if_neg (by omega), hz]
    · rw [if_pos ⟨by omega, rfl⟩, Nat.zero_add]
  · have e1 : below (cutL X c).1 k = 0 := below_none (fun q hq => by have := h.clamp.least q hq; omega)
    rw [if_neg (by omega), e1]
    by_cases hz : (cutL X c).2 = 0
    · have h2 := below_mono (X := X) (a := k) (b := k0) (by omega)
      rw [← h.fold, hz] at h2
      omega
    · exfalso
      have h2 := h.full hz
      have h3 := up_sub (k := k0) hX hR (fun p hp _ => hin p hp)
      obtain ⟨p, hp, e⟩ := hk
      have h4 := up_lt hR h1 hp e
      omega
/-- Two lists taken together: what is folded of all is what is cut off of what was kept of both, and what was folded of each, where its least key is still the least one. -/
theorem fold_join {L M : List Pr} (hl : Srt L) (hlp : Pos L) (hm : Srt M) (hmp : Pos M) (c : Int) :
    (cutL (puts L M) c).2 = (cutL (puts (cutL L c).1 (cutL M c).1) c).2 + stays (cutL L c) (firstK (cutL (puts L M) c).1) + stays (cutL M c) (firstK (cutL (puts L M) c).1) := by
  obtain ⟨hrs, hrp, _⟩ := puts_facts hl hlp hmp
  have hcnt : ∀ j, cnt (puts L M) j = cnt L j + cnt M j := puts_cnt hl hm
  have hinL : ∀ p ∈ L, ∃ q ∈ puts L M, q.1 = p.1 := fun p hp => key_of_cnt (by rw [hcnt]; have := cnt_pos hl hlp hp; omega)
  have hinM : ∀ p ∈ M, ∃ q ∈ puts L M, q.1 = p.1 := fun p hp => key_of_cnt (by rw [hcnt]; have := cnt_pos hm hmp hp; omega)
  by_cases hR : puts L M = []
  · have hL : L = [] := by
      cases L with
      | nil => rfl
      | cons p L => obtain ⟨q, hq, _⟩ := hinL p (by simp); rw [hR] at hq; cases hq
    have hM : M = [] := by
      cases M with
      | nil => rfl
      | cons p M => obtain ⟨q, hq, _⟩ := hinM p (by simp); rw [hR] at hq; cases hq
    subst hL; subst hM
    rw [show puts ([] : List Pr) [] = [] from rfl, cutL_nil]
    rfl
  have htw := cut_twice hl hlp hm hmp c
  obtain ⟨k, h⟩ := kept_of hrs hrp c hR
  have hLs : Srt (cutL L c).1 ∧ Pos (cutL L c).1 := by
    by_cases h0 : L = []
    · subst h0; rw [cutL_nil]; exact ⟨Srt.nil, Pos.nil⟩
    · obtain ⟨_, h⟩ := kept_of hl hlp c h0; exact ⟨h.clamp.srt, h.clamp.pos⟩
  have hMs : Srt (cutL M c).1 ∧ Pos (cutL M c).1 := by
    by_cases h0 : M = []
    · subst h0; rw [cutL_nil]; exact ⟨Srt.nil, Pos.nil⟩
    · obtain ⟨_, h⟩ := kept_of hm hmp c h0; exact ⟨h.clamp.srt, h.clamp.pos⟩
  obtain ⟨hps, hpp, _⟩ := puts_facts hLs.1 hLs.2 hMs.2
  have hP : puts (cutL L c).1 (cutL M c).1 ≠ [] := fun h0 => by
    have h1 := cutL_ne hR c
    rw [h0, cutL_nil] at htw
    exact h1 htw.symm
  obtain ⟨k2, h2⟩ := kept_of hps hpp c hP
  have hk2 : k2 = k := by rw [← h2.first, htw, h.first]
  subst hk2
  rw [h.first, h.fold, h2.fold, below_puts, below_puts, fold_part hl hlp hrs c hinL h.mem h.upk, fold_part hm hmp hrs c hinM h.mem h.upk]
  omega
theorem cutL_one (k : Int) (n : Nat) (c : Int) : cutL [(k, n)] c = ([(k, n)], 0) := by
  have := cutN_pos c
  unfold cutL
  rw [if_pos (by simpa using this)]
theorem put_puts (L : List Pr) (k : Int) (n : Nat) : put L k n = puts L [(k, n)] := rfl
theorem kept_put {L : List Pr} (hl : Srt L) (hlp : Pos L) (c : Int) (k : Int) {n : Nat} (hn : 0 < n) : (cutL (put (cutL L c).1 k n) c).1 = (cutL (put L k n) c).1 := by
  have h := cut_twice hl hlp (M := [(k, n)]) (srt_cons.2 ⟨(fun q hq => by cases hq), Srt.nil⟩) (pos_cons.2 ⟨hn, Pos.nil⟩) c
  rw [cutL_one] at h
  exact h
theorem fold_put {L : List Pr} (hl : Srt L) (hlp : Pos L) (c : Int) (k : Int) {n : Nat} (hn : 0 < n) : (cutL (put L k n) c).2 = (cutL (put (cutL L c).1 k n) c).2 + stays (cutL L c) (firstK (cutL (put L k n) c).1) := by
  have h := fold_join hl hlp (M := [(k, n)]) (srt_cons.2 ⟨(fun q hq => by cases hq), Srt.nil⟩) (pos_cons.2 ⟨hn, Pos.nil⟩) c
  rw [cutL_one] at h
  have e : stays ([(k, n)], 0) (firstK (cutL (puts L [(k, n)]) c).1) = 0 := by unfold stays; rw [if_neg (by simp)]
  rw [e] at h
  exact h
/-- The rank of what is kept: vague, or as it is among all. -/
theorem kept_rank {L : List Pr} (hs : Srt L) (hp : Pos L) (c : Int) {r : Nat} (h1 : 1 ≤ r) (h2 : r ≤ tot L) :
    (0 < (cutL L c).2 ∧ rank (cutL L c).1 r = firstK (cutL L c).1 → rank L r ≤ rank (cutL L c).1 r) ∧ (¬ (0 < (cutL L c).2 ∧ rank (cutL L c).1 r = firstK (cutL L c).1) → rank (cutL L c).1 r = rank L r) := by
  have hc := cutN_pos c
  by_cases hl : L.length ≤ cutN c
  · have e : cutL L c = (L, 0) := by unfold cutL; rw [if_pos hl]
    rw [e]
    exact ⟨fun h => absurd h.1 (by simp), fun _ => rfl⟩
  have hi : L.length - cutN c < L.length := by omega
  have e : cutL L c = (cutI L (L.length - cutN c), tot (L.take (L.length - cutN c))) := by unfold cutL; rw [if_neg hl]
  refine ⟨fun _ => by rw [e]; exact cutI_rank hs hi h1 h2, fun hv => ?_⟩
  obtain ⟨p, R, e1, e2, e3⟩ := cutI_split hi
  have hpos : 0 < tot (L.take (L.length - cutN c)) := by
    refine tot_pos (fun q hq => hp q (List.mem_of_mem_take hq)) (fun h0 => ?_)
    have := congrArg List.length h0
    rw [List.length_take] at this
    simp at this
    omega
  have e4 : rank (cutI L (L.length - cutN c)) r = if r ≤ p.2 + tot (L.take (L.length - cutN c)) then p.1 else rank R (r - (p.2 + tot (L.take (L.length - cutN c)))) := by rw [e2, rank]
  rw [e] at hv ⊢
  dsimp only at hv ⊢
  have hf : firstK (cutI L (L.length - cutN c)) = p.1 := by rw [e2]; rfl
  rw [e4, hf] at hv
  rw [e4]
  by_cases hC : r ≤ p.2 + tot (L.take (L.length - cutN c))
  · rw [if_pos hC] at hv
    exact absurd ⟨hpos, rfl⟩ hv
  · have h5 : rank L r = rank (L.take (L.length - cutN c) ++ p :: R) r := by rw [← e1]
    rw [if_neg hC, h5, rank_append, if_neg (by omega), rank, if_neg (by omega), show r - tot (L.take (L.length - cutN c)) - p.2 = r - (p.2 + tot (L.take (L.length - cutN c))) by omega]
theorem up_anti {L : List Pr} {a b : Int} (h : a ≤ b) : up L b ≤ up L a := by
  induction L with
  | nil => exact Nat.le_refl _
  | cons p L ih =>
    unfold up at ih ⊢
    rw [List.filter_cons, List.filter_cons]
    by_cases h1 : b ≤ p.1
    · rw [if_pos (by simpa using h1), if_pos (by simp; omega), List.length_cons, List.length_cons]; omega
    · rw [if_neg (by simpa using h1)]
      split
      · rw [List.length_cons]; omega
      · exact ih
theorem up_above {L : List Pr} (k : Int) : up L (k + 1) = (L.filter (fun p => decide (k < p.1))).length := by
  unfold up
  congr 1
/-- A rank is vague just if more keys than the budget were counted, and its own key isn't among the greatest ones, one fewer. -/
theorem kept_vague {L : List Pr} (hs : Srt L) (hp : Pos L) (c : Int) {r : Nat} (h1 : 1 ≤ r) (h2 : r ≤ tot L) :
    (0 < (cutL L c).2 ∧ rank (cutL L c).1 r = firstK (cutL L c).1) ↔ (cutN c < L.length ∧ cutN c ≤ up L (rank L r + 1) + 1) := by
  have hc := cutN_pos c
  by_cases hl : L.length ≤ cutN c
  · have e : cutL L c = (L, 0) := by unfold cutL; rw [if_pos hl]
    rw [e]
    exact ⟨fun h => absurd h.1 (by simp), fun h => absurd h.1 (by omega)⟩
  have hi : L.length - cutN c < L.length := by omega
  have e : cutL L c = (cutI L (L.length - cutN c), tot (L.take (L.length - cutN c))) := by unfold cutL; rw [if_neg hl]
  obtain ⟨p, R, e1, e2, e3⟩ := cutI_split hi
  obtain ⟨hlt, hgt⟩ := take_less hs e1
  have hpos : 0 < tot (L.take (L.length - cutN c)) := by
    refine tot_pos (fun q hq => hp q (List.mem_of_mem_take hq)) (fun h0 => ?_)
    have := congrArg List.length h0
    rw [List.length_take] at this
    simp at this
    omega
  have hlen : L.length = (L.take (L.length - cutN c)).length + (R.length + 1) := by
    have := congrArg List.length e1
    rw [List.length_append, List.length_cons] at this
    exact this
  rw [List.length_take] at hlen
  have e4 : rank (cutI L (L.length - cutN c)) r = if r ≤ p.2 + tot (L.take (L.length - cutN c)) then p.1 else rank R (r - (p.2 + tot (L.take (L.length - cutN c)))) := by rw [e2, rank]
  have hf : firstK (cutI L (L.length - cutN c)) = p.1 := by rw [e2]; rfl
  have ht : tot L = tot (L.take (L.length - cutN c)) + (p.2 + tot R) := by rw [← tot_cons, ← tot_append, ← e1]
  have h5 : rank L r = rank (L.take (L.length - cutN c) ++ p :: R) r := by rw [← e1]
  have hmp : p ∈ L := List.mem_of_getElem? e3
  have hup := up_split hs e1
  rw [e]
  dsimp only
  rw [hf, e4]
  by_cases hC : r ≤ p.2 + tot (L.take (L.length - cutN c))
  · rw [if_pos hC]
    refine ⟨fun _ => ⟨by omega, ?_⟩, fun _ => ⟨hpos, rfl⟩⟩
    have hown : rank L r ≤ p.1 := by
      rw [h5, rank_append]
      split
      · rename_i hA
        obtain ⟨q, hq, eq⟩ := rank_mem h1 hA.1
        have := hlt q hq
        omega
      · rw [rank]
        rename_i hA
        have hB : tot (L.take (L.length - cutN c)) < r := by
          rcases Nat.lt_or_ge (tot (L.take (L.length - cutN c))) r with h | h
          · exact h
          · exact absurd ⟨h, fun h0 => by rw [h0, tot_nil] at hpos; omega⟩ hA
        rw [if_pos (by omega)]
        exact Int.le_refl _
    have h6 : up L (p.1 + 1) = R.length := by
      unfold up
      rw [e1, List.filter_append, List.filter_eq_nil_iff.2 (fun q hq => by have := hlt q hq; simp; omega), List.nil_append, List.filter_cons_of_neg (by simp; omega),
        List.filter_eq_self.2 (fun q hq => by have := hgt q hq; simp; omega)]
    have h7 : up L (p.1 + 1) ≤ up L (rank L r + 1) := up_anti (by omega)
    omega
  · rw [if_neg hC]
    obtain ⟨q, hq, eq⟩ := rank_mem (L := R) (r := r - (p.2 + tot (L.take (L.length - cutN c)))) (by omega) (by omega)
    have hqp := hgt q hq
    refine ⟨fun h => by have := h.2; omega, fun h => ?_⟩
    exfalso
    have hown : rank L r = q.1 := by
      rw [h5, rank_append, if_neg (by omega), rank, if_neg (by omega), ← eq, show r - tot (L.take (L.length - cutN c)) - p.2 = r - (p.2 + tot (L.take (L.length - cutN c))) by omega]
    rw [hown] at h
    have h8 := up_lt hs (show q.1 < q.1 + 1 by omega) (show q ∈ L by rw [e1]; exact List.mem_append_right _ (by simp [hq])) rfl
    have h9 := up_lt hs hqp hmp rfl
    omega
end Pl
end Go.Proofs.YtbfhiegbgkkgiaaGreat
/- Lists apart from each other: what acts on one of them leave of the others. -/

namespace Go.Proofs.YtbfhiegbgkkgiaaGreat
open Go.RowKit
open Pl
theorem Lst.only {K : Nat → Prop} {w w' : World} {g : Nat} {A : Option Addr} {c : Nat} {L : List Pr} (h : Lst w g A c L) (k : Only K w w') (hg : ¬ K g) (hA : ∀ x, blockOf A = some x → ¬ K x) : Lst w' g A c L := ⟨h.1.only k hg, Own.only h.2 k hA⟩
theorem cutL_fine {L : List Pr} (hf : Fine L) (m : Int) : Fine (cutL L m).1 ∧ tot (cutL L m).1 = tot L ∧ (cutL L m).1.length ≤ L.length := by
  have hc : 1 ≤ cutN m := by unfold cutN; omega
  unfold cutL
  split
  · exact ⟨hf, rfl, Nat.le_refl _⟩
  · have h1 := cutI_tot (L := L) (i := L.length - cutN m) (by omega)
    refine ⟨⟨cutI_srt hf.srt _, cutI_pos hf.pos _, cutI_keys (P := fun k => -1048576 ≤ k ∧ k ≤ 1048576) hf.keys, by simp only [h1]; exact hf.tot, ?_⟩, h1, ?_⟩
    · have := hf.len
      simp only [cutI_len]; omega
    · simp only [cutI_len]; omega
def Dj (A A2 : Option Addr) : Prop := ∀ x, blockOf A = some x → blockOf A2 ≠ some x
theorem Dj.symm {A A2 : Option Addr} (h : Dj A A2) : Dj A2 A := fun x h1 h2 => h x h2 h1
section
variable {w w' : World} {g g' c c' base cw : Nat} {A A' A2 W : Option Addr} {L L' M : List Pr}
theorem lst_other (h : Lst w g A c L) (hy : Lst w g' A2 c' M) (hg : g ≠ g') (hd : Dj A A2) (k : Only (LK g A) w w') : Lst w' g' A2 c' M :=
  hy.only k (fun e => by
    rcases e with e | e
    · exact hg e.symm
    · exact Own.ne_blk (show Own w g 64 2 A L.length c (pcs L) from h.2) hy.1 (by decide) e) (fun x hx e => by
    rcases e with e | e
    · exact Own.ne_blk (show Own w g' 64 2 A2 M.length c' (pcs M) from hy.2) h.1 (by decide) (by rw [← e]; exact hx)
    · exact hd x e hx)
theorem row_other (h : Lst w g A c L) (hy : OwnP w base W cw M) (hd : Dj A W) (k : Only (LK g A) w w') : OwnP w' base W cw M :=
  Own.only hy k (fun x hx e => by
    rcases e with e | e
    · exact Own.ne_blk (show Own w base 64 2 W M.length cw (pcs M) from hy) h.1 (by decide) (by rw [← e]; exact hx)
    · exact hd x e hx)
theorem dj_new (hd : Dj A W) (hy : OwnP w base W cw M) (hq : ∀ x, blockOf A' = some x → blockOf A = some x ∨ w.heap.size ≤ x) : Dj A' W := fun x hx e => by
  rcases hq x hx with h | h
  · exact hd x h e
  · have := (Own.block (show Own w base 64 2 W M.length cw (pcs M) from hy) e).2
    omega
/-- What an act on a list leaves: Add, Cut, Take. -/
def Acted (g : Nat) (A : Option Addr) (L' : List Pr) (w w' : World) (A' : Option Addr) (c' : Nat) : Prop := Lst w' g A' c' L' ∧ Only (LK g A) w w' ∧ ∀ x, blockOf A' = some x → blockOf A = some x ∨ w.heap.size ≤ x
theorem Counted.acted (h : Counted g A L w w') : ∃ A' c', Acted g A L w w' A' c' := by
  obtain ⟨A', c', h1, h2, h3⟩ := h
  refine ⟨A', c', h1, h2, fun x hx => ?_⟩
  rcases h3 with h3 | ⟨i, h3, h4⟩
  · exact .inl (by rw [← h3]; exact hx)
  · rw [hx] at h3
    injection h3 with h3
    exact .inr (by omega)
theorem Took.acted (h : Took g A L w w') : ∃ A' c', Acted g A L w w' A' c' := by
  obtain ⟨A', c', h1, h2, h3⟩ := h
  refine ⟨A', c', h1, h2.mono (fun i hi => .inl hi), fun x hx => ?_⟩
  rcases h3 with h3 | h3
  · exact .inl (by rw [← h3]; exact hx)
  · exact .inr (h3 x hx)
theorem acted_below {B : Nat} {w0 : World} (hb : Below B w0 w) (hB : B ≤ w.heap.size) (hg : B ≤ g) (h : Lst w g A c L) {A' : Option Addr} {c' : Nat} (ha : Acted g A L' w w' A' c') : Below B w0 w' := by
  refine hb.trans (ha.2.1.below hB (fun i hi => ?_))
  rcases hi with rfl | hi
  · exact hg
  · exact Nat.le_trans hg (Own.block (show Own w g 64 2 A L.length c (pcs L) from h.2) hi).1
end
theorem tot_nil_of {L : List Pr} (hp : Pos L) (h : tot L = 0) : L = [] := by
  cases L with
  | nil => rfl
  | cons p L => have := tot_pos hp (l := p :: L) (by simp); omega
theorem cutL_rank {L : List Pr} (hf : Fine L) (m : Int) {r : Nat} (h1 : 1 ≤ r) (h2 : r ≤ tot L) : rank L r ≤ rank (cutL L m).1 r := by
  have hc : 1 ≤ cutN m := by unfold cutN; omega
  unfold cutL
  split
  · exact Int.le_refl _
  · exact cutI_rank hf.srt (by omega) h1 h2
theorem cutL_len {L : List Pr} {m : Nat} (h : 1 ≤ m) : (cutL L (m : Int)).1.length ≤ m := by
  unfold cutL cutN
  rw [show (max (m : Int) 1).toNat = m by omega]
  split
  · assumption
  · simp only [cutI_len]; omega
theorem cutL_count {L : List Pr} (hf : Fine L) (m : Int) {t : Nat} {q : Pr} (ht : 0 < t) (hq : (cutL L m).1[t]? = some q) : cnt L q.1 = q.2 := by
  have hc : 1 ≤ cutN m := by unfold cutN; omega
  unfold cutL at hq
  split at hq
  · exact cnt_of_mem hf.srt (List.mem_of_getElem? hq)
  · exact cutI_count hf.srt (by omega) ht hq
end Go.Proofs.YtbfhiegbgkkgiaaGreat
