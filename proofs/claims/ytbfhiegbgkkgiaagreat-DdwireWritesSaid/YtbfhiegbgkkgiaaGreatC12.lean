/- Stores with a budget: Add and Take walked. -/
import Derived.Test.YtbfhiegbgkkgiaaGreatC11
import Derived.Deep.QuietTactic
import Derived.BigQuiet
import Derived.Deep.RegionHeld3
import Derived.LoopN
import Derived.Outline
namespace Go.Proofs.YtbfhiegbgkkgiaaGreat
open Go.RowKit
open Pl
/-- All that was counted, and one act more: what is kept follows. -/
theorem radd_kept {all : List Pr} (hf : Fine all) (m : Int) (k : Int) (n : Nat) : (radd (cutL all m).1 k n 0).2 = (radd all k n 0).2 ∧
    ((radd all k n 0).2 = 0 → (cutL (radd (cutL all m).1 k n 0).1 m).1 = (cutL (radd all k n 0).1 m).1 ∧ (cutL (radd all k n 0).1 m).2 = (cutL (radd (cutL all m).1 k n 0).1 m).2 + stays (cutL all m) (firstK (cutL (radd all k n 0).1 m).1) + stays (cutL [] m) (firstK (cutL (radd all k n 0).1 m).1)) ∧
    ((radd all k n 0).2 ≠ 0 → (radd (cutL all m).1 k n 0).1 = (cutL all m).1 ∧ (radd all k n 0).1 = all) := by
  have ht := kept_tot hf m
  have e9 : ∀ K, stays (cutL [] m) K = 0 := fun K => by rw [cutL_nil]; unfold stays; rw [if_neg (by simp)]
  rw [radd0, radd0, ht]
  by_cases h0 : n = 0
  · simp [h0]
  · by_cases h1 : k < -1048576 ∨ 1048576 < k
    · simp [h0, h1]
    · by_cases h2 : 4611686018427387904 - tot all < n
      · simp [h0, h1, h2]
      · rw [if_neg h0, if_neg h1, if_neg h2, if_neg h0, if_neg h1, if_neg h2]
        refine ⟨rfl, fun _ => ⟨kept_put hf.srt hf.pos m k (by omega), ?_⟩, fun h => absurd rfl h⟩
        rw [e9, fold_put hf.srt hf.pos m k (by omega), Nat.add_zero]
theorem rtake_kept {all all2 : List Pr} (hf : Fine all) (hf2 : Fine all2) (m : Int) : (rtake (cutL all m).1 (cutL all2 m).1 0).2 = (rtake all all2 0).2 ∧
    ((rtake all all2 0).2 = 0 → (cutL (rtake (cutL all m).1 (cutL all2 m).1 0).1 m).1 = (cutL (rtake all all2 0).1 m).1 ∧ (cutL (rtake all all2 0).1 m).2 = (cutL (rtake (cutL all m).1 (cutL all2 m).1 0).1 m).2 + stays (cutL all m) (firstK (cutL (rtake all all2 0).1 m).1) + stays (cutL all2 m) (firstK (cutL (rtake all all2 0).1 m).1)) ∧
    ((rtake all all2 0).2 ≠ 0 → (rtake (cutL all m).1 (cutL all2 m).1 0).1 = (cutL all m).1 ∧ (rtake all all2 0).1 = all) := by
  have ht := kept_tot hf m
  have ht2 := kept_tot hf2 m
  have hn : ∀ (L : List Pr), L = [] ∨ (cutL L m).1 ≠ [] ∧ L ≠ [] := fun L => by
    by_cases h : L = []
    · exact .inl h
    · exact .inr ⟨cutL_ne h m, h⟩
  have hp : (rtake all all2 0) = if 4611686018427387904 - tot all < tot all2 then (all, 6) else (puts all all2, 0) := by
    rw [rtake0]
    rcases hn all2 with h | ⟨_, h⟩
    · rw [if_pos h, h, tot_nil, if_neg (Nat.not_lt_zero _)]; rfl
    · rw [if_neg h]
  have hq : (rtake (cutL all m).1 (cutL all2 m).1 0) = if 4611686018427387904 - tot all < tot all2 then ((cutL all m).1, 6) else (puts (cutL all m).1 (cutL all2 m).1, 0) := by
    rw [rtake0, ht, ht2]
    rcases hn all2 with h | ⟨h, _⟩
    · rw [h, cutL_nil, if_pos rfl, tot_nil, if_neg (Nat.not_lt_zero _)]; rfl
    · rw [if_neg h]
  rw [hp, hq]
  by_cases h2 : 4611686018427387904 - tot all < tot all2
  · simp [h2]
  · rw [if_neg h2, if_neg h2]
    exact ⟨rfl, fun _ => ⟨cut_twice hf.srt hf.pos hf2.srt hf2.pos m, fold_join hf.srt hf.pos hf2.srt hf2.pos m⟩, fun h => absurd rfl h⟩
set_option maxRecDepth 100000 in
set_option maxHeartbeats 1600000 in
theorem sadd_t (g gl : Nat) (A : Option Addr) (c : Nat) (m : Int) (all : List Pr) (k : Int) (n : Nat) (w : World) (h : Sto w g gl A c m all) (hf : Fine all) (hl : all.length < 100000) (hm0 : 2 ≤ m) (hm1 : m ≤ 4097) :
    Calls Tryz.prog 54 #[.pointer (some ⟨g, 0, none⟩), .int .i64 k, .int .u64 (n : Int)] w fun e w' => e = .returned (.int .i64 (radd all k n 0).2) ∧ ∃ A' c', Stored g gl A m (radd all k n 0).1 w w' A' c' := by
  obtain ⟨r1, r2, r3⟩ := radd_kept hf m k n
  have hfC := kept_fine hf m
  have hlC := (cutL_fine hf m).2.2
  have hf1 := (radd_fine (k := k) (n := n) hfC (by omega)).1
  have hf2 := (radd_fine (k := k) (n := n) hf hl).1
  have HB := Lib.hid (fun W p (hs : Sto W g gl A c m all) p0 p1 p2 => addc_t g gl p A c (cutL all m).1 m (cutL all m).2 k n W hs.blk hs.lst hfC p0 p1 p2)
  rw [r1] at HB
  obtain ⟨R, hR⟩ : ∃ R, R = radd (cutL all m).1 k n 0 := ⟨_, rfl⟩
  rw [← hR] at HB r2 r3 hf1
  have hc := fun p W hs hcall => countA g gl p A c m all (radd all k n 0).1 R.1 (radd all k n 0).2 W hs hf hm0 hm1 hcall hf1 hf2 r2 r3
  have HC := Lib.hid hc
  have HS := Lib.hid h
  generalize radd all k n 0 = RR at *
  clear h hf hl hm0 hm1 r1 r2 r3 hfC hlC hf1 hf2 hR hc
  go_enter Tryz.func54, Tryz.ntmps54
  go_wp2_with fail
  have hb3 : Below w.heap.size w (((w.alloc (.cells #[.pointer (some ⟨g, 0, none⟩)] 79)).alloc (.cells #[.int .i64 k] 3)).alloc (.cells #[.int .u64 (n : Int)] 39)) := (((Below.refl _ _).alloc (Nat.le_refl _) _).alloc (by simp) _).alloc (by simp; omega) _
  have k0 := Blk.new w 79 #[.pointer (some ⟨g, 0, none⟩)]
  have k1 := Blk.new (w.alloc (.cells #[.pointer (some ⟨g, 0, none⟩)] 79)) 3 #[.int .i64 k]
  have k2 := Blk.new ((w.alloc (.cells #[.pointer (some ⟨g, 0, none⟩)] 79)).alloc (.cells #[.int .i64 k] 3)) 39 #[.int .u64 (n : Int)]
  simp only [World.size_alloc] at k1 k2
  have HK := Lib.hid (And.intro ((k0.alloc (.cells #[.int .i64 k] 3)).alloc (.cells #[.int .u64 (n : Int)] 39)) (And.intro (k1.alloc (.cells #[.int .u64 (n : Int)] 39)) k2))
  have HB3 := Lib.hid hb3
  clear hb3 k0 k1 k2
  generalize ((w.alloc (.cells #[.pointer (some ⟨g, 0, none⟩)] 79)).alloc (.cells #[.int .i64 k] 3)).alloc (.cells #[.int .u64 (n : Int)] 39) = W at *
  refine (HC.out w.heap.size W (HS.out.below HB3.out) (fun W' hW' => HB.out W' w.heap.size ((HS.out.below HB3.out).below hW') (HK.out.1.below hW' HK.out.1.lt) (HK.out.2.1.below hW' HK.out.2.1.lt) (HK.out.2.2.below hW' HK.out.2.2.lt))).mono ?_
  rintro e w1 ⟨rfl, A', c', h1⟩
  have H1 := Lib.hid h1
  clear h1
  go_wp2_with fail
  go_ret
  exact ⟨rfl, A', c', H1.out.sto, (Only.of_below HB3.out).trans H1.out.only, fun x hx => (H1.out.new x hx).imp id (Nat.le_trans HB3.out.size)⟩
set_option maxRecDepth 100000 in
theorem stake_nil (g : Nat) (w : World) :
    Calls Tryz.prog 70 #[.pointer (some ⟨g, 0, none⟩), .pointer none] w fun e w' => e = .returned (.int .i64 1) ∧ Below w.heap.size w w' := by
  go_enter Tryz.func70, Tryz.ntmps70
  go_wp2_with fail
  go_ret
  exact ⟨rfl, ((Below.refl _ _).alloc (Nat.le_refl _) _).alloc (by simp) _⟩
set_option maxRecDepth 100000 in
set_option maxHeartbeats 1600000 in
theorem stake_kind (g gl g2 gl2 : Nat) (A A2 : Option Addr) (c c2 : Nat) (m m2 : Int) (all all2 : List Pr) (w : World) (h : Sto w g gl A c m all) (h2 : Sto w g2 gl2 A2 c2 m2 all2) (hm : m2 ≠ m) :
    Calls Tryz.prog 70 #[.pointer (some ⟨g, 0, none⟩), .pointer (some ⟨g2, 0, none⟩)] w fun e w' => e = .returned (.int .i64 3) ∧ Below w.heap.size w w' := by
  have c0 := h.c0
  have c2 := h2.c0
  have hg : g < w.heap.size := h.blk.lt
  have hg2 : g2 < w.heap.size := h2.blk.lt
  have e1 : (m2 != m) = true := by simp; exact hm
  have e2 : (m2 == m) = false := by simp; exact hm
  have n1 : ¬ g = w.heap.size := by omega
  have n2 : ¬ g = w.heap.size + 1 := by omega
  have n3 : ¬ g2 = w.heap.size := by omega
  have n4 : ¬ g2 = w.heap.size + 1 := by omega
  clear h h2 hm
  go_enter Tryz.func70, Tryz.ntmps70
  go_wp2_with fail
  go_quiet (fail)
  go_wp2_with fail
  go_ret
  exact ⟨rfl, below_drewN (((Below.refl _ _).alloc (Nat.le_refl _) _).alloc (by simp) _) _⟩
set_option maxRecDepth 100000 in
set_option maxHeartbeats 1600000 in
theorem stake_t (g gl g2 gl2 : Nat) (A A2 : Option Addr) (c c2 : Nat) (m : Int) (all all2 : List Pr) (w : World) (h : Sto w g gl A c m all) (h2 : Sto w g2 gl2 A2 c2 m all2) (hf : Fine all) (hf2 : Fine all2) (hl : all.length + all2.length ≤ 100000) (hm0 : 2 ≤ m) (hm1 : m ≤ 4097) :
    Calls Tryz.prog 70 #[.pointer (some ⟨g, 0, none⟩), .pointer (some ⟨g2, 0, none⟩)] w fun e w' => e = .returned (.int .i64 (rtake all all2 0).2) ∧ ∃ A' c', Stored g gl A m (rtake all all2 0).1 w w' A' c' := by
  obtain ⟨r1, r2, r3⟩ := rtake_kept hf hf2 m
  have hfC := kept_fine hf m
  have hfD := kept_fine hf2 m
  have hlC := (cutL_fine hf m).2.2
  have hlD := (cutL_fine hf2 m).2.2
  have hf1' := (took_fine hfC hfD (by omega)).1
  have hf2' := (took_fine hf hf2 hl).1
  have HB := Lib.hid (fun W p (hs : Sto W g gl A c m all) (hs2 : Sto W g2 gl2 A2 c2 m all2) p0 p1 => takec_t g gl p g2 gl2 A A2 c c2 (cutL all m).1 (cutL all2 m).1 m m (cutL all m).2 (cutL all2 m).2 W hs.blk hs.lst hfC hs2.blk hs2.lst hfD (by omega) p0 p1)
  rw [r1] at HB
  obtain ⟨R, hR⟩ : ∃ R, R = rtake (cutL all m).1 (cutL all2 m).1 0 := ⟨_, rfl⟩
  rw [← hR] at HB r2 r3 hf1'
  have hc := fun p W hs hs2 hcall => countT g gl p A c m all (rtake all all2 0).1 R.1 (rtake all all2 0).2 W hs hf hm0 hm1 g2 gl2 A2 c2 all2 hs2 hf2 hcall hf1' hf2' r2 r3
  have HC := Lib.hid hc
  have HS := Lib.hid h
  have HS2 := Lib.hid h2
  have d0 := h.c0
  have d2 := h2.c0
  have hg : g < w.heap.size := h.blk.lt
  have hg2 : g2 < w.heap.size := h2.blk.lt
  have n1 : ¬ g = w.heap.size := by omega
  have n2 : ¬ g = w.heap.size + 1 := by omega
  have n3 : ¬ g2 = w.heap.size := by omega
  have n4 : ¬ g2 = w.heap.size + 1 := by omega
  generalize rtake all all2 0 = RR at *
  clear h h2 hf hf2 hl hm0 hm1 r1 r2 r3 hfC hfD hlC hlD hf1' hf2' hR hc
  go_enter Tryz.func70, Tryz.ntmps70
  go_wp2_with fail
  go_quiet (fail)
  go_wp2_with fail
  have hb3 : Below w.heap.size w (((w.alloc (.cells #[.pointer (some ⟨g, 0, none⟩)] 79)).alloc (.cells #[.pointer (some ⟨g2, 0, none⟩)] 79)).drewN nq) := below_drewN (((Below.refl _ _).alloc (Nat.le_refl _) _).alloc (by simp) _) _
  have k0 := Blk.new w 79 #[.pointer (some ⟨g, 0, none⟩)]
  have k1 := Blk.new (w.alloc (.cells #[.pointer (some ⟨g, 0, none⟩)] 79)) 79 #[.pointer (some ⟨g2, 0, none⟩)]
  simp only [World.size_alloc] at k1
  have HK := Lib.hid (And.intro ((k0.alloc (.cells #[.pointer (some ⟨g2, 0, none⟩)] 79)).drewN nq) (k1.drewN nq))
  have HB3 := Lib.hid hb3
  clear hb3 k0 k1
  generalize ((w.alloc (.cells #[.pointer (some ⟨g, 0, none⟩)] 79)).alloc (.cells #[.pointer (some ⟨g2, 0, none⟩)] 79)).drewN nq = W at *
  refine (HC.out w.heap.size W (HS.out.below HB3.out) (HS2.out.below HB3.out) (fun W' hW' => HB.out W' w.heap.size ((HS.out.below HB3.out).below hW') ((HS2.out.below HB3.out).below hW') (HK.out.1.below hW' HK.out.1.lt) (HK.out.2.below hW' HK.out.2.lt))).mono ?_
  rintro e w1 ⟨rfl, A', c', h1⟩
  have H1 := Lib.hid h1
  clear h1
  go_wp2_with fail
  go_ret
  exact ⟨rfl, A', c', H1.out.sto, (Only.of_below HB3.out).trans H1.out.only, fun x hx => (H1.out.new x hx).imp id (Nat.le_trans HB3.out.size)⟩
end Go.Proofs.YtbfhiegbgkkgiaaGreat
/- Stores with a budget: Load walked. -/

namespace Go.Proofs.YtbfhiegbgkkgiaaGreat
open Go.RowKit
open Pl
theorem srt_adj : ∀ (l : List Pr), (∀ j p q, l[j]? = some p → l[j + 1]? = some q → p.1 < q.1) → Srt l
  | [], _ => Srt.nil
  | [p], _ => srt_cons.2 ⟨(fun q hq => by cases hq), Srt.nil⟩
  | p :: q :: l, h => by
    have h1 := srt_adj (q :: l) (fun j x y hx hy => h (j + 1) x y (by simpa using hx) (by simpa using hy))
    have h2 := h 0 p q rfl rfl
    refine srt_cons.2 ⟨fun r hr => ?_, h1⟩
    rcases List.mem_cons.1 hr with rfl | hr
    · exact h2
    · have := (srt_cons.1 h1).1 r hr; omega
theorem srt_next {l : List Pr} (h : Srt l) {j : Nat} {p q : Pr} (hp : l[j]? = some p) (hq : l[j + 1]? = some q) : p.1 < q.1 := by
  obtain ⟨h1, e1⟩ := List.getElem?_eq_some_iff.1 hp
  obtain ⟨h2, e2⟩ := List.getElem?_eq_some_iff.1 hq
  have := List.pairwise_iff_getElem.1 h j (j + 1) h1 h2 (by omega)
  rw [e1, e2] at this
  exact this
theorem adj_more {l : List Pr} {j i : Nat} {p q : Pr} (hi : i = j + 1) (hq : l[j]? = some q) (hp : l[i]? = some p) (hadj : ∀ j p q, i ≤ j → l[j]? = some p → l[j + 1]? = some q → p.1 < q.1) (hlt : q.1 < p.1) : ∀ j' p' q', j ≤ j' → l[j']? = some p' → l[j' + 1]? = some q' → p'.1 < q'.1 := fun j' p' q' hj' h1 h2 => by
  subst hi
  rcases Nat.lt_or_ge j j' with h | h
  · exact hadj j' p' q' h h1 h2
  · obtain rfl : j' = j := by omega
    have e1 : q = p' := Option.some.inj (hq.symm.trans h1)
    have e2 : p = q' := Option.some.inj (hp.symm.trans h2)
    rw [← e1, ← e2]
    exact hlt
theorem put_end {L : List Pr} {k : Int} {n : Nat} (h : ∀ q ∈ L, q.1 < k) : put L k n = L ++ [(k, n)] := by
  induction L with
  | nil => rfl
  | cons p L ih => rw [put_cons_lt (h p (by simp)), ih (fun q hq => h q (by simp [hq]))]; rfl
theorem ofL_srt : ∀ (l L : List Pr), Srt (L ++ l) → Pos l → KeysIn l → tot (L ++ l) ≤ 4611686018427387904 → ofL l L = (L ++ l, 0)
  | [], L, _, _, _, _ => by rw [List.append_nil]; rfl
  | p :: l, L, hs, hp, hk, ht => by
    obtain ⟨_, a2, a3⟩ := List.pairwise_append.1 hs
    have h0 := (pos_cons.1 hp).1
    have h1 := hk p (by simp)
    rw [tot_append, tot_cons] at ht
    have e : radd L p.1 p.2 0 = (L ++ [p], 0) := by
      rw [radd0, if_neg (by omega), if_neg (by omega), if_neg (by omega), put_end (fun q hq => a3 q hq p (by simp))]
    have h2 := ofL_srt l (L ++ [p]) (by rw [List.append_assoc]; exact hs) (pos_cons.1 hp).2 (fun q hq => hk q (by simp [hq])) (by rw [tot_append, tot_append, tot_cons, tot_nil]; omega)
    rw [List.append_assoc] at h2
    unfold ofL
    rw [e, if_pos rfl]
    exact h2
theorem ofL_fine {l : List Pr} (h : Fine l) : ofL l [] = (l, 0) := ofL_srt l [] h.srt h.pos h.keys h.tot
set_option maxRecDepth 100000 in
theorem lcmp_gt (p q : Pr) (w : World) (h : q.1 < p.1) :
    Calls Tryz.prog 87 #[.agg #[.int .i64 p.1, .int .u64 (p.2 : Nat)], .agg #[.int .i64 q.1, .int .u64 (q.2 : Nat)]] w fun e w' => e = .returned (.int .i64 1) ∧ Below w.heap.size w w' := by
  obtain ⟨x, n⟩ := p
  obtain ⟨y, k⟩ := q
  dsimp only at *
  have e1 : decide (y < x) = true := by simpa using h
  clear h
  go_enter Tryz.func87, Tryz.ntmps87
  go_wp2_with fail
  go_ret
  exact ⟨rfl, ((Below.refl _ _).alloc (Nat.le_refl _) _).alloc (by simp) _⟩
set_option maxRecDepth 100000 in
theorem lcmp_le (p q : Pr) (w : World) (h : ¬ q.1 < p.1) :
    Calls Tryz.prog 87 #[.agg #[.int .i64 p.1, .int .u64 (p.2 : Nat)], .agg #[.int .i64 q.1, .int .u64 (q.2 : Nat)]] w fun e w' => e = .returned (.int .i64 (-1)) ∧ Below w.heap.size w w' := by
  obtain ⟨x, n⟩ := p
  obtain ⟨y, k⟩ := q
  dsimp only at *
  have e1 : decide (y < x) = false := by simpa using h
  clear h
  go_enter Tryz.func87, Tryz.ntmps87
  go_wp2_with fail
  go_ret
  exact ⟨rfl, ((Below.refl _ _).alloc (Nat.le_refl _) _).alloc (by simp) _⟩
noncomputable def srtB (l : List Pr) : Bool := @decide (Srt l) (Classical.propDecidable _)
theorem srtB_true {l : List Pr} : srtB l = true ↔ Srt l := by unfold srtB; exact @decide_eq_true_iff _ (Classical.propDecidable _)
set_option maxRecDepth 100000 in
set_option maxHeartbeats 3200000 in
theorem sorted_t (A : Option Addr) (c : Nat) (l : List Pr) (w : World) (h : Prs w w.heap.size A l) (hl : l.length ≤ 100000) :
    Calls Tryz.prog 86 #[.slice A l.length c, .func (Fn.func 87) #[] #[]] w fun e w' => e = .returned (.bool (srtB l)) ∧ Below w.heap.size w w' := by
  by_cases h0 : l = []
  · subst h0
    have e0 : srtB [] = true := srtB_true.2 Srt.nil
    rw [e0]
    clear h hl e0
    go_enter Tryz.func86, Tryz.ntmps86
    go_wp2_with fail
    refine wp_loop_rounds 1 ?_
    rw [rounds_succ]
    go_wp2_with fail
    go_ret
    exact ⟨rfl, Below.refl _ _⟩
  · obtain ⟨n, hn⟩ : ∃ n, l.length = n + 1 := ⟨l.length - 1, by have := List.length_pos_iff.2 h0; omega⟩
    obtain ⟨N, hN⟩ : ∃ N, N = l.length := ⟨_, rfl⟩
    obtain ⟨B, hB⟩ : ∃ B, B = srtB l := ⟨_, rfl⟩
    rw [← hB, ← hN]
    have HB := Lib.hid hB
    have HN := Lib.hid hN
    have HN1 := Lib.hid (show N = n + 1 by omega)
    have HP := Lib.hid h
    have hnl : (N : Int) ≤ 100000 := by omega
    have hN1 : (1 : Int) ≤ (N : Int) := by omega
    have hn1 : (N : Int) - 1 = (n : Int) := by omega
    clear h hl hB hn h0 hN
    go_enter Tryz.func86, Tryz.ntmps86
    go_wp2_with fail
    clear hn1
    go_loopw [5] (fun v wr => ∃ k : Nat, k ≤ n ∧ v = .int .i64 (k : Int) ∧ (∀ j p q, k ≤ j → l[j]? = some p → l[j + 1]? = some q → p.1 < q.1) ∧ Below w.heap.size w wr) (fun v _ => (intOf v).toNat)
    case atStart => exact ⟨n, Nat.le_refl _, rfl, fun j p q hj _ hq => by have := (List.getElem?_eq_some_iff.1 hq).1; have := HN.out; have := HN1.out; omega, Below.refl _ _⟩
    case round =>
      obtain ⟨i, hk, rfl, hadj, hbel⟩ := hrel
      obtain ⟨wo, rfl⟩ : ∃ wo : World, wo = wr := ⟨_, rfl⟩
      by_cases hz : i = 0
      · subst hz
        have hs : Srt l := srt_adj l (fun j p q hp hq => hadj j p q (Nat.zero_le _) hp hq)
        have HT := Lib.hid (HB.out.trans (srtB_true.2 hs))
        have HBE := Lib.hid hbel
        clear hs hadj hbel hk
        go_wp2_with fail
        go_ret
        exact ⟨by rw [HT.out]; rfl, HBE.out⟩
      · obtain ⟨j, hj⟩ : ∃ j, i = j + 1 := ⟨i - 1, by omega⟩
        have hlen := HN.out
        have hlen1 := HN1.out
        have hj0 : (0 : Int) ≤ (j : Int) := by omega
        have hi1 : (0 : Int) < (i : Int) := by omega
        have hj2 : (j : Int) < (N : Int) := by omega
        have hi3 : (i : Int) < (N : Int) := by omega
        have hi5 : decide (0 < i) = true := by simp; omega
        have hw : IntKind.i64.wrap ((i : Int) - 1) = (j : Int) := by rw [IntWalk.i64_in _ ⟨by omega, by omega⟩]; omega
        obtain ⟨p, hp⟩ : ∃ p, l[i]? = some p := ⟨_, List.getElem?_eq_getElem (by omega)⟩
        obtain ⟨q, hq⟩ : ∃ q, l[j]? = some q := ⟨_, List.getElem?_eq_getElem (by omega)⟩
        obtain ⟨b, o, rfl, hb, hc⟩ := HP.out.at_ (by omega)
        obtain ⟨p1, p2⟩ := hc _ p hp
        obtain ⟨q1, q2⟩ := hc _ q hq
        have hcell : ∀ W, Below w.heap.size w W → W.cell? ⟨b, o + i * 2, none⟩ = some (.int .i64 p.1) ∧ W.cell? ⟨b, o + i * 2 + 1, none⟩ = some (.int .u64 (p.2 : Nat)) ∧ W.cell? ⟨b, o + j * 2, none⟩ = some (.int .i64 q.1) ∧ W.cell? ⟨b, o + j * 2 + 1, none⟩ = some (.int .u64 (q.2 : Nat)) := fun W hW =>
          ⟨(hW.cell (p := ⟨b, o + i * 2, none⟩) hb).trans p1, (hW.cell (p := ⟨b, o + i * 2 + 1, none⟩) hb).trans p2, (hW.cell (p := ⟨b, o + j * 2, none⟩) hb).trans q1, (hW.cell (p := ⟨b, o + j * 2 + 1, none⟩) hb).trans q2⟩
        have HCE := Lib.hid hcell
        obtain ⟨d1, d2, d3, d4⟩ := hcell wo hbel
        have HBE := Lib.hid hbel
        have HK := Lib.hid hk
        have HJ := Lib.hid hj
        have HAD := Lib.hid (adj_more hj hq hp hadj)
        have HNO : Hid (¬ q.1 < p.1 → B = false) := Lib.hid (fun hlt => by
          rw [HB.out]
          cases hh : srtB l with
          | false => rfl
          | true => exact absurd (srt_next (srtB_true.1 hh) hq (by rw [← hj]; exact hp)) hlt)
        have HGT := Lib.hid (fun W h => lcmp_gt p q W h)
        have HLE := Lib.hid (fun W h => lcmp_le p q W h)
        clear hcell p1 p2 q1 q2 hc hp hq hbel hk hadj hlen hlen1 hj hz
        obtain ⟨x, nx⟩ := p
        obtain ⟨y, ny⟩ := q
        dsimp only at d1 d2 d3 d4 HAD HNO HGT HLE HCE
        go_wp2_with fail
        by_cases hgt : y < x
        · have HX := Lib.hid (HAD.out hgt)
          refine wp_region_noPanic ?_
          refine wp_region_held_drew (S := (fun W => W.cell? ⟨b, o + i * 2, none⟩ = some (.int .i64 x) ∧ W.cell? ⟨b, o + i * 2 + 1, none⟩ = some (.int .u64 (nx : Nat)) ∧ W.cell? ⟨b, o + j * 2, none⟩ = some (.int .i64 y) ∧ W.cell? ⟨b, o + j * 2 + 1, none⟩ = some (.int .u64 (ny : Nat)))) (by kernel_rfl) ⟨d1, d2, d3, d4⟩ (fun hHeld => ?_)
          refine wpAnyH_take (i := 0) (oi := ?_) (v := ?_) ?_ ?_ ?_ ?_ ?_ ?_ ?_ ?_
          rotate_left 2
          · simp only [List.getElem?_toArray, List.getElem?_cons_zero]; rfl
          · kernel_rfl
          · kernel_rfl
          · kernel_rfl
          · exact fun _ _ _ h => h
          · exact Or.inl ⟨by kernel_rfl, by intro w hSw; (try dsimp only at hSw); go_simp; try with_reducible rfl⟩
          · assumption
          try go_simp
          refine wpAnyH_take (i := 1) (oi := ?_) (v := ?_) ?_ ?_ ?_ ?_ ?_ ?_ ?_ ?_
          rotate_left 2
          · simp only [List.getElem?_toArray, List.getElem?_cons_succ, List.getElem?_cons_zero]; rfl
          · kernel_rfl
          · kernel_rfl
          · kernel_rfl
          · exact fun _ _ _ h => h
          · exact Or.inl ⟨by kernel_rfl, by intro w hSw; (try dsimp only at hSw); go_simp; try with_reducible rfl⟩
          · assumption
          try go_simp
          refine wpAnyH_take (i := 2) (oi := ?_) (v := ?_) ?_ ?_ ?_ ?_ ?_ ?_ ?_ ?_
          rotate_left 2
          · simp only [List.getElem?_toArray, List.getElem?_cons_succ, List.getElem?_cons_zero]; rfl
          · kernel_rfl
          · kernel_rfl
          · kernel_rfl
          · exact fun _ _ _ h => h
          · exact Or.inl ⟨by kernel_rfl, by intro w hSw; (try dsimp only at hSw); go_simp; try with_reducible rfl⟩
          · assumption
          try go_simp
          refine wpAnyH_take (i := 3) (oi := ?_) (v := ?_) ?_ ?_ ?_ ?_ ?_ ?_ ?_ ?_
          rotate_left 2
          · simp only [List.getElem?_toArray, List.getElem?_cons_succ, List.getElem?_cons_zero]; rfl
          · kernel_rfl
          · kernel_rfl
          · kernel_rfl
          · exact fun _ _ _ h => h
          · exact Or.inl ⟨by kernel_rfl, by intro w hSw; (try dsimp only at hSw); go_simp; try with_reducible rfl⟩
          · assumption
          try go_simp
          refine wpAnyH_take (i := 4) (oi := ?_) (v := ?_) ?_ ?_ ?_ ?_ ?_ ?_ ?_ ?_
          rotate_left 2
          · simp only [List.getElem?_toArray, List.getElem?_cons_succ, List.getElem?_cons_zero]; rfl
          · kernel_rfl
          · kernel_rfl
          · kernel_rfl
          · exact fun _ _ _ h => h
          · exact Or.inl ⟨by kernel_rfl, by intro w hSw; (try dsimp only at hSw); go_simp; try with_reducible rfl⟩
          · assumption
          try go_simp
          refine wpAnyH_take (i := 5) (oi := ?_) (v := ?_) ?_ ?_ ?_ ?_ ?_ ?_ ?_ ?_
          rotate_left 2
          · simp only [List.getElem?_toArray, List.getElem?_cons_succ, List.getElem?_cons_zero]; rfl
          · kernel_rfl
          · kernel_rfl
          · kernel_rfl
          · exact fun _ _ _ h => h
          · exact Or.inl ⟨by kernel_rfl, by intro w hSw; (try dsimp only at hSw); go_simp; try with_reducible rfl⟩
          · assumption
          try go_simp
          refine wpAnyH_take (i := 6) (oi := ?_) (v := ?_) ?_ ?_ ?_ ?_ ?_ ?_ ?_ ?_
          rotate_left 2
          · simp only [List.getElem?_toArray, List.getElem?_cons_succ, List.getElem?_cons_zero]; rfl
          · kernel_rfl
          · kernel_rfl
          · kernel_rfl
          · exact fun _ _ _ h => h
          · exact Or.inl ⟨by kernel_rfl, by intro w hSw; (try dsimp only at hSw); go_simp; try with_reducible rfl⟩
          · assumption
          try go_simp
          refine wpAnyH_take (i := 7) (oi := ?_) (v := ?_) ?_ ?_ ?_ ?_ ?_ ?_ ?_ ?_
          rotate_left 2
          · simp only [List.getElem?_toArray, List.getElem?_cons_succ, List.getElem?_cons_zero]; rfl
          · kernel_rfl
          · kernel_rfl
          · kernel_rfl
          · exact fun _ _ _ h => h
          · exact Or.inl ⟨by kernel_rfl, by intro w hSw; (try dsimp only at hSw); go_simp; try with_reducible rfl⟩
          · assumption
          try go_simp
          refine wpAnyH_take (i := 8) (oi := ?_) (v := ?_) ?_ ?_ ?_ ?_ ?_ ?_ ?_ ?_
          rotate_left 2
          · simp only [List.getElem?_toArray, List.getElem?_cons_succ, List.getElem?_cons_zero]; rfl
          · kernel_rfl
          · kernel_rfl
          · kernel_rfl
          · exact fun _ _ _ h => h
          · exact Or.inl ⟨by kernel_rfl, by intro w hSw; (try dsimp only at hSw); go_simp; try with_reducible rfl⟩
          · assumption
          try go_simp
          refine wpAnyH_take (i := 9) (oi := ?_) (v := ?_) ?_ ?_ ?_ ?_ ?_ ?_ ?_ ?_
          rotate_left 2
          · simp only [List.getElem?_toArray, List.getElem?_cons_succ, List.getElem?_cons_zero]; rfl
          · kernel_rfl
          · kernel_rfl
          · kernel_rfl
          · exact fun _ _ _ h => h
          · exact Or.inl ⟨by kernel_rfl, by intro w hSw; (try dsimp only at hSw); go_simp; try with_reducible rfl⟩
          · assumption
          try go_simp
          refine wpAnyH_ready (rs := [10]) (by kernel_rfl) (by simp) ?_
          refine AllReadyH.cons (o := ?_) ?_ ?_ AllReadyH.nil
          rotate_left 1
          · simp only [List.getElem?_toArray, List.getElem?_cons_succ, List.getElem?_cons_zero]; rfl
          intro K hK
          go_simp
          refine (HGT.out _ hgt).mono ?_
          rintro e w2 ⟨rfl, hb2⟩
          have hb2' : Below w.heap.size w w2 := HBE.out.trans (show Below w.heap.size wo w2 from ⟨hb2.os, hb2.tape, hb2.output, hb2.size, fun i hi => hb2.block i (Nat.lt_of_lt_of_le hi HBE.out.size)⟩)
          have HB2 := Lib.hid hb2'
          obtain ⟨e1, e2, e3, e4⟩ := HCE.out w2 hb2'
          clear hb2 hb2'
          refine hK.out _ _ ?_ (fun hHeld => ?_)
          · exact ⟨e1, e2, e3, e4⟩
          clear hK K
          try go_simp
          refine wpAnyH_take (i := 11) (oi := ?_) (v := ?_) ?_ ?_ ?_ ?_ ?_ ?_ ?_ ?_
          rotate_left 2
          · simp only [List.getElem?_toArray, List.getElem?_cons_succ, List.getElem?_cons_zero]; rfl
          · kernel_rfl
          · kernel_rfl
          · kernel_rfl
          · exact fun _ _ _ h => h
          · exact Or.inl ⟨by kernel_rfl, by intro w hSw; (try dsimp only at hSw); go_simp; try with_reducible rfl⟩
          · assumption
          try go_simp
          refine wpAnyH_done (by kernel_rfl) ?_ _
          refine NoPanic.normal ?_
          go_wp2_with fail
          go_roundw
          case rel => exact ⟨j, by have := HK.out; have := HJ.out; omega, by first | rfl | rw [hw], HX.out, HB2.out⟩
          case measure => have := HJ.out; simp [intOf]; omega
        · have HX := Lib.hid (HNO.out (by omega))
          refine wp_region_noPanic ?_
          refine wp_region_held_drew (S := (fun W => W.cell? ⟨b, o + i * 2, none⟩ = some (.int .i64 x) ∧ W.cell? ⟨b, o + i * 2 + 1, none⟩ = some (.int .u64 (nx : Nat)) ∧ W.cell? ⟨b, o + j * 2, none⟩ = some (.int .i64 y) ∧ W.cell? ⟨b, o + j * 2 + 1, none⟩ = some (.int .u64 (ny : Nat)))) (by kernel_rfl) ⟨d1, d2, d3, d4⟩ (fun hHeld => ?_)
          refine wpAnyH_take (i := 0) (oi := ?_) (v := ?_) ?_ ?_ ?_ ?_ ?_ ?_ ?_ ?_
          rotate_left 2
          · simp only [List.getElem?_toArray, List.getElem?_cons_zero]; rfl
          · kernel_rfl
          · kernel_rfl
          · kernel_rfl
          · exact fun _ _ _ h => h
          · exact Or.inl ⟨by kernel_rfl, by intro w hSw; (try dsimp only at hSw); go_simp; try with_reducible rfl⟩
          · assumption
          try go_simp
          refine wpAnyH_take (i := 1) (oi := ?_) (v := ?_) ?_ ?_ ?_ ?_ ?_ ?_ ?_ ?_
          rotate_left 2
          · simp only [List.getElem?_toArray, List.getElem?_cons_succ, List.getElem?_cons_zero]; rfl
          · kernel_rfl
          · kernel_rfl
          · kernel_rfl
          · exact fun _ _ _ h => h
          · exact Or.inl ⟨by kernel_rfl, by intro w hSw; (try dsimp only at hSw); go_simp; try with_reducible rfl⟩
          · assumption
          try go_simp
          refine wpAnyH_take (i := 2) (oi := ?_) (v := ?_) ?_ ?_ ?_ ?_ ?_ ?_ ?_ ?_
          rotate_left 2
          · simp only [List.getElem?_toArray, List.getElem?_cons_succ, List.getElem?_cons_zero]; rfl
          · kernel_rfl
          · kernel_rfl
          · kernel_rfl
          · exact fun _ _ _ h => h
          · exact Or.inl ⟨by kernel_rfl, by intro w hSw; (try dsimp only at hSw); go_simp; try with_reducible rfl⟩
          · assumption
          try go_simp
          refine wpAnyH_take (i := 3) (oi := ?_) (v := ?_) ?_ ?_ ?_ ?_ ?_ ?_ ?_ ?_
          rotate_left 2
          · simp only [List.getElem?_toArray, List.getElem?_cons_succ, List.getElem?_cons_zero]; rfl
          · kernel_rfl
          · kernel_rfl
          · kernel_rfl
          · exact fun _ _ _ h => h
          · exact Or.inl ⟨by kernel_rfl, by intro w hSw; (try dsimp only at hSw); go_simp; try with_reducible rfl⟩
          · assumption
          try go_simp
          refine wpAnyH_take (i := 4) (oi := ?_) (v := ?_) ?_ ?_ ?_ ?_ ?_ ?_ ?_ ?_
          rotate_left 2
          · simp only [List.getElem?_toArray, List.getElem?_cons_succ, List.getElem?_cons_zero]; rfl
          · kernel_rfl
          · kernel_rfl
          · kernel_rfl
          · exact fun _ _ _ h => h
          · exact Or.inl ⟨by kernel_rfl, by intro w hSw; (try dsimp only at hSw); go_simp; try with_reducible rfl⟩
          · assumption
          try go_simp
          refine wpAnyH_take (i := 5) (oi := ?_) (v := ?_) ?_ ?_ ?_ ?_ ?_ ?_ ?_ ?_
          rotate_left 2
          · simp only [List.getElem?_toArray, List.getElem?_cons_succ, List.getElem?_cons_zero]; rfl
          · kernel_rfl
          · kernel_rfl
          · kernel_rfl
          · exact fun _ _ _ h => h
          · exact Or.inl ⟨by kernel_rfl, by intro w hSw; (try dsimp only at hSw); go_simp; try with_reducible rfl⟩
          · assumption
          try go_simp
          refine wpAnyH_take (i := 6) (oi := ?_) (v := ?_) ?_ ?_ ?_ ?_ ?_ ?_ ?_ ?_
          rotate_left 2
          · simp only [List.getElem?_toArray, List.getElem?_cons_succ, List.getElem?_cons_zero]; rfl
          · kernel_rfl
          · kernel_rfl
          · kernel_rfl
          · exact fun _ _ _ h => h
          · exact Or.inl ⟨by kernel_rfl, by intro w hSw; (try dsimp only at hSw); go_simp; try with_reducible rfl⟩
          · assumption
          try go_simp
          refine wpAnyH_take (i := 7) (oi := ?_) (v := ?_) ?_ ?_ ?_ ?_ ?_ ?_ ?_ ?_
          rotate_left 2
          · simp only [List.getElem?_toArray, List.getElem?_cons_succ, List.getElem?_cons_zero]; rfl
          · kernel_rfl
          · kernel_rfl
          · kernel_rfl
          · exact fun _ _ _ h => h
          · exact Or.inl ⟨by kernel_rfl, by intro w hSw; (try dsimp only at hSw); go_simp; try with_reducible rfl⟩
          · assumption
          try go_simp
          refine wpAnyH_take (i := 8) (oi := ?_) (v := ?_) ?_ ?_ ?_ ?_ ?_ ?_ ?_ ?_
          rotate_left 2
          · simp only [List.getElem?_toArray, List.getElem?_cons_succ, List.getElem?_cons_zero]; rfl
          · kernel_rfl
          · kernel_rfl
          · kernel_rfl
          · exact fun _ _ _ h => h
          · exact Or.inl ⟨by kernel_rfl, by intro w hSw; (try dsimp only at hSw); go_simp; try with_reducible rfl⟩
          · assumption
          try go_simp
          refine wpAnyH_take (i := 9) (oi := ?_) (v := ?_) ?_ ?_ ?_ ?_ ?_ ?_ ?_ ?_
          rotate_left 2
          · simp only [List.getElem?_toArray, List.getElem?_cons_succ, List.getElem?_cons_zero]; rfl
          · kernel_rfl
          · kernel_rfl
          · kernel_rfl
          · exact fun _ _ _ h => h
          · exact Or.inl ⟨by kernel_rfl, by intro w hSw; (try dsimp only at hSw); go_simp; try with_reducible rfl⟩
          · assumption
          try go_simp
          refine wpAnyH_ready (rs := [10]) (by kernel_rfl) (by simp) ?_
          refine AllReadyH.cons (o := ?_) ?_ ?_ AllReadyH.nil
          rotate_left 1
          · simp only [List.getElem?_toArray, List.getElem?_cons_succ, List.getElem?_cons_zero]; rfl
          intro K hK
          go_simp
          refine (HLE.out _ (by omega)).mono ?_
          rintro e w2 ⟨rfl, hb2⟩
          have hb2' : Below w.heap.size w w2 := HBE.out.trans (show Below w.heap.size wo w2 from ⟨hb2.os, hb2.tape, hb2.output, hb2.size, fun i hi => hb2.block i (Nat.lt_of_lt_of_le hi HBE.out.size)⟩)
          have HB2 := Lib.hid hb2'
          obtain ⟨e1, e2, e3, e4⟩ := HCE.out w2 hb2'
          clear hb2 hb2'
          refine hK.out _ _ ?_ (fun hHeld => ?_)
          · exact ⟨e1, e2, e3, e4⟩
          clear hK K
          try go_simp
          refine wpAnyH_take (i := 11) (oi := ?_) (v := ?_) ?_ ?_ ?_ ?_ ?_ ?_ ?_ ?_
          rotate_left 2
          · simp only [List.getElem?_toArray, List.getElem?_cons_succ, List.getElem?_cons_zero]; rfl
          · kernel_rfl
          · kernel_rfl
          · kernel_rfl
          · exact fun _ _ _ h => h
          · exact Or.inl ⟨by kernel_rfl, by intro w hSw; (try dsimp only at hSw); go_simp; try with_reducible rfl⟩
          · assumption
          try go_simp
          refine wpAnyH_done (by kernel_rfl) ?_ _
          refine NoPanic.normal ?_
          go_wp2_with fail
          go_ret
          exact ⟨by rw [HX.out]; rfl, HB2.out⟩
set_option maxRecDepth 100000 in
set_option maxHeartbeats 3200000 in
theorem load_t (A : Option Addr) (c : Nat) (m : Int) (l : List Pr) (f : Nat) (w : World) (h : Prs w w.heap.size A l) (hf : Fine l) (hm0 : 2 ≤ m) (hm1 : m ≤ 4096) (hl : (l.length : Int) ≤ m) (h50 : l.length ≤ 50000) (hff : f = 0 ∨ (l.length : Int) = m ∧ ∃ p R, l = p :: R ∧ f < p.2) :
    Calls Tryz.prog 63 #[.int .i64 m, .slice A l.length c, .int .u64 (f : Int)] w fun e w' => ∃ g gl A' c', e = .returned (.tuple #[.pointer (some ⟨g, 0, none⟩), .int .i64 0]) ∧ w.heap.size ≤ g ∧ w.heap.size ≤ gl ∧ Blk w' g 130 #[.int .i64 m, .pointer (some ⟨gl, 0, none⟩), .int .u64 (f : Nat)] ∧ Lst w' gl A' c' l ∧ Below w.heap.size w w' := by
  have HNEW := Lib.hid (cnew_t m w hm0 hm1)
  have HSO := Lib.hid (fun W (h : Prs W W.heap.size A l) => sorted_t A c l W h hf.len)
  rw [srtB_true.2 hf.srt] at HSO
  have HOF := Lib.hid (fun W (h : Prs W W.heap.size A l) => of_t A c l W h h50)
  rw [ofL_fine hf] at HOF
  have HP := Lib.hid h
  have x1 : decide (m < (l.length : Int)) = false := by simp; omega
  have hc : (decide ((0 : Int) < (f : Int)) = false ∧ decide (0 < f) = false) ∨ (decide ((0 : Int) < (f : Int)) = true ∧ decide (0 < f) = true ∧ decide ((l.length : Int) < m) = false ∧ (0 : Int) < (l.length : Int) ∧ ∃ b o n, A = some ⟨b, o, none⟩ ∧ b < w.heap.size ∧ w.cell? ⟨b, o + 1, none⟩ = some (.int .u64 (n : Nat)) ∧ decide ((n : Int) ≤ (f : Int)) = false ∧ decide (n ≤ f) = false) := by
    rcases hff with h0 | ⟨h1, p, R, e, h2⟩
    · exact .inl ⟨by simp; omega, by simp; omega⟩
    · by_cases h0 : f = 0
      · exact .inl ⟨by simp; omega, by simp; omega⟩
      · obtain ⟨b, o, e2, hb, hc⟩ := h.at_ (by omega)
        have := (hc 0 p (by rw [e]; rfl)).2
        exact .inr ⟨by simp; omega, by simp; omega, by simp; omega, by omega, b, o, p.2, e2, hb, by simpa using this, by simp; omega, by simp; omega⟩
  clear h hf hm0 hm1 hl h50 hff
  rcases hc with ⟨z1, z2⟩ | ⟨z1, z2, z3, z5, b, o, n, rfl, hb, d1, z6, z7⟩
  · go_enter Tryz.func63, Tryz.ntmps63
    go_wp2_with fail
    refine HNEW.out.mono ?_
    rintro e w1 ⟨rfl, s1, b1⟩
    have S1 := Lib.hid s1.blk
    have B1 := Lib.hid b1
    clear s1 b1
    go_wp2_with fail
    refine (HSO.out w1 (HP.out.at_below B1.out)).mono ?_
    rintro e w2 ⟨rfl, b2⟩
    have S2 := Lib.hid (S1.out.below b2 S1.out.lt)
    have B2 := Lib.hid (nextB B1.out b2)
    clear b2
    go_wp2_with fail
    refine (HOF.out w2 (HP.out.at_below B2.out)).mono ?_
    rintro e w3 (⟨_, ⟨gl, A3, c3, rfl, hgl, hl3⟩, b3⟩ | ⟨h0, _⟩)
    case inr => exact absurd rfl h0
    have s3 := S2.out.below b3 S2.out.lt
    have HL3 := Lib.hid hl3
    have HGL := Lib.hid (Nat.le_trans B2.out.size hgl)
    have B3 := Lib.hid (nextB B2.out b3)
    have k1 : w3.cell? ⟨w.heap.size + 1, 1, none⟩ = some (.pointer (some ⟨w.heap.size, 0, none⟩)) := by rw [s3.cell]; rfl
    have k2 : w3.cell? ⟨w.heap.size + 1, 2, none⟩ = some (.int .u64 0) := by rw [s3.cell, cutL_nil]; rfl
    have kf1 := s3.free 1
    have kf2 := s3.free 2
    have hne : w.heap.size + 1 ≠ gl := fun e => Blk.ne s3 hl3.1 (by decide) e
    have S3 := Lib.hid s3
    have HNE := Lib.hid hne
    clear b3 hl3 hgl s3 hne
    go_wp2_with fail
    go_ret2
    refine ⟨w.heap.size + 1, gl, A3, c3, rfl, by omega, HGL.out, ?_, ⟨(HL3.out.1.far (p := ⟨w.heap.size + 1, 1, none⟩) (fun e => HNE.out e.symm) _).far (p := ⟨w.heap.size + 1, 2, none⟩) (fun e => HNE.out e.symm) _, ?_⟩, (B3.out.setCell (by simp) _).setCell (by simp) _⟩
    · have h := (S3.out.put 1 (.pointer (some ⟨gl, 0, none⟩))).put 2 (.int .u64 (f : Int))
      simpa using h
    · have hn : blockOf A3 ≠ some (w.heap.size + 1) := Own.ne_blk (show Own w3 gl 64 2 A3 l.length c3 (pcs l) from HL3.out.2) S3.out (by decide)
      exact Own.setOther (Own.setOther HL3.out.2 (p := ⟨w.heap.size + 1, 1, none⟩) hn _) (p := ⟨w.heap.size + 1, 2, none⟩) hn _
  · go_enter Tryz.func63, Tryz.ntmps63
    go_wp2_with fail
    refine HNEW.out.mono ?_
    rintro e w1 ⟨rfl, s1, b1⟩
    have S1 := Lib.hid s1.blk
    have B1 := Lib.hid b1
    clear s1 b1
    go_wp2_with fail
    refine (HSO.out w1 (HP.out.at_below B1.out)).mono ?_
    rintro e w2 ⟨rfl, b2⟩
    have S2 := Lib.hid (S1.out.below b2 S1.out.lt)
    have B2 := Lib.hid (nextB B1.out b2)
    have d2 : w2.cell? ⟨b, o + 1, none⟩ = some (.int .u64 (n : Nat)) := (B2.out.cell (p := ⟨b, o + 1, none⟩) hb).trans d1
    clear b2 d1
    go_wp2_with fail
    refine (HOF.out w2 (HP.out.at_below B2.out)).mono ?_
    rintro e w3 (⟨_, ⟨gl, A3, c3, rfl, hgl, hl3⟩, b3⟩ | ⟨h0, _⟩)
    case inr => exact absurd rfl h0
    have s3 := S2.out.below b3 S2.out.lt
    have HL3 := Lib.hid hl3
    have HGL := Lib.hid (Nat.le_trans B2.out.size hgl)
    have B3 := Lib.hid (nextB B2.out b3)
    have k1 : w3.cell? ⟨w.heap.size + 1, 1, none⟩ = some (.pointer (some ⟨w.heap.size, 0, none⟩)) := by rw [s3.cell]; rfl
    have k2 : w3.cell? ⟨w.heap.size + 1, 2, none⟩ = some (.int .u64 0) := by rw [s3.cell, cutL_nil]; rfl
    have kf1 := s3.free 1
    have kf2 := s3.free 2
    have hne : w.heap.size + 1 ≠ gl := fun e => Blk.ne s3 hl3.1 (by decide) e
    have S3 := Lib.hid s3
    have HNE := Lib.hid hne
    clear b3 hl3 hgl s3 hne d2
    go_wp2_with fail
    go_ret2
    refine ⟨w.heap.size + 1, gl, A3, c3, rfl, by omega, HGL.out, ?_, ⟨(HL3.out.1.far (p := ⟨w.heap.size + 1, 1, none⟩) (fun e => HNE.out e.symm) _).far (p := ⟨w.heap.size + 1, 2, none⟩) (fun e => HNE.out e.symm) _, ?_⟩, (B3.out.setCell (by simp) _).setCell (by simp) _⟩
    · have h := (S3.out.put 1 (.pointer (some ⟨gl, 0, none⟩))).put 2 (.int .u64 (f : Int))
      simpa using h
    · have hn : blockOf A3 ≠ some (w.heap.size + 1) := Own.ne_blk (show Own w3 gl 64 2 A3 l.length c3 (pcs l) from HL3.out.2) S3.out (by decide)
      exact Own.setOther (Own.setOther HL3.out.2 (p := ⟨w.heap.size + 1, 1, none⟩) hn _) (p := ⟨w.heap.size + 1, 2, none⟩) hn _
end Go.Proofs.YtbfhiegbgkkgiaaGreat
