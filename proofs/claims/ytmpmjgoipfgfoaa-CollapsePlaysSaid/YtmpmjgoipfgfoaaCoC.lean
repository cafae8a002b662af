/- Stores with a budget: Add and Take walked. -/
import Derived.Test.YtmpmjgoipfgfoaaCoB
import Derived.Deep.QuietTactic
import Derived.BigQuiet
namespace Go.Proofs.Ytmpmjgoipfgfoaa
open Go.RowKit
open Pl
/-- All that was counted, and one act more: what is kept follows. -/
theorem radd_kept {all : List Pr} (hf : Fine all) (m : Int) (k : Int) (n : Nat) : (radd (cutL all m).1 k n 0).2 = (radd all k n 0).2 ∧
    ((radd all k n 0).2 = 0 → (cutL (radd (cutL all m).1 k n 0).1 m).1 = (cutL (radd all k n 0).1 m).1 ∧ (cutL (radd all k n 0).1 m).2 = (cutL (radd (cutL all m).1 k n 0).1 m).2 + stays (cutL all m) (firstK (cutL (radd all k n 0).1 m).1) + stays (cutL [] m) (firstK (cutL (radd all k n 0).1 m).1)) ∧
    ((radd all k n 0).2 ≠ 0 → (radd (cutL all m).1 k n 0).1 = (cutL all m).1 ∧ (radd all k n 0).1 = all) := by
  have ht := kept_tot hf m
  have e9 : ∀ K, stays (cutL [] m) K = 0 := fun K => by rw [cutL_nil]; unfold stays; rw [if_neg (by simp)]
  rw [radd0, radd0, ht]
  by_cases h0 : n = 0
  · simp [h0]
  · by_cases h1 : k < -1048576 ∨ 1048576 < k
    · simp [h0, h1]
    · by_cases h2 : 4611686018427387904 - tot all < n
      · simp [h0, h1, h2]
      · rw [if_neg h0, if_neg h1, if_neg h2, if_neg h0, if_neg h1, if_neg h2]
        refine ⟨rfl, fun _ => ⟨kept_put hf.srt hf.pos m k (by omega), ?_⟩, fun h => absurd rfl h⟩
        rw [e9, fold_put hf.srt hf.pos m k (by omega), Nat.add_zero]
theorem rtake_kept {all all2 : List Pr} (hf : Fine all) (hf2 : Fine all2) (m : Int) : (rtake (cutL all m).1 (cutL all2 m).1 0).2 = (rtake all all2 0).2 ∧
    ((rtake all all2 0).2 = 0 → (cutL (rtake (cutL all m).1 (cutL all2 m).1 0).1 m).1 = (cutL (rtake all all2 0).1 m).1 ∧ (cutL (rtake all all2 0).1 m).2 = (cutL (rtake (cutL all m).1 (cutL all2 m).1 0).1 m).2 + stays (cutL all m) (firstK (cutL (rtake all all2 0).1 m).1) + stays (cutL all2 m) (firstK (cutL (rtake all all2 0).1 m).1)) ∧
    ((rtake all all2 0).2 ≠ 0 → (rtake (cutL all m).1 (cutL all2 m).1 0).1 = (cutL all m).1 ∧ (rtake all all2 0).1 = all) := by
  have ht := kept_tot hf m
  have ht2 := kept_tot hf2 m
  have hn : ∀ (L : List Pr), L = [] ∨ (cutL L m).1 ≠ [] ∧ L ≠ [] := fun L => by
    by_cases h : L = []
    · exact .inl h
    · exact .inr ⟨cutL_ne h m, h⟩
  have hp : (rtake all all2 0) = if 4611686018427387904 - tot all < tot all2 then (all, 6) else (puts all all2, 0) := by
    rw [rtake0]
    rcases hn all2 with h | ⟨_, h⟩
    · rw [if_pos h, h, tot_nil, if_neg (Nat.not_lt_zero _)]; rfl
    · rw [if_neg h]
  have hq : (rtake (cutL all m).1 (cutL all2 m).1 0) = if 4611686018427387904 - tot all < tot all2 then ((cutL all m).1, 6) else (puts (cutL all m).1 (cutL all2 m).1, 0) := by
    rw [rtake0, ht, ht2]
    rcases hn all2 with h | ⟨h, _⟩
    · rw [h, cutL_nil, if_pos rfl, tot_nil, if_neg (Nat.not_lt_zero _)]; rfl
    · rw [if_neg h]
  rw [hp, hq]
  by_cases h2 : 4611686018427387904 - tot all < tot all2
  · simp [h2]
  · rw [if_neg h2, if_neg h2]
    exact ⟨rfl, fun _ => ⟨cut_twice hf.srt hf.pos hf2.srt hf2.pos m, fold_join hf.srt hf.pos hf2.srt hf2.pos m⟩, fun h => absurd rfl h⟩
set_option maxHeartbeats 1600000 in
theorem sadd_t (g gl : Nat) (A : Option Addr) (c : Nat) (m : Int) (all : List Pr) (k : Int) (n : Nat) (w : World) (h : Sto w g gl A c m all) (hf : Fine all) (hl : all.length < 100000) (hm0 : 2 ≤ m) (hm1 : m ≤ 4097) :
    Calls Try.prog 19 #[.pointer (some ⟨g, 0, none⟩), .int .i64 k, .int .u64 (n : Int)] w fun e w' => e = .returned (.int .i64 (radd all k n 0).2) ∧ ∃ A' c', Stored g gl A m (radd all k n 0).1 w w' A' c' := by
  obtain ⟨r1, r2, r3⟩ := radd_kept hf m k n
  have hfC := kept_fine hf m
  have hlC := (cutL_fine hf m).2.2
  have hf1 := (radd_fine (k := k) (n := n) hfC (by omega)).1
  have hf2 := (radd_fine (k := k) (n := n) hf hl).1
  have HB := Lib.hid (fun W p (hs : Sto W g gl A c m all) p0 p1 p2 => addc_t g gl p A c (cutL all m).1 m (cutL all m).2 k n W hs.blk hs.lst hfC p0 p1 p2)
  rw [r1] at HB
  obtain ⟨R, hR⟩ : ∃ R, R = radd (cutL all m).1 k n 0 := ⟨_, rfl⟩
  rw [← hR] at HB r2 r3 hf1
  have hc := fun p W hs hcall => countA g gl p A c m all (radd all k n 0).1 R.1 (radd all k n 0).2 W hs hf hm0 hm1 hcall hf1 hf2 r2 r3
  have HC := Lib.hid hc
  have HS := Lib.hid h
  generalize radd all k n 0 = RR at *
  clear h hf hl hm0 hm1 r1 r2 r3 hfC hlC hf1 hf2 hR hc
  go_enter Try.func19, Try.ntmps19
  go_wp2_with fail
  have hb3 : Below w.heap.size w (((w.alloc (.cells #[.pointer (some ⟨g, 0, none⟩)] 26)).alloc (.cells #[.int .i64 k] 3)).alloc (.cells #[.int .u64 (n : Int)] 24)) := (((Below.refl _ _).alloc (Nat.le_refl _) _).alloc (by simp) _).alloc (by simp; omega) _
  have k0 := Blk.new w 26 #[.pointer (some ⟨g, 0, none⟩)]
  have k1 := Blk.new (w.alloc (.cells #[.pointer (some ⟨g, 0, none⟩)] 26)) 3 #[.int .i64 k]
  have k2 := Blk.new ((w.alloc (.cells #[.pointer (some ⟨g, 0, none⟩)] 26)).alloc (.cells #[.int .i64 k] 3)) 24 #[.int .u64 (n : Int)]
  simp only [World.size_alloc] at k1 k2
  have HK := Lib.hid (And.intro ((k0.alloc (.cells #[.int .i64 k] 3)).alloc (.cells #[.int .u64 (n : Int)] 24)) (And.intro (k1.alloc (.cells #[.int .u64 (n : Int)] 24)) k2))
  have HB3 := Lib.hid hb3
  clear hb3 k0 k1 k2
  generalize ((w.alloc (.cells #[.pointer (some ⟨g, 0, none⟩)] 26)).alloc (.cells #[.int .i64 k] 3)).alloc (.cells #[.int .u64 (n : Int)] 24) = W at *
  refine (HC.out w.heap.size W (HS.out.below HB3.out) (fun W' hW' => HB.out W' w.heap.size ((HS.out.below HB3.out).below hW') (HK.out.1.below hW' HK.out.1.lt) (HK.out.2.1.below hW' HK.out.2.1.lt) (HK.out.2.2.below hW' HK.out.2.2.lt))).mono ?_
  rintro e w1 ⟨rfl, A', c', h1⟩
  have H1 := Lib.hid h1
  clear h1
  go_wp2_with fail
  go_ret
  exact ⟨rfl, A', c', H1.out.sto, (Only.of_below HB3.out).trans H1.out.only, fun x hx => (H1.out.new x hx).imp id (Nat.le_trans HB3.out.size)⟩
theorem stake_nil (g : Nat) (w : World) :
    Calls Try.prog 14 #[.pointer (some ⟨g, 0, none⟩), .pointer none] w fun e w' => e = .returned (.int .i64 1) ∧ Below w.heap.size w w' := by
  go_enter Try.func14, Try.ntmps14
  go_wp2_with fail
  go_ret
  exact ⟨rfl, ((Below.refl _ _).alloc (Nat.le_refl _) _).alloc (by simp) _⟩
set_option maxHeartbeats 1600000 in
theorem stake_kind (g gl g2 gl2 : Nat) (A A2 : Option Addr) (c c2 : Nat) (m m2 : Int) (all all2 : List Pr) (w : World) (h : Sto w g gl A c m all) (h2 : Sto w g2 gl2 A2 c2 m2 all2) (hm : m2 ≠ m) :
    Calls Try.prog 14 #[.pointer (some ⟨g, 0, none⟩), .pointer (some ⟨g2, 0, none⟩)] w fun e w' => e = .returned (.int .i64 3) ∧ Below w.heap.size w w' := by
  have c0 := h.c0
  have c2 := h2.c0
  have hg : g < w.heap.size := h.blk.lt
  have hg2 : g2 < w.heap.size := h2.blk.lt
  have e1 : (m2 != m) = true := by simp; exact hm
  have e2 : (m2 == m) = false := by simp; exact hm
  have n1 : ¬ g = w.heap.size := by omega
  have n2 : ¬ g = w.heap.size + 1 := by omega
  have n3 : ¬ g2 = w.heap.size := by omega
  have n4 : ¬ g2 = w.heap.size + 1 := by omega
  clear h h2 hm
  go_enter Try.func14, Try.ntmps14
  go_wp2_with fail
  go_quiet (fail)
  go_wp2_with fail
  go_ret
  exact ⟨rfl, below_drewN (((Below.refl _ _).alloc (Nat.le_refl _) _).alloc (by simp) _) _⟩
set_option maxHeartbeats 1600000 in
theorem stake_t (g gl g2 gl2 : Nat) (A A2 : Option Addr) (c c2 : Nat) (m : Int) (all all2 : List Pr) (w : World) (h : Sto w g gl A c m all) (h2 : Sto w g2 gl2 A2 c2 m all2) (hf : Fine all) (hf2 : Fine all2) (hl : all.length + all2.length ≤ 100000) (hm0 : 2 ≤ m) (hm1 : m ≤ 4097) :
    Calls Try.prog 14 #[.pointer (some ⟨g, 0, none⟩), .pointer (some ⟨g2, 0, none⟩)] w fun e w' => e = .returned (.int .i64 (rtake all all2 0).2) ∧ ∃ A' c', Stored g gl A m (rtake all all2 0).1 w w' A' c' := by
  obtain ⟨r1, r2, r3⟩ := rtake_kept hf hf2 m
  have hfC := kept_fine hf m
  have hfD := kept_fine hf2 m
  have hlC := (cutL_fine hf m).2.2
  have hlD := (cutL_fine hf2 m).2.2
  have hf1' := (took_fine hfC hfD (by omega)).1
  have hf2' := (took_fine hf hf2 hl).1
  have HB := Lib.hid (fun W p (hs : Sto W g gl A c m all) (hs2 : Sto W g2 gl2 A2 c2 m all2) p0 p1 => takec_t g gl p g2 gl2 A A2 c c2 (cutL all m).1 (cutL all2 m).1 m m (cutL all m).2 (cutL all2 m).2 W hs.blk hs.lst hfC hs2.blk hs2.lst hfD (by omega) p0 p1)
  rw [r1] at HB
  obtain ⟨R, hR⟩ : ∃ R, R = rtake (cutL all m).1 (cutL all2 m).1 0 := ⟨_, rfl⟩
  rw [← hR] at HB r2 r3 hf1'
  have hc := fun p W hs hs2 hcall => countT g gl p A c m all (rtake all all2 0).1 R.1 (rtake all all2 0).2 W hs hf hm0 hm1 g2 gl2 A2 c2 all2 hs2 hf2 hcall hf1' hf2' r2 r3
  have HC := Lib.hid hc
  have HS := Lib.hid h
  have HS2 := Lib.hid h2
  have d0 := h.c0
  have d2 := h2.c0
  have hg : g < w.heap.size := h.blk.lt
  have hg2 : g2 < w.heap.size := h2.blk.lt
  have n1 : ¬ g = w.heap.size := by omega
  have n2 : ¬ g = w.heap.size + 1 := by omega
  have n3 : ¬ g2 = w.heap.size := by omega
  have n4 : ¬ g2 = w.heap.size + 1 := by omega
  generalize rtake all all2 0 = RR at *
  clear h h2 hf hf2 hl hm0 hm1 r1 r2 r3 hfC hfD hlC hlD hf1' hf2' hR hc
  go_enter Try.func14, Try.ntmps14
  go_wp2_with fail
  go_quiet (fail)
  go_wp2_with fail
  have hb3 : Below w.heap.size w (((w.alloc (.cells #[.pointer (some ⟨g, 0, none⟩)] 26)).alloc (.cells #[.pointer (some ⟨g2, 0, none⟩)] 26)).drewN nq) := below_drewN (((Below.refl _ _).alloc (Nat.le_refl _) _).alloc (by simp) _) _
  have k0 := Blk.new w 26 #[.pointer (some ⟨g, 0, none⟩)]
  have k1 := Blk.new (w.alloc (.cells #[.pointer (some ⟨g, 0, none⟩)] 26)) 26 #[.pointer (some ⟨g2, 0, none⟩)]
  simp only [World.size_alloc] at k1
  have HK := Lib.hid (And.intro ((k0.alloc (.cells #[.pointer (some ⟨g2, 0, none⟩)] 26)).drewN nq) (k1.drewN nq))
  have HB3 := Lib.hid hb3
  clear hb3 k0 k1
  generalize ((w.alloc (.cells #[.pointer (some ⟨g, 0, none⟩)] 26)).alloc (.cells #[.pointer (some ⟨g2, 0, none⟩)] 26)).drewN nq = W at *
  refine (HC.out w.heap.size W (HS.out.below HB3.out) (HS2.out.below HB3.out) (fun W' hW' => HB.out W' w.heap.size ((HS.out.below HB3.out).below hW') ((HS2.out.below HB3.out).below hW') (HK.out.1.below hW' HK.out.1.lt) (HK.out.2.below hW' HK.out.2.lt))).mono ?_
  rintro e w1 ⟨rfl, A', c', h1⟩
  have H1 := Lib.hid h1
  clear h1
  go_wp2_with fail
  go_ret
  exact ⟨rfl, A', c', H1.out.sto, (Only.of_below HB3.out).trans H1.out.only, fun x hx => (H1.out.new x hx).imp id (Nat.le_trans HB3.out.size)⟩
end Go.Proofs.Ytmpmjgoipfgfoaa
