/- Sketches that were read from pairs: what must have been counted, plain. -/
import Derived.Test.YtbfhiegbgkkgiaaGreatC15
import Derived.Deep.RegionHeld3
import Derived.LoopN
import Derived.Outline
import Derived.Test.YtbfhiegbgkkgiaaGreatChecked
import Derived.Test.YtbfhiegbgkkgiaaGreatC01
import Derived.Test.YtbfhiegbgkkgiaaGreatC03
import Derived.RegionTactic
import Derived.BigRegion
import Derived.Deep.QuietTactic
import Derived.BigQuiet
import Derived.Deep.LoopGhost
import Derived.StillTailTactics
import Derived.Laws.CopyOwn
namespace Go.Proofs.YtbfhiegbgkkgiaaGreat
open Go.RowKit
open Pl
open Sc
theorem ofL_cap : ∀ (l L : List Pr), Srt (L ++ l) → Pos l → KeysIn l → tot L ≤ 4611686018427387904 → 4611686018427387904 < tot (L ++ l) → (ofL l L).2 ≠ 0
  | [], L, _, _, _, h1, h2 => by rw [List.append_nil] at h2; omega
  | p :: l, L, hs, hp, hk, h1, h2 => by
    obtain ⟨_, a2, a3⟩ := List.pairwise_append.1 hs
    have h0 := (pos_cons.1 hp).1
    have hkp := hk p (by simp)
    unfold ofL
    by_cases hc : 4611686018427387904 - tot L < p.2
    · have e : radd L p.1 p.2 0 = (L, 6) := by rw [radd0, if_neg (by omega), if_neg (by omega), if_pos hc]
      rw [e, if_neg (show ¬ ((6 : Int) = 0) by decide)]
      exact (by decide : (6 : Int) ≠ 0)
    · have e : radd L p.1 p.2 0 = (L ++ [p], 0) := by
        rw [radd0, if_neg (by omega), if_neg (by omega), if_neg hc, put_end (fun q hq => a3 q hq p (by simp))]
      rw [e, if_pos rfl]
      exact ofL_cap l (L ++ [p]) (by rw [List.append_assoc]; exact hs) (pos_cons.1 hp).2 (fun q hq => hk q (by simp [hq])) (by rw [tot_append, tot_cons, tot_nil]; omega) (by rw [List.append_assoc]; exact h2)
/-- May pairs be a sketch's? -/
structure Keeps (a : Nat) (m : Nat) (l : List Pr) (f : Nat) : Prop where
  keys : ∀ p ∈ l, -((spans a).length : Int) ≤ p.1 ∧ p.1 ≤ ((spans a).length : Int)
  tot : tot l ≤ 4611686018427387904
  fold : f = 0 ∨ l.length = m ∧ ∃ p R, l = p :: R ∧ f < p.2
/-- Something counted of which pairs are left so. -/
def allOf (l : List Pr) (f : Nat) : List Pr := if f = 0 then l else match l with
  | [] => []
  | p :: R => (p.1 - 1, f) :: (p.1, p.2 - f) :: R
theorem allOf_fine {a m : Nat} {l : List Pr} {f : Nat} (h : Keeps a m l f) (hs : Srt l) (hp : Pos l) (hl : l.length ≤ 5000) : Fine (allOf l f) := by
  have hsl := spans_len' a
  have hk : KeysIn l := fun q hq => by have := h.keys q hq; omega
  unfold allOf
  split
  · exact ⟨hs, hp, hk, h.tot, by omega⟩
  · rename_i hf
    rcases h.fold with h0 | ⟨h1, p, R, rfl, h2⟩
    · exact absurd h0 hf
    · dsimp only
      have hkp := h.keys p (by simp)
      obtain ⟨s1, s2⟩ := List.pairwise_cons.1 hs
      have ht := h.tot
      rw [tot_cons] at ht
      simp only [List.length_cons] at hl
      refine ⟨List.pairwise_cons.2 ⟨fun q hq => ?_, List.pairwise_cons.2 ⟨fun q hq => s1 q hq, s2⟩⟩, ?_, ?_, by rw [tot_cons, tot_cons]; dsimp only; omega, by simp only [List.length_cons]; omega⟩
      · rcases List.mem_cons.1 hq with rfl | hq
        · dsimp only; omega
        · have := s1 q hq; dsimp only; omega
      · intro q hq
        rcases List.mem_cons.1 hq with rfl | hq
        · dsimp only; omega
        rcases List.mem_cons.1 hq with rfl | hq
        · dsimp only; omega
        · exact hp q (by simp [hq])
      · intro q hq
        rcases List.mem_cons.1 hq with rfl | hq
        · dsimp only; omega
        rcases List.mem_cons.1 hq with rfl | hq
        · dsimp only; omega
        · exact hk q (by simp [hq])
theorem allOf_cut {a m : Nat} {l : List Pr} {f : Nat} (h : Keeps a m l f) (hm : 2 ≤ m) (hl : l.length ≤ m) : cutL (allOf l f) (m : Int) = (l, f) := by
  have hc : cutN (m : Int) = m := by unfold cutN; omega
  unfold allOf
  split
  · rename_i hf
    unfold cutL
    rw [hc, if_pos hl, hf]
  · rename_i hf
    rcases h.fold with h0 | ⟨h1, p, R, rfl, h2⟩
    · exact absurd h0 hf
    · dsimp only
      simp only [List.length_cons] at h1
      have hlen : ((p.1 - 1, f) :: (p.1, p.2 - f) :: R).length = m + 1 := by simp only [List.length_cons]; omega
      unfold cutL
      rw [hc, hlen, if_neg (by omega), Nat.add_sub_cancel_left]
      show ((p.1, p.2 - f + (f + 0)) :: R, f + 0) = (p :: R, f)
      rw [Nat.add_zero, Nat.sub_add_cancel (Nat.le_of_lt h2)]
theorem keeps_bad {a m : Nat} {l : List Pr} {f : Nat} (hk : ∀ p ∈ l, -((spans a).length : Int) ≤ p.1 ∧ p.1 ≤ ((spans a).length : Int)) (hs : Srt l) (hp : Pos l) (hl : l.length ≤ m) (hm : 2 ≤ m) (h : ¬ Keeps a m l f) : LoadBad (m : Int) l f := by
  have hsl := spans_len' a
  have hki : KeysIn l := fun q hq => by have := hk q hq; omega
  by_cases ht : tot l ≤ 4611686018427387904
  · right
    have hf : ¬ (f = 0 ∨ l.length = m ∧ ∃ p R, l = p :: R ∧ f < p.2) := fun e => h ⟨hk, ht, e⟩
    have hf0 : f ≠ 0 := fun e => hf (.inl e)
    refine ⟨by omega, ?_⟩
    by_cases h1 : (l.length : Int) < (m : Int)
    · exact .inl h1
    · right
      have h2 : l.length = m := by omega
      cases l with
      | nil => simp at h2; omega
      | cons p R =>
        refine ⟨p, R, rfl, ?_⟩
        by_cases h3 : p.2 ≤ f
        · exact h3
        · exact absurd (.inr ⟨h2, p, R, rfl, by omega⟩) hf
  · left
    exact ofL_cap l [] hs hp hki (by rw [tot_nil]; omega) (by simpa using ht)
end Go.Proofs.YtbfhiegbgkkgiaaGreat
/- Sketches: New and Load walked. -/

namespace Go.Proofs.YtbfhiegbgkkgiaaGreat
open Go.RowKit
open Pl
open Sc
theorem dnew_t (a m : Nat) (w : World) (ha0 : 100 ≤ a) (ha : a ≤ 5000) (hm0 : 2 ≤ m) (hm1 : m ≤ 4096) :
    Calls Tryz.prog 21 #[.int .i64 (a : Int), .int .i64 (m : Int)] w fun e w' => ∃ p q As cs g gl, e = .returned (.tuple #[.pointer (some ⟨p, 0, none⟩), .int .i64 0]) ∧ w.heap.size ≤ p ∧ w.heap.size ≤ g ∧ w.heap.size ≤ gl ∧ Skt w' p q As cs a g gl none 0 (m : Int) [] ∧ Below w.heap.size w w' := by
  have HS := Lib.hid (scnew_t a w ha0 ha)
  have HC := Lib.hid (fun W => cnew_t (m : Int) W (by omega) (by omega))
  clear ha0 ha hm0 hm1
  go_enter Tryz.func21, Tryz.ntmps21
  go_wp2_with fail
  refine HS.out.mono ?_
  rintro e w1 ⟨q, As, cs, rfl, hq, h1, b1⟩
  have H1 := Lib.hid h1
  have B1 := Lib.hid b1
  clear h1 b1 hq
  go_wp2_with fail
  refine (HC.out w1).mono ?_
  rintro e w2 ⟨rfl, h2, b2⟩
  have H2 := Lib.hid h2
  have B2 := Lib.hid b2
  clear h2 b2
  go_wp2_with fail
  go_ret2
  have bb : Below w2.heap.size w2 (w2.alloc (.cells #[.pointer (some ⟨q, 0, none⟩), .pointer (some ⟨w1.heap.size + 1, 0, none⟩)] 81)) := (Below.refl _ _).alloc (Nat.le_refl _) _
  have s1 := B1.out.size
  have s2 := B2.out.size
  exact ⟨w2.heap.size, q, As, cs, w1.heap.size + 1, w1.heap.size, rfl, by omega, by omega, by omega, ⟨Blk.new _ _ _, (H1.out.below B2.out).below bb, H2.out.below bb⟩, nextB (nextB B1.out B2.out) bb⟩
theorem mid_any (g c a : Nat) (A : Option Addr) (k : Int) (w : World) (h : Scl w g A c a (spans a)) (ha0 : 100 ≤ a) (ha : a ≤ 5000) :
    Calls Tryz.prog 62 #[.pointer (some ⟨g, 0, none⟩), .int .i64 k] w fun e w' => ∃ v, e = .returned (.tuple #[.int .i64 v, .int .i64 (if -((spans a).length : Int) ≤ k ∧ k ≤ ((spans a).length : Int) then 0 else 1)]) ∧ Below w.heap.size w w' := by
  have hl := spans_len' a
  by_cases h1 : -((spans a).length : Int) ≤ k ∧ k ≤ ((spans a).length : Int)
  · rw [if_pos h1]
    by_cases h2 : k = 0
    · subst h2
      exact (mid_zero g c a A (spans a) w h (by omega)).mono fun e w' ⟨r1, r2⟩ => ⟨0, r1, r2⟩
    · by_cases h3 : 0 < k
      · obtain ⟨s, hs⟩ : ∃ s, (spans a)[k.toNat - 1]? = some s := ⟨_, List.getElem?_eq_getElem (by omega)⟩
        exact (mid_pos g c a A (spans a) (k.toNat - 1) s w h (by omega) hs k (by omega)).mono fun e w' ⟨r1, r2⟩ => ⟨_, r1, r2⟩
      · obtain ⟨s, hs⟩ : ∃ s, (spans a)[(-k).toNat - 1]? = some s := ⟨_, List.getElem?_eq_getElem (by omega)⟩
        have hf := spans_facts ha0 ha s (List.mem_of_getElem? hs)
        exact (mid_neg g c a A (spans a) ((-k).toNat - 1) s w h (by omega) hs (by omega) k (by omega)).mono fun e w' ⟨r1, r2⟩ => ⟨_, r1, r2⟩
  · rw [if_neg h1]
    exact (mid_no g c a A (spans a) k w h (by omega) (by omega)).mono fun e w' ⟨r1, r2⟩ => ⟨0, r1, by rw [← r2]; exact Below.refl _ _⟩
def KeyIn (a : Nat) (p : Pr) : Prop := -((spans a).length : Int) ≤ p.1 ∧ p.1 ≤ ((spans a).length : Int)
def DLoad (a m : Nat) (l : List Pr) (f : Nat) (w : World) (e : Ending) (w' : World) : Prop :=
  (Keeps a m l f ∧ (∃ p q As cs g gl A c, e = .returned (.tuple #[.pointer (some ⟨p, 0, none⟩), .int .i64 0]) ∧ w.heap.size ≤ p ∧ w.heap.size ≤ g ∧ w.heap.size ≤ gl ∧ Skt w' p q As cs a g gl A c (m : Int) (allOf l f)) ∧ Below w.heap.size w w') ∨
  (¬ Keeps a m l f ∧ e = .returned (.tuple #[.pointer none, .int .i64 1]) ∧ Below w.heap.size w w')
set_option maxHeartbeats 3200000 in
set_option maxRecDepth 100000 in
theorem dload_t (a m : Nat) (A0 : Option Addr) (c0 : Nat) (l : List Pr) (f : Nat) (w : World) (h : Prs w w.heap.size A0 l) (ha0 : 100 ≤ a) (ha : a ≤ 5000) (hm0 : 2 ≤ m) (hm1 : m ≤ 4096) (hs : Srt l) (hp : Pos l) (hl : l.length ≤ m) :
    Calls Tryz.prog 36 #[.int .i64 (a : Int), .int .i64 (m : Int), .slice A0 l.length c0, .int .u64 (f : Int)] w (DLoad a m l f w) := by
  have HNEW := Lib.hid (dnew_t a m w ha0 ha hm0 hm1)
  have HMI : Hid (∀ W (h : Skt W 0 0 none 0 a 0 0 none 0 (m : Int) []), True) := Lib.hid (fun _ _ => trivial)
  clear HMI
  have HMI0 := Lib.hid (fun (g c : Nat) (A : Option Addr) (k : Int) (W : World) (h : Scl W g A c a (spans a)) => mid_any g c a A k W h ha0 ha)
  have HL1 := Lib.hid (fun W (h : Prs W W.heap.size A0 l) (hk : Keeps a m l f) => load_t A0 c0 (m : Int) l f W h ⟨hs, hp, fun q hq => by have := hk.keys q hq; have := spans_len' a; omega, hk.tot, by omega⟩ (by omega) (by omega) (by omega) (by omega) (hk.fold.imp id (fun h => ⟨by omega, h.2⟩)))
  have HL0 := Lib.hid (fun W (h : Prs W W.heap.size A0 l) (hk : ∀ p ∈ l, KeyIn a p) (hn : ¬ Keeps a m l f) => load_no A0 c0 (m : Int) l f W h hs (by omega) (by omega) (by omega) (keeps_bad hk hs hp hl hm0 hn))
  have HCUT := Lib.hid (fun (hk : Keeps a m l f) => allOf_cut hk hm0 hl)
  have HP := Lib.hid h
  have hll : (l.length : Int) ≤ 4096 := by omega
  clear h hs hp hl hm0 hm1 ha0 ha
  go_enter Tryz.func36, Tryz.ntmps36
  go_wp2_with fail
  refine HNEW.out.mono ?_
  rintro e w1 ⟨p, q, As, cs, g, gl, rfl, hp, hg, hgl, h1, b1⟩
  have HS1 := Lib.hid h1
  have HB1 := Lib.hid b1
  have HPP := Lib.hid (And.intro hp (And.intro hg hgl))
  have HMI := Lib.hid (fun W (h : Skt W p q As cs a g gl none 0 (m : Int) []) (k : Int) => HMI0.out q cs As k W h.scl)
  clear h1 b1 hp hg hgl HMI0
  go_wp2_with fail
  go_loopw [28] (fun v wr => ∃ i : Nat, v = .int .i64 (i : Int) ∧ i ≤ l.length ∧ (∀ x ∈ l.take i, KeyIn a x) ∧ Skt wr p q As cs a g gl none 0 (m : Int) [] ∧ Below w.heap.size w wr) (fun v _ => l.length - (intOf v).toNat)
  case atStart => exact ⟨0, rfl, Nat.zero_le _, by simp, HS1.out, HB1.out⟩
  case round =>
    obtain ⟨i, rfl, hi, hks, hsk, hbel⟩ := hrel
    obtain ⟨wo, rfl⟩ : ∃ wo : World, wo = wr := ⟨_, rfl⟩
    have HS2' := Lib.hid hsk
    have HB2' := Lib.hid hbel
    have HKS := Lib.hid hks
    clear hks hsk hbel
    by_cases hlt : i < l.length
    · have hii : (i : Int) < (l.length : Int) := by omega
      have hi0 : (0 : Int) ≤ (i : Int) := by omega
      obtain ⟨x, hx⟩ : ∃ x, l[i]? = some x := ⟨_, List.getElem?_eq_getElem hlt⟩
      obtain ⟨b, o, rfl, hbb, hc⟩ := (HP.out.at_below HB2'.out).at_ (by omega)
      obtain ⟨d1, d2⟩ := hc i x hx
      have HX := Lib.hid hx
      have HI := Lib.hid hlt
      obtain ⟨k, n⟩ := x
      dsimp only at d1 d2
      clear hc hx hbb hi hlt
      go_wp2_with fail
      have hb0 : Below wo.heap.size wo (wo.alloc (.cells #[.int .i64 k, .int .u64 (n : Nat)] 64)) := (Below.refl _ _).alloc (Nat.le_refl _) _
      have HB2 := Lib.hid (nextB HB2'.out hb0)
      have HS2 := Lib.hid (HS2'.out.below hb0)
      obtain ⟨N, hN⟩ : ∃ N, N = wo.heap.size := ⟨_, rfl⟩
      have e1 := HS2.out.c0
      have e2 : (wo.alloc (.cells #[.int .i64 k, .int .u64 (n : Nat)] 64)).cell? ⟨N, 0, none⟩ = some (.int .i64 k) := by rw [hN, (Blk.new wo 64 #[.int .i64 k, .int .u64 (n : Nat)]).cell]; rfl
      have hNlt : N < (wo.alloc (.cells #[.int .i64 k, .int .u64 (n : Nat)] 64)).heap.size := by rw [hN]; simp
      clear hb0 d1 d2
      generalize wo.alloc (.cells #[.int .i64 k, .int .u64 (n : Nat)] 64) = W0 at *
      rw [← hN]
      clear hN
      refine wp_region_noPanic ?_
      refine wp_region_held_drew (S := (fun W => W.cell? ⟨p, 0, none⟩ = some (.pointer (some ⟨q, 0, none⟩)) ∧ W.cell? ⟨N, 0, none⟩ = some (.int .i64 k) ∧ Below w.heap.size w W ∧ Skt W p q As cs a g gl none 0 (m : Int) [] ∧ N < W.heap.size)) (by kernel_rfl) ⟨e1, e2, HB2.out.drew, HS2.out.below (Below.refl _ _).drew, hNlt⟩ (fun hHeld => ?_)
      refine wpAnyH_take (i := 0) (oi := ?_) (v := ?_) ?_ ?_ ?_ ?_ ?_ ?_ ?_ ?_
      rotate_left 2
      · simp only [List.getElem?_toArray, List.getElem?_cons_zero]; rfl
      · kernel_rfl
      · kernel_rfl
      · kernel_rfl
      · exact fun _ _ _ h => h
      · exact Or.inl ⟨by kernel_rfl, by intro w hSw; (try dsimp only at hSw); go_simp; try with_reducible rfl⟩
      · assumption
      try go_simp
      refine wpAnyH_take (i := 1) (oi := ?_) (v := ?_) ?_ ?_ ?_ ?_ ?_ ?_ ?_ ?_
      rotate_left 2
      · simp only [List.getElem?_toArray, List.getElem?_cons_succ, List.getElem?_cons_zero]; rfl
      · kernel_rfl
      · kernel_rfl
      · kernel_rfl
      · exact fun _ _ _ h => h
      · exact Or.inl ⟨by kernel_rfl, by intro w hSw; (try dsimp only at hSw); go_simp; try with_reducible rfl⟩
      · assumption
      try go_simp
      refine wpAnyH_take (i := 2) (oi := ?_) (v := ?_) ?_ ?_ ?_ ?_ ?_ ?_ ?_ ?_
      rotate_left 2
      · simp only [List.getElem?_toArray, List.getElem?_cons_succ, List.getElem?_cons_zero]; rfl
      · kernel_rfl
      · kernel_rfl
      · kernel_rfl
      · exact fun _ _ _ h => h
      · exact Or.inl ⟨by kernel_rfl, by intro w hSw; (try dsimp only at hSw); go_simp; try with_reducible rfl⟩
      · assumption
      try go_simp
      refine wpAnyH_take (i := 3) (oi := ?_) (v := ?_) ?_ ?_ ?_ ?_ ?_ ?_ ?_ ?_
      rotate_left 2
      · simp only [List.getElem?_toArray, List.getElem?_cons_succ, List.getElem?_cons_zero]; rfl
      · kernel_rfl
      · kernel_rfl
      · kernel_rfl
      · exact fun _ _ _ h => h
      · exact Or.inl ⟨by kernel_rfl, by intro w hSw; (try dsimp only at hSw); go_simp; try with_reducible rfl⟩
      · assumption
      try go_simp
      refine wpAnyH_take (i := 4) (oi := ?_) (v := ?_) ?_ ?_ ?_ ?_ ?_ ?_ ?_ ?_
      rotate_left 2
      · simp only [List.getElem?_toArray, List.getElem?_cons_succ, List.getElem?_cons_zero]; rfl
      · kernel_rfl
      · kernel_rfl
      · kernel_rfl
      · exact fun _ _ _ h => h
      · exact Or.inl ⟨by kernel_rfl, by intro w hSw; (try dsimp only at hSw); go_simp; try with_reducible rfl⟩
      · assumption
      try go_simp
      refine wpAnyH_take (i := 5) (oi := ?_) (v := ?_) ?_ ?_ ?_ ?_ ?_ ?_ ?_ ?_
      rotate_left 2
      · simp only [List.getElem?_toArray, List.getElem?_cons_succ, List.getElem?_cons_zero]; rfl
      · kernel_rfl
      · kernel_rfl
      · kernel_rfl
      · exact fun _ _ _ h => h
      · exact Or.inl ⟨by kernel_rfl, by intro w hSw; (try dsimp only at hSw); go_simp; try with_reducible rfl⟩
      · assumption
      try go_simp
      refine wpAnyH_ready (rs := [6]) (by kernel_rfl) (by simp) ?_
      refine AllReadyH.cons (o := ?_) ?_ ?_ AllReadyH.nil
      rotate_left 1
      · simp only [List.getElem?_toArray, List.getElem?_cons_succ, List.getElem?_cons_zero]; rfl
      intro K hK
      go_simp
      refine (HMI.out _ (by first | exact hHeld.2.2.2.1 | assumption) k).mono ?_
      rintro e w2 ⟨v, rfl, hb2⟩
      have HB3 := Lib.hid hb2
      clear hb2
      refine hK.out _ _ ?_ (fun hHeld => ?_)
      · exact ⟨(HB3.out.cell (p := ⟨p, 0, none⟩) hHeld.2.2.2.1.blk.lt).trans hHeld.1, (HB3.out.cell (p := ⟨N, 0, none⟩) hHeld.2.2.2.2).trans hHeld.2.1, nextB hHeld.2.2.1 HB3.out, hHeld.2.2.2.1.below HB3.out, Nat.lt_of_lt_of_le hHeld.2.2.2.2 HB3.out.size⟩
      clear hK K
      try go_simp
      refine wpAnyH_take (i := 7) (oi := ?_) (v := ?_) ?_ ?_ ?_ ?_ ?_ ?_ ?_ ?_
      rotate_left 2
      · simp only [List.getElem?_toArray, List.getElem?_cons_succ, List.getElem?_cons_zero]; rfl
      · kernel_rfl
      · kernel_rfl
      · kernel_rfl
      · exact fun _ _ _ h => h
      · exact Or.inl ⟨by kernel_rfl, by intro w hSw; (try dsimp only at hSw); go_simp; try with_reducible rfl⟩
      · assumption
      try go_simp
      refine wpAnyH_take (i := 8) (oi := ?_) (v := ?_) ?_ ?_ ?_ ?_ ?_ ?_ ?_ ?_
      rotate_left 2
      · simp only [List.getElem?_toArray, List.getElem?_cons_succ, List.getElem?_cons_zero]; rfl
      · kernel_rfl
      · kernel_rfl
      · kernel_rfl
      · exact fun _ _ _ h => h
      · exact Or.inl ⟨by kernel_rfl, by intro w hSw; (try dsimp only at hSw); go_simp; try with_reducible rfl⟩
      · assumption
      try go_simp
      refine wpAnyH_take (i := 9) (oi := ?_) (v := ?_) ?_ ?_ ?_ ?_ ?_ ?_ ?_ ?_
      rotate_left 2
      · simp only [List.getElem?_toArray, List.getElem?_cons_succ, List.getElem?_cons_zero]; rfl
      · kernel_rfl
      · kernel_rfl
      · kernel_rfl
      · exact fun _ _ _ h => h
      · exact Or.inl ⟨by kernel_rfl, by intro w hSw; (try dsimp only at hSw); go_simp; try with_reducible rfl⟩
      · assumption
      try go_simp
      refine wpAnyH_take (i := 10) (oi := ?_) (v := ?_) ?_ ?_ ?_ ?_ ?_ ?_ ?_ ?_
      rotate_left 2
      · simp only [List.getElem?_toArray, List.getElem?_cons_succ, List.getElem?_cons_zero]; rfl
      · kernel_rfl
      · kernel_rfl
      · kernel_rfl
      · exact fun _ _ _ h => h
      · exact Or.inl ⟨by kernel_rfl, by intro w hSw; (try dsimp only at hSw); go_simp; try with_reducible rfl⟩
      · assumption
      try go_simp
      refine wpAnyH_take (i := 11) (oi := ?_) (v := ?_) ?_ ?_ ?_ ?_ ?_ ?_ ?_ ?_
      rotate_left 2
      · simp only [List.getElem?_toArray, List.getElem?_cons_succ, List.getElem?_cons_zero]; rfl
      · kernel_rfl
      · kernel_rfl
      · kernel_rfl
      · exact fun _ _ _ h => h
      · exact Or.inl ⟨by kernel_rfl, by intro w hSw; (try dsimp only at hSw); go_simp; try with_reducible rfl⟩
      · assumption
      try go_simp
      refine wpAnyH_done (by kernel_rfl) ?_ _
      refine NoPanic.normal ?_
      have HH := Lib.hid hHeld
      clear hHeld e1 e2 hNlt HB2 HS2 HS2' HB2'
      obtain ⟨r, hr⟩ : ∃ r : Int, r = (if -((spans a).length : Int) ≤ k ∧ k ≤ ((spans a).length : Int) then 0 else 1) := ⟨_, rfl⟩
      rw [← hr]
      by_cases hin : -((spans a).length : Int) ≤ k ∧ k ≤ ((spans a).length : Int)
      · rw [if_pos hin] at hr
        have HIN := Lib.hid hin
        subst hr
        clear hin
        go_wp2_with fail
        go_roundw
        case rel => exact ⟨i + 1, by go_num, HI.out, by
          intro y hy
          rw [List.take_succ_eq_append_getElem HI.out] at hy
          rcases List.mem_append.1 hy with hy | hy
          · exact HKS.out y hy
          · rw [List.mem_singleton.1 hy, show l[i]'HI.out = (k, n) from (List.getElem?_eq_some_iff.1 HX.out).2]
            exact HIN.out, HH.out.2.2.2.1, HH.out.2.2.1⟩
        case measure => have := HI.out; simp [intOf]; omega
      · rw [if_neg hin] at hr
        have HIN := Lib.hid hin
        subst hr
        clear hin
        go_wp2_with fail
        go_ret2
        exact .inr ⟨fun hk => HIN.out (hk.keys _ (List.mem_of_getElem? HX.out)), rfl, HH.out.2.2.1⟩
    · have hge : ¬ (i : Int) < (l.length : Int) := by omega
      have hall : ∀ x ∈ l, KeyIn a x := fun x hx => HKS.out x (by rw [List.take_of_length_le (by omega)]; exact hx)
      clear hi hlt HKS
      by_cases hk : Keeps a m l f
      · have HK := Lib.hid hk
        clear hall hk
        go_wp2_with fail
        refine (HL1.out _ (HP.out.at_below HB2'.out) HK.out).mono ?_
        rintro e w2 ⟨g2, gl2, A2, c2, rfl, hg2, hgl2, hb2, hl2, b2⟩
        have HB3 := Lib.hid (nextB HB2'.out b2)
        have HS3 := Lib.hid (HS2'.out.below b2)
        have HG2 := Lib.hid (Nat.le_trans HB2'.out.size hg2)
        have HGL2 := Lib.hid (Nat.le_trans HB2'.out.size hgl2)
        have HBK := Lib.hid hb2
        have HLL := Lib.hid hl2
        have c1 := HS3.out.c1
        have cf := HS3.out.blk.free 1
        have hne1 : g2 ≠ p := fun e => Blk.ne hb2 HS3.out.blk (by decide) e
        have hne2 : gl2 ≠ p := fun e => Blk.ne hl2.1 HS3.out.blk (by decide) e
        have hnA : blockOf A2 ≠ some p := Own.ne_blk (show Own w2 gl2 64 2 A2 l.length c2 (pcs l) from hl2.2) HS3.out.blk (by decide)
        have hq1 : q ≠ p := fun e => Blk.ne HS3.out.scl.blk HS3.out.blk (by decide) e
        have hq2 : blockOf As ≠ some p := Own.ne_blk (show Own w2 q 135 3 As (spans a).length cs (scs (spans a)) from HS3.out.scl.own) HS3.out.blk (by decide)
        have HNE := Lib.hid (And.intro hne1 (And.intro hne2 (And.intro hnA (And.intro hq1 hq2))))
        clear hg2 hgl2 hb2 hl2 b2 hne1 hne2 hnA hq1 hq2
        go_wp2_with fail
        go_ret2
        have hcut := HCUT.out HK.out
        refine .inl ⟨HK.out, ⟨p, q, As, cs, g2, gl2, A2, c2, rfl, HPP.out.1, HG2.out, HGL2.out, ⟨?_, ⟨HS3.out.scl.blk.far (p := ⟨p, 1, none⟩) HNE.out.2.2.2.1 _, ?_⟩, ⟨?_, ?_⟩⟩⟩, HB3.out.setCell (by exact HPP.out.1) _⟩
        · have hx := HS3.out.blk.put 1 (.pointer (some ⟨g2, 0, none⟩))
          simpa using hx
        · exact Own.setOther (show Own w2 q 135 3 As (spans a).length cs (scs (spans a)) from HS3.out.scl.own) (p := ⟨p, 1, none⟩) HNE.out.2.2.2.2 _
        · rw [hcut]
          exact HBK.out.far (p := ⟨p, 1, none⟩) HNE.out.1 _
        · rw [hcut]
          exact ⟨HLL.out.1.far (p := ⟨p, 1, none⟩) HNE.out.2.1 _, Own.setOther (show Own w2 gl2 64 2 A2 l.length c2 (pcs l) from HLL.out.2) (p := ⟨p, 1, none⟩) HNE.out.2.2.1 _⟩
      · have HK := Lib.hid hk
        have HA := Lib.hid hall
        clear hall hk
        go_wp2_with fail
        refine (HL0.out _ (HP.out.at_below HB2'.out) HA.out HK.out).mono ?_
        rintro e w2 ⟨rfl, b2⟩
        have HB3 := Lib.hid (nextB HB2'.out b2)
        clear b2
        go_wp2_with fail
        go_ret2
        exact .inr ⟨HK.out, rfl, HB3.out⟩
end Go.Proofs.YtbfhiegbgkkgiaaGreat
/- Wire: the letters' forms walked. -/

namespace Go.Proofs.YtbfhiegbgkkgiaaGreat
open Go.RowKit
def fn0 (i : Nat) : Value := .func (.func i) #[] #[]
/-- What is known of a letter's form: letter, size, writer, reader. -/
abbrev Frm := Nat × Nat × Nat × Nat
def frms : List Frm := [
  (98, 1, 104, 105), (104, 2, 104, 105),
  (72, 2, 106, 107), (119, 4, 104, 105),
  (87, 4, 106, 107), (113, 8, 104, 105),
  (81, 8, 106, 107), (118, 0, 108, 109),
  (122, 0, 110, 111), (110, 0, 112, 113)]
def frmC (f : Frm) : List Value := [.int .u8 (f.1 : Int), .int .i64 (f.2.1 : Int), fn0 f.2.2.1, fn0 f.2.2.2]
def frmV (f : Frm) : Value := .agg (frmC f).toArray
def frmsC : Array Value := (frms.flatMap frmC).toArray
theorem wpList_buildC {P : Program} {ops : Array Oper} {rest : List Oper} {o : Oper} {a : Act} {w : World} {Q : Exit → Act → World → Prop} (hg : o.guard = none) (t : TypeId) (parts : Array (Nat × Operand)) (ho : o.op = .build t parts) (cells : Array Value)
    (hc : P.built t (parts.map fun (i, x) => (i, a.eval x)).toList = some cells) (h : wpList P ops Q rest (a.put o.dst (.agg cells)) w) : wpList P ops Q (o :: rest) a w :=
  wpList_build hg t parts ho (by rw [hc]; rfl) (by rw [hc]; exact h)
set_option maxRecDepth 100000 in
set_option maxHeartbeats 1600000 in
theorem forms_t (w : World) : Calls Tryz.prog 81 #[] w fun e w' => e = .returned (.agg frmsC) ∧ Below w.heap.size w w' := by
  go_enter Tryz.func81, Tryz.ntmps81
  go_wp2_with (first | (refine wpList_buildC rfl 145 _ rfl frmsC (by as_aux_lemma => kernel_rfl) ?_) | (refine wpList_store_row rfl 145 _ _ rfl w.heap.size frmsC rfl rfl 145 _ (heap_alloc_new _ _) (by kernel_rfl) (by kernel_rfl) (by kernel_rfl) ?_) | fail)
  go_wp2_with fail
  refine bodyPost_ret (v := .agg frmsC) (results_cell_row Tryz.results81 _ _ w.heap.size 145 frmsC (0, 0) _ ?_ (setRow_heap _ _ _ _ 145 _ (heap_alloc_new _ _)) Tryz.underlying145 (by rfl) (by kernel_rfl)) ?_ ?_
  · rfl
  · rfl
  exact ⟨rfl, below_setRow ((Below.refl _ _).alloc (Nat.le_refl _) _) (Nat.le_refl _) _⟩
end Go.Proofs.YtbfhiegbgkkgiaaGreat
/- Wire: the search of a letter's form walked. -/

namespace Go.Proofs.YtbfhiegbgkkgiaaGreat
open Go.RowKit
def isL (x : Nat) (f : Frm) : Bool := decide (f.1 = x)
def fi (x : Nat) : Nat := frms.findIdx (isL x)
theorem fi_le (x : Nat) : fi x ≤ 10 := List.findIdx_le_length
theorem fi_next {x k : Nat} {f : Frm} (hk : k ≤ fi x) (hf : frms[k]? = some f) (h : f.1 ≠ x) : k + 1 ≤ fi x := by
  rcases Nat.lt_or_ge k (fi x) with h1 | h1
  · exact h1
  · obtain rfl : k = fi x := by omega
    obtain ⟨hl, e⟩ := List.getElem?_eq_some_iff.1 hf
    have h2 := List.findIdx_getElem (p := isL x) (w := hl)
    have h3 : isL x f = true := by rw [← e]; exact h2
    exact absurd (of_decide_eq_true h3) h
theorem fi_stop {x k : Nat} {f : Frm} (hk : k ≤ fi x) (hf : frms[k]? = some f) (h : f.1 = x) : k = fi x := by
  rcases Nat.lt_or_ge k (fi x) with h1 | h1
  · obtain ⟨hl, e⟩ := List.getElem?_eq_some_iff.1 hf
    have h2 := List.not_of_lt_findIdx h1
    have h3 : isL x f = false := by rw [← e]; simpa using h2
    simp [isL, h] at h3
  · omega
def fii (x : Nat) : Int := if fi x < 10 then (fi x : Int) else -1
set_option maxRecDepth 100000 in
theorem isf_t (f : Frm) (x g : Nat) (w : World) (h : Blk w g 5 #[.int .u8 (x : Int)]) :
    Calls Tryz.prog 83 #[frmV f, .pointer (some ⟨g, 0, none⟩)] w fun e w' => e = .returned (.bool (isL x f)) ∧ Below w.heap.size w w' := by
  have c0 : w.cell? ⟨g, 0, none⟩ = some (.int .u8 (x : Int)) := by rw [h.cell]; rfl
  have hg := h.lt
  obtain ⟨a, b, c, d⟩ := f
  have hr : isL x (a, b, c, d) = ((a : Int) == (x : Int)) := by
    unfold isL
    rw [Bool.eq_iff_iff, decide_eq_true_iff, beq_iff_eq]
    show a = x ↔ _
    omega
  rw [hr]
  clear h hr
  unfold frmV frmC fn0
  go_enter Tryz.func83, Tryz.ntmps83
  go_wp2_with fail
  go_ret
  exact ⟨rfl, (Below.refl _ _).alloc (Nat.le_refl _) _⟩
/-- Cells from ⟨b, o⟩ on that are all the forms. -/
def Forms (w : World) (b o : Nat) : Prop := ∀ j u, (frms.flatMap frmC)[j]? = some u → w.cell? ⟨b, o + j, none⟩ = some u
theorem flat_at {k : Nat} {f : Frm} (h : frms[k]? = some f) (i : Nat) (hi : i < 4) : (frms.flatMap frmC)[k * 4 + i]? = (frmC f)[i]? := by
  have hk : k < 10 := (List.getElem?_eq_some_iff.1 h).1
  rcases k with _ | _ | _ | _ | _ | _ | _ | _ | _ | _ | k <;> first | omega | (injection h with h; subst h; rcases i with _ | _ | _ | _ | i <;> first | omega | rfl)
theorem Forms.at_ {w : World} {b o k : Nat} {f : Frm} (h : Forms w b o) (hf : frms[k]? = some f) :
    w.cell? ⟨b, o + k * 4, none⟩ = some (.int .u8 (f.1 : Int)) ∧ w.cell? ⟨b, o + k * 4 + 1, none⟩ = some (.int .i64 (f.2.1 : Int)) ∧ w.cell? ⟨b, o + k * 4 + 2, none⟩ = some (fn0 f.2.2.1) ∧ w.cell? ⟨b, o + k * 4 + 3, none⟩ = some (fn0 f.2.2.2) := by
  refine ⟨?_, ?_, ?_, ?_⟩
  · exact h (k * 4 + 0) _ (by rw [flat_at hf 0 (by omega)]; rfl)
  · have := h (k * 4 + 1) _ (by rw [flat_at hf 1 (by omega)]; rfl); rw [← Nat.add_assoc] at this; exact this
  · have := h (k * 4 + 2) _ (by rw [flat_at hf 2 (by omega)]; rfl); rw [← Nat.add_assoc] at this; exact this
  · have := h (k * 4 + 3) _ (by rw [flat_at hf 3 (by omega)]; rfl); rw [← Nat.add_assoc] at this; exact this
theorem Forms.below {w w' : World} {b o B : Nat} (h : Forms w b o) (hb : b < B) (hw : Below B w w') : Forms w' b o := fun j u hu => (hw.cell (p := ⟨b, o + j, none⟩) hb).trans (h j u hu)
theorem frm_small {k : Nat} {f : Frm} (h : frms[k]? = some f) : f.1 < 256 := by
  have hk : k < 10 := (List.getElem?_eq_some_iff.1 h).1
  rcases k with _ | _ | _ | _ | _ | _ | _ | _ | _ | _ | k <;> first | omega | (injection h with h; subst h; decide)
set_option maxRecDepth 100000 in
set_option maxHeartbeats 800000 in
theorem index_t (b o g x : Nat) (w : World) (h : Blk w g 5 #[.int .u8 (x : Int)]) (hF : Forms w b o) (hb : b < w.heap.size) :
    Calls Tryz.prog 82 #[.slice (some ⟨b, o, none⟩) 10 10, .func (Fn.func 83) #[] #[.pointer (some ⟨g, 0, none⟩)]] w fun e w' => e = .returned (.int .i64 (fii x)) ∧ Below w.heap.size w w' := by
  have H := Lib.hid h
  have HF := Lib.hid hF
  clear h hF
  go_enter Tryz.func82, Tryz.ntmps82
  go_wp2_with fail
  go_loopw [8] (fun i wr => ∃ k : Nat, k ≤ fi x ∧ i = .int .i64 (k : Int) ∧ Below w.heap.size w wr) (fun i _ => 10 - (intOf i).toNat)
  case atStart => exact ⟨0, Nat.zero_le _, rfl, Below.refl _ _⟩
  case round =>
    obtain ⟨k, hk, rfl, hbel⟩ := hrel
    obtain ⟨wo, rfl⟩ : ∃ wo : World, wo = wr := ⟨_, rfl⟩
    have hle := fi_le x
    by_cases hlt : k < 10
    · obtain ⟨f, hf⟩ : ∃ f, frms[k]? = some f := ⟨_, List.getElem?_eq_getElem hlt⟩
      obtain ⟨c0, c1, c2, c3⟩ := (HF.out.below hb hbel).at_ hf
      have hB := H.out.below hbel H.out.lt
      have hkk : (k : Int) < 10 := by omega
      have hk0 : (0 : Int) ≤ (k : Int) := by omega
      have HC := Lib.hid (isf_t f x g wo hB)
      have HW := Lib.hid hbel
      unfold frmV frmC fn0 at HC
      unfold fn0 at c2 c3
      by_cases he : f.1 = x
      · have HK : Hid (fii x = (k : Int)) := Lib.hid (by unfold fii; rw [← fi_stop hk hf he, if_pos hlt])
        have hi : isL x f = true := by simp [isL, he]
        rw [hi] at HC
        obtain ⟨fa, fb, fc, fd⟩ := f
        dsimp only at c0 c1 c2 c3 HC
        clear hk hle hf hB hbel he hlt hi
        go_wp2_with fail
        refine HC.out.mono ?_
        rintro e w1 ⟨rfl, h1⟩
        have H1 := Lib.hid h1
        clear h1
        go_wp2_with fail
        go_ret
        exact ⟨by rw [HK.out]; rfl, HW.out.trans (H1.out.mono HW.out.size)⟩
      · have HK := Lib.hid (fi_next hk hf he)
        have hi : isL x f = false := by simp [isL, he]
        rw [hi] at HC
        obtain ⟨fa, fb, fc, fd⟩ := f
        dsimp only at c0 c1 c2 c3 HC
        have HL := Lib.hid hlt
        clear hk hle hf hB hbel he hlt hi
        go_wp2_with fail
        refine HC.out.mono ?_
        rintro e w1 ⟨rfl, h1⟩
        have H1 := Lib.hid h1
        clear h1
        go_wp2_with fail
        go_roundw
        case rel => exact ⟨k + 1, HK.out, by go_num, HW.out.trans (H1.out.mono HW.out.size)⟩
        case measure => have := HL.out; simp [intOf]; omega
    · obtain rfl : k = 10 := by omega
      have hfi : fi x = 10 := by omega
      have HK : Hid (fii x = -1) := Lib.hid (by unfold fii; rw [hfi]; rfl)
      clear hk hle hfi hlt
      go_wp2_with fail
      go_ret
      exact ⟨by rw [HK.out]; rfl, hbel⟩
theorem Forms.new {w : World} {g : Nat} {t : TypeId} (h : w.heap[g]? = some (.cells frmsC t (0, 0))) : Forms w g 0 := fun j u hu => by
  rw [Nat.zero_add, cell_of_row w g j frmsC t (0, 0) h, ← hu]
  unfold frmsC
  simp
theorem Blk.setRow {w : World} {g g' : Nat} {t : TypeId} {cs cs' : Array Value} (h : Blk w g t cs) (hne : g ≠ g') : Blk (w.setRow g' cs') g t cs := (setRow_other w g' g cs' hne).trans h
/-- A value that is a form. -/
def zeroC : List Value := [.int .u8 0, .int .i64 0, .nilFunc, .nilFunc]
def FormPost (x : Nat) (w : World) (e : Ending) (w' : World) : Prop :=
  ((∃ f, frms[fi x]? = some f ∧ e = .returned (.tuple #[frmV f, .bool true])) ∨ (fi x = 10 ∧ e = .returned (.tuple #[.agg zeroC.toArray, .bool false]))) ∧ Below w.heap.size w w'
theorem results_cell2 {P : Program} {fn : Func} {p u : Tmp} {ty : TypeId} (h : fn.results = #[.cell p ty, .tmp u]) (tmps : Array Value) (w : World) (g : Nat) (t : TypeId) (cs : Array Value) (fr : Nat × Nat) (d : TypeDesc)
    (hp : tmps.getD p undef = .pointer (some ⟨g, 0, none⟩)) (hg : w.heap[g]? = some (.cells cs t fr))
    (hu : P.underlying ty = some d) (hd : (match d with | .struct _ | .array _ _ => true | _ => false) = true) (hi : (P.info? ty).map (·.size) = some cs.size) :
    (results fn tmps).run P w = .ok (.tuple #[.agg cs, tmps.getD u undef]) w := by
  rw [results_cell_tmp h, hp]
  simp [asAddr, run_loadVar_row w g t ty cs fr d hg hu hd hi, Result.andThen]
theorem frmC_one (f : Frm) : (frmC f).toArray.all (·.oneCell') = true := by
  obtain ⟨a, b, c, d⟩ := f
  simp [frmC, fn0, Value.oneCell']
theorem zeroC_one : zeroC.toArray.all (·.oneCell') = true := by kernel_rfl
set_option maxRecDepth 100000 in
theorem frm_info : (Tryz.prog.info? 111).map (·.size) = some 4 := by kernel_rfl
theorem formOf_mid {w w1 w2 w4 : World} {x : Nat} {cs0 : Array Value} (B0 : Blk w1 w.heap.size 5 #[.int .u8 (x : Int)]) (B1 : Blk w1 (w.heap.size + 1) 111 zeroC.toArray) (S1 : w1.heap.size = w.heap.size + 2)
    (W1 : Below w.heap.size w w1) (H2 : Below w1.heap.size w1 w2) :
    Blk ((w2.alloc (.cells cs0 145)).setRow w2.heap.size frmsC) w.heap.size 5 #[.int .u8 (x : Int)] ∧ Forms ((w2.alloc (.cells cs0 145)).setRow w2.heap.size frmsC) w2.heap.size 0 ∧ w2.heap.size < ((w2.alloc (.cells cs0 145)).setRow w2.heap.size frmsC).heap.size ∧
      (Below ((w2.alloc (.cells cs0 145)).setRow w2.heap.size frmsC).heap.size ((w2.alloc (.cells cs0 145)).setRow w2.heap.size frmsC) w4 → Blk w4 (w.heap.size + 1) 111 zeroC.toArray ∧ Forms w4 w2.heap.size 0 ∧ Below w.heap.size w w4 ∧ w.heap.size + 2 ≤ w2.heap.size) := by
  have s2 := H2.size
  have hF : Forms ((w2.alloc (.cells cs0 145)).setRow w2.heap.size frmsC) w2.heap.size 0 := Forms.new (setRow_heap _ _ _ _ 145 _ (heap_alloc_new _ _))
  have hl : w2.heap.size < ((w2.alloc (.cells cs0 145)).setRow w2.heap.size frmsC).heap.size := by simp
  have hb3 : Below w.heap.size w ((w2.alloc (.cells cs0 145)).setRow w2.heap.size frmsC) := below_setRow ((W1.trans (H2.mono W1.size)).alloc (by omega) _) (by omega) _
  have b3 := ((B1.below H2 (by omega)).alloc (.cells cs0 145)).setRow (g' := w2.heap.size) (cs' := frmsC) (by omega)
  refine ⟨((B0.below H2 (by omega)).alloc _).setRow (by omega), hF, hl, fun h4 => ?_⟩
  exact ⟨b3.below h4 b3.lt, hF.below hl h4, hb3.trans (h4.mono hb3.size), by omega⟩
set_option maxRecDepth 100000 in
set_option maxHeartbeats 1600000 in
theorem formOf_t (x : Nat) (w : World) :
    Calls Tryz.prog 60 #[.int .u8 (x : Int)] w (FormPost x w) := by
  go_enter Tryz.func60, Tryz.ntmps60
  go_wp2_with fail
  obtain ⟨w1, hw1⟩ : ∃ w1, w1 = (w.alloc (Obj.cells #[Value.int IntKind.u8 (x : Int)] 5)).alloc (Obj.cells #[Value.int IntKind.u8 0, Value.int IntKind.i64 0, Value.nilFunc, Value.nilFunc] 111) := ⟨_, rfl⟩
  have b0 : Blk w1 w.heap.size 5 #[.int .u8 (x : Int)] := by rw [hw1]; exact (Blk.new _ _ _).alloc _
  have b1 : Blk w1 (w.heap.size + 1) 111 zeroC.toArray := by
    rw [hw1]
    have := Blk.new (w.alloc (Obj.cells #[Value.int IntKind.u8 (x : Int)] 5)) 111 zeroC.toArray
    rw [World.size_alloc] at this
    exact this
  have hs1 : w1.heap.size = w.heap.size + 2 := by rw [hw1]; simp
  have hb1 : Below w.heap.size w w1 := by rw [hw1]; exact ((Below.refl _ _).alloc (Nat.le_refl _) _).alloc (by simp) _
  rw [← hw1]
  have B0 := Lib.hid b0
  have B1 := Lib.hid b1
  have S1 := Lib.hid hs1
  have W1 := Lib.hid hb1
  clear b0 b1 hs1 hb1 hw1
  refine (forms_t w1).mono ?_
  rintro e w2 ⟨rfl, h2⟩
  have H2 := Lib.hid h2
  clear h2
  go_wp2_with (first | (refine wpList_store_row rfl 145 _ _ rfl w2.heap.size frmsC rfl rfl 145 _ (heap_alloc_new _ _) (by kernel_rfl) (by kernel_rfl) (by kernel_rfl) ?_) | fail)
  refine (index_t w2.heap.size 0 w.heap.size x _ (formOf_mid (w4 := w) B0.out B1.out S1.out W1.out H2.out).1 (formOf_mid (w4 := w) B0.out B1.out S1.out W1.out H2.out).2.1 (formOf_mid (w4 := w) B0.out B1.out S1.out W1.out H2.out).2.2.1).mono ?_
  rintro e w4 ⟨rfl, h4⟩
  obtain ⟨hb4, hF4, hw4, hs4⟩ := (formOf_mid (w4 := w4) B0.out B1.out S1.out W1.out H2.out).2.2.2 h4
  clear h4 B0 B1 S1 W1 H2
  have HB := Lib.hid hb4
  have HW := Lib.hid hw4
  generalize w2.heap.size = gf at *
  have hle := fi_le x
  by_cases hlt : fi x < 10
  · obtain ⟨f, hf⟩ : ∃ f, frms[fi x]? = some f := ⟨_, List.getElem?_eq_getElem hlt⟩
    obtain ⟨c0, c1, c2, c3⟩ := hF4.at_ hf
    rw [Nat.zero_add] at c0 c1 c2 c3
    have hi : fii x = (fi x : Int) := by unfold fii; rw [if_pos hlt]
    have HFK := Lib.hid hf
    rw [hi]
    generalize hk9 : fi x = k at hf c0 c1 c2 c3 hlt hi ⊢
    clear hk9
    have hk : (k : Int) < 10 := by omega
    have hn : decide ((k : Int) < 0) = false := by simp
    clear hF4 hb4 hw4 hi hf hlt hle
    unfold fn0 at c2 c3
    obtain ⟨fa, fb, fc, fd⟩ := f
    dsimp only at c0 c1 c2 c3
    go_wp2_with (first | (refine wpList_store_row rfl 111 _ _ rfl (w.heap.size + 1) (frmC (fa, fb, fc, fd)).toArray rfl rfl 111 zeroC.toArray HB.out frm_info rfl (frmC_one _) ?_) | fail)
    go_wp2_with fail
    refine bodyPost_ret (v := .tuple #[frmV (fa, fb, fc, fd), .bool true]) (results_cell2 Tryz.results60 _ _ (w.heap.size + 1) 111 (frmC (fa, fb, fc, fd)).toArray (0, 0) _ rfl (setRow_heap _ _ _ _ _ _ HB.out) Tryz.underlying111 (by rfl) (by kernel_rfl)) rfl ?_
    exact ⟨.inl ⟨_, HFK.out, rfl⟩, below_setRow HW.out (by omega) _⟩
  · have hi : fii x = -1 := by unfold fii; rw [if_neg hlt]
    rw [hi]
    go_wp2_with (first | (refine wpList_store_row rfl 111 _ _ rfl (w.heap.size + 1) zeroC.toArray rfl rfl 111 zeroC.toArray HB.out frm_info rfl zeroC_one ?_) | fail)
    go_wp2_with fail
    refine bodyPost_ret (v := .tuple #[.agg zeroC.toArray, .bool false]) (results_cell2 Tryz.results60 _ _ (w.heap.size + 1) 111 zeroC.toArray (0, 0) _ rfl (setRow_heap _ _ _ _ _ _ HB.out) Tryz.underlying111 (by rfl) (by kernel_rfl)) rfl ?_
    exact ⟨.inr ⟨by omega, rfl⟩, below_setRow HW.out (by omega) _⟩
end Go.Proofs.YtbfhiegbgkkgiaaGreat
/- Wire: the bytes of numbers, in plain Lean. -/

namespace Go.Proofs.YtbfhiegbgkkgiaaGreat
namespace Wi
def by8 (n : Nat) : UInt8 := UInt8.ofNat n
theorem by8_nat {n : Nat} (h : n < 256) : (by8 n).toNat = n := by simp only [by8, UInt8.toNat_ofNat']; omega
theorem by8_mod (n : Nat) : (by8 n).toNat = n % 256 := by simp only [by8, UInt8.toNat_ofNat']
/-- A number in groups of seven bits, the lowest first. -/
def leb (n : Nat) : List UInt8 := if h : n < 128 then [by8 n] else by8 (128 + n % 128) :: leb (n / 128)
termination_by n
decreasing_by omega
theorem leb_last {n : Nat} (h : n < 128) : leb n = [by8 n] := by rw [leb, dif_pos h]
theorem leb_more {n : Nat} (h : 128 ≤ n) : leb n = by8 (128 + n % 128) :: leb (n / 128) := by rw [leb, dif_neg (by omega)]
theorem leb_pos (n : Nat) : 0 < (leb n).length := by rw [leb]; split <;> simp
theorem leb_len : ∀ (k n : Nat), n < 128 ^ (k + 1) → (leb n).length ≤ k + 1
  | 0, n, h => by rw [leb_last (by simpa using h)]; simp
  | k + 1, n, h => by
    rcases Nat.lt_or_ge n 128 with h1 | h1
    · rw [leb_last h1]; simp
    · rw [leb_more h1, List.length_cons]
      have := leb_len k (n / 128) (by rw [Nat.pow_succ] at h; omega)
      omega
theorem leb_len64 {n : Nat} (h : n < 18446744073709551616) : (leb n).length ≤ 10 := leb_len 9 n (by omega)
/-- The same, but the ninth byte (k = 0) holds eight bits. -/
def nine : Nat → Nat → List UInt8
  | 0, n => [by8 n]
  | k + 1, n => if n < 128 then [by8 n] else by8 (128 + n % 128) :: nine k (n / 128)
theorem nine_len : ∀ (k n : Nat), (nine k n).length ≤ k + 1
  | 0, _ => by simp [nine]
  | k + 1, n => by
    rw [nine]
    split
    · simp
    · rw [List.length_cons]; have := nine_len k (n / 128); omega
/-- A number that is meant with a sign, as one without. -/
def sign (n : Nat) : Nat := if n < 9223372036854775808 then 2 * n else 2 * (18446744073709551615 - n) + 1
def unsign (n : Nat) : Nat := if n % 2 = 0 then n / 2 else 18446744073709551615 - n / 2
theorem sign_lt {n : Nat} (h : n < 18446744073709551616) : sign n < 18446744073709551616 := by unfold sign; split <;> omega
theorem unsign_lt {n : Nat} (h : n < 18446744073709551616) : unsign n < 18446744073709551616 := by unfold unsign; split <;> omega
theorem unsign_sign {n : Nat} (h : n < 18446744073709551616) : unsign (sign n) = n := by unfold sign unsign; split <;> split <;> omega
theorem sign_unsign {n : Nat} (h : n < 18446744073709551616) : sign (unsign n) = n := by unfold sign unsign; split <;> split <;> omega
/-- k bytes, the lowest first; the highest first. -/
def low : Nat → Nat → List UInt8
  | 0, _ => []
  | k + 1, n => by8 (n % 256) :: low k (n / 256)
theorem low_len (k n : Nat) : (low k n).length = k := by
  induction k generalizing n with
  | zero => rfl
  | succ k ih => rw [low, List.length_cons, ih]
def high (k n : Nat) : List UInt8 := (low k n).reverse
theorem high_len (k n : Nat) : (high k n).length = k := by unfold high; rw [List.length_reverse, low_len]
end Wi
end Go.Proofs.YtbfhiegbgkkgiaaGreat
