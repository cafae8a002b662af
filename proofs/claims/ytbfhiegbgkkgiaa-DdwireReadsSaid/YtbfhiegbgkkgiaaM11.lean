/- Sketches: what a sketch is in memory, what it tells, and what is added to it, walked. -/
import Derived.Test.YtbfhiegbgkkgiaaM08
import Derived.Test.YtbfhiegbgkkgiaaM10
import Derived.Deep.RegionHeld3
import Derived.LoopN
import Derived.Outline
import Derived.Test.YtbfhiegbgkkgiaaChecked
import Derived.Test.YtbfhiegbgkkgiaaM01
import Derived.Test.YtbfhiegbgkkgiaaM03
import Derived.RegionTactic
import Derived.BigRegion
import Derived.Deep.QuietTactic
import Derived.BigQuiet
import Derived.Deep.LoopGhost
import Derived.StillTailTactics
import Derived.Laws.CopyOwn
namespace Go.Proofs.Ytbfhiegbgkkgiaa
open Go.RowKit
open Pl
open Sc
theorem Own.blk {w : World} {base : Nat} {e : TypeId} {size : Nat} {A : Option Addr} {n c : Nat} {xs : List Value} (h : Own w base e size A n c xs) {g : Nat} (hg : blockOf A = some g) : ∃ cs, Blk w g e cs := by
  rcases h.2 with ⟨hv, _⟩ | ⟨g', cap, cur, hv, _, hh, _⟩
  · injection hv with hA _ _
    subst hA
    simp [blockOf] at hg
  · injection hv with hA _ _
    subst hA
    have : g' = g := by simpa [blockOf] using hg
    subst this
    exact ⟨cur, hh⟩
/-- Block p is a sketch: its scale is at q, its store at g. -/
structure Skt (w : World) (p q : Nat) (As : Option Addr) (cs a g gl : Nat) (A : Option Addr) (c : Nat) (m : Int) (all : List Pr) : Prop where
  blk : Blk w p 60 #[.pointer (some ⟨q, 0, none⟩), .pointer (some ⟨g, 0, none⟩)]
  scl : Scl w q As cs a (spans a)
  sto : Sto w g gl A c m all
section
variable {w w' : World} {p q cs a g gl c : Nat} {As A : Option Addr} {m : Int} {all : List Pr}
theorem Skt.below (h : Skt w p q As cs a g gl A c m all) (hb : Below w.heap.size w w') : Skt w' p q As cs a g gl A c m all := ⟨h.blk.below hb h.blk.lt, h.scl.below hb, h.sto.below hb⟩
theorem Skt.c0 (h : Skt w p q As cs a g gl A c m all) : w.cell? ⟨p, 0, none⟩ = some (.pointer (some ⟨q, 0, none⟩)) := by rw [h.blk.cell]; rfl
theorem Skt.c1 (h : Skt w p q As cs a g gl A c m all) : w.cell? ⟨p, 1, none⟩ = some (.pointer (some ⟨g, 0, none⟩)) := by rw [h.blk.cell]; rfl
theorem sto_ne_blk {i : Nat} {t : TypeId} {xs : Array Value} (h : Sto w g gl A c m all) (hb : Blk w i t xs) (h0 : t ≠ 98) (h1 : t ≠ 105) (h2 : t ≠ 62) : ¬ SK g gl A i := fun e => by
  rcases e with rfl | rfl | e
  · exact absurd rfl (Blk.ne hb h.blk h0)
  · exact absurd rfl (Blk.ne hb h.lst.1 h1)
  · exact Own.ne_blk (show Own w gl 62 2 A (cutL all m).1.length c (pcs (cutL all m).1) from h.lst.2) hb (fun e => h2 e.symm) e
theorem scl_only {K : Nat → Prop} {T : List Span} (h : Scl w q As cs a T) (k : Only K w w') (h1 : ∀ i t xs, Blk w i t xs → t = 95 ∨ t = 102 → ¬ K i) : Scl w' q As cs a T :=
  ⟨h.blk.only k (h1 _ _ _ h.blk (.inl rfl)), Own.only (show Own w q 102 3 As T.length cs (scs T) from h.own) k (fun i hi => by
    obtain ⟨xs, hx⟩ := Own.blk (show Own w q 102 3 As T.length cs (scs T) from h.own) hi
    exact h1 _ _ _ hx (.inr rfl))⟩
theorem Skt.stored {A' : Option Addr} {c' : Nat} {all' : List Pr} (h : Skt w p q As cs a g gl A c m all) (k : Stored g gl A m all' w w' A' c') : Skt w' p q As cs a g gl A' c' m all' :=
  ⟨h.blk.only k.only (sto_ne_blk h.sto h.blk (by decide) (by decide) (by decide)), scl_only h.scl k.only (fun i t xs hb ht => by
    rcases ht with rfl | rfl
    · exact sto_ne_blk h.sto hb (by decide) (by decide) (by decide)
    · exact sto_ne_blk h.sto hb (by decide) (by decide) (by decide)), k.sto⟩
end
/-- The key of a number that is above zero. -/
def keyOf (a v : Nat) : Int := ((1 + ix (spans a) v : Nat) : Int)
theorem keyOf_fits (a v : Nat) : 1 ≤ keyOf a v ∧ keyOf a v ≤ 4411 := by
  have h1 := ix_le (spans a) v
  have h2 := spans_len' a
  unfold keyOf
  omega
section
variable {p q cs a g gl c : Nat} {As A : Option Addr} {m : Int} {all : List Pr} {w : World} (h : Skt w p q As cs a g gl A c m all)
include h
theorem dacc_t : Calls Try.prog 8 #[.pointer (some ⟨p, 0, none⟩)] w fun e w' => e = .returned (.int .i64 (a : Int)) ∧ w = w' := by
  have c0 := h.c0
  have HC := Lib.hid (acc_t q cs a As (spans a) w h.scl)
  clear h
  go_enter Try.func8, Try.ntmps8
  go_wp2_with fail
  refine HC.out.mono ?_
  rintro e w1 ⟨rfl, rfl⟩
  go_wp2_with fail
  go_ret
  exact ⟨rfl, rfl⟩
theorem dbudget_t : Calls Try.prog 9 #[.pointer (some ⟨p, 0, none⟩)] w fun e w' => e = .returned (.int .i64 m) ∧ w = w' := by
  have c1 := h.c1
  have HC := Lib.hid (sbudget_t g gl A c m all w h.sto)
  clear h
  go_enter Try.func9, Try.ntmps9
  go_wp2_with fail
  refine HC.out.mono ?_
  rintro e w1 ⟨rfl, rfl⟩
  go_wp2_with fail
  go_ret
  exact ⟨rfl, rfl⟩
theorem dfolded_t : Calls Try.prog 12 #[.pointer (some ⟨p, 0, none⟩)] w fun e w' => e = .returned (.int .u64 ((cutL all m).2 : Nat)) ∧ w = w' := by
  have c1 := h.c1
  have HC := Lib.hid (sfolded_t g gl A c m all w h.sto)
  clear h
  generalize (cutL all m).2 = f at *
  go_enter Try.func12, Try.ntmps12
  go_wp2_with fail
  refine HC.out.mono ?_
  rintro e w1 ⟨rfl, rfl⟩
  go_wp2_with fail
  go_ret
  exact ⟨rfl, rfl⟩
theorem dtotal_t (hf : Fine all) : Calls Try.prog 17 #[.pointer (some ⟨p, 0, none⟩)] w fun e w' => e = .returned (.int .u64 (tot all : Nat)) ∧ w = w' := by
  have c1 := h.c1
  have HC := Lib.hid (stotal_t g gl A c m all w h.sto hf)
  clear h hf
  generalize tot all = f at *
  go_enter Try.func17, Try.ntmps17
  go_wp2_with fail
  refine HC.out.mono ?_
  rintro e w1 ⟨rfl, rfl⟩
  go_wp2_with fail
  go_ret
  exact ⟨rfl, rfl⟩
theorem dpairs_t (hf : Fine all) : Calls Try.prog 11 #[.pointer (some ⟨p, 0, none⟩)] w (NewPairs (cutL all m).1 w) := by
  have c1 := h.c1
  have HC := Lib.hid (spairs_t g gl A c m all w h.sto hf)
  clear h hf
  generalize (cutL all m).1 = C at *
  go_enter Try.func11, Try.ntmps11
  go_wp2_with fail
  refine HC.out.mono ?_
  rintro e w1 ⟨A1, c1, rfl, h1, h2⟩
  have H1 := Lib.hid h1
  have H2 := Lib.hid h2
  clear h1 h2
  go_wp2_with fail
  go_ret
  exact ⟨A1, c1, rfl, H1.out, H2.out⟩
theorem dadd_t (v n : Nat) (ha0 : 100 ≤ a) (ha : a ≤ 5000) (hf : Fine all) (hl : all.length < 100000) (hm0 : 2 ≤ m) (hm1 : m ≤ 4097) (hv0 : 1 ≤ v) (hv1 : v ≤ 9223372036854775807) (hn : 1 ≤ n) :
    Calls Try.prog 15 #[.pointer (some ⟨p, 0, none⟩), .int .i64 (v : Int), .int .u64 (n : Int)] w fun e w' => e = .returned (.int .i64 (radd all (keyOf a v) n 0).2) ∧ ∃ A' c', Skt w' p q As cs a g gl A' c' m (radd all (keyOf a v) n 0).1 ∧ Stored g gl A m (radd all (keyOf a v) n 0).1 w w' A' c' := by
  have c0 := h.c0
  have c1 := h.c1
  have HK := Lib.hid (skey_t q cs a As (spans a) v w h.scl (by have := spans_len' a; omega) (spans_sorted ha0 ha) hv0 hv1)
  have HAD := Lib.hid (fun W (h : Sto W g gl A c m all) => sadd_t g gl A c m all (keyOf a v) n W h hf hl hm0 hm1)
  have HH := Lib.hid h
  have hp := h.blk.lt
  have x1 : ((n : Int) == 0) = false := by simp; omega
  have x2 : (n == 0) = false := by simp; omega
  have hkk : ((1 + ix (spans a) v : Nat) : Int) = keyOf a v := rfl
  rw [hkk] at HK
  clear h hf hl hm0 hm1 hv0 hv1 hn ha0 ha hkk
  generalize radd all (keyOf a v) n 0 = R at *
  generalize keyOf a v = K at *
  obtain ⟨R1, R2⟩ := R
  dsimp only at *
  go_enter Try.func15, Try.ntmps15
  go_wp2_with fail
  refine HK.out.mono ?_
  rintro e w1 ⟨rfl, b1⟩
  have H1 := Lib.hid (HH.out.below b1)
  have B1 := Lib.hid b1
  have d1 := H1.out.c1
  clear b1 c0 c1
  go_wp2_with fail
  refine (HAD.out w1 H1.out.sto).mono ?_
  rintro e w2 ⟨rfl, A', c', k⟩
  have HK2 := Lib.hid k
  clear k
  go_wp2_with fail
  go_ret
  have hst : Stored g gl A m R1 w w2 A' c' := ⟨HK2.out.sto, (Only.of_below B1.out).trans (HK2.out.only.step (Only.refl _ _) (fun i hi => .inl hi)), fun x hx => (HK2.out.new x hx).imp id (fun h => Nat.le_trans B1.out.size h)⟩
  exact ⟨rfl, A', c', HH.out.stored hst, hst⟩
end
end Go.Proofs.Ytbfhiegbgkkgiaa
/- Sketches that were read from pairs: what must have been counted, plain. -/

namespace Go.Proofs.Ytbfhiegbgkkgiaa
open Go.RowKit
open Pl
open Sc
theorem ofL_cap : ∀ (l L : List Pr), Srt (L ++ l) → Pos l → KeysIn l → tot L ≤ 4611686018427387904 → 4611686018427387904 < tot (L ++ l) → (ofL l L).2 ≠ 0
  | [], L, _, _, _, h1, h2 => by rw [List.append_nil] at h2; omega
  | p :: l, L, hs, hp, hk, h1, h2 => by
    obtain ⟨_, a2, a3⟩ := List.pairwise_append.1 hs
    have h0 := (pos_cons.1 hp).1
    have hkp := hk p (by simp)
    unfold ofL
    by_cases hc : 4611686018427387904 - tot L < p.2
    · have e : radd L p.1 p.2 0 = (L, 6) := by rw [radd0, if_neg (by omega), if_neg (by omega), if_pos hc]
      rw [e, if_neg (show ¬ ((6 : Int) = 0) by decide)]
      exact (by decide : (6 : Int) ≠ 0)
    · have e : radd L p.1 p.2 0 = (L ++ [p], 0) := by
        rw [radd0, if_neg (by omega), if_neg (by omega), if_neg hc, put_end (fun q hq => a3 q hq p (by simp))]
      rw [e, if_pos rfl]
      exact ofL_cap l (L ++ [p]) (by rw [List.append_assoc]; exact hs) (pos_cons.1 hp).2 (fun q hq => hk q (by simp [hq])) (by rw [tot_append, tot_cons, tot_nil]; omega) (by rw [List.append_assoc]; exact h2)
/-- May pairs be a sketch's? -/
structure Keeps (a : Nat) (m : Nat) (l : List Pr) (f : Nat) : Prop where
  keys : ∀ p ∈ l, -((spans a).length : Int) ≤ p.1 ∧ p.1 ≤ ((spans a).length : Int)
  tot : tot l ≤ 4611686018427387904
  fold : f = 0 ∨ l.length = m ∧ ∃ p R, l = p :: R ∧ f < p.2
/-- Something counted of which pairs are left so. -/
def allOf (l : List Pr) (f : Nat) : List Pr := if f = 0 then l else match l with
  | [] => []
  | p :: R => (p.1 - 1, f) :: (p.1, p.2 - f) :: R
theorem allOf_fine {a m : Nat} {l : List Pr} {f : Nat} (h : Keeps a m l f) (hs : Srt l) (hp : Pos l) (hl : l.length ≤ 5000) : Fine (allOf l f) := by
  have hsl := spans_len' a
  have hk : KeysIn l := fun q hq => by have := h.keys q hq; omega
  unfold allOf
  split
  · exact ⟨hs, hp, hk, h.tot, by omega⟩
  · rename_i hf
    rcases h.fold with h0 | ⟨h1, p, R, rfl, h2⟩
    · exact absurd h0 hf
    · dsimp only
      have hkp := h.keys p (by simp)
      obtain ⟨s1, s2⟩ := List.pairwise_cons.1 hs
      have ht := h.tot
      rw [tot_cons] at ht
      simp only [List.length_cons] at hl
      refine ⟨List.pairwise_cons.2 ⟨fun q hq => ?_, List.pairwise_cons.2 ⟨fun q hq => s1 q hq, s2⟩⟩, ?_, ?_, by rw [tot_cons, tot_cons]; dsimp only; omega, by simp only [List.length_cons]; omega⟩
      · rcases List.mem_cons.1 hq with rfl | hq
        · dsimp only; omega
        · have := s1 q hq; dsimp only; omega
      · intro q hq
        rcases List.mem_cons.1 hq with rfl | hq
        · dsimp only; omega
        rcases List.mem_cons.1 hq with rfl | hq
        · dsimp only; omega
        · exact hp q (by simp [hq])
      · intro q hq
        rcases List.mem_cons.1 hq with rfl | hq
        · dsimp only; omega
        rcases List.mem_cons.1 hq with rfl | hq
        · dsimp only; omega
        · exact hk q (by simp [hq])
theorem allOf_cut {a m : Nat} {l : List Pr} {f : Nat} (h : Keeps a m l f) (hm : 2 ≤ m) (hl : l.length ≤ m) : cutL (allOf l f) (m : Int) = (l, f) := by
  have hc : cutN (m : Int) = m := by unfold cutN; omega
  unfold allOf
  split
  · rename_i hf
    unfold cutL
    rw [hc, if_pos hl, hf]
  · rename_i hf
    rcases h.fold with h0 | ⟨h1, p, R, rfl, h2⟩
    · exact absurd h0 hf
    · dsimp only
      simp only [List.length_cons] at h1
      have hlen : ((p.1 - 1, f) :: (p.1, p.2 - f) :: R).length = m + 1 := by simp only [List.length_cons]; omega
      unfold cutL
      rw [hc, hlen, if_neg (by omega), Nat.add_sub_cancel_left]
      show ((p.1, p.2 - f + (f + 0)) :: R, f + 0) = (p :: R, f)
      rw [Nat.add_zero, Nat.sub_add_cancel (Nat.le_of_lt h2)]
theorem keeps_bad {a m : Nat} {l : List Pr} {f : Nat} (hk : ∀ p ∈ l, -((spans a).length : Int) ≤ p.1 ∧ p.1 ≤ ((spans a).length : Int)) (hs : Srt l) (hp : Pos l) (hl : l.length ≤ m) (hm : 2 ≤ m) (h : ¬ Keeps a m l f) : LoadBad (m : Int) l f := by
  have hsl := spans_len' a
  have hki : KeysIn l := fun q hq => by have := hk q hq; omega
  by_cases ht : tot l ≤ 4611686018427387904
  · right
    have hf : ¬ (f = 0 ∨ l.length = m ∧ ∃ p R, l = p :: R ∧ f < p.2) := fun e => h ⟨hk, ht, e⟩
    have hf0 : f ≠ 0 := fun e => hf (.inl e)
    refine ⟨by omega, ?_⟩
    by_cases h1 : (l.length : Int) < (m : Int)
    · exact .inl h1
    · right
      have h2 : l.length = m := by omega
      cases l with
      | nil => simp at h2; omega
      | cons p R =>
        refine ⟨p, R, rfl, ?_⟩
        by_cases h3 : p.2 ≤ f
        · exact h3
        · exact absurd (.inr ⟨h2, p, R, rfl, by omega⟩) hf
  · left
    exact ofL_cap l [] hs hp hki (by rw [tot_nil]; omega) (by simpa using ht)
end Go.Proofs.Ytbfhiegbgkkgiaa
/- Sketches: New and Load walked. -/

namespace Go.Proofs.Ytbfhiegbgkkgiaa
open Go.RowKit
open Pl
open Sc
theorem dnew_t (a m : Nat) (w : World) (ha0 : 100 ≤ a) (ha : a ≤ 5000) (hm0 : 2 ≤ m) (hm1 : m ≤ 4096) :
    Calls Try.prog 14 #[.int .i64 (a : Int), .int .i64 (m : Int)] w fun e w' => ∃ p q As cs g gl, e = .returned (.tuple #[.pointer (some ⟨p, 0, none⟩), .int .i64 0]) ∧ w.heap.size ≤ p ∧ w.heap.size ≤ g ∧ w.heap.size ≤ gl ∧ Skt w' p q As cs a g gl none 0 (m : Int) [] ∧ Below w.heap.size w w' := by
  have HS := Lib.hid (scnew_t a w ha0 ha)
  have HC := Lib.hid (fun W => cnew_t (m : Int) W (by omega) (by omega))
  clear ha0 ha hm0 hm1
  go_enter Try.func14, Try.ntmps14
  go_wp2_with fail
  refine HS.out.mono ?_
  rintro e w1 ⟨q, As, cs, rfl, hq, h1, b1⟩
  have H1 := Lib.hid h1
  have B1 := Lib.hid b1
  clear h1 b1 hq
  go_wp2_with fail
  refine (HC.out w1).mono ?_
  rintro e w2 ⟨rfl, h2, b2⟩
  have H2 := Lib.hid h2
  have B2 := Lib.hid b2
  clear h2 b2
  go_wp2_with fail
  go_ret2
  have bb : Below w2.heap.size w2 (w2.alloc (.cells #[.pointer (some ⟨q, 0, none⟩), .pointer (some ⟨w1.heap.size + 1, 0, none⟩)] 60)) := (Below.refl _ _).alloc (Nat.le_refl _) _
  have s1 := B1.out.size
  have s2 := B2.out.size
  exact ⟨w2.heap.size, q, As, cs, w1.heap.size + 1, w1.heap.size, rfl, by omega, by omega, by omega, ⟨Blk.new _ _ _, (H1.out.below B2.out).below bb, H2.out.below bb⟩, nextB (nextB B1.out B2.out) bb⟩
theorem mid_any (g c a : Nat) (A : Option Addr) (k : Int) (w : World) (h : Scl w g A c a (spans a)) (ha0 : 100 ≤ a) (ha : a ≤ 5000) :
    Calls Try.prog 45 #[.pointer (some ⟨g, 0, none⟩), .int .i64 k] w fun e w' => ∃ v, e = .returned (.tuple #[.int .i64 v, .int .i64 (if -((spans a).length : Int) ≤ k ∧ k ≤ ((spans a).length : Int) then 0 else 1)]) ∧ Below w.heap.size w w' := by
  have hl := spans_len' a
  by_cases h1 : -((spans a).length : Int) ≤ k ∧ k ≤ ((spans a).length : Int)
  · rw [if_pos h1]
    by_cases h2 : k = 0
    · subst h2
      exact (mid_zero g c a A (spans a) w h (by omega)).mono fun e w' ⟨r1, r2⟩ => ⟨0, r1, r2⟩
    · by_cases h3 : 0 < k
      · obtain ⟨s, hs⟩ : ∃ s, (spans a)[k.toNat - 1]? = some s := ⟨_, List.getElem?_eq_getElem (by omega)⟩
        exact (mid_pos g c a A (spans a) (k.toNat - 1) s w h (by omega) hs k (by omega)).mono fun e w' ⟨r1, r2⟩ => ⟨_, r1, r2⟩
      · obtain ⟨s, hs⟩ : ∃ s, (spans a)[(-k).toNat - 1]? = some s := ⟨_, List.getElem?_eq_getElem (by omega)⟩
        have hf := spans_facts ha0 ha s (List.mem_of_getElem? hs)
        exact (mid_neg g c a A (spans a) ((-k).toNat - 1) s w h (by omega) hs (by omega) k (by omega)).mono fun e w' ⟨r1, r2⟩ => ⟨_, r1, r2⟩
  · rw [if_neg h1]
    exact (mid_no g c a A (spans a) k w h (by omega) (by omega)).mono fun e w' ⟨r1, r2⟩ => ⟨0, r1, by rw [← r2]; exact Below.refl _ _⟩
def KeyIn (a : Nat) (p : Pr) : Prop := -((spans a).length : Int) ≤ p.1 ∧ p.1 ≤ ((spans a).length : Int)
def DLoad (a m : Nat) (l : List Pr) (f : Nat) (w : World) (e : Ending) (w' : World) : Prop :=
  (Keeps a m l f ∧ (∃ p q As cs g gl A c, e = .returned (.tuple #[.pointer (some ⟨p, 0, none⟩), .int .i64 0]) ∧ w.heap.size ≤ p ∧ w.heap.size ≤ g ∧ w.heap.size ≤ gl ∧ Skt w' p q As cs a g gl A c (m : Int) (allOf l f)) ∧ Below w.heap.size w w') ∨
  (¬ Keeps a m l f ∧ e = .returned (.tuple #[.pointer none, .int .i64 1]) ∧ Below w.heap.size w w')
set_option maxHeartbeats 3200000 in
set_option maxRecDepth 100000 in
theorem dload_t (a m : Nat) (A0 : Option Addr) (c0 : Nat) (l : List Pr) (f : Nat) (w : World) (h : Prs w w.heap.size A0 l) (ha0 : 100 ≤ a) (ha : a ≤ 5000) (hm0 : 2 ≤ m) (hm1 : m ≤ 4096) (hs : Srt l) (hp : Pos l) (hl : l.length ≤ m) :
    Calls Try.prog 27 #[.int .i64 (a : Int), .int .i64 (m : Int), .slice A0 l.length c0, .int .u64 (f : Int)] w (DLoad a m l f w) := by
  have HNEW := Lib.hid (dnew_t a m w ha0 ha hm0 hm1)
  have HMI : Hid (∀ W (h : Skt W 0 0 none 0 a 0 0 none 0 (m : Int) []), True) := Lib.hid (fun _ _ => trivial)
  clear HMI
  have HMI0 := Lib.hid (fun (g c : Nat) (A : Option Addr) (k : Int) (W : World) (h : Scl W g A c a (spans a)) => mid_any g c a A k W h ha0 ha)
  have HL1 := Lib.hid (fun W (h : Prs W W.heap.size A0 l) (hk : Keeps a m l f) => load_t A0 c0 (m : Int) l f W h ⟨hs, hp, fun q hq => by have := hk.keys q hq; have := spans_len' a; omega, hk.tot, by omega⟩ (by omega) (by omega) (by omega) (by omega) (hk.fold.imp id (fun h => ⟨by omega, h.2⟩)))
  have HL0 := Lib.hid (fun W (h : Prs W W.heap.size A0 l) (hk : ∀ p ∈ l, KeyIn a p) (hn : ¬ Keeps a m l f) => load_no A0 c0 (m : Int) l f W h hs (by omega) (by omega) (by omega) (keeps_bad hk hs hp hl hm0 hn))
  have HCUT := Lib.hid (fun (hk : Keeps a m l f) => allOf_cut hk hm0 hl)
  have HP := Lib.hid h
  have hll : (l.length : Int) ≤ 4096 := by omega
  clear h hs hp hl hm0 hm1 ha0 ha
  go_enter Try.func27, Try.ntmps27
  go_wp2_with fail
  refine HNEW.out.mono ?_
  rintro e w1 ⟨p, q, As, cs, g, gl, rfl, hp, hg, hgl, h1, b1⟩
  have HS1 := Lib.hid h1
  have HB1 := Lib.hid b1
  have HPP := Lib.hid (And.intro hp (And.intro hg hgl))
  have HMI := Lib.hid (fun W (h : Skt W p q As cs a g gl none 0 (m : Int) []) (k : Int) => HMI0.out q cs As k W h.scl)
  clear h1 b1 hp hg hgl HMI0
  go_wp2_with fail
  go_loopw [28] (fun v wr => ∃ i : Nat, v = .int .i64 (i : Int) ∧ i ≤ l.length ∧ (∀ x ∈ l.take i, KeyIn a x) ∧ Skt wr p q As cs a g gl none 0 (m : Int) [] ∧ Below w.heap.size w wr) (fun v _ => l.length - (intOf v).toNat)
  case atStart => exact ⟨0, rfl, Nat.zero_le _, by simp, HS1.out, HB1.out⟩
  case round =>
    obtain ⟨i, rfl, hi, hks, hsk, hbel⟩ := hrel
    obtain ⟨wo, rfl⟩ : ∃ wo : World, wo = wr := ⟨_, rfl⟩
    have HS2' := Lib.hid hsk
    have HB2' := Lib.hid hbel
    have HKS := Lib.hid hks
    clear hks hsk hbel
    by_cases hlt : i < l.length
    · have hii : (i : Int) < (l.length : Int) := by omega
      have hi0 : (0 : Int) ≤ (i : Int) := by omega
      obtain ⟨x, hx⟩ : ∃ x, l[i]? = some x := ⟨_, List.getElem?_eq_getElem hlt⟩
      obtain ⟨b, o, rfl, hbb, hc⟩ := (HP.out.at_below HB2'.out).at_ (by omega)
      obtain ⟨d1, d2⟩ := hc i x hx
      have HX := Lib.hid hx
      have HI := Lib.hid hlt
      obtain ⟨k, n⟩ := x
      dsimp only at d1 d2
      clear hc hx hbb hi hlt
      go_wp2_with fail
      have hb0 : Below wo.heap.size wo (wo.alloc (.cells #[.int .i64 k, .int .u64 (n : Nat)] 62)) := (Below.refl _ _).alloc (Nat.le_refl _) _
      have HB2 := Lib.hid (nextB HB2'.out hb0)
      have HS2 := Lib.hid (HS2'.out.below hb0)
      obtain ⟨N, hN⟩ : ∃ N, N = wo.heap.size := ⟨_, rfl⟩
      have e1 := HS2.out.c0
      have e2 : (wo.alloc (.cells #[.int .i64 k, .int .u64 (n : Nat)] 62)).cell? ⟨N, 0, none⟩ = some (.int .i64 k) := by rw [hN, (Blk.new wo 62 #[.int .i64 k, .int .u64 (n : Nat)]).cell]; rfl
      have hNlt : N < (wo.alloc (.cells #[.int .i64 k, .int .u64 (n : Nat)] 62)).heap.size := by rw [hN]; simp
      clear hb0 d1 d2
      generalize wo.alloc (.cells #[.int .i64 k, .int .u64 (n : Nat)] 62) = W0 at *
      rw [← hN]
      clear hN
      refine wp_region_noPanic ?_
      refine wp_region_held_drew (S := (fun W => W.cell? ⟨p, 0, none⟩ = some (.pointer (some ⟨q, 0, none⟩)) ∧ W.cell? ⟨N, 0, none⟩ = some (.int .i64 k) ∧ Below w.heap.size w W ∧ Skt W p q As cs a g gl none 0 (m : Int) [] ∧ N < W.heap.size)) (by kernel_rfl) ⟨e1, e2, HB2.out.drew, HS2.out.below (Below.refl _ _).drew, hNlt⟩ (fun hHeld => ?_)
      refine wpAnyH_take (i := 0) (oi := ?_) (v := ?_) ?_ ?_ ?_ ?_ ?_ ?_ ?_ ?_
      rotate_left 2
      · simp only [List.getElem?_toArray, List.getElem?_cons_zero]; rfl
      · kernel_rfl
      · kernel_rfl
      · kernel_rfl
      · exact fun _ _ _ h => h
      · exact Or.inl ⟨by kernel_rfl, by intro w hSw; (try dsimp only at hSw); go_simp; try with_reducible rfl⟩
      · assumption
      try go_simp
      refine wpAnyH_take (i := 1) (oi := ?_) (v := ?_) ?_ ?_ ?_ ?_ ?_ ?_ ?_ ?_
      rotate_left 2
      · simp only [List.getElem?_toArray, List.getElem?_cons_succ, List.getElem?_cons_zero]; rfl
      · kernel_rfl
      · kernel_rfl
      · kernel_rfl
      · exact fun _ _ _ h => h
      · exact Or.inl ⟨by kernel_rfl, by intro w hSw; (try dsimp only at hSw); go_simp; try with_reducible rfl⟩
      · assumption
      try go_simp
      refine wpAnyH_take (i := 2) (oi := ?_) (v := ?_) ?_ ?_ ?_ ?_ ?_ ?_ ?_ ?_
      rotate_left 2
      · simp only [List.getElem?_toArray, List.getElem?_cons_succ, List.getElem?_cons_zero]; rfl
      · kernel_rfl
      · kernel_rfl
      · kernel_rfl
      · exact fun _ _ _ h => h
      · exact Or.inl ⟨by kernel_rfl, by intro w hSw; (try dsimp only at hSw); go_simp; try with_reducible rfl⟩
      · assumption
      try go_simp
      refine wpAnyH_take (i := 3) (oi := ?_) (v := ?_) ?_ ?_ ?_ ?_ ?_ ?_ ?_ ?_
      rotate_left 2
      · simp only [List.getElem?_toArray, List.getElem?_cons_succ, List.getElem?_cons_zero]; rfl
      · kernel_rfl
      · kernel_rfl
      · kernel_rfl
      · exact fun _ _ _ h => h
      · exact Or.inl ⟨by kernel_rfl, by intro w hSw; (try dsimp only at hSw); go_simp; try with_reducible rfl⟩
      · assumption
      try go_simp
      refine wpAnyH_take (i := 4) (oi := ?_) (v := ?_) ?_ ?_ ?_ ?_ ?_ ?_ ?_ ?_
      rotate_left 2
      · simp only [List.getElem?_toArray, List.getElem?_cons_succ, List.getElem?_cons_zero]; rfl
      · kernel_rfl
      · kernel_rfl
      · kernel_rfl
      · exact fun _ _ _ h => h
      · exact Or.inl ⟨by kernel_rfl, by intro w hSw; (try dsimp only at hSw); go_simp; try with_reducible rfl⟩
      · assumption
      try go_simp
      refine wpAnyH_take (i := 5) (oi := ?_) (v := ?_) ?_ ?_ ?_ ?_ ?_ ?_ ?_ ?_
      rotate_left 2
      · simp only [List.getElem?_toArray, List.getElem?_cons_succ, List.getElem?_cons_zero]; rfl
      · kernel_rfl
      · kernel_rfl
      · kernel_rfl
      · exact fun _ _ _ h => h
      · exact Or.inl ⟨by kernel_rfl, by intro w hSw; (try dsimp only at hSw); go_simp; try with_reducible rfl⟩
      · assumption
      try go_simp
      refine wpAnyH_ready (rs := [6]) (by kernel_rfl) (by simp) ?_
      refine AllReadyH.cons (o := ?_) ?_ ?_ AllReadyH.nil
      rotate_left 1
      · simp only [List.getElem?_toArray, List.getElem?_cons_succ, List.getElem?_cons_zero]; rfl
      intro K hK
      go_simp
      refine (HMI.out _ (by first | exact hHeld.2.2.2.1 | assumption) k).mono ?_
      rintro e w2 ⟨v, rfl, hb2⟩
      have HB3 := Lib.hid hb2
      clear hb2
      refine hK.out _ _ ?_ (fun hHeld => ?_)
      · exact ⟨(HB3.out.cell (p := ⟨p, 0, none⟩) hHeld.2.2.2.1.blk.lt).trans hHeld.1, (HB3.out.cell (p := ⟨N, 0, none⟩) hHeld.2.2.2.2).trans hHeld.2.1, nextB hHeld.2.2.1 HB3.out, hHeld.2.2.2.1.below HB3.out, Nat.lt_of_lt_of_le hHeld.2.2.2.2 HB3.out.size⟩
      clear hK K
      try go_simp
      refine wpAnyH_take (i := 7) (oi := ?_) (v := ?_) ?_ ?_ ?_ ?_ ?_ ?_ ?_ ?_
      rotate_left 2
      · simp only [List.getElem?_toArray, List.getElem?_cons_succ, List.getElem?_cons_zero]; rfl
      · kernel_rfl
      · kernel_rfl
      · kernel_rfl
      · exact fun _ _ _ h => h
      · exact Or.inl ⟨by kernel_rfl, by intro w hSw; (try dsimp only at hSw); go_simp; try with_reducible rfl⟩
      · assumption
      try go_simp
      refine wpAnyH_take (i := 8) (oi := ?_) (v := ?_) ?_ ?_ ?_ ?_ ?_ ?_ ?_ ?_
      rotate_left 2
      · simp only [List.getElem?_toArray, List.getElem?_cons_succ, List.getElem?_cons_zero]; rfl
      · kernel_rfl
      · kernel_rfl
      · kernel_rfl
      · exact fun _ _ _ h => h
      · exact Or.inl ⟨by kernel_rfl, by intro w hSw; (try dsimp only at hSw); go_simp; try with_reducible rfl⟩
      · assumption
      try go_simp
      refine wpAnyH_take (i := 9) (oi := ?_) (v := ?_) ?_ ?_ ?_ ?_ ?_ ?_ ?_ ?_
      rotate_left 2
      · simp only [List.getElem?_toArray, List.getElem?_cons_succ, List.getElem?_cons_zero]; rfl
      · kernel_rfl
      · kernel_rfl
      · kernel_rfl
      · exact fun _ _ _ h => h
      · exact Or.inl ⟨by kernel_rfl, by intro w hSw; (try dsimp only at hSw); go_simp; try with_reducible rfl⟩
      · assumption
      try go_simp
      refine wpAnyH_take (i := 10) (oi := ?_) (v := ?_) ?_ ?_ ?_ ?_ ?_ ?_ ?_ ?_
      rotate_left 2
      · simp only [List.getElem?_toArray, List.getElem?_cons_succ, List.getElem?_cons_zero]; rfl
      · kernel_rfl
      · kernel_rfl
      · kernel_rfl
      · exact fun _ _ _ h => h
      · exact Or.inl ⟨by kernel_rfl, by intro w hSw; (try dsimp only at hSw); go_simp; try with_reducible rfl⟩
      · assumption
      try go_simp
      refine wpAnyH_take (i := 11) (oi := ?_) (v := ?_) ?_ ?_ ?_ ?_ ?_ ?_ ?_ ?_
      rotate_left 2
      · simp only [List.getElem?_toArray, List.getElem?_cons_succ, List.getElem?_cons_zero]; rfl
      · kernel_rfl
      · kernel_rfl
      · kernel_rfl
      · exact fun _ _ _ h => h
      · exact Or.inl ⟨by kernel_rfl, by intro w hSw; (try dsimp only at hSw); go_simp; try with_reducible rfl⟩
      · assumption
      try go_simp
      refine wpAnyH_done (by kernel_rfl) ?_ _
      refine NoPanic.normal ?_
      have HH := Lib.hid hHeld
      clear hHeld e1 e2 hNlt HB2 HS2 HS2' HB2'
      obtain ⟨r, hr⟩ : ∃ r : Int, r = (if -((spans a).length : Int) ≤ k ∧ k ≤ ((spans a).length : Int) then 0 else 1) := ⟨_, rfl⟩
      rw [← hr]
      by_cases hin : -((spans a).length : Int) ≤ k ∧ k ≤ ((spans a).length : Int)
      · rw [if_pos hin] at hr
        have HIN := Lib.hid hin
        subst hr
        clear hin
        go_wp2_with fail
        go_roundw
        case rel => exact ⟨i + 1, by go_num, HI.out, by
          intro y hy
          rw [List.take_succ_eq_append_getElem HI.out] at hy
          rcases List.mem_append.1 hy with hy | hy
          · exact HKS.out y hy
          · rw [List.mem_singleton.1 hy, show l[i]'HI.out = (k, n) from (List.getElem?_eq_some_iff.1 HX.out).2]
            exact HIN.out, HH.out.2.2.2.1, HH.out.2.2.1⟩
        case measure => have := HI.out; simp [intOf]; omega
      · rw [if_neg hin] at hr
        have HIN := Lib.hid hin
        subst hr
        clear hin
        go_wp2_with fail
        go_ret2
        exact .inr ⟨fun hk => HIN.out (hk.keys _ (List.mem_of_getElem? HX.out)), rfl, HH.out.2.2.1⟩
    · have hge : ¬ (i : Int) < (l.length : Int) := by omega
      have hall : ∀ x ∈ l, KeyIn a x := fun x hx => HKS.out x (by rw [List.take_of_length_le (by omega)]; exact hx)
      clear hi hlt HKS
      by_cases hk : Keeps a m l f
      · have HK := Lib.hid hk
        clear hall hk
        go_wp2_with fail
        refine (HL1.out _ (HP.out.at_below HB2'.out) HK.out).mono ?_
        rintro e w2 ⟨g2, gl2, A2, c2, rfl, hg2, hgl2, hb2, hl2, b2⟩
        have HB3 := Lib.hid (nextB HB2'.out b2)
        have HS3 := Lib.hid (HS2'.out.below b2)
        have HG2 := Lib.hid (Nat.le_trans HB2'.out.size hg2)
        have HGL2 := Lib.hid (Nat.le_trans HB2'.out.size hgl2)
        have HBK := Lib.hid hb2
        have HLL := Lib.hid hl2
        have c1 := HS3.out.c1
        have cf := HS3.out.blk.free 1
        have hne1 : g2 ≠ p := fun e => Blk.ne hb2 HS3.out.blk (by decide) e
        have hne2 : gl2 ≠ p := fun e => Blk.ne hl2.1 HS3.out.blk (by decide) e
        have hnA : blockOf A2 ≠ some p := Own.ne_blk (show Own w2 gl2 62 2 A2 l.length c2 (pcs l) from hl2.2) HS3.out.blk (by decide)
        have hq1 : q ≠ p := fun e => Blk.ne HS3.out.scl.blk HS3.out.blk (by decide) e
        have hq2 : blockOf As ≠ some p := Own.ne_blk (show Own w2 q 102 3 As (spans a).length cs (scs (spans a)) from HS3.out.scl.own) HS3.out.blk (by decide)
        have HNE := Lib.hid (And.intro hne1 (And.intro hne2 (And.intro hnA (And.intro hq1 hq2))))
        clear hg2 hgl2 hb2 hl2 b2 hne1 hne2 hnA hq1 hq2
        go_wp2_with fail
        go_ret2
        have hcut := HCUT.out HK.out
        refine .inl ⟨HK.out, ⟨p, q, As, cs, g2, gl2, A2, c2, rfl, HPP.out.1, HG2.out, HGL2.out, ⟨?_, ⟨HS3.out.scl.blk.far (p := ⟨p, 1, none⟩) HNE.out.2.2.2.1 _, ?_⟩, ⟨?_, ?_⟩⟩⟩, HB3.out.setCell (by exact HPP.out.1) _⟩
        · have hx := HS3.out.blk.put 1 (.pointer (some ⟨g2, 0, none⟩))
          simpa using hx
        · exact Own.setOther (show Own w2 q 102 3 As (spans a).length cs (scs (spans a)) from HS3.out.scl.own) (p := ⟨p, 1, none⟩) HNE.out.2.2.2.2 _
        · rw [hcut]
          exact HBK.out.far (p := ⟨p, 1, none⟩) HNE.out.1 _
        · rw [hcut]
          exact ⟨HLL.out.1.far (p := ⟨p, 1, none⟩) HNE.out.2.1 _, Own.setOther (show Own w2 gl2 62 2 A2 l.length c2 (pcs l) from HLL.out.2) (p := ⟨p, 1, none⟩) HNE.out.2.2.1 _⟩
      · have HK := Lib.hid hk
        have HA := Lib.hid hall
        clear hall hk
        go_wp2_with fail
        refine (HL0.out _ (HP.out.at_below HB2'.out) HA.out HK.out).mono ?_
        rintro e w2 ⟨rfl, b2⟩
        have HB3 := Lib.hid (nextB HB2'.out b2)
        clear b2
        go_wp2_with fail
        go_ret2
        exact .inr ⟨HK.out, rfl, HB3.out⟩
end Go.Proofs.Ytbfhiegbgkkgiaa
/- Wire: the letters' forms walked. -/

namespace Go.Proofs.Ytbfhiegbgkkgiaa
open Go.RowKit
def fn0 (i : Nat) : Value := .func (.func i) #[] #[]
/-- What is known of a letter's form: letter, size, writer, reader. -/
abbrev Frm := Nat × Nat × Nat × Nat
def frms : List Frm := [
  (98, 1, 73, 74), (104, 2, 73, 74),
  (72, 2, 75, 76), (119, 4, 73, 74),
  (87, 4, 75, 76), (113, 8, 73, 74),
  (81, 8, 75, 76), (118, 0, 77, 78),
  (122, 0, 79, 80), (110, 0, 81, 82)]
def frmC (f : Frm) : List Value := [.int .u8 (f.1 : Int), .int .i64 (f.2.1 : Int), fn0 f.2.2.1, fn0 f.2.2.2]
def frmV (f : Frm) : Value := .agg (frmC f).toArray
def frmsC : Array Value := (frms.flatMap frmC).toArray
theorem wpList_buildC {P : Program} {ops : Array Oper} {rest : List Oper} {o : Oper} {a : Act} {w : World} {Q : Exit → Act → World → Prop} (hg : o.guard = none) (t : TypeId) (parts : Array (Nat × Operand)) (ho : o.op = .build t parts) (cells : Array Value)
    (hc : P.built t (parts.map fun (i, x) => (i, a.eval x)).toList = some cells) (h : wpList P ops Q rest (a.put o.dst (.agg cells)) w) : wpList P ops Q (o :: rest) a w :=
  wpList_build hg t parts ho (by rw [hc]; rfl) (by rw [hc]; exact h)
set_option maxRecDepth 100000 in
set_option maxHeartbeats 1600000 in
theorem forms_t (w : World) : Calls Try.prog 57 #[] w fun e w' => e = .returned (.agg frmsC) ∧ Below w.heap.size w w' := by
  go_enter Try.func57, Try.ntmps57
  go_wp2_with (first | (refine wpList_buildC rfl 114 _ rfl frmsC (by as_aux_lemma => kernel_rfl) ?_) | (refine wpList_store_row rfl 114 _ _ rfl w.heap.size frmsC rfl rfl 114 _ (heap_alloc_new _ _) (by kernel_rfl) (by kernel_rfl) (by kernel_rfl) ?_) | fail)
  go_wp2_with fail
  refine bodyPost_ret (v := .agg frmsC) (results_cell_row Try.results57 _ _ w.heap.size 114 frmsC (0, 0) _ ?_ (setRow_heap _ _ _ _ 114 _ (heap_alloc_new _ _)) Try.underlying114 (by rfl) (by kernel_rfl)) ?_ ?_
  · rfl
  · rfl
  exact ⟨rfl, below_setRow ((Below.refl _ _).alloc (Nat.le_refl _) _) (Nat.le_refl _) _⟩
end Go.Proofs.Ytbfhiegbgkkgiaa
