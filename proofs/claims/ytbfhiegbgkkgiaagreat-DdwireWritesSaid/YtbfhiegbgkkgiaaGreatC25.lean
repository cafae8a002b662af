/- Reading a sketch: its end, whatever happened; walked. -/
import Derived.Test.YtbfhiegbgkkgiaaGreatC24
import Derived.Test.YtbfhiegbgkkgiaaGreatC21
namespace Go.Proofs.YtbfhiegbgkkgiaaGreat
open Go.RowKit
open Pl
open Sc
open Wi
/-- The results of Read, while it runs. -/
structure RdS (w W : World) (v : Value) (z : Int) : Prop where
  s : Blk W w.heap.size 26 #[v]
  e : Blk W (w.heap.size + 1) 30 #[.int .i64 z]
  below : Below w.heap.size w W
theorem RdS.step {w W W' : World} {v : Value} {z : Int} {base g : Nat} {A : Option Addr} {c : Nat} {l : List UInt8} {p : Nat} (h : RdS w W v z) (hr : Rdr W base g A c l p) (hg : w.heap.size ≤ g) (k : Only (RK g) W W') : RdS w W' v z :=
  ⟨h.s.only k (fun e => Blk.ne h.s hr.1 (by decide) e), h.e.only k (fun e => Blk.ne h.e hr.1 (by decide) e), h.below.trans (k.below h.below.size (fun i hi => by unfold RK at hi; omega))⟩
theorem RdS.next {w W W' : World} {v : Value} {z : Int} (h : RdS w W v z) (k : Below W.heap.size W W') : RdS w W' v z :=
  ⟨h.s.below k h.s.lt, h.e.below k h.e.lt, h.below.trans (k.mono h.below.size)⟩
def rdD (n : Nat) : List Deferred := [{ target := .fn (Fn.func 30) #[], args := #[.pointer (some ⟨n + 1, 0, none⟩)] },
  { target := .fn (Fn.func 29) #[.pointer (some ⟨n + 1, 0, none⟩), .pointer (some ⟨n, 0, none⟩)], args := #[] }]
theorem rd_end {w W : World} {p : Option Addr} {z : Int} (h : RdS w W (.pointer p) z) (tmps : Array Value) (h2 : tmps.getD 2 undef = .pointer (some ⟨w.heap.size, 0, none⟩)) (h3 : tmps.getD 3 undef = .pointer (some ⟨w.heap.size + 1, 0, none⟩)) (R : Ending → World → Prop)
    (hR : R (.returned (.tuple #[.pointer p, .int .i64 z])) W) : Leaves Tryz.prog Tryz.f9 tmps R [] .returning W := by
  have cs : W.cell? ⟨w.heap.size, 0, none⟩ = some (.pointer p) := by rw [h.s.cell]; rfl
  have ce : W.cell? ⟨w.heap.size + 1, 0, none⟩ = some (.int .i64 z) := by rw [h.e.cell]; rfl
  simp only [Array.getD_eq_getD_getElem?] at h2 h3
  refine ⟨_, ?_, hR⟩
  simp only [results, Tryz.results9]
  simp [go_sem, h2, h3, cs, ce]
theorem rd_gone {w W : World} {v : Value} (h : RdS w W v 0) (tmps : Array Value) (h2 : tmps.getD 2 undef = .pointer (some ⟨w.heap.size, 0, none⟩)) (h3 : tmps.getD 3 undef = .pointer (some ⟨w.heap.size + 1, 0, none⟩)) (R : Ending → World → Prop)
    (hR : ∀ W', Below w.heap.size w W' → R (.returned (.tuple #[.pointer none, .int .i64 9])) W') : Leaves Tryz.prog Tryz.f9 tmps R (rdD w.heap.size) (.panicking gone) W := by
  unfold rdD
  refine leaves_cons (f := 30) (args := #[.pointer (some ⟨w.heap.size + 1, 0, none⟩)]) (by simp) (by simp [go_sem]) ?_
  refine (caught_gone _ 0 W h.e).mono ?_
  rintro e u' w' ⟨rfl, rfl, rfl⟩
  refine leaves_cons (f := 29) (args := #[.pointer (some ⟨w.heap.size + 1, 0, none⟩), .pointer (some ⟨w.heap.size, 0, none⟩)]) (by simp [settle]) (by simp [go_sem]) ?_
  have h5 := h.next ((Below.refl W.heap.size W).alloc (Nat.le_refl _) (.cells #[] 115))
  have he := h5.e.put 0 (.int .i64 9)
  have hs := h5.s.far (p := ⟨w.heap.size + 1, 0, none⟩) (by simp) (.int .i64 9)
  refine (read1_no (w.heap.size + 1) w.heap.size 9 v _ he (by decide) hs (by omega)).mono ?_
  rintro e u' w' ⟨rfl, rfl, rfl⟩
  have hbb := h5.below
  refine rd_end (p := none) (z := 9) ⟨?_, ?_, ?_⟩ tmps h2 h3 R (hR _ ?_)
  · exact (hs.put 0 (.pointer none)).far (p := ⟨w.heap.size + 1, 0, none⟩) (by simp) _
  · exact (he.far (p := ⟨w.heap.size, 0, none⟩) (by simp) _).put 0 (.int .i64 9)
  · exact ((hbb.setCell (by simp) _).setCell (by simp) _).setCell (by simp) _
  · exact ((hbb.setCell (by simp) _).setCell (by simp) _).setCell (by simp) _
theorem rd_back {w W : World} {p : Option Addr} (h : RdS w W (.pointer p) 0) (tmps : Array Value) (h2 : tmps.getD 2 undef = .pointer (some ⟨w.heap.size, 0, none⟩)) (h3 : tmps.getD 3 undef = .pointer (some ⟨w.heap.size + 1, 0, none⟩)) (R : Ending → World → Prop)
    (hR : R (.returned (.tuple #[.pointer p, .int .i64 0])) W) : Leaves Tryz.prog Tryz.f9 tmps R (rdD w.heap.size) .returning W := by
  unfold rdD
  refine leaves_cons (f := 30) (args := #[.pointer (some ⟨w.heap.size + 1, 0, none⟩)]) (by simp) (by simp [go_sem]) ?_
  refine (caught_idle _ W).mono ?_
  rintro e u' w' ⟨rfl, rfl, rfl⟩
  refine leaves_cons (f := 29) (args := #[.pointer (some ⟨w.heap.size + 1, 0, none⟩), .pointer (some ⟨w.heap.size, 0, none⟩)]) (by simp [settle]) (by simp [go_sem]) ?_
  refine (read1_ok _ _ w' h.e).mono ?_
  rintro e u' w'' ⟨rfl, rfl, rfl⟩
  exact rd_end h tmps h2 h3 R hR
theorem rd_no {w W : World} {v : Value} {z : Int} (h : RdS w W v z) (hz : z ≠ 0) (tmps : Array Value) (h2 : tmps.getD 2 undef = .pointer (some ⟨w.heap.size, 0, none⟩)) (h3 : tmps.getD 3 undef = .pointer (some ⟨w.heap.size + 1, 0, none⟩)) (R : Ending → World → Prop)
    (hR : ∀ W', Below w.heap.size w W' → R (.returned (.tuple #[.pointer none, .int .i64 9])) W') : Leaves Tryz.prog Tryz.f9 tmps R (rdD w.heap.size) .returning W := by
  unfold rdD
  refine leaves_cons (f := 30) (args := #[.pointer (some ⟨w.heap.size + 1, 0, none⟩)]) (by simp) (by simp [go_sem]) ?_
  refine (caught_idle _ W).mono ?_
  rintro e u' w' ⟨rfl, rfl, rfl⟩
  refine leaves_cons (f := 29) (args := #[.pointer (some ⟨w.heap.size + 1, 0, none⟩), .pointer (some ⟨w.heap.size, 0, none⟩)]) (by simp [settle]) (by simp [go_sem]) ?_
  refine (read1_no (w.heap.size + 1) w.heap.size z v w' h.e hz h.s (by omega)).mono ?_
  rintro e u' w'' ⟨rfl, rfl, rfl⟩
  refine rd_end (p := none) (z := 9) ⟨?_, ?_, ?_⟩ tmps h2 h3 R (hR _ ?_)
  · exact (h.s.put 0 (.pointer none)).far (p := ⟨w.heap.size + 1, 0, none⟩) (by simp) _
  · exact (h.e.far (p := ⟨w.heap.size, 0, none⟩) (by simp) _).put 0 (.int .i64 9)
  · exact (h.below.setCell (by simp) _).setCell (by simp) _
  · exact (h.below.setCell (by simp) _).setCell (by simp) _
open Classical in
/-- What is read of bytes: accuracy, budget, pairs, how much is folded. -/
noncomputable def readF (b : List UInt8) : Option (Nat × Nat × List Pr × Nat) := match numF 100 5000 b 0 with
  | none => none
  | some (a, p1) => match numF 2 4096 b p1 with
    | none => none
    | some (m, p2) => match numF 0 m b p2 with
      | none => none
      | some (n, p3) => match numF 0 4611686018427387904 b p3 with
        | none => none
        | some (f, p4) => match pairsF n none b p4 with
          | none => none
          | some (L, p5) => if p5 = b.length ∧ Keeps a m L f ∧ docW a m L f = b then some (a, m, L, f) else none
end Go.Proofs.YtbfhiegbgkkgiaaGreat
/- Pairs of bytes that may be a sketch's: what they are, plain. -/

namespace Go.Proofs.YtbfhiegbgkkgiaaGreat
open Go.RowKit
open Pl
open Sc
open Wi
theorem pairF_some {pv : Option Int} {l : List UInt8} {p : Nat} {x : Pr} {p1 : Nat} (h : pairF pv l p = some (x, p1)) (hp : p ≤ l.length) : p1 ≤ l.length ∧ 0 < x.2 ∧ ∀ q, pv = some q → q < x.1 := by
  unfold pairF at h
  cases hk : keyF pv l p with
  | none => rw [hk] at h; cases h
  | some r =>
    obtain ⟨k, p2⟩ := r
    rw [hk] at h
    dsimp only at h
    obtain ⟨h1, _, h3⟩ := keyF_some hk hp
    cases hn : numF 1 4611686018427387904 l p2 with
    | none => rw [hn] at h; cases h
    | some s =>
      obtain ⟨n, p3⟩ := s
      rw [hn] at h
      injection h with h
      injection h with h4 h5
      have h6 := numF_some hn h1
      subst h4
      exact ⟨by omega, by dsimp only; omega, fun q hq => (h3 q hq).1⟩
theorem pairsF_facts : ∀ (n : Nat) (pv : Option Int) (l : List UInt8) (p : Nat) (L : List Pr) (p5 : Nat), pairsF n pv l p = some (L, p5) → p ≤ l.length → p5 ≤ l.length ∧ L.length = n ∧ Srt L ∧ Pos L ∧ ∀ q, pv = some q → ∀ x ∈ L, q < x.1
  | 0, pv, l, p, L, p5, h, hp => by
    unfold pairsF at h
    injection h with h
    injection h with h1 h2
    subst h1
    exact ⟨by omega, rfl, Srt.nil, Pos.nil, fun q _ x hx => by cases hx⟩
  | n + 1, pv, l, p, L, p5, h, hp => by
    rw [pairsF_succ] at h
    cases hx : pairF pv l p with
    | none => rw [hx] at h; cases h
    | some r =>
      obtain ⟨x, p1⟩ := r
      rw [hx] at h
      dsimp only at h
      obtain ⟨h1, h2, h3⟩ := pairF_some hx hp
      cases hs : pairsF n (some x.1) l p1 with
      | none => rw [hs] at h; cases h
      | some r =>
        obtain ⟨M, p2⟩ := r
        rw [hs] at h
        injection h with h
        injection h with h4 h5
        obtain ⟨k1, k2, k3, k4, k5⟩ := pairsF_facts n _ l p1 M p2 hs h1
        subst h4
        refine ⟨by omega, by rw [List.length_cons, k2], List.pairwise_cons.2 ⟨fun y hy => k5 x.1 rfl y hy, k3⟩, fun y hy => ?_, fun q hq y hy => ?_⟩
        · rcases List.mem_cons.1 hy with rfl | hy
          · exact h2
          · exact k4 y hy
        · rcases List.mem_cons.1 hy with rfl | hy
          · exact h3 q hq
          · exact Int.lt_trans (h3 q hq) (k5 x.1 rfl y hy)
end Go.Proofs.YtbfhiegbgkkgiaaGreat
/- Sketches: a store elsewhere leaves one as it is. -/

namespace Go.Proofs.YtbfhiegbgkkgiaaGreat
open Go.RowKit
open Pl
open Sc
theorem Skt.set {w : World} {p q cs a g gl c : Nat} {As A : Option Addr} {m : Int} {all : List Pr} (h : Skt w p q As cs a g gl A c m all) {i : Nat} {t : TypeId} {xs : Array Value} (hb : Blk w i t xs)
    (h0 : t ≠ 81) (h1 : t ≠ 127) (h2 : t ≠ 135) (h3 : t ≠ 130) (h4 : t ≠ 138) (h5 : t ≠ 64) (j : Nat) (u : Value) : Skt (w.setCell ⟨i, j, none⟩ u) p q As cs a g gl A c m all := by
  have k : Only (fun x => x = i) w (w.setCell ⟨i, j, none⟩ u) := Only.set (p := ⟨i, j, none⟩) (Only.refl (fun x => x = i) w) (.inl rfl) u
  refine ⟨h.blk.only k (fun e => Blk.ne hb h.blk h0 e.symm), scl_only h.scl k (fun x t' ys hx ht e => ?_), ⟨h.sto.blk.only k (fun e => Blk.ne hb h.sto.blk h3 e.symm), h.sto.lst.only k (fun e => Blk.ne hb h.sto.lst.1 h4 e.symm) (fun x hx e => ?_)⟩⟩
  · rcases ht with rfl | rfl
    · exact Blk.ne hb hx h1 e.symm
    · exact Blk.ne hb hx h2 e.symm
  · exact Own.ne_blk (show Own w gl 64 2 A (cutL all m).1.length c (pcs (cutL all m).1) from h.sto.lst.2) hb (fun e => h5 e.symm) (by rw [hx]; exact congrArg some e)
/-- A sketch that was loaded, written. -/
theorem write_sk {w : World} {p q cs a g gl c m : Nat} {As A : Option Addr} {L : List Pr} {f : Nat} (h : Skt w p q As cs a g gl A c (m : Int) (allOf L f)) (ha : a ≤ 5000) (hm0 : 2 ≤ m) (hm1 : m ≤ 4096) (hk : Keeps a m L f) (hs : Srt L) (hp : Pos L) (hl : L.length ≤ m) :
    Calls Tryz.prog 8 #[.pointer (some ⟨p, 0, none⟩)] w (Bytes w (docW a m L f)) := by
  have hc := allOf_cut hk hm0 hl
  have hf := allOf_fine hk hs hp (by omega)
  have hK : Fine L := ⟨hs, hp, fun q hq => by have := hk.keys q hq; have := spans_len' a; omega, hk.tot, by omega⟩
  have hF : f ≤ 4611686018427387904 := by
    rcases hk.fold with h0 | ⟨_, x, R, hx, h2⟩
    · omega
    · have := hk.tot
      rw [hx, tot_cons] at this
      omega
  refine write_g p a m L f w hK (by omega) ha hm1 hF ?_ (fun W hb => dacc_t (h.below hb)) (fun W hb => dbudget_t (h.below hb)) (fun W hb => ?_)
  · have h1 := dpairs_t h hf
    rw [hc] at h1
    exact h1
  · have h1 := dfolded_t (h.below hb)
    rw [hc] at h1
    exact h1
end Go.Proofs.YtbfhiegbgkkgiaaGreat
