/- Reading a sketch: its end, whatever happened; walked. -/
import Derived.Test.YtbfhiegbgkkgiaaM20
import Derived.Test.YtbfhiegbgkkgiaaM17
namespace Go.Proofs.Ytbfhiegbgkkgiaa
open Go.RowKit
open Pl
open Sc
open Wi
/-- The results of Read, while it runs. -/
structure RdS (w W : World) (v : Value) (z : Int) : Prop where
  s : Blk W w.heap.size 29 #[v]
  e : Blk W (w.heap.size + 1) 26 #[.int .i64 z]
  below : Below w.heap.size w W
theorem RdS.step {w W W' : World} {v : Value} {z : Int} {base g : Nat} {A : Option Addr} {c : Nat} {l : List UInt8} {p : Nat} (h : RdS w W v z) (hr : Rdr W base g A c l p) (hg : w.heap.size ≤ g) (k : Only (RK g) W W') : RdS w W' v z :=
  ⟨h.s.only k (fun e => Blk.ne h.s hr.1 (by decide) e), h.e.only k (fun e => Blk.ne h.e hr.1 (by decide) e), h.below.trans (k.below h.below.size (fun i hi => by unfold RK at hi; omega))⟩
theorem RdS.next {w W W' : World} {v : Value} {z : Int} (h : RdS w W v z) (k : Below W.heap.size W W') : RdS w W' v z :=
  ⟨h.s.below k h.s.lt, h.e.below k h.e.lt, h.below.trans (k.mono h.below.size)⟩
def rdD (n : Nat) : List Deferred := [{ target := .fn (Fn.func 20) #[], args := #[.pointer (some ⟨n + 1, 0, none⟩)] },
  { target := .fn (Fn.func 24) #[.pointer (some ⟨n + 1, 0, none⟩), .pointer (some ⟨n, 0, none⟩)], args := #[] }]
theorem rd_end {w W : World} {p : Option Addr} {z : Int} (h : RdS w W (.pointer p) z) (tmps : Array Value) (h2 : tmps.getD 2 undef = .pointer (some ⟨w.heap.size, 0, none⟩)) (h3 : tmps.getD 3 undef = .pointer (some ⟨w.heap.size + 1, 0, none⟩)) (R : Ending → World → Prop)
    (hR : R (.returned (.tuple #[.pointer p, .int .i64 z])) W) : Leaves Try.prog Try.f7 tmps R [] .returning W := by
  have cs : W.cell? ⟨w.heap.size, 0, none⟩ = some (.pointer p) := by rw [h.s.cell]; rfl
  have ce : W.cell? ⟨w.heap.size + 1, 0, none⟩ = some (.int .i64 z) := by rw [h.e.cell]; rfl
  simp only [Array.getD_eq_getD_getElem?] at h2 h3
  refine ⟨_, ?_, hR⟩
  simp only [results, Try.results7]
  simp [go_sem, h2, h3, cs, ce]
theorem rd_gone {w W : World} {v : Value} (h : RdS w W v 0) (tmps : Array Value) (h2 : tmps.getD 2 undef = .pointer (some ⟨w.heap.size, 0, none⟩)) (h3 : tmps.getD 3 undef = .pointer (some ⟨w.heap.size + 1, 0, none⟩)) (R : Ending → World → Prop)
    (hR : ∀ W', Below w.heap.size w W' → R (.returned (.tuple #[.pointer none, .int .i64 9])) W') : Leaves Try.prog Try.f7 tmps R (rdD w.heap.size) (.panicking gone) W := by
  unfold rdD
  refine leaves_cons (f := 20) (args := #[.pointer (some ⟨w.heap.size + 1, 0, none⟩)]) (by simp) (by simp [go_sem]) ?_
  refine (caught_gone _ 0 W h.e).mono ?_
  rintro e u' w' ⟨rfl, rfl, rfl⟩
  refine leaves_cons (f := 24) (args := #[.pointer (some ⟨w.heap.size + 1, 0, none⟩), .pointer (some ⟨w.heap.size, 0, none⟩)]) (by simp [settle]) (by simp [go_sem]) ?_
  have h5 := h.next ((Below.refl W.heap.size W).alloc (Nat.le_refl _) (.cells #[] 79))
  have he := h5.e.put 0 (.int .i64 9)
  have hs := h5.s.far (p := ⟨w.heap.size + 1, 0, none⟩) (by simp) (.int .i64 9)
  refine (read1_no (w.heap.size + 1) w.heap.size 9 v _ he (by decide) hs (by omega)).mono ?_
  rintro e u' w' ⟨rfl, rfl, rfl⟩
  have hbb := h5.below
  refine rd_end (p := none) (z := 9) ⟨?_, ?_, ?_⟩ tmps h2 h3 R (hR _ ?_)
  · exact (hs.put 0 (.pointer none)).far (p := ⟨w.heap.size + 1, 0, none⟩) (by simp) _
  · exact (he.far (p := ⟨w.heap.size, 0, none⟩) (by simp) _).put 0 (.int .i64 9)
  · exact ((hbb.setCell (by simp) _).setCell (by simp) _).setCell (by simp) _
  · exact ((hbb.setCell (by simp) _).setCell (by simp) _).setCell (by simp) _
theorem rd_back {w W : World} {p : Option Addr} (h : RdS w W (.pointer p) 0) (tmps : Array Value) (h2 : tmps.getD 2 undef = .pointer (some ⟨w.heap.size, 0, none⟩)) (h3 : tmps.getD 3 undef = .pointer (some ⟨w.heap.size + 1, 0, none⟩)) (R : Ending → World → Prop)
    (hR : R (.returned (.tuple #[.pointer p, .int .i64 0])) W) : Leaves Try.prog Try.f7 tmps R (rdD w.heap.size) .returning W := by
  unfold rdD
  refine leaves_cons (f := 20) (args := #[.pointer (some ⟨w.heap.size + 1, 0, none⟩)]) (by simp) (by simp [go_sem]) ?_
  refine (caught_idle _ W).mono ?_
  rintro e u' w' ⟨rfl, rfl, rfl⟩
  refine leaves_cons (f := 24) (args := #[.pointer (some ⟨w.heap.size + 1, 0, none⟩), .pointer (some ⟨w.heap.size, 0, none⟩)]) (by simp [settle]) (by simp [go_sem]) ?_
  refine (read1_ok _ _ w' h.e).mono ?_
  rintro e u' w'' ⟨rfl, rfl, rfl⟩
  exact rd_end h tmps h2 h3 R hR
theorem rd_no {w W : World} {v : Value} {z : Int} (h : RdS w W v z) (hz : z ≠ 0) (tmps : Array Value) (h2 : tmps.getD 2 undef = .pointer (some ⟨w.heap.size, 0, none⟩)) (h3 : tmps.getD 3 undef = .pointer (some ⟨w.heap.size + 1, 0, none⟩)) (R : Ending → World → Prop)
    (hR : ∀ W', Below w.heap.size w W' → R (.returned (.tuple #[.pointer none, .int .i64 9])) W') : Leaves Try.prog Try.f7 tmps R (rdD w.heap.size) .returning W := by
  unfold rdD
  refine leaves_cons (f := 20) (args := #[.pointer (some ⟨w.heap.size + 1, 0, none⟩)]) (by simp) (by simp [go_sem]) ?_
  refine (caught_idle _ W).mono ?_
  rintro e u' w' ⟨rfl, rfl, rfl⟩
  refine leaves_cons (f := 24) (args := #[.pointer (some ⟨w.heap.size + 1, 0, none⟩), .pointer (some ⟨w.heap.size, 0, none⟩)]) (by simp [settle]) (by simp [go_sem]) ?_
  refine (read1_no (w.heap.size + 1) w.heap.size z v w' h.e hz h.s (by omega)).mono ?_
  rintro e u' w'' ⟨rfl, rfl, rfl⟩
  refine rd_end (p := none) (z := 9) ⟨?_, ?_, ?_⟩ tmps h2 h3 R (hR _ ?_)
  · exact (h.s.put 0 (.pointer none)).far (p := ⟨w.heap.size + 1, 0, none⟩) (by simp) _
  · exact (h.e.far (p := ⟨w.heap.size, 0, none⟩) (by simp) _).put 0 (.int .i64 9)
  · exact (h.below.setCell (by simp) _).setCell (by simp) _
  · exact (h.below.setCell (by simp) _).setCell (by simp) _
open Classical in
/-- What is read of bytes: accuracy, budget, pairs, how much is folded. -/
noncomputable def readF (b : List UInt8) : Option (Nat × Nat × List Pr × Nat) := match numF 100 5000 b 0 with
  | none => none
  | some (a, p1) => match numF 2 4096 b p1 with
    | none => none
    | some (m, p2) => match numF 0 m b p2 with
      | none => none
      | some (n, p3) => match numF 0 4611686018427387904 b p3 with
        | none => none
        | some (f, p4) => match pairsF n none b p4 with
          | none => none
          | some (L, p5) => if p5 = b.length ∧ Keeps a m L f ∧ docW a m L f = b then some (a, m, L, f) else none
end Go.Proofs.Ytbfhiegbgkkgiaa
/- Pairs of bytes that may be a sketch's: what they are, plain. -/

namespace Go.Proofs.Ytbfhiegbgkkgiaa
open Go.RowKit
open Pl
open Sc
open Wi
theorem pairF_some {pv : Option Int} {l : List UInt8} {p : Nat} {x : Pr} {p1 : Nat} (h : pairF pv l p = some (x, p1)) (hp : p ≤ l.length) : p1 ≤ l.length ∧ 0 < x.2 ∧ ∀ q, pv = some q → q < x.1 := by
  unfold pairF at h
  cases hk : keyF pv l p with
  | none => rw [hk] at h; cases h
  | some r =>
    obtain ⟨k, p2⟩ := r
    rw [hk] at h
    dsimp only at h
    obtain ⟨h1, _, h3⟩ := keyF_some hk hp
    cases hn : numF 1 4611686018427387904 l p2 with
    | none => rw [hn] at h; cases h
    | some s =>
      obtain ⟨n, p3⟩ := s
      rw [hn] at h
      injection h with h
      injection h with h4 h5
      have h6 := numF_some hn h1
      subst h4
      exact ⟨by omega, by dsimp only; omega, fun q hq => (h3 q hq).1⟩
theorem pairsF_facts : ∀ (n : Nat) (pv : Option Int) (l : List UInt8) (p : Nat) (L : List Pr) (p5 : Nat), pairsF n pv l p = some (L, p5) → p ≤ l.length → p5 ≤ l.length ∧ L.length = n ∧ Srt L ∧ Pos L ∧ ∀ q, pv = some q → ∀ x ∈ L, q < x.1
  | 0, pv, l, p, L, p5, h, hp => by
    unfold pairsF at h
    injection h with h
    injection h with h1 h2
    subst h1
    exact ⟨by omega, rfl, Srt.nil, Pos.nil, fun q _ x hx => by cases hx⟩
  | n + 1, pv, l, p, L, p5, h, hp => by
    rw [pairsF_succ] at h
    cases hx : pairF pv l p with
    | none => rw [hx] at h; cases h
    | some r =>
      obtain ⟨x, p1⟩ := r
      rw [hx] at h
      dsimp only at h
      obtain ⟨h1, h2, h3⟩ := pairF_some hx hp
      cases hs : pairsF n (some x.1) l p1 with
      | none => rw [hs] at h; cases h
      | some r =>
        obtain ⟨M, p2⟩ := r
        rw [hs] at h
        injection h with h
        injection h with h4 h5
        obtain ⟨k1, k2, k3, k4, k5⟩ := pairsF_facts n _ l p1 M p2 hs h1
        subst h4
        refine ⟨by omega, by rw [List.length_cons, k2], List.pairwise_cons.2 ⟨fun y hy => k5 x.1 rfl y hy, k3⟩, fun y hy => ?_, fun q hq y hy => ?_⟩
        · rcases List.mem_cons.1 hy with rfl | hy
          · exact h2
          · exact k4 y hy
        · rcases List.mem_cons.1 hy with rfl | hy
          · exact h3 q hq
          · exact Int.lt_trans (h3 q hq) (k5 x.1 rfl y hy)
end Go.Proofs.Ytbfhiegbgkkgiaa
/- Sketches: a store elsewhere leaves one as it is. -/

namespace Go.Proofs.Ytbfhiegbgkkgiaa
open Go.RowKit
open Pl
open Sc
theorem Skt.set {w : World} {p q cs a g gl c : Nat} {As A : Option Addr} {m : Int} {all : List Pr} (h : Skt w p q As cs a g gl A c m all) {i : Nat} {t : TypeId} {xs : Array Value} (hb : Blk w i t xs)
    (h0 : t ≠ 60) (h1 : t ≠ 95) (h2 : t ≠ 102) (h3 : t ≠ 98) (h4 : t ≠ 105) (h5 : t ≠ 62) (j : Nat) (u : Value) : Skt (w.setCell ⟨i, j, none⟩ u) p q As cs a g gl A c m all := by
  have k : Only (fun x => x = i) w (w.setCell ⟨i, j, none⟩ u) := Only.set (p := ⟨i, j, none⟩) (Only.refl (fun x => x = i) w) (.inl rfl) u
  refine ⟨h.blk.only k (fun e => Blk.ne hb h.blk h0 e.symm), scl_only h.scl k (fun x t' ys hx ht e => ?_), ⟨h.sto.blk.only k (fun e => Blk.ne hb h.sto.blk h3 e.symm), h.sto.lst.only k (fun e => Blk.ne hb h.sto.lst.1 h4 e.symm) (fun x hx e => ?_)⟩⟩
  · rcases ht with rfl | rfl
    · exact Blk.ne hb hx h1 e.symm
    · exact Blk.ne hb hx h2 e.symm
  · exact Own.ne_blk (show Own w gl 62 2 A (cutL all m).1.length c (pcs (cutL all m).1) from h.sto.lst.2) hb (fun e => h5 e.symm) (by rw [hx]; exact congrArg some e)
/-- A sketch that was loaded, written. -/
theorem write_sk {w : World} {p q cs a g gl c m : Nat} {As A : Option Addr} {L : List Pr} {f : Nat} (h : Skt w p q As cs a g gl A c (m : Int) (allOf L f)) (ha : a ≤ 5000) (hm0 : 2 ≤ m) (hm1 : m ≤ 4096) (hk : Keeps a m L f) (hs : Srt L) (hp : Pos L) (hl : L.length ≤ m) :
    Calls Try.prog 16 #[.pointer (some ⟨p, 0, none⟩)] w (Bytes w (docW a m L f)) := by
  have hc := allOf_cut hk hm0 hl
  have hf := allOf_fine hk hs hp (by omega)
  have hK : Fine L := ⟨hs, hp, fun q hq => by have := hk.keys q hq; have := spans_len' a; omega, hk.tot, by omega⟩
  have hF : f ≤ 4611686018427387904 := by
    rcases hk.fold with h0 | ⟨_, x, R, hx, h2⟩
    · omega
    · have := hk.tot
      rw [hx, tot_cons] at this
      omega
  refine write_g p a m L f w hK (by omega) ha hm1 hF ?_ (fun W hb => dacc_t (h.below hb)) (fun W hb => dbudget_t (h.below hb)) (fun W hb => ?_)
  · have h1 := dpairs_t h hf
    rw [hc] at h1
    exact h1
  · have h1 := dfolded_t (h.below hb)
    rw [hc] at h1
    exact h1
end Go.Proofs.Ytbfhiegbgkkgiaa
/- Reading a sketch, walked. -/

namespace Go.Proofs.Ytbfhiegbgkkgiaa
open Go.RowKit
open Pl
open Sc
open Wi
theorem rd_held {w W : World} {v : Value} {z : Int} (h : RdS w W v z) : W.cell? ⟨w.heap.size + 1, 0, none⟩ = some (.int .i64 z) ∧ RdS w W v z := ⟨by rw [h.e.cell]; rfl, h⟩
theorem leaves_tmps {P : Program} {fn : Func} {t1 t2 : Array Value} {R : Ending → World → Prop} (h : ∀ w, (results fn t1).run P w = (results fn t2).run P w) : ∀ (ds : List Deferred) (u : FrameMode) (w : World), Leaves P fn t1 R ds u w → Leaves P fn t2 R ds u w
  | [], .returning, w, hh => by
    obtain ⟨v, h1, h2⟩ := hh
    exact ⟨v, by rw [← h]; exact h1, h2⟩
  | [], .panicking _, _, hh => hh
  | [], .run, _, hh => hh
  | d :: ds, u, w, hh => by
    obtain ⟨hu, fv, cap, f, args, h1, h2, h3⟩ := hh
    refine ⟨hu, fv, cap, f, args, h1, h2, h3.mono ?_⟩
    intro e u' w' hq
    cases e with
    | returned v => exact leaves_tmps h ds _ _ hq
    | panicked c => exact leaves_tmps h ds _ _ hq
    | outgrown => exact hq
theorem rd_put {k : Nat} (hk : 3 < k) {v : Value} {R : Ending → World → Prop} {c : List PanicEntry} {a : Act} {w : World} (h : bodyPostD Try.prog Try.f7 R (.panic c) (a.put (some k) v) w) : bodyPostD Try.prog Try.f7 R (.panic c) a w := by
  refine leaves_tmps (t1 := (a.put (some k) v).tmps) (fun W => ?_) _ _ _ h
  have e2 : (a.put (some k) v).tmps.getD 2 undef = a.tmps.getD 2 undef := by
    simp only [Act.put, Array.getD_eq_getD_getElem?]
    rw [Array.getElem?_setIfInBounds_ne (by omega)]
  have e3 : (a.put (some k) v).tmps.getD 3 undef = a.tmps.getD 3 undef := by
    simp only [Act.put, Array.getD_eq_getD_getElem?]
    rw [Array.getElem?_setIfInBounds_ne (by omega)]
  simp only [results, Try.results7]
  simp only [Array.getD_eq_getD_getElem?] at e2 e3
  simp [e2, e3]
def ReadPost (w : World) (r : Option (Nat × Nat × List Pr × Nat)) (e : Ending) (w' : World) : Prop := match r with
  | none => e = .returned (.tuple #[.pointer none, .int .i64 9]) ∧ Below w.heap.size w w'
  | some (a, m, L, f) => ∃ p q As cs g gl A c, e = .returned (.tuple #[.pointer (some ⟨p, 0, none⟩), .int .i64 0]) ∧ Skt w' p q As cs a g gl A c (m : Int) (allOf L f) ∧ Below w.heap.size w w'
/-- While Read goes on: its results, its reader, and the reader's struct. -/
structure RdM (w W : World) (base g : Nat) (A : Option Addr) (c : Nat) (l : List UInt8) (NR p : Nat) : Prop where
  rs : RdS w W (.pointer none) 0
  rd : Rdr W base g A c l p
  nr : Blk W NR 52 #[nextV g]
  hg : w.heap.size ≤ g
theorem RdM.num {w W W' : World} {base g : Nat} {A : Option Addr} {c : Nat} {l : List UInt8} {NR p p' : Nat} (h : RdM w W base g A c l NR p) (hr : Rdr W' base g A c l p') (k : Only (RK g) W W') : RdM w W' base g A c l NR p' :=
  ⟨h.rs.step h.rd h.hg k, hr, h.nr.only k (fun e => Blk.ne h.nr h.rd.1 (by decide) e), h.hg⟩
theorem RdM.drew {w W : World} {base g : Nat} {A : Option Addr} {c : Nat} {l : List UInt8} {NR p : Nat} (h : RdM w W base g A c l NR p) : RdM w W.drew base g A c l NR p :=
  ⟨⟨h.rs.s, h.rs.e, h.rs.below.drew⟩, h.rd, h.nr, h.hg⟩
theorem RdM.z {w W : World} {base g : Nat} {A : Option Addr} {c : Nat} {l : List UInt8} {NR p : Nat} (h : RdM w W base g A c l NR p) : W.cell? ⟨NR, 0, none⟩ = some (.func (Fn.func 22) #[.pointer (some ⟨g, 0, none⟩)] #[]) := by rw [h.nr.cell]; rfl
set_option maxHeartbeats 3200000 in
set_option maxRecDepth 100000 in
theorem read_t (A : Option Addr) (c : Nat) (l : List UInt8) (w : World) (hb : Bts w w.heap.size A l) (hl : l.length ≤ 100000000) :
    Calls Try.prog 7 #[.slice A l.length c] w (ReadPost w (readF l)) := by
  have HNEW := Lib.hid (fun W (hb : Bts W W.heap.size A l) => new_t A c l W hb hl)
  have HNUM := Lib.hid (fun W base g A c p lo hi (h : Rdr W base g A c l p) (hp : p ≤ l.length) => num_t base g A c l p lo hi W h hp hl)
  have HB := Lib.hid hb
  have HL := Lib.hid hl
  have hmf : ∀ (fn : Fn) (first cap : Array Value) (w : World), (Instr.makeFunc fn first cap).run Try.prog w = .ok (.func fn first cap) w := fun _ _ _ _ => rfl
  obtain ⟨R, hR⟩ : ∃ R, R = readF l := ⟨_, rfl⟩
  rw [← hR]
  have HR := Lib.hid hR
  clear hb hl hR
  go_enter_defers Try.func7, Try.ntmps7
  go_wp2_with fail
  have s0 : RdS w ((w.alloc (.cells #[.pointer none] 29)).alloc (.cells #[.int .i64 0] 26)) (.pointer none) 0 := by
    have h1 := Blk.new w 29 #[.pointer none]
    have h2 := Blk.new (w.alloc (.cells #[.pointer none] 29)) 26 #[.int .i64 0]
    simp only [World.size_alloc] at h2
    exact ⟨h1.alloc _, h2, ((Below.refl _ _).alloc (Nat.le_refl _) _).alloc (by simp) _⟩
  refine (HNEW.out _ (HB.out.at_below s0.below)).mono ?_
  rintro e w2 ⟨g, A2, c2, rfl, hg, r2, b2⟩
  have S2 := Lib.hid (s0.next b2)
  have R2 := Lib.hid r2
  have HG : Hid (w.heap.size ≤ g) := Lib.hid (Nat.le_trans s0.below.size hg)
  clear s0 b2 r2 hg
  generalize ((w.alloc (.cells #[.pointer none] 29)).alloc (.cells #[.int .i64 0] 26)) = W0 at *
  go_wp2_with fail
  have hb3 : Below w2.heap.size w2 (w2.alloc (.cells #[nextV g] 52)) := (Below.refl _ _).alloc (Nat.le_refl _) _
  obtain ⟨NR, hNR⟩ : ∃ NR, NR = w2.heap.size := ⟨_, rfl⟩
  have M3 : Hid (RdM w (w2.alloc (.cells #[nextV g] 52)) W0.heap.size g A2 c2 l NR 0) := Lib.hid ⟨S2.out.next hb3, R2.out.below hb3, by rw [hNR]; exact Blk.new _ _ _, HG.out⟩
  have z3 := M3.out.z
  rw [← hNR]
  clear hb3 S2 R2 hNR
  unfold nextV at *
  generalize w2.alloc (.cells #[.func (Fn.func 22) #[.pointer (some ⟨g, 0, none⟩)] #[]] 52) = W3 at *
  obtain ⟨r1, hr1⟩ : ∃ r, r = numF 100 5000 l 0 := ⟨_, rfl⟩
  have HN1 := Lib.hid (fun W (h : Rdr W W0.heap.size g A2 c2 l 0) => HNUM.out W W0.heap.size g A2 c2 0 100 5000 h (Nat.zero_le _))
  rw [← hr1] at HN1
  have HR1 := Lib.hid hr1
  cases r1 with
  | none =>
    have hRe : R = none := by rw [HR.out]; unfold readF; rw [← hr1]
    subst hRe
    clear hr1
    refine wp_region_held_drew (S := (fun W => W.cell? ⟨NR, 0, none⟩ = some (.func (Fn.func 22) #[.pointer (some ⟨g, 0, none⟩)] #[]))) (by kernel_rfl) z3 (fun hHeld => ?_)
    refine wpAnyH_take (i := 0) (oi := ?_) (v := ?_) ?_ ?_ ?_ ?_ ?_ ?_ ?_ ?_
    rotate_left 2
    · simp only [List.getElem?_toArray, List.getElem?_cons_zero]; rfl
    · kernel_rfl
    · kernel_rfl
    · kernel_rfl
    · exact fun _ _ _ h => rd_put (by decide) h
    · exact Or.inl ⟨by kernel_rfl, by intro w hSw; (try dsimp only at hSw); go_simp; try with_reducible rfl⟩
    · assumption
    try go_simp
    refine wpAnyH_take (i := 3) (oi := ?_) (v := ?_) ?_ ?_ ?_ ?_ ?_ ?_ ?_ ?_
    rotate_left 2
    · simp only [List.getElem?_toArray, List.getElem?_cons_succ, List.getElem?_cons_zero]; rfl
    · kernel_rfl
    · kernel_rfl
    · kernel_rfl
    · exact fun _ _ _ h => rd_put (by decide) h
    · exact Or.inl ⟨by kernel_rfl, by intro w hSw; (try dsimp only at hSw); go_simp; try with_reducible rfl⟩
    · assumption
    try go_simp
    refine wpAnyH_ready (rs := [1]) (by kernel_rfl) (by simp) ?_
    refine AllReadyH.cons (o := ?_) ?_ ?_ AllReadyH.nil
    rotate_left 1
    · simp only [List.getElem?_toArray, List.getElem?_cons_succ, List.getElem?_cons_zero]; rfl
    intro K hK
    go_simp
    refine (HN1.out _ M3.out.drew.rd).mono ?_
    rintro e w4 ⟨rfl, k4⟩
    exact rd_gone (M3.out.drew.num (M3.out.drew.rd) (Only.refl _ _) |>.rs.step M3.out.drew.rd M3.out.hg k4) _ rfl rfl _ (fun W' hW => ⟨rfl, hW⟩)
  | some r1 =>
    obtain ⟨a, p1⟩ := r1
    obtain ⟨ha0, ha1, _, hp1⟩ := numF_some hr1.symm (Nat.zero_le _)
    have ha' : (a : Int) ≤ 5000 := by omega
    have HA := Lib.hid (And.intro ha0 (And.intro ha1 hp1))
    obtain ⟨r2, hr2⟩ : ∃ r, r = numF 2 4096 l p1 := ⟨_, rfl⟩
    have HN2 := Lib.hid (fun W (h : Rdr W W0.heap.size g A2 c2 l p1) => HNUM.out W W0.heap.size g A2 c2 p1 2 4096 h HA.out.2.2)
    rw [← hr2] at HN2
    have HR2 := Lib.hid hr2
    clear ha0 ha1 hp1 hr1
    cases r2 with
    | none =>
      have hRe : R = none := by rw [HR.out]; unfold readF; rw [← HR1.out]; dsimp only; rw [← hr2]
      subst hRe
      clear hr2
      refine wp_region_held_drew (S := (fun W => W.cell? ⟨NR, 0, none⟩ = some (.func (Fn.func 22) #[.pointer (some ⟨g, 0, none⟩)] #[]))) (by kernel_rfl) z3 (fun hHeld => ?_)
      refine wpAnyH_take (i := 0) (oi := ?_) (v := ?_) ?_ ?_ ?_ ?_ ?_ ?_ ?_ ?_
      rotate_left 2
      · simp only [List.getElem?_toArray, List.getElem?_cons_zero]; rfl
      · kernel_rfl
      · kernel_rfl
      · kernel_rfl
      · exact fun _ _ _ h => rd_put (by decide) h
      · exact Or.inl ⟨by kernel_rfl, by intro w hSw; (try dsimp only at hSw); go_simp; try with_reducible rfl⟩
      · assumption
      try go_simp
      refine wpAnyH_take (i := 3) (oi := ?_) (v := ?_) ?_ ?_ ?_ ?_ ?_ ?_ ?_ ?_
      rotate_left 2
      · simp only [List.getElem?_toArray, List.getElem?_cons_succ, List.getElem?_cons_zero]; rfl
      · kernel_rfl
      · kernel_rfl
      · kernel_rfl
      · exact fun _ _ _ h => rd_put (by decide) h
      · exact Or.inl ⟨by kernel_rfl, by intro w hSw; (try dsimp only at hSw); go_simp; try with_reducible rfl⟩
      · assumption
      try go_simp
      refine wpAnyH_ready (rs := [1]) (by kernel_rfl) (by simp) ?_
      refine AllReadyH.cons (o := ?_) ?_ ?_ AllReadyH.nil
      rotate_left 1
      · simp only [List.getElem?_toArray, List.getElem?_cons_succ, List.getElem?_cons_zero]; rfl
      intro K hK
      go_simp
      refine (HN1.out _ M3.out.drew.rd).mono ?_
      rintro e w4 ⟨rfl, r4, k4⟩
      have M4 := Lib.hid (M3.out.drew.num r4 k4)
      clear r4 k4
      refine hK.out _ _ ?_ (fun hHeld => ?_)
      · exact M4.out.z
      clear hK K
      try go_simp
      refine wpAnyH_take (i := 2) (oi := ?_) (v := ?_) ?_ ?_ ?_ ?_ ?_ ?_ ?_ ?_
      rotate_left 2
      · simp only [List.getElem?_toArray, List.getElem?_cons_succ, List.getElem?_cons_zero]; rfl
      · kernel_rfl
      · kernel_rfl
      · kernel_rfl
      · exact fun _ _ _ h => rd_put (by decide) h
      · exact Or.inl ⟨by kernel_rfl, by intro w hSw; (try dsimp only at hSw); go_simp; try with_reducible rfl⟩
      · assumption
      try go_simp
      refine wpAnyH_ready (rs := [4]) (by kernel_rfl) (by simp) ?_
      refine AllReadyH.cons (o := ?_) ?_ ?_ AllReadyH.nil
      rotate_left 1
      · simp only [List.getElem?_toArray, List.getElem?_cons_succ, List.getElem?_cons_zero]; rfl
      intro K hK
      go_simp
      refine (HN2.out _ M4.out.rd).mono ?_
      rintro e w5 ⟨rfl, k5⟩
      exact rd_gone (M4.out.rs.step M4.out.rd M4.out.hg k5) _ rfl rfl _ (fun W' hW => ⟨rfl, hW⟩)
    | some r2 =>
      obtain ⟨m, p2⟩ := r2
      obtain ⟨hm0, hm1, _, hp2⟩ := numF_some hr2.symm HA.out.2.2
      have hm' : (m : Int) ≤ 4096 := by omega
      have HM := Lib.hid (And.intro hm0 (And.intro hm1 hp2))
      have hwa : IntKind.i64.wrap (a : Int) = (a : Int) := IntWalk.i64_in _ ⟨by omega, by omega⟩
      have hwm : IntKind.i64.wrap (m : Int) = (m : Int) := IntWalk.i64_in _ ⟨by omega, by omega⟩
      clear hm0 hm1 hp2 hr2
      refine wp_region_held_drew (S := (fun W => W.cell? ⟨NR, 0, none⟩ = some (.func (Fn.func 22) #[.pointer (some ⟨g, 0, none⟩)] #[]))) (by kernel_rfl) z3 (fun hHeld => ?_)
      refine wpAnyH_take (i := 0) (oi := ?_) (v := ?_) ?_ ?_ ?_ ?_ ?_ ?_ ?_ ?_
      rotate_left 2
      · simp only [List.getElem?_toArray, List.getElem?_cons_zero]; rfl
      · kernel_rfl
      · kernel_rfl
      · kernel_rfl
      · exact fun _ _ _ h => rd_put (by decide) h
      · exact Or.inl ⟨by kernel_rfl, by intro w hSw; (try dsimp only at hSw); go_simp; try with_reducible rfl⟩
      · assumption
      try go_simp
      refine wpAnyH_take (i := 3) (oi := ?_) (v := ?_) ?_ ?_ ?_ ?_ ?_ ?_ ?_ ?_
      rotate_left 2
      · simp only [List.getElem?_toArray, List.getElem?_cons_succ, List.getElem?_cons_zero]; rfl
      · kernel_rfl
      · kernel_rfl
      · kernel_rfl
      · exact fun _ _ _ h => rd_put (by decide) h
      · exact Or.inl ⟨by kernel_rfl, by intro w hSw; (try dsimp only at hSw); go_simp; try with_reducible rfl⟩
      · assumption
      try go_simp
      refine wpAnyH_ready (rs := [1]) (by kernel_rfl) (by simp) ?_
      refine AllReadyH.cons (o := ?_) ?_ ?_ AllReadyH.nil
      rotate_left 1
      · simp only [List.getElem?_toArray, List.getElem?_cons_succ, List.getElem?_cons_zero]; rfl
      intro K hK
      go_simp
      refine (HN1.out _ M3.out.drew.rd).mono ?_
      rintro e w4 ⟨rfl, r4, k4⟩
      have M4 := Lib.hid (M3.out.drew.num r4 k4)
      clear r4 k4
      refine hK.out _ _ ?_ (fun hHeld => ?_)
      · exact M4.out.z
      clear hK K
      try go_simp
      refine wpAnyH_take (i := 2) (oi := ?_) (v := ?_) ?_ ?_ ?_ ?_ ?_ ?_ ?_ ?_
      rotate_left 2
      · simp only [List.getElem?_toArray, List.getElem?_cons_succ, List.getElem?_cons_zero]; rfl
      · kernel_rfl
      · kernel_rfl
      · kernel_rfl
      · exact fun _ _ _ h => rd_put (by decide) h
      · exact Or.inl ⟨by kernel_rfl, by intro w hSw; (try dsimp only at hSw); go_simp; try with_reducible rfl⟩
      · assumption
      try go_simp
      refine wpAnyH_ready (rs := [4]) (by kernel_rfl) (by simp) ?_
      refine AllReadyH.cons (o := ?_) ?_ ?_ AllReadyH.nil
      rotate_left 1
      · simp only [List.getElem?_toArray, List.getElem?_cons_succ, List.getElem?_cons_zero]; rfl
      intro K hK
      go_simp
      refine (HN2.out _ M4.out.rd).mono ?_
      rintro e w5 ⟨rfl, r5, k5⟩
      have M5 := Lib.hid (M4.out.num r5 k5)
      clear r5 k5
      refine hK.out _ _ ?_ (fun hHeld => ?_)
      · exact M5.out.z
      clear hK K
      try go_simp
      refine wpAnyH_take (i := 5) (oi := ?_) (v := ?_) ?_ ?_ ?_ ?_ ?_ ?_ ?_ ?_
      rotate_left 2
      · simp only [List.getElem?_toArray, List.getElem?_cons_succ, List.getElem?_cons_zero]; rfl
      · kernel_rfl
      · kernel_rfl
      · kernel_rfl
      · exact fun _ _ _ h => rd_put (by decide) h
      · exact Or.inl ⟨by kernel_rfl, by intro w hSw; (try dsimp only at hSw); go_simp; try with_reducible rfl⟩
      · assumption
      try go_simp
      refine wpAnyH_take (i := 6) (oi := ?_) (v := ?_) ?_ ?_ ?_ ?_ ?_ ?_ ?_ ?_
      rotate_left 2
      · simp only [List.getElem?_toArray, List.getElem?_cons_succ, List.getElem?_cons_zero]; rfl
      · kernel_rfl
      · kernel_rfl
      · kernel_rfl
      · exact fun _ _ _ h => rd_put (by decide) h
      · exact Or.inl ⟨by kernel_rfl, by intro w hSw; (try dsimp only at hSw); go_simp; try with_reducible rfl⟩
      · assumption
      try go_simp
      refine wpAnyH_take (i := 7) (oi := ?_) (v := ?_) ?_ ?_ ?_ ?_ ?_ ?_ ?_ ?_
      rotate_left 2
      · simp only [List.getElem?_toArray, List.getElem?_cons_succ, List.getElem?_cons_zero]; rfl
      · kernel_rfl
      · kernel_rfl
      · kernel_rfl
      · exact fun _ _ _ h => rd_put (by decide) h
      · exact Or.inl ⟨by kernel_rfl, by intro w hSw; (try dsimp only at hSw); go_simp; try with_reducible rfl⟩
      · assumption
      try go_simp
      refine wpAnyH_done (by kernel_rfl) ?_ _
      clear hHeld
      have z5 := M5.out.z
      obtain ⟨r3, hr3⟩ : ∃ r, r = numF 0 m l p2 := ⟨_, rfl⟩
      have HN3 := Lib.hid (fun W (h : Rdr W W0.heap.size g A2 c2 l p2) => HNUM.out W W0.heap.size g A2 c2 p2 0 m h HM.out.2.2)
      rw [← hr3] at HN3
      have HR3 := Lib.hid hr3
      clear hr3
      go_wp2_with fail
      refine (HN3.out _ M5.out.rd).mono ?_
      cases r3 with
      | none =>
        have hRe : R = none := by rw [HR.out]; unfold readF; rw [← HR1.out]; dsimp only; rw [← HR2.out]; dsimp only; rw [← HR3.out]
        subst hRe
        rintro e w6 ⟨rfl, k6⟩
        exact rd_gone (M5.out.rs.step M5.out.rd M5.out.hg k6) _ rfl rfl _ (fun W' hW => ⟨rfl, hW⟩)
      | some r3 =>
        obtain ⟨n, p3⟩ := r3
        obtain ⟨_, hn1, _, hp3⟩ := numF_some HR3.out.symm HM.out.2.2
        have hn4 : n ≤ 4096 := Nat.le_trans hn1 HM.out.2.1
        have hn' : (n : Int) ≤ 4096 := by omega
        have HN := Lib.hid (And.intro hn1 (And.intro hn4 hp3))
        have hwn : IntKind.i64.wrap (n : Int) = (n : Int) := IntWalk.i64_in _ ⟨by omega, by omega⟩
        clear hn1 hn4 hp3
        rintro e w6 ⟨rfl, r6, k6⟩
        have M6 := Lib.hid (M5.out.num r6 k6)
        have z6 := M6.out.z
        clear r6 k6 z5
        obtain ⟨r4, hr4⟩ : ∃ r, r = numF 0 4611686018427387904 l p3 := ⟨_, rfl⟩
        have HN4 := Lib.hid (fun W (h : Rdr W W0.heap.size g A2 c2 l p3) => HNUM.out W W0.heap.size g A2 c2 p3 0 4611686018427387904 h HN.out.2.2)
        rw [← hr4] at HN4
        have HR4 := Lib.hid hr4
        clear hr4
        go_wp2_with fail
        refine (HN4.out _ M6.out.rd).mono ?_
        cases r4 with
        | none =>
          have hRe : R = none := by rw [HR.out]; unfold readF; rw [← HR1.out]; dsimp only; rw [← HR2.out]; dsimp only; rw [← HR3.out]; dsimp only; rw [← HR4.out]
          subst hRe
          rintro e w7 ⟨rfl, k7⟩
          exact rd_gone (M6.out.rs.step M6.out.rd M6.out.hg k7) _ rfl rfl _ (fun W' hW => ⟨rfl, hW⟩)
        | some r4 =>
          obtain ⟨f, p4⟩ := r4
          obtain ⟨_, hf1, _, hp4⟩ := numF_some HR4.out.symm HN.out.2.2
          have HF := Lib.hid (And.intro hf1 hp4)
          clear hf1 hp4
          rintro e w7 ⟨rfl, r7, k7⟩
          have M7 := Lib.hid (M6.out.num r7 k7)
          have z7 := M7.out.z
          clear r7 k7 z6
          obtain ⟨r5, hr5⟩ : ∃ r, r = pairsF n none l p4 := ⟨_, rfl⟩
          have HPR := Lib.hid (fun W (h : Rdr W W0.heap.size g A2 c2 l p4) => pairs_rd W0.heap.size g A2 c2 l p4 n W h HF.out.2 HL.out HN.out.2.1)
          rw [← hr5] at HPR
          have HR5 := Lib.hid hr5
          clear hr5
          go_wp2_with fail
          refine (HPR.out _ M7.out.rd).mono ?_
          cases r5 with
          | none =>
            have hRe : R = none := by rw [HR.out]; unfold readF; rw [← HR1.out]; dsimp only; rw [← HR2.out]; dsimp only; rw [← HR3.out]; dsimp only; rw [← HR4.out]; dsimp only; rw [← HR5.out]
            subst hRe
            rintro e w8 ⟨rfl, k8⟩
            exact rd_gone (M7.out.rs.step M7.out.rd M7.out.hg k8) _ rfl rfl _ (fun W' hW => ⟨rfl, hW⟩)
          | some r5 =>
            obtain ⟨LP, p5⟩ := r5
            rintro e w8 ⟨A8, c8, rfl, o8, r8, k8⟩
            have M8 := Lib.hid (M7.out.num r8 k8)
            have O8 := Lib.hid o8
            clear r8 k8 o8 z7
            obtain ⟨q1, q2, q3, q4, _⟩ := pairsF_facts n none l p4 LP p5 HR5.out.symm HF.out.2
            obtain ⟨k, hk⟩ : ∃ k, p5 + k = l.length := ⟨l.length - p5, by omega⟩
            have HQ := Lib.hid (And.intro q1 (And.intro q2 (And.intro q3 q4)))
            have HK := Lib.hid hk
            have HLT := Lib.hid (fun W (h : Rdr W W0.heap.size g A2 c2 l p5) => left_t W0.heap.size g A2 c2 l p5 k W h HK.out HL.out)
            have hkl : (k : Int) ≤ 100000000 := by have := HL.out; omega
            clear q1 q2 q3 q4 hk
            go_wp2_with fail
            refine (HLT.out _ M8.out.rd).mono ?_
            rintro e w9 ⟨rfl, qq, hw9⟩
            have M9 : Hid (RdS w w9 (.pointer none) 0) := Lib.hid (by rw [hw9]; exact ⟨M8.out.rs.s, M8.out.rs.e, below_drewN M8.out.rs.below _⟩)
            have B9 : Hid (Below w8.heap.size w8 w9) := Lib.hid (by rw [hw9]; exact below_drewN (Below.refl _ _) _)
            clear hw9
            by_cases hk0 : k = 0
            · have hp5 : p5 = l.length := by have := HK.out; omega
              have HP5 := Lib.hid hp5
              have hkp : decide ((0 : Int) < (k : Int)) = false := by simp; omega
              have hkp2 : decide (0 < k) = false := by simp; omega
              have HLD := Lib.hid (fun W (h : Prs W W.heap.size A8 LP) => dload_t a m A8 c8 LP f W h HA.out.1 HA.out.2.1 HM.out.1 HM.out.2.1 HQ.out.2.2.1 HQ.out.2.2.2 (by have h1 := HQ.out.2.1; have h2 := HN.out.1; omega))
              have HRY : Hid (Keeps a m LP f → docW a m LP f = l → R = some (a, m, LP, f)) := Lib.hid (fun h1 h2 => by
                rw [HR.out]; unfold readF; rw [← HR1.out]; dsimp only; rw [← HR2.out]; dsimp only; rw [← HR3.out]; dsimp only; rw [← HR4.out]; dsimp only; rw [← HR5.out]; dsimp only
                rw [if_pos ⟨HP5.out, h1, h2⟩])
              have HRX : Hid (¬ (Keeps a m LP f ∧ docW a m LP f = l) → R = none) := Lib.hid (fun hn => by
                rw [HR.out]; unfold readF; rw [← HR1.out]; dsimp only; rw [← HR2.out]; dsimp only; rw [← HR3.out]; dsimp only; rw [← HR4.out]; dsimp only; rw [← HR5.out]; dsimp only
                rw [if_neg (fun hh => hn hh.2)])
              clear hk0 hp5
              go_wp2_with fail
              refine (HLD.out _ ((OwnP.reads O8.out).at_below B9.out)).mono ?_
              rintro e w10 (⟨hke, ⟨p, q, As, cs, gg, gl, AA, cc, rfl, hpp, hgg, hgl, sk⟩, b10⟩ | ⟨hnk, rfl, b10⟩)
              · have m10 := M9.out.next b10
                have x1 : w10.cell? ⟨w.heap.size, 0, none⟩ = some (.pointer none) := by rw [m10.s.cell]; rfl
                have x2 := m10.s.free 0
                have he1 := m10.e.far (p := ⟨w.heap.size, 0, none⟩) (by simp) (.pointer (some ⟨p, 0, none⟩))
                have x3 : (w10.setCell ⟨w.heap.size, 0, none⟩ (.pointer (some ⟨p, 0, none⟩))).cell? ⟨w.heap.size + 1, 0, none⟩ = some (.int .i64 0) := by rw [he1.cell]; rfl
                have x4 := he1.free 0
                have HKE := Lib.hid hke
                have SK := Lib.hid sk
                have M10 := Lib.hid m10
                clear hke sk m10 b10 hpp hgg hgl he1
                go_wp2_with fail
                have he1 := M10.out.e.far (p := ⟨w.heap.size, 0, none⟩) (by simp) (.pointer (some ⟨p, 0, none⟩))
                have sk1 := (SK.out.set M10.out.s (by decide) (by decide) (by decide) (by decide) (by decide) (by decide) 0 (.pointer (some ⟨p, 0, none⟩))).set he1 (by decide) (by decide) (by decide) (by decide) (by decide) (by decide) 0 (.int .i64 0)
                have m11 : RdS w ((w10.setCell ⟨w.heap.size, 0, none⟩ (.pointer (some ⟨p, 0, none⟩))).setCell ⟨w.heap.size + 1, 0, none⟩ (.int .i64 0)) (.pointer (some ⟨p, 0, none⟩)) 0 := ⟨(M10.out.s.put 0 (.pointer (some ⟨p, 0, none⟩))).far (p := ⟨w.heap.size + 1, 0, none⟩) (by simp) _, he1.put 0 _, (M10.out.below.setCell (by simp) _).setCell (by simp) _⟩
                refine (write_sk sk1 HA.out.2.1 HM.out.1 HM.out.2.1 HKE.out HQ.out.2.2.1 HQ.out.2.2.2 (by have h1 := HQ.out.2.1; have h2 := HN.out.1; omega)).mono ?_
                rintro e w12 ⟨A9, c9, rfl, o9, b12⟩
                have M12 := Lib.hid (m11.next b12)
                have SK12 := Lib.hid (sk1.below b12)
                have O9 := Lib.hid o9
                clear he1 sk1 m11 o9 x1 x2 x3 x4
                have y1 : w12.cell? ⟨w.heap.size + 1, 0, none⟩ = some (.int .i64 0) := by rw [M12.out.e.cell]; rfl
                have y2 := M12.out.e.free 0
                have he3 := M12.out.e.put 0 (.int .i64 0)
                have y3 : (w12.setCell ⟨w.heap.size + 1, 0, none⟩ (.int .i64 0)).cell? ⟨w.heap.size + 1, 0, none⟩ = some (.int .i64 0) := by rw [he3.cell]; rfl
                have m13 : RdS w (w12.setCell ⟨w.heap.size + 1, 0, none⟩ (.int .i64 0)) (.pointer (some ⟨p, 0, none⟩)) 0 := ⟨M12.out.s.far (p := ⟨w.heap.size + 1, 0, none⟩) (by simp) _, he3, M12.out.below.setCell (by simp) _⟩
                have bA : Bts (w12.setCell ⟨w.heap.size + 1, 0, none⟩ (.int .i64 0)) (w12.setCell ⟨w.heap.size + 1, 0, none⟩ (.int .i64 0)).heap.size A l := HB.out.at_below m13.below
                have M13 := Lib.hid m13
                have BA := Lib.hid bA
                have o13 : OwnB (w12.setCell ⟨w.heap.size + 1, 0, none⟩ (.int .i64 0)) _ A9 c9 (docW a m LP f) := Own.setOther O9.out (p := ⟨w.heap.size + 1, 0, none⟩) (Own.ne_blk O9.out M12.out.e (by decide)) _
                have SK13 := Lib.hid (SK12.out.set M12.out.e (by decide) (by decide) (by decide) (by decide) (by decide) (by decide) 0 (.int .i64 0))
                have O13 := Lib.hid (OwnB.reads o13)
                clear he3 m13 bA b12 o13
                go_wp2_with fail
                refine (equal_t A9 A c9 c (docW a m LP f) l _ O13.out BA.out HL.out).mono ?_
                rintro e w14 ⟨rfl, qe, hw14⟩
                have M14 : Hid (RdS w w14 (.pointer (some ⟨p, 0, none⟩)) 0) := Lib.hid (by rw [hw14]; exact M13.out.next (below_drewN (Below.refl _ _) _))
                have SK14 : Hid (Skt w14 p q As cs a gg gl AA cc (m : Int) (allOf LP f)) := Lib.hid (by rw [hw14]; exact SK13.out.below (below_drewN (Below.refl _ _) _))
                clear hw14 y1 y2 y3
                have x1 : w14.cell? ⟨w.heap.size, 0, none⟩ = some (.pointer (some ⟨p, 0, none⟩)) := by rw [M14.out.s.cell]; rfl
                have x2 := M14.out.s.free 0
                by_cases hd : docW a m LP f = l
                · have hb : (docW a m LP f == l) = true := by rw [hd]; simp
                  rw [hb]
                  have hRe := HRY.out HKE.out hd
                  subst hRe
                  have he1 := M14.out.e.far (p := ⟨w.heap.size, 0, none⟩) (by simp) (.pointer (some ⟨p, 0, none⟩))
                  have x3 : (w14.setCell ⟨w.heap.size, 0, none⟩ (.pointer (some ⟨p, 0, none⟩))).cell? ⟨w.heap.size + 1, 0, none⟩ = some (.int .i64 0) := by rw [he1.cell]; rfl
                  have x4 := he1.free 0
                  have M15 : Hid (RdS w ((w14.setCell ⟨w.heap.size, 0, none⟩ (.pointer (some ⟨p, 0, none⟩))).setCell ⟨w.heap.size + 1, 0, none⟩ (.int .i64 0)) (.pointer (some ⟨p, 0, none⟩)) 0) := Lib.hid ⟨(M14.out.s.put 0 (.pointer (some ⟨p, 0, none⟩))).far (p := ⟨w.heap.size + 1, 0, none⟩) (by simp) _, he1.put 0 _, (M14.out.below.setCell (by simp) _).setCell (by simp) _⟩
                  have SK15 := Lib.hid ((SK14.out.set M14.out.s (by decide) (by decide) (by decide) (by decide) (by decide) (by decide) 0 (.pointer (some ⟨p, 0, none⟩))).set he1 (by decide) (by decide) (by decide) (by decide) (by decide) (by decide) 0 (.int .i64 0))
                  clear hd hb he1
                  go_wp2_with fail
                  exact rd_back M15.out _ rfl rfl _ ⟨p, q, As, cs, gg, gl, AA, cc, rfl, SK15.out, M15.out.below⟩
                · have hb : (docW a m LP f == l) = false := by simpa using hd
                  rw [hb]
                  have hRe := HRX.out (fun hh => hd hh.2)
                  subst hRe
                  have he1 := M14.out.e.far (p := ⟨w.heap.size, 0, none⟩) (by simp) (.pointer none)
                  have x3 : (w14.setCell ⟨w.heap.size, 0, none⟩ (.pointer none)).cell? ⟨w.heap.size + 1, 0, none⟩ = some (.int .i64 0) := by rw [he1.cell]; rfl
                  have x4 := he1.free 0
                  have M15 : Hid (RdS w ((w14.setCell ⟨w.heap.size, 0, none⟩ (.pointer none)).setCell ⟨w.heap.size + 1, 0, none⟩ (.int .i64 9)) (.pointer none) 9) := Lib.hid ⟨(M14.out.s.put 0 (.pointer none)).far (p := ⟨w.heap.size + 1, 0, none⟩) (by simp) _, he1.put 0 _, (M14.out.below.setCell (by simp) _).setCell (by simp) _⟩
                  clear hd hb he1
                  go_wp2_with fail
                  exact rd_no M15.out (by decide) _ rfl rfl _ (fun W' hW => ⟨rfl, hW⟩)
              · have hRe := HRX.out (fun hh => hnk hh.1)
                subst hRe
                have m10 := M9.out.next b10
                have x1 : w10.cell? ⟨w.heap.size, 0, none⟩ = some (.pointer none) := by rw [m10.s.cell]; rfl
                have x2 := m10.s.free 0
                have he1 := m10.e.far (p := ⟨w.heap.size, 0, none⟩) (by simp) (.pointer none)
                have x3 : (w10.setCell ⟨w.heap.size, 0, none⟩ (.pointer none)).cell? ⟨w.heap.size + 1, 0, none⟩ = some (.int .i64 0) := by rw [he1.cell]; rfl
                have x4 := he1.free 0
                have m11 : RdS w ((w10.setCell ⟨w.heap.size, 0, none⟩ (.pointer none)).setCell ⟨w.heap.size + 1, 0, none⟩ (.int .i64 1)) (.pointer none) 1 := ⟨(m10.s.put 0 (.pointer none)).far (p := ⟨w.heap.size + 1, 0, none⟩) (by simp) _, he1.put 0 _, (m10.below.setCell (by simp) _).setCell (by simp) _⟩
                have x5 : ((w10.setCell ⟨w.heap.size, 0, none⟩ (.pointer none)).setCell ⟨w.heap.size + 1, 0, none⟩ (.int .i64 1)).cell? ⟨w.heap.size + 1, 0, none⟩ = some (.int .i64 1) := by rw [m11.e.cell]; rfl
                have M11 := Lib.hid m11
                clear m10 he1 m11 hnk b10
                go_wp2_with fail
                refine wp_region_noPanic ?_
                refine wp_region_held_drew (S := (fun W => W.cell? ⟨w.heap.size + 1, 0, none⟩ = some (.int .i64 1) ∧ RdS w W (.pointer none) 1)) (by kernel_rfl) ⟨x5, ⟨M11.out.s, M11.out.e, M11.out.below.drew⟩⟩ (fun hHeld => ?_)
                refine wpAnyH_take (i := 0) (oi := ?_) (v := ?_) ?_ ?_ ?_ ?_ ?_ ?_ ?_ ?_
                rotate_left 2
                · simp only [List.getElem?_toArray, List.getElem?_cons_zero]; rfl
                · kernel_rfl
                · kernel_rfl
                · kernel_rfl
                · exact fun _ _ _ h => h
                · exact Or.inl ⟨by kernel_rfl, by intro w hSw; (try dsimp only at hSw); go_simp; try with_reducible rfl⟩
                · assumption
                try go_simp
                refine wpAnyH_ready (rs := [1]) (by kernel_rfl) (by simp) ?_
                refine AllReadyH.cons (o := ?_) ?_ ?_ AllReadyH.nil
                rotate_left 1
                · simp only [List.getElem?_toArray, List.getElem?_cons_succ, List.getElem?_cons_zero]; rfl
                intro K hK
                have q1 := hHeld.2.s.cell 0
                have q2 := hHeld.2.s.free 0
                simp only [List.getElem?_toArray, List.getElem?_cons_zero] at q1
                go_simp
                refine hK.out _ _ ?_ (fun hHeld => ?_)
                · have hq := hHeld.2.e.far (p := ⟨w.heap.size, 0, none⟩) (by simp) (.pointer none); exact rd_held ⟨hHeld.2.s.put 0 _, hq, hHeld.2.below.setCell (by simp) _⟩
                clear hK K q1 q2
                try go_simp
                refine wpAnyH_ready (rs := [2]) (by kernel_rfl) (by simp) ?_
                refine AllReadyH.cons (o := ?_) ?_ ?_ AllReadyH.nil
                rotate_left 1
                · simp only [List.getElem?_toArray, List.getElem?_cons_succ, List.getElem?_cons_zero]; rfl
                intro K hK
                have q1 := hHeld.2.e.cell 0
                have q2 := hHeld.2.e.free 0
                simp only [List.getElem?_toArray, List.getElem?_cons_zero] at q1
                go_simp
                refine hK.out _ _ ?_ (fun hHeld => ?_)
                · have hq := hHeld.2.e.put 0 (.int .i64 1); exact rd_held ⟨hHeld.2.s.far (p := ⟨w.heap.size + 1, 0, none⟩) (by simp) _, hq, hHeld.2.below.setCell (by simp) _⟩
                clear hK K q1 q2
                try go_simp
                refine wpAnyH_done (by kernel_rfl) ?_ _
                refine NoPanic.normal ?_
                go_wp2_with fail
                exact rd_no hHeld.2 (by decide) _ rfl rfl _ (fun W' hW => ⟨rfl, hW⟩)
            · have hRe : R = none := by
                rw [HR.out]; unfold readF; rw [← HR1.out]; dsimp only; rw [← HR2.out]; dsimp only; rw [← HR3.out]; dsimp only; rw [← HR4.out]; dsimp only; rw [← HR5.out]; dsimp only
                rw [if_neg (fun hh => hk0 (by have := HK.out; omega))]
              subst hRe
              have hkp : decide ((0 : Int) < (k : Int)) = true := by simp; omega
              have hkp2 : decide (0 < k) = true := by simp; omega
              have x1 : w9.cell? ⟨w.heap.size, 0, none⟩ = some (.pointer none) := by rw [M9.out.s.cell]; rfl
              have x2 := M9.out.s.free 0
              have he1 := M9.out.e.far (p := ⟨w.heap.size, 0, none⟩) (by simp) (.pointer none)
              have x3 : (w9.setCell ⟨w.heap.size, 0, none⟩ (.pointer none)).cell? ⟨w.heap.size + 1, 0, none⟩ = some (.int .i64 0) := by rw [he1.cell]; rfl
              have x4 := he1.free 0
              have M10 : Hid (RdS w ((w9.setCell ⟨w.heap.size, 0, none⟩ (.pointer none)).setCell ⟨w.heap.size + 1, 0, none⟩ (.int .i64 9)) (.pointer none) 9) := Lib.hid ⟨(M9.out.s.put 0 (.pointer none)).far (p := ⟨w.heap.size + 1, 0, none⟩) (by simp) _, he1.put 0 _, (M9.out.below.setCell (by simp) _).setCell (by simp) _⟩
              clear hk0 he1
              go_wp2_with fail
              exact rd_no M10.out (by decide) _ rfl rfl _ (fun W' hW => ⟨rfl, hW⟩)
end Go.Proofs.Ytbfhiegbgkkgiaa
