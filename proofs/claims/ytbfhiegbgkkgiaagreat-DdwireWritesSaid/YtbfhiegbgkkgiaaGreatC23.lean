/- What bytes begin with: read, walked. -/
import Derived.Test.YtbfhiegbgkkgiaaGreatC22
import Derived.Outline
import Derived.Deep.RegionHeld3
import Derived.Laws.EntriesVeiled
namespace Go.Proofs.YtbfhiegbgkkgiaaGreat
open Go.RowKit
open Pl
open Sc
open Wi
/-- A number from least to greatest, and where the reader stands then. -/
def numF (lo hi : Nat) (l : List UInt8) (p : Nat) : Option (Nat × Nat) :=
  if (dleb 0 0 (l.drop p)).1 = 0 ∧ lo ≤ (dleb 0 0 (l.drop p)).2.1 ∧ (dleb 0 0 (l.drop p)).2.1 ≤ hi then some ((dleb 0 0 (l.drop p)).2.1, p + (dleb 0 0 (l.drop p)).2.2) else none
theorem numF_some {lo hi n p' : Nat} {l : List UInt8} {p : Nat} (h : numF lo hi l p = some (n, p')) (hp : p ≤ l.length) : lo ≤ n ∧ n ≤ hi ∧ p < p' ∧ p' ≤ l.length := by
  unfold numF at h
  split at h
  · rename_i hc
    obtain ⟨h0, h1, h2⟩ := hc
    injection h with h
    injection h with h3 h4
    have hu := dleb_used (l.drop p) 0 0 h0
    rw [List.length_drop] at hu
    omega
  · cases h
def NumPost (base g : Nat) (A : Option Addr) (c : Nat) (l : List UInt8) (w : World) (r : Option (Nat × Nat)) (e : Ending) (w' : World) : Prop := match r with
  | some (n, p') => e = .returned (.int .u64 (n : Nat)) ∧ Rdr w' base g A c l p' ∧ Only (RK g) w w'
  | none => e = .panicked gone ∧ Only (RK g) w w'
theorem num_t (base g : Nat) (A : Option Addr) (c : Nat) (l : List UInt8) (p lo hi : Nat) (w : World) (h : Rdr w base g A c l p) (hp : p ≤ l.length) (hl : l.length ≤ 100000000) :
    Calls Tryz.prog 33 #[.agg #[nextV g], .int .u8 118, .int .u64 (lo : Int), .int .u64 (hi : Int)] w (NumPost base g A c l w (numF lo hi l p)) := by
  unfold numF
  split
  · rename_i hc
    exact num_ok base g A c l p lo hi _ _ w h hp hl (Prod.ext hc.1 (Prod.ext rfl rfl)) hc.2.1 hc.2.2
  · rename_i hc
    exact num_no base g A c l p lo hi _ w h hp hl rfl (by
      by_cases h0 : (dleb 0 0 (l.drop p)).1 = 0
      · right
        by_cases h1 : (dleb 0 0 (l.drop p)).2.1 < lo
        · exact .inl h1
        · exact .inr (by
            by_cases h2 : hi < (dleb 0 0 (l.drop p)).2.1
            · exact h2
            · exact absurd ⟨h0, by omega, by omega⟩ hc)
      · exact .inl h0)
/-- The results of Peek, while it runs. -/
structure PkS (w W : World) (x y z : Int) : Prop where
  a : Blk W w.heap.size 3 #[.int .i64 x]
  m : Blk W (w.heap.size + 1) 3 #[.int .i64 y]
  e : Blk W (w.heap.size + 1 + 1) 30 #[.int .i64 z]
  below : Below w.heap.size w W
theorem PkS.step {w W W' : World} {x y z : Int} {base g : Nat} {A : Option Addr} {c : Nat} {l : List UInt8} {p : Nat} (h : PkS w W x y z) (hr : Rdr W base g A c l p) (hg : w.heap.size ≤ g) (k : Only (RK g) W W') : PkS w W' x y z :=
  ⟨h.a.only k (fun e => Blk.ne h.a hr.1 (by decide) e), h.m.only k (fun e => Blk.ne h.m hr.1 (by decide) e), h.e.only k (fun e => Blk.ne h.e hr.1 (by decide) e), h.below.trans (k.below h.below.size (fun i hi => by unfold RK at hi; omega))⟩
theorem PkS.next {w W W' : World} {x y z : Int} (h : PkS w W x y z) (k : Below W.heap.size W W') : PkS w W' x y z :=
  ⟨h.a.below k h.a.lt, h.m.below k h.m.lt, h.e.below k h.e.lt, h.below.trans (k.mono h.below.size)⟩
theorem pk_held {w W : World} {x y z : Int} (h : PkS w W x y z) : W.cell? ⟨w.heap.size, 0, none⟩ = some (.int .i64 x) ∧ W.cell? ⟨w.heap.size + 1, 0, none⟩ = some (.int .i64 y) ∧ PkS w W x y z :=
  ⟨by rw [h.a.cell]; rfl, by rw [h.m.cell]; rfl, h⟩
def pkD (n : Nat) : List Deferred := [{ target := .fn (Fn.func 30) #[], args := #[.pointer (some ⟨n + 1 + 1, 0, none⟩)] },
  { target := .fn (Fn.func 43) #[.pointer (some ⟨n + 1 + 1, 0, none⟩), .pointer (some ⟨n, 0, none⟩), .pointer (some ⟨n + 1, 0, none⟩)], args := #[] }]
theorem pk_end {w W : World} {x y z : Int} (h : PkS w W x y z) (tmps : Array Value) (h2 : tmps.getD 2 undef = .pointer (some ⟨w.heap.size, 0, none⟩)) (h3 : tmps.getD 3 undef = .pointer (some ⟨w.heap.size + 1, 0, none⟩)) (h4 : tmps.getD 4 undef = .pointer (some ⟨w.heap.size + 1 + 1, 0, none⟩)) (R : Ending → World → Prop)
    (hR : R (.returned (.tuple #[.int .i64 x, .int .i64 y, .int .i64 z])) W) : Leaves Tryz.prog Tryz.f15 tmps R [] .returning W := by
  have ca : W.cell? ⟨w.heap.size, 0, none⟩ = some (.int .i64 x) := by rw [h.a.cell]; rfl
  have cm : W.cell? ⟨w.heap.size + 1, 0, none⟩ = some (.int .i64 y) := by rw [h.m.cell]; rfl
  have ce : W.cell? ⟨w.heap.size + 1 + 1, 0, none⟩ = some (.int .i64 z) := by rw [h.e.cell]; rfl
  simp only [Array.getD_eq_getD_getElem?] at h2 h3 h4
  refine ⟨_, ?_, hR⟩
  simp only [results, Tryz.results15]
  simp [go_sem, h2, h3, h4, ca, cm, ce]
theorem pk_gone {w W : World} {x y : Int} (h : PkS w W x y 0) (tmps : Array Value) (h2 : tmps.getD 2 undef = .pointer (some ⟨w.heap.size, 0, none⟩)) (h3 : tmps.getD 3 undef = .pointer (some ⟨w.heap.size + 1, 0, none⟩)) (h4 : tmps.getD 4 undef = .pointer (some ⟨w.heap.size + 1 + 1, 0, none⟩)) (R : Ending → World → Prop)
    (hR : ∀ W', Below w.heap.size w W' → R (.returned (.tuple #[.int .i64 0, .int .i64 0, .int .i64 9])) W') : Leaves Tryz.prog Tryz.f15 tmps R (pkD w.heap.size) (.panicking gone) W := by
  unfold pkD
  refine leaves_cons (f := 30) (args := #[.pointer (some ⟨w.heap.size + 1 + 1, 0, none⟩)]) (by simp) (by simp [go_sem]) ?_
  refine (caught_gone _ 0 W h.e).mono ?_
  rintro e u' w' ⟨rfl, rfl, rfl⟩
  refine leaves_cons (f := 43) (args := #[.pointer (some ⟨w.heap.size + 1 + 1, 0, none⟩), .pointer (some ⟨w.heap.size, 0, none⟩), .pointer (some ⟨w.heap.size + 1, 0, none⟩)]) (by simp [settle]) (by simp [go_sem]) ?_
  have h5 := h.next ((Below.refl W.heap.size W).alloc (Nat.le_refl _) (.cells #[] 115))
  have he := h5.e.put 0 (.int .i64 9)
  have ha := h5.a.far (p := ⟨w.heap.size + 1 + 1, 0, none⟩) (by dsimp only; omega) (.int .i64 9)
  have hm := h5.m.far (p := ⟨w.heap.size + 1 + 1, 0, none⟩) (by simp) (.int .i64 9)
  refine (peek1_no (w.heap.size + 1 + 1) w.heap.size (w.heap.size + 1) 9 x y _ he (by decide) ha hm (by omega)).mono ?_
  rintro e u' w' ⟨rfl, rfl, rfl⟩
  have hbb := h5.below
  refine pk_end (x := 0) (y := 0) (z := 9) ⟨?_, ?_, ?_, ?_⟩ tmps h2 h3 h4 R (hR _ ?_)
  · exact (ha.put 0 (.int .i64 0)).far (p := ⟨w.heap.size + 1, 0, none⟩) (by simp) _
  · exact (hm.far (p := ⟨w.heap.size, 0, none⟩) (by simp) _).put 0 (.int .i64 0)
  · exact (he.far (p := ⟨w.heap.size, 0, none⟩) (by simp; omega) _).far (p := ⟨w.heap.size + 1, 0, none⟩) (by simp) _
  · exact ((hbb.setCell (by simp; omega) _).setCell (by simp) _).setCell (by simp) _
  · exact ((hbb.setCell (by simp; omega) _).setCell (by simp) _).setCell (by simp) _
theorem pk_back {w W : World} {x y : Int} (h : PkS w W x y 0) (tmps : Array Value) (h2 : tmps.getD 2 undef = .pointer (some ⟨w.heap.size, 0, none⟩)) (h3 : tmps.getD 3 undef = .pointer (some ⟨w.heap.size + 1, 0, none⟩)) (h4 : tmps.getD 4 undef = .pointer (some ⟨w.heap.size + 1 + 1, 0, none⟩)) (R : Ending → World → Prop)
    (hR : R (.returned (.tuple #[.int .i64 x, .int .i64 y, .int .i64 0])) W) : Leaves Tryz.prog Tryz.f15 tmps R (pkD w.heap.size) .returning W := by
  unfold pkD
  refine leaves_cons (f := 30) (args := #[.pointer (some ⟨w.heap.size + 1 + 1, 0, none⟩)]) (by simp) (by simp [go_sem]) ?_
  refine (caught_idle _ W).mono ?_
  rintro e u' w' ⟨rfl, rfl, rfl⟩
  refine leaves_cons (f := 43) (args := #[.pointer (some ⟨w.heap.size + 1 + 1, 0, none⟩), .pointer (some ⟨w.heap.size, 0, none⟩), .pointer (some ⟨w.heap.size + 1, 0, none⟩)]) (by simp [settle]) (by simp [go_sem]) ?_
  refine (peek1_ok _ _ _ w' h.e).mono ?_
  rintro e u' w'' ⟨rfl, rfl, rfl⟩
  exact pk_end h tmps h2 h3 h4 R hR
def peekF (l : List UInt8) : Option (Nat × Nat) := match numF 100 5000 l 0 with
  | some (a, p) => (match numF 2 4096 l p with
    | some (m, _) => some (a, m)
    | none => none)
  | none => none
def peekR : Option (Nat × Nat) → Array Value
  | some (a, m) => #[.int .i64 (a : Nat), .int .i64 (m : Nat), .int .i64 0]
  | none => #[.int .i64 0, .int .i64 0, .int .i64 9]
set_option maxHeartbeats 1600000 in
set_option maxRecDepth 100000 in
theorem peek_t (A : Option Addr) (c : Nat) (l : List UInt8) (w : World) (hb : Bts w w.heap.size A l) (hl : l.length ≤ 100000000) :
    Calls Tryz.prog 15 #[.slice A l.length c] w fun e w' => e = .returned (.tuple (peekR (peekF l))) ∧ Below w.heap.size w w' := by
  have HNEW := Lib.hid (fun W (hb : Bts W W.heap.size A l) => new_t A c l W hb hl)
  have HN1 := Lib.hid (fun W base g A c (h : Rdr W base g A c l 0) => num_t base g A c l 0 100 5000 W h (Nat.zero_le _) hl)
  have HN2 := Lib.hid (fun W base g A c p (h : Rdr W base g A c l p) (hp : p ≤ l.length) => num_t base g A c l p 2 4096 W h hp hl)
  have HB := Lib.hid hb
  have hmf : ∀ (fn : Fn) (first cap : Array Value) (w : World), (Instr.makeFunc fn first cap).run Tryz.prog w = .ok (.func fn first cap) w := fun _ _ _ _ => rfl
  have HF : Hid (∀ n p p', numF 2 4096 l p = some (n, p') → p ≤ l.length → 2 ≤ n ∧ n ≤ 4096) := Lib.hid (fun n p p' h hp => by have := numF_some h hp; omega)
  have HF0 : Hid (∀ n p', numF 100 5000 l 0 = some (n, p') → n ≤ 5000 ∧ p' ≤ l.length) := Lib.hid (fun n p' h => by have := numF_some h (Nat.zero_le _); omega)
  unfold peekF
  clear hb hl
  obtain ⟨r1, hr1⟩ : ∃ r, r = numF 100 5000 l 0 := ⟨_, rfl⟩
  rw [← hr1] at HN1 HF0 ⊢
  clear hr1
  cases r1 with
  | none =>
    go_enter_defers Tryz.func15, Tryz.ntmps15
    go_wp2_with fail
    have s0 : PkS w (((w.alloc (.cells #[.int .i64 0] 3)).alloc (.cells #[.int .i64 0] 3)).alloc (.cells #[.int .i64 0] 30)) 0 0 0 := by
      have h1 := Blk.new w 3 #[.int .i64 0]
      have h2 := Blk.new (w.alloc (.cells #[.int .i64 0] 3)) 3 #[.int .i64 0]
      have h3 := Blk.new ((w.alloc (.cells #[.int .i64 0] 3)).alloc (.cells #[.int .i64 0] 3)) 30 #[.int .i64 0]
      simp only [World.size_alloc] at h2 h3
      exact ⟨(h1.alloc _).alloc _, h2.alloc _, h3, (((Below.refl _ _).alloc (Nat.le_refl _) _).alloc (by simp) _).alloc (by simp; omega) _⟩
    refine (HNEW.out _ (HB.out.at_below s0.below)).mono ?_
    rintro e w2 ⟨g, A2, c2, rfl, hg, r2, b2⟩
    have S2 := Lib.hid (s0.next b2)
    have R2 := Lib.hid r2
    have HG : Hid (w.heap.size ≤ g) := Lib.hid (Nat.le_trans s0.below.size hg)
    clear s0 b2 r2 hg
    generalize (((w.alloc (.cells #[.int .i64 0] 3)).alloc (.cells #[.int .i64 0] 3)).alloc (.cells #[.int .i64 0] 30)) = W0 at *
    go_wp2_with fail
    have hb3 : Below w2.heap.size w2 (w2.alloc (.cells #[nextV g] 72)) := (Below.refl _ _).alloc (Nat.le_refl _) _
    have S3 := Lib.hid (S2.out.next hb3)
    have R3 := Lib.hid (R2.out.below hb3)
    have N3 := Lib.hid (Blk.new w2 72 #[nextV g])
    clear hb3 S2 R2
    refine (HN1.out _ _ _ _ _ R3.out).mono ?_
    rintro e w4 ⟨rfl, k4⟩
    exact pk_gone (S3.out.step R3.out HG.out k4) _ rfl rfl rfl _ (fun W' hW => ⟨rfl, hW⟩)
  | some r1 =>
    obtain ⟨a, p⟩ := r1
    obtain ⟨ha, hp⟩ := HF0.out a p rfl
    have HP := Lib.hid hp
    have ha' : (a : Int) ≤ 5000 := by omega
    dsimp only
    obtain ⟨r2, hr2⟩ : ∃ r, r = numF 2 4096 l p := ⟨_, rfl⟩
    have HN3 := Lib.hid (fun W base g A c (h : Rdr W base g A c l p) => HN2.out W base g A c p h HP.out)
    rw [← hr2] at HN3 ⊢
    have HR2 := Lib.hid hr2
    clear hr2 hp ha HN2
    cases r2 with
    | none =>
      go_enter_defers Tryz.func15, Tryz.ntmps15
      go_wp2_with fail
      have s0 : PkS w (((w.alloc (.cells #[.int .i64 0] 3)).alloc (.cells #[.int .i64 0] 3)).alloc (.cells #[.int .i64 0] 30)) 0 0 0 := by
        have h1 := Blk.new w 3 #[.int .i64 0]
        have h2 := Blk.new (w.alloc (.cells #[.int .i64 0] 3)) 3 #[.int .i64 0]
        have h3 := Blk.new ((w.alloc (.cells #[.int .i64 0] 3)).alloc (.cells #[.int .i64 0] 3)) 30 #[.int .i64 0]
        simp only [World.size_alloc] at h2 h3
        exact ⟨(h1.alloc _).alloc _, h2.alloc _, h3, (((Below.refl _ _).alloc (Nat.le_refl _) _).alloc (by simp) _).alloc (by simp; omega) _⟩
      refine (HNEW.out _ (HB.out.at_below s0.below)).mono ?_
      rintro e w2 ⟨g, A2, c2, rfl, hg, r2, b2⟩
      have S2 := Lib.hid (s0.next b2)
      have R2 := Lib.hid r2
      have HG : Hid (w.heap.size ≤ g) := Lib.hid (Nat.le_trans s0.below.size hg)
      clear s0 b2 r2 hg
      generalize (((w.alloc (.cells #[.int .i64 0] 3)).alloc (.cells #[.int .i64 0] 3)).alloc (.cells #[.int .i64 0] 30)) = W0 at *
      go_wp2_with fail
      have hb3 : Below w2.heap.size w2 (w2.alloc (.cells #[nextV g] 72)) := (Below.refl _ _).alloc (Nat.le_refl _) _
      have S3 := Lib.hid (S2.out.next hb3)
      have R3 := Lib.hid (R2.out.below hb3)
      have N3 := Lib.hid (Blk.new w2 72 #[nextV g])
      clear hb3 S2 R2
      refine (HN1.out _ _ _ _ _ R3.out).mono ?_
      rintro e w4 ⟨rfl, r4, k4⟩
      have S4 := S3.out.step R3.out HG.out k4
      have N4 : Blk w4 w2.heap.size 72 #[nextV g] := N3.out.only k4 (fun e => Blk.ne N3.out R3.out.1 (by decide) e)
      have x4 : w4.cell? ⟨w.heap.size, 0, none⟩ = some (.int .i64 0) := by rw [S4.a.cell]; rfl
      have y4 := S4.a.free 0
      have s5 : PkS w (w4.setCell ⟨w.heap.size, 0, none⟩ (.int .i64 (a : Nat))) (a : Nat) 0 0 := ⟨S4.a.put 0 _, S4.m.far (p := ⟨w.heap.size, 0, none⟩) (by simp) _, S4.e.far (p := ⟨w.heap.size, 0, none⟩) (by dsimp only; omega) _, S4.below.setCell (by simp) _⟩
      have n5 : Blk (w4.setCell ⟨w.heap.size, 0, none⟩ (.int .i64 (a : Nat))) w2.heap.size 72 #[nextV g] := N4.far (p := ⟨w.heap.size, 0, none⟩) (fun e => Blk.ne N4 S4.a (by decide) e) _
      have r5 : Rdr (w4.setCell ⟨w.heap.size, 0, none⟩ (.int .i64 (a : Nat))) _ g A2 c2 l p := ⟨r4.1.far (p := ⟨w.heap.size, 0, none⟩) (fun e => Blk.ne r4.1 S4.a (by decide) e) _, Own.setOther r4.2 (p := ⟨w.heap.size, 0, none⟩) (Own.ne_blk r4.2 S4.a (by decide)) _⟩
      have z5 : (w4.setCell ⟨w.heap.size, 0, none⟩ (.int .i64 (a : Nat))).cell? ⟨w2.heap.size, 0, none⟩ = some (.func (Fn.func 32) #[.pointer (some ⟨g, 0, none⟩)] #[]) := by rw [n5.cell]; rfl
      have S5 := Lib.hid s5
      have R5 := Lib.hid r5
      clear S4 N4 r4 k4 R3 S3 N3 s5 n5 r5
      go_wp2_with fail
      refine (HN3.out _ _ _ _ _ R5.out).mono ?_
      rintro e w6 ⟨rfl, k6⟩
      exact pk_gone (S5.out.step R5.out HG.out k6) _ rfl rfl rfl _ (fun W' hW => ⟨rfl, hW⟩)
    | some r2 =>
      obtain ⟨m, p2⟩ := r2
      have hm' : (m : Int) ≤ 4096 := by have := HF.out m p p2 HR2.out.symm HP.out; omega
      clear HF
      go_enter_defers Tryz.func15, Tryz.ntmps15
      go_wp2_with fail
      have s0 : PkS w (((w.alloc (.cells #[.int .i64 0] 3)).alloc (.cells #[.int .i64 0] 3)).alloc (.cells #[.int .i64 0] 30)) 0 0 0 := by
        have h1 := Blk.new w 3 #[.int .i64 0]
        have h2 := Blk.new (w.alloc (.cells #[.int .i64 0] 3)) 3 #[.int .i64 0]
        have h3 := Blk.new ((w.alloc (.cells #[.int .i64 0] 3)).alloc (.cells #[.int .i64 0] 3)) 30 #[.int .i64 0]
        simp only [World.size_alloc] at h2 h3
        exact ⟨(h1.alloc _).alloc _, h2.alloc _, h3, (((Below.refl _ _).alloc (Nat.le_refl _) _).alloc (by simp) _).alloc (by simp; omega) _⟩
      refine (HNEW.out _ (HB.out.at_below s0.below)).mono ?_
      rintro e w2 ⟨g, A2, c2, rfl, hg, r2, b2⟩
      have S2 := Lib.hid (s0.next b2)
      have R2 := Lib.hid r2
      have HG : Hid (w.heap.size ≤ g) := Lib.hid (Nat.le_trans s0.below.size hg)
      clear s0 b2 r2 hg
      generalize (((w.alloc (.cells #[.int .i64 0] 3)).alloc (.cells #[.int .i64 0] 3)).alloc (.cells #[.int .i64 0] 30)) = W0 at *
      go_wp2_with fail
      have hb3 : Below w2.heap.size w2 (w2.alloc (.cells #[nextV g] 72)) := (Below.refl _ _).alloc (Nat.le_refl _) _
      have S3 := Lib.hid (S2.out.next hb3)
      have R3 := Lib.hid (R2.out.below hb3)
      have N3 := Lib.hid (Blk.new w2 72 #[nextV g])
      clear hb3 S2 R2
      refine (HN1.out _ _ _ _ _ R3.out).mono ?_
      rintro e w4 ⟨rfl, r4, k4⟩
      have S4 := S3.out.step R3.out HG.out k4
      have N4 : Blk w4 w2.heap.size 72 #[nextV g] := N3.out.only k4 (fun e => Blk.ne N3.out R3.out.1 (by decide) e)
      have x4 : w4.cell? ⟨w.heap.size, 0, none⟩ = some (.int .i64 0) := by rw [S4.a.cell]; rfl
      have y4 := S4.a.free 0
      have s5 : PkS w (w4.setCell ⟨w.heap.size, 0, none⟩ (.int .i64 (a : Nat))) (a : Nat) 0 0 := ⟨S4.a.put 0 _, S4.m.far (p := ⟨w.heap.size, 0, none⟩) (by simp) _, S4.e.far (p := ⟨w.heap.size, 0, none⟩) (by dsimp only; omega) _, S4.below.setCell (by simp) _⟩
      have n5 : Blk (w4.setCell ⟨w.heap.size, 0, none⟩ (.int .i64 (a : Nat))) w2.heap.size 72 #[nextV g] := N4.far (p := ⟨w.heap.size, 0, none⟩) (fun e => Blk.ne N4 S4.a (by decide) e) _
      have r5 : Rdr (w4.setCell ⟨w.heap.size, 0, none⟩ (.int .i64 (a : Nat))) _ g A2 c2 l p := ⟨r4.1.far (p := ⟨w.heap.size, 0, none⟩) (fun e => Blk.ne r4.1 S4.a (by decide) e) _, Own.setOther r4.2 (p := ⟨w.heap.size, 0, none⟩) (Own.ne_blk r4.2 S4.a (by decide)) _⟩
      have z5 : (w4.setCell ⟨w.heap.size, 0, none⟩ (.int .i64 (a : Nat))).cell? ⟨w2.heap.size, 0, none⟩ = some (.func (Fn.func 32) #[.pointer (some ⟨g, 0, none⟩)] #[]) := by rw [n5.cell]; rfl
      have S5 := Lib.hid s5
      have R5 := Lib.hid r5
      clear S4 N4 r4 k4 R3 S3 N3 s5 n5 r5
      go_wp2_with fail
      refine (HN3.out _ _ _ _ _ R5.out).mono ?_
      rintro e w6 ⟨rfl, r6, k6⟩
      have S6 := S5.out.step R5.out HG.out k6
      have x6 : w6.cell? ⟨w.heap.size + 1, 0, none⟩ = some (.int .i64 0) := by rw [S6.m.cell]; rfl
      have y6 := S6.m.free 0
      have s7 : PkS w (w6.setCell ⟨w.heap.size + 1, 0, none⟩ (.int .i64 (m : Nat))) (a : Nat) (m : Nat) 0 := ⟨S6.a.far (p := ⟨w.heap.size + 1, 0, none⟩) (by simp) _, S6.m.put 0 _, S6.e.far (p := ⟨w.heap.size + 1, 0, none⟩) (by simp) _, S6.below.setCell (by simp) _⟩
      have x7 : (w6.setCell ⟨w.heap.size + 1, 0, none⟩ (.int .i64 (m : Nat))).cell? ⟨w.heap.size, 0, none⟩ = some (.int .i64 (a : Nat)) := by rw [s7.a.cell]; rfl
      have y7 : (w6.setCell ⟨w.heap.size + 1, 0, none⟩ (.int .i64 (m : Nat))).cell? ⟨w.heap.size + 1, 0, none⟩ = some (.int .i64 (m : Nat)) := by rw [s7.m.cell]; rfl
      have S7 := Lib.hid s7
      clear S6 s7 r6 k6 S5 R5
      go_wp2_with fail
      clear x7 y7 x6 y6
      refine wp_region_noPanic ?_
      refine wp_region_held_drew (S := (fun W => W.cell? ⟨w.heap.size, 0, none⟩ = some (.int .i64 (a : Nat)) ∧ W.cell? ⟨w.heap.size + 1, 0, none⟩ = some (.int .i64 (m : Nat)) ∧ PkS w W (a : Nat) (m : Nat) 0)) (by kernel_rfl) (pk_held ⟨S7.out.a, S7.out.m, S7.out.e, S7.out.below.drew⟩) (fun hHeld => ?_)
      refine wpAnyH_take (i := 0) (oi := ?_) (v := ?_) ?_ ?_ ?_ ?_ ?_ ?_ ?_ ?_
      rotate_left 2
      · simp only [List.getElem?_toArray, List.getElem?_cons_zero]; rfl
      · kernel_rfl
      · kernel_rfl
      · kernel_rfl
      · exact fun _ _ _ h => h
      · exact Or.inl ⟨by kernel_rfl, by intro w hSw; (try dsimp only at hSw); go_simp; try with_reducible rfl⟩
      · assumption
      try go_simp
      refine wpAnyH_take (i := 1) (oi := ?_) (v := ?_) ?_ ?_ ?_ ?_ ?_ ?_ ?_ ?_
      rotate_left 2
      · simp only [List.getElem?_toArray, List.getElem?_cons_succ, List.getElem?_cons_zero]; rfl
      · kernel_rfl
      · kernel_rfl
      · kernel_rfl
      · exact fun _ _ _ h => h
      · exact Or.inl ⟨by kernel_rfl, by intro w hSw; (try dsimp only at hSw); go_simp; try with_reducible rfl⟩
      · assumption
      try go_simp
      refine wpAnyH_ready (rs := [2]) (by kernel_rfl) (by simp) ?_
      refine AllReadyH.cons (o := ?_) ?_ ?_ AllReadyH.nil
      rotate_left 1
      · simp only [List.getElem?_toArray, List.getElem?_cons_succ, List.getElem?_cons_zero]; rfl
      intro K hK
      have q1 := hHeld.2.2.a.cell 0
      have q2 := hHeld.2.2.a.free 0
      simp only [List.getElem?_toArray, List.getElem?_cons_zero] at q1
      go_simp
      refine hK.out _ _ ?_ (fun hHeld => ?_)
      · exact pk_held ⟨hHeld.2.2.a.put 0 _, hHeld.2.2.m.far (p := ⟨w.heap.size, 0, none⟩) (by simp) _, hHeld.2.2.e.far (p := ⟨w.heap.size, 0, none⟩) (by dsimp only; omega) _, hHeld.2.2.below.setCell (by simp) _⟩
      clear hK K q1 q2
      try go_simp
      refine wpAnyH_ready (rs := [3]) (by kernel_rfl) (by simp) ?_
      refine AllReadyH.cons (o := ?_) ?_ ?_ AllReadyH.nil
      rotate_left 1
      · simp only [List.getElem?_toArray, List.getElem?_cons_succ, List.getElem?_cons_zero]; rfl
      intro K hK
      have q1 := hHeld.2.2.m.cell 0
      have q2 := hHeld.2.2.m.free 0
      simp only [List.getElem?_toArray, List.getElem?_cons_zero] at q1
      go_simp
      refine hK.out _ _ ?_ (fun hHeld => ?_)
      · exact pk_held ⟨hHeld.2.2.a.far (p := ⟨w.heap.size + 1, 0, none⟩) (by simp) _, hHeld.2.2.m.put 0 _, hHeld.2.2.e.far (p := ⟨w.heap.size + 1, 0, none⟩) (by simp) _, hHeld.2.2.below.setCell (by simp) _⟩
      clear hK K q1 q2
      try go_simp
      refine wpAnyH_ready (rs := [4]) (by kernel_rfl) (by simp) ?_
      refine AllReadyH.cons (o := ?_) ?_ ?_ AllReadyH.nil
      rotate_left 1
      · simp only [List.getElem?_toArray, List.getElem?_cons_succ, List.getElem?_cons_zero]; rfl
      intro K hK
      have q1 := hHeld.2.2.e.cell 0
      have q2 := hHeld.2.2.e.free 0
      simp only [List.getElem?_toArray, List.getElem?_cons_zero] at q1
      go_simp
      refine hK.out _ _ ?_ (fun hHeld => ?_)
      · exact pk_held ⟨hHeld.2.2.a.far (p := ⟨w.heap.size + 1 + 1, 0, none⟩) (by dsimp only; omega) _, hHeld.2.2.m.far (p := ⟨w.heap.size + 1 + 1, 0, none⟩) (by simp) _, hHeld.2.2.e.put 0 _, hHeld.2.2.below.setCell (by dsimp only; omega) _⟩
      clear hK K q1 q2
      try go_simp
      refine wpAnyH_done (by kernel_rfl) ?_ _
      refine NoPanic.normal ?_
      go_wp2_with fail
      exact pk_back hHeld.2.2 _ rfl rfl rfl _ ⟨rfl, hHeld.2.2.below⟩
end Go.Proofs.YtbfhiegbgkkgiaaGreat
