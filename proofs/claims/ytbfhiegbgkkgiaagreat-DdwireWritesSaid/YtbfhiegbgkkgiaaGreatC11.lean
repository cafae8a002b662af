/- Stores with a budget: what is counted in one go, and cut, walked. -/
import Derived.Test.YtbfhiegbgkkgiaaGreatC10
import Derived.Deep.RegionHeld3
import Derived.Deep.DeepCutAuto
import Derived.Deep.CutBlock
import Derived.LoopN
import Derived.Laws.Rows
import Derived.Outline
namespace Go.Proofs.YtbfhiegbgkkgiaaGreat
open Go.RowKit
open Pl
theorem Lst.ne_blk {w : World} {g i c : Nat} {A : Option Addr} {L : List Pr} {t : TypeId} {cs : Array Value} (h : Lst w g A c L) (hb : Blk w i t cs) (h1 : t ≠ 138) (h2 : t ≠ 64) : ¬ LK g A i := fun e => by
  rcases e with rfl | e
  · exact absurd rfl (Blk.ne hb h.1 h1)
  · exact Own.ne_blk (show Own w g 64 2 A L.length c (pcs L) from h.2) hb (fun e => h2 e.symm) e
/-- What the closure of an act leaves: the list at gl holds L' now. -/
def Did (gl : Nat) (A : Option Addr) (L' : List Pr) (er : Int) (w : World) (e : Ending) (w' : World) : Prop := e = .returned (.int .i64 er) ∧ ∃ A' c', Acted gl A L' w w' A' c'
set_option maxRecDepth 100000 in
set_option maxHeartbeats 1600000 in
theorem addc_t (g gl p : Nat) (A : Option Addr) (c : Nat) (C : List Pr) (m : Int) (f : Nat) (k : Int) (n : Nat) (w : World) (hb : Blk w g 130 #[.int .i64 m, .pointer (some ⟨gl, 0, none⟩), .int .u64 (f : Nat)]) (hl : Lst w gl A c C) (hf : Fine C)
    (p0 : Blk w p 79 #[.pointer (some ⟨g, 0, none⟩)]) (p1 : Blk w (p + 1) 3 #[.int .i64 k]) (p2 : Blk w (p + 1 + 1) 39 #[.int .u64 (n : Nat)]) :
    Calls Tryz.prog 76 #[.pointer (some ⟨p, 0, none⟩), .pointer (some ⟨p + 1, 0, none⟩), .pointer (some ⟨p + 1 + 1, 0, none⟩)] w (Did gl A (radd C k n 0).1 (radd C k n 0).2 w) := by
  have HAD := Lib.hid (fun W h => add_t gl A c C k n W h hf)
  have d0 : w.cell? ⟨p, 0, none⟩ = some (.pointer (some ⟨g, 0, none⟩)) := by rw [p0.cell]; rfl
  have d1 : w.cell? ⟨p + 1, 0, none⟩ = some (.int .i64 k) := by rw [p1.cell]; rfl
  have d2 : w.cell? ⟨p + 1 + 1, 0, none⟩ = some (.int .u64 (n : Nat)) := by rw [p2.cell]; rfl
  have dg : w.cell? ⟨g, 1, none⟩ = some (.pointer (some ⟨gl, 0, none⟩)) := by rw [hb.cell]; rfl
  have HL := Lib.hid hl
  have HPB := Lib.hid (And.intro hb (And.intro p0 (And.intro p1 p2)))
  generalize radd C k n 0 = R at *
  clear hb hl hf p0 p1 p2
  go_enter Tryz.func76, Tryz.ntmps76
  go_wp2_with fail
  refine wp_region_noPanic ?_
  refine wp_region_held_drew (S := (fun w' => w'.cell? ⟨p, 0, none⟩ = some (.pointer (some ⟨g, 0, none⟩)) ∧ w'.cell? ⟨g, 1, none⟩ = some (.pointer (some ⟨gl, 0, none⟩)) ∧ w'.cell? ⟨p + 1, 0, none⟩ = some (.int .i64 k) ∧ w'.cell? ⟨p + 1 + 1, 0, none⟩ = some (.int .u64 (n : Nat)))) (by kernel_rfl) ⟨d0, dg, d1, d2⟩ (fun hHeld => ?_)
  refine wpAnyH_take (i := 0) (oi := ?_) (v := ?_) ?_ ?_ ?_ ?_ ?_ ?_ ?_ ?_
  rotate_left 2
  · simp only [List.getElem?_toArray, List.getElem?_cons_zero]; rfl
  · kernel_rfl
  · kernel_rfl
  · kernel_rfl
  · exact fun _ _ _ h => h
  · exact Or.inl ⟨by kernel_rfl, by intro w hSw; (try dsimp only at hSw); go_simp; try with_reducible rfl⟩
  · assumption
  try go_simp
  refine wpAnyH_take (i := 1) (oi := ?_) (v := ?_) ?_ ?_ ?_ ?_ ?_ ?_ ?_ ?_
  rotate_left 2
  · simp only [List.getElem?_toArray, List.getElem?_cons_succ, List.getElem?_cons_zero]; rfl
  · kernel_rfl
  · kernel_rfl
  · kernel_rfl
  · exact fun _ _ _ h => h
  · exact Or.inl ⟨by kernel_rfl, by intro w hSw; (try dsimp only at hSw); go_simp; try with_reducible rfl⟩
  · assumption
  try go_simp
  refine wpAnyH_take (i := 2) (oi := ?_) (v := ?_) ?_ ?_ ?_ ?_ ?_ ?_ ?_ ?_
  rotate_left 2
  · simp only [List.getElem?_toArray, List.getElem?_cons_succ, List.getElem?_cons_zero]; rfl
  · kernel_rfl
  · kernel_rfl
  · kernel_rfl
  · exact fun _ _ _ h => h
  · exact Or.inl ⟨by kernel_rfl, by intro w hSw; (try dsimp only at hSw); go_simp; try with_reducible rfl⟩
  · assumption
  try go_simp
  refine wpAnyH_take (i := 3) (oi := ?_) (v := ?_) ?_ ?_ ?_ ?_ ?_ ?_ ?_ ?_
  rotate_left 2
  · simp only [List.getElem?_toArray, List.getElem?_cons_succ, List.getElem?_cons_zero]; rfl
  · kernel_rfl
  · kernel_rfl
  · kernel_rfl
  · exact fun _ _ _ h => h
  · exact Or.inl ⟨by kernel_rfl, by intro w hSw; (try dsimp only at hSw); go_simp; try with_reducible rfl⟩
  · assumption
  try go_simp
  refine wpAnyH_take (i := 4) (oi := ?_) (v := ?_) ?_ ?_ ?_ ?_ ?_ ?_ ?_ ?_
  rotate_left 2
  · simp only [List.getElem?_toArray, List.getElem?_cons_succ, List.getElem?_cons_zero]; rfl
  · kernel_rfl
  · kernel_rfl
  · kernel_rfl
  · exact fun _ _ _ h => h
  · exact Or.inl ⟨by kernel_rfl, by intro w hSw; (try dsimp only at hSw); go_simp; try with_reducible rfl⟩
  · assumption
  try go_simp
  refine wpAnyH_take (i := 5) (oi := ?_) (v := ?_) ?_ ?_ ?_ ?_ ?_ ?_ ?_ ?_
  rotate_left 2
  · simp only [List.getElem?_toArray, List.getElem?_cons_succ, List.getElem?_cons_zero]; rfl
  · kernel_rfl
  · kernel_rfl
  · kernel_rfl
  · exact fun _ _ _ h => h
  · exact Or.inl ⟨by kernel_rfl, by intro w hSw; (try dsimp only at hSw); go_simp; try with_reducible rfl⟩
  · assumption
  try go_simp
  refine wpAnyH_ready (rs := [6]) (by kernel_rfl) (by simp) ?_
  refine AllReadyH.cons (o := ?_) ?_ ?_ AllReadyH.nil
  rotate_left 1
  · simp only [List.getElem?_toArray, List.getElem?_cons_succ, List.getElem?_cons_zero]; rfl
  intro K hK
  go_simp
  refine (HAD.out _ (show Lst w.drew gl A c C from HL.out)).mono ?_
  rintro e w2 ⟨rfl, hc2⟩
  obtain ⟨A2, c2, hac⟩ := hc2.acted
  have ha2 : Acted gl A R.1 w w2 A2 c2 := ⟨hac.1, (Only.refl (LK gl A) w).drew.trans hac.2.1, hac.2.2⟩
  have e0 : w2.cell? ⟨p, 0, none⟩ = some (.pointer (some ⟨g, 0, none⟩)) := by rw [(HPB.out.2.1.only ha2.2.1 (HL.out.ne_blk HPB.out.2.1 (by decide) (by decide))).cell]; rfl
  have e1 : w2.cell? ⟨p + 1, 0, none⟩ = some (.int .i64 k) := by rw [(HPB.out.2.2.1.only ha2.2.1 (HL.out.ne_blk HPB.out.2.2.1 (by decide) (by decide))).cell]; rfl
  have e2 : w2.cell? ⟨p + 1 + 1, 0, none⟩ = some (.int .u64 (n : Nat)) := by rw [(HPB.out.2.2.2.only ha2.2.1 (HL.out.ne_blk HPB.out.2.2.2 (by decide) (by decide))).cell]; rfl
  have eg : w2.cell? ⟨g, 1, none⟩ = some (.pointer (some ⟨gl, 0, none⟩)) := by rw [(HPB.out.1.only ha2.2.1 (HL.out.ne_blk HPB.out.1 (by decide) (by decide))).cell]; rfl
  have HA2 := Lib.hid ha2
  clear hc2 hac ha2
  refine hK.out _ _ ?_ (fun hHeld => ?_)
  · exact ⟨e0, eg, e1, e2⟩
  clear hK K
  try go_simp
  refine wpAnyH_take (i := 7) (oi := ?_) (v := ?_) ?_ ?_ ?_ ?_ ?_ ?_ ?_ ?_
  rotate_left 2
  · simp only [List.getElem?_toArray, List.getElem?_cons_succ, List.getElem?_cons_zero]; rfl
  · kernel_rfl
  · kernel_rfl
  · kernel_rfl
  · exact fun _ _ _ h => h
  · exact Or.inl ⟨by kernel_rfl, by intro w hSw; (try dsimp only at hSw); go_simp; try with_reducible rfl⟩
  · assumption
  try go_simp
  refine wpAnyH_done (by kernel_rfl) ?_ _
  refine NoPanic.normal ?_
  go_wp2_with fail
  go_ret
  exact ⟨rfl, A2, c2, HA2.out⟩
set_option maxRecDepth 100000 in
set_option maxHeartbeats 1600000 in
theorem takec_t (g gl p g2 gl2 : Nat) (A A2 : Option Addr) (c c2 : Nat) (C D : List Pr) (m m2 : Int) (f f2 : Nat) (w : World) (hb : Blk w g 130 #[.int .i64 m, .pointer (some ⟨gl, 0, none⟩), .int .u64 (f : Nat)]) (hl : Lst w gl A c C) (hf : Fine C)
    (hb2 : Blk w g2 130 #[.int .i64 m2, .pointer (some ⟨gl2, 0, none⟩), .int .u64 (f2 : Nat)]) (hl2 : Lst w gl2 A2 c2 D) (hf2 : Fine D) (hlen : C.length + D.length ≤ 100000)
    (p0 : Blk w p 79 #[.pointer (some ⟨g, 0, none⟩)]) (p1 : Blk w (p + 1) 79 #[.pointer (some ⟨g2, 0, none⟩)]) :
    Calls Tryz.prog 94 #[.pointer (some ⟨p, 0, none⟩), .pointer (some ⟨p + 1, 0, none⟩)] w (Did gl A (rtake C D 0).1 (rtake C D 0).2 w) := by
  have HTK := Lib.hid (fun W h h2 => take_t gl gl2 A A2 c c2 C D W h h2 hf hf2 hlen)
  have d0 : w.cell? ⟨p, 0, none⟩ = some (.pointer (some ⟨g, 0, none⟩)) := by rw [p0.cell]; rfl
  have d1 : w.cell? ⟨p + 1, 0, none⟩ = some (.pointer (some ⟨g2, 0, none⟩)) := by rw [p1.cell]; rfl
  have dg : w.cell? ⟨g, 1, none⟩ = some (.pointer (some ⟨gl, 0, none⟩)) := by rw [hb.cell]; rfl
  have dg2 : w.cell? ⟨g2, 1, none⟩ = some (.pointer (some ⟨gl2, 0, none⟩)) := by rw [hb2.cell]; rfl
  have HL := Lib.hid hl
  have HL2 := Lib.hid hl2
  have HPB := Lib.hid (And.intro hb (And.intro p0 (And.intro p1 hb2)))
  generalize rtake C D 0 = R at *
  clear hb hl hf p0 p1 hb2 hl2 hf2 hlen
  go_enter Tryz.func94, Tryz.ntmps94
  go_wp2_with fail
  refine wp_region_noPanic ?_
  refine wp_region_held_drew (S := (fun w' => w'.cell? ⟨p, 0, none⟩ = some (.pointer (some ⟨g, 0, none⟩)) ∧ w'.cell? ⟨g, 1, none⟩ = some (.pointer (some ⟨gl, 0, none⟩)) ∧ w'.cell? ⟨p + 1, 0, none⟩ = some (.pointer (some ⟨g2, 0, none⟩)) ∧ w'.cell? ⟨g2, 1, none⟩ = some (.pointer (some ⟨gl2, 0, none⟩)))) (by kernel_rfl) ⟨d0, dg, d1, dg2⟩ (fun hHeld => ?_)
  refine wpAnyH_take (i := 0) (oi := ?_) (v := ?_) ?_ ?_ ?_ ?_ ?_ ?_ ?_ ?_
  rotate_left 2
  · simp only [List.getElem?_toArray, List.getElem?_cons_zero]; rfl
  · kernel_rfl
  · kernel_rfl
  · kernel_rfl
  · exact fun _ _ _ h => h
  · exact Or.inl ⟨by kernel_rfl, by intro w hSw; (try dsimp only at hSw); go_simp; try with_reducible rfl⟩
  · assumption
  try go_simp
  refine wpAnyH_take (i := 1) (oi := ?_) (v := ?_) ?_ ?_ ?_ ?_ ?_ ?_ ?_ ?_
  rotate_left 2
  · simp only [List.getElem?_toArray, List.getElem?_cons_succ, List.getElem?_cons_zero]; rfl
  · kernel_rfl
  · kernel_rfl
  · kernel_rfl
  · exact fun _ _ _ h => h
  · exact Or.inl ⟨by kernel_rfl, by intro w hSw; (try dsimp only at hSw); go_simp; try with_reducible rfl⟩
  · assumption
  try go_simp
  refine wpAnyH_take (i := 2) (oi := ?_) (v := ?_) ?_ ?_ ?_ ?_ ?_ ?_ ?_ ?_
  rotate_left 2
  · simp only [List.getElem?_toArray, List.getElem?_cons_succ, List.getElem?_cons_zero]; rfl
  · kernel_rfl
  · kernel_rfl
  · kernel_rfl
  · exact fun _ _ _ h => h
  · exact Or.inl ⟨by kernel_rfl, by intro w hSw; (try dsimp only at hSw); go_simp; try with_reducible rfl⟩
  · assumption
  try go_simp
  refine wpAnyH_take (i := 3) (oi := ?_) (v := ?_) ?_ ?_ ?_ ?_ ?_ ?_ ?_ ?_
  rotate_left 2
  · simp only [List.getElem?_toArray, List.getElem?_cons_succ, List.getElem?_cons_zero]; rfl
  · kernel_rfl
  · kernel_rfl
  · kernel_rfl
  · exact fun _ _ _ h => h
  · exact Or.inl ⟨by kernel_rfl, by intro w hSw; (try dsimp only at hSw); go_simp; try with_reducible rfl⟩
  · assumption
  try go_simp
  refine wpAnyH_take (i := 4) (oi := ?_) (v := ?_) ?_ ?_ ?_ ?_ ?_ ?_ ?_ ?_
  rotate_left 2
  · simp only [List.getElem?_toArray, List.getElem?_cons_succ, List.getElem?_cons_zero]; rfl
  · kernel_rfl
  · kernel_rfl
  · kernel_rfl
  · exact fun _ _ _ h => h
  · exact Or.inl ⟨by kernel_rfl, by intro w hSw; (try dsimp only at hSw); go_simp; try with_reducible rfl⟩
  · assumption
  try go_simp
  refine wpAnyH_take (i := 5) (oi := ?_) (v := ?_) ?_ ?_ ?_ ?_ ?_ ?_ ?_ ?_
  rotate_left 2
  · simp only [List.getElem?_toArray, List.getElem?_cons_succ, List.getElem?_cons_zero]; rfl
  · kernel_rfl
  · kernel_rfl
  · kernel_rfl
  · exact fun _ _ _ h => h
  · exact Or.inl ⟨by kernel_rfl, by intro w hSw; (try dsimp only at hSw); go_simp; try with_reducible rfl⟩
  · assumption
  try go_simp
  refine wpAnyH_take (i := 6) (oi := ?_) (v := ?_) ?_ ?_ ?_ ?_ ?_ ?_ ?_ ?_
  rotate_left 2
  · simp only [List.getElem?_toArray, List.getElem?_cons_succ, List.getElem?_cons_zero]; rfl
  · kernel_rfl
  · kernel_rfl
  · kernel_rfl
  · exact fun _ _ _ h => h
  · exact Or.inl ⟨by kernel_rfl, by intro w hSw; (try dsimp only at hSw); go_simp; try with_reducible rfl⟩
  · assumption
  try go_simp
  refine wpAnyH_take (i := 7) (oi := ?_) (v := ?_) ?_ ?_ ?_ ?_ ?_ ?_ ?_ ?_
  rotate_left 2
  · simp only [List.getElem?_toArray, List.getElem?_cons_succ, List.getElem?_cons_zero]; rfl
  · kernel_rfl
  · kernel_rfl
  · kernel_rfl
  · exact fun _ _ _ h => h
  · exact Or.inl ⟨by kernel_rfl, by intro w hSw; (try dsimp only at hSw); go_simp; try with_reducible rfl⟩
  · assumption
  try go_simp
  refine wpAnyH_ready (rs := [8]) (by kernel_rfl) (by simp) ?_
  refine AllReadyH.cons (o := ?_) ?_ ?_ AllReadyH.nil
  rotate_left 1
  · simp only [List.getElem?_toArray, List.getElem?_cons_succ, List.getElem?_cons_zero]; rfl
  intro K hK
  go_simp
  refine (HTK.out _ (show Lst w.drew gl A c C from HL.out) (show Lst w.drew gl2 A2 c2 D from HL2.out)).mono ?_
  rintro e w2 ⟨rfl, hc2⟩
  obtain ⟨A3, c3, hac⟩ := hc2.acted
  have ha2 : Acted gl A R.1 w w2 A3 c3 := ⟨hac.1, (Only.refl (LK gl A) w).drew.trans hac.2.1, hac.2.2⟩
  have e0 : w2.cell? ⟨p, 0, none⟩ = some (.pointer (some ⟨g, 0, none⟩)) := by rw [(HPB.out.2.1.only ha2.2.1 (HL.out.ne_blk HPB.out.2.1 (by decide) (by decide))).cell]; rfl
  have e1 : w2.cell? ⟨p + 1, 0, none⟩ = some (.pointer (some ⟨g2, 0, none⟩)) := by rw [(HPB.out.2.2.1.only ha2.2.1 (HL.out.ne_blk HPB.out.2.2.1 (by decide) (by decide))).cell]; rfl
  have e2 : w2.cell? ⟨g2, 1, none⟩ = some (.pointer (some ⟨gl2, 0, none⟩)) := by rw [(HPB.out.2.2.2.only ha2.2.1 (HL.out.ne_blk HPB.out.2.2.2 (by decide) (by decide))).cell]; rfl
  have eg : w2.cell? ⟨g, 1, none⟩ = some (.pointer (some ⟨gl, 0, none⟩)) := by rw [(HPB.out.1.only ha2.2.1 (HL.out.ne_blk HPB.out.1 (by decide) (by decide))).cell]; rfl
  have HA3 := Lib.hid ha2
  clear hc2 hac ha2
  refine hK.out _ _ ?_ (fun hHeld => ?_)
  · exact ⟨e0, eg, e1, e2⟩
  clear hK K
  try go_simp
  refine wpAnyH_take (i := 9) (oi := ?_) (v := ?_) ?_ ?_ ?_ ?_ ?_ ?_ ?_ ?_
  rotate_left 2
  · simp only [List.getElem?_toArray, List.getElem?_cons_succ, List.getElem?_cons_zero]; rfl
  · kernel_rfl
  · kernel_rfl
  · kernel_rfl
  · exact fun _ _ _ h => h
  · exact Or.inl ⟨by kernel_rfl, by intro w hSw; (try dsimp only at hSw); go_simp; try with_reducible rfl⟩
  · assumption
  try go_simp
  refine wpAnyH_done (by kernel_rfl) ?_ _
  refine NoPanic.normal ?_
  go_wp2_with fail
  go_ret
  exact ⟨rfl, A3, c3, HA3.out⟩
theorem Acted.then {gl : Nat} {A A1 A2 : Option Addr} {L1 L2 : List Pr} {w w1 w2 : World} {c1 c2 : Nat} (h : Acted gl A L1 w w1 A1 c1) (k : Acted gl A1 L2 w1 w2 A2 c2) : Acted gl A L2 w w2 A2 c2 :=
  ⟨k.1, h.2.1.step k.2.1 (fun i hi => by
    rcases hi with hi | hi
    · exact .inl (.inl hi)
    · rcases h.2.2 i hi with e | e
      · exact .inl (.inr e)
      · exact .inr e), fun x hx => by
    rcases k.2.2 x hx with e | e
    · exact h.2.2 x e
    · exact .inr (Nat.le_trans h.2.1.size e)⟩
theorem Acted.near {gl : Nat} {A A1 : Option Addr} {L : List Pr} {w0 w w1 : World} {c1 : Nat} (hb : Below w0.heap.size w0 w) (h : Acted gl A L w w1 A1 c1) : Acted gl A L w0 w1 A1 c1 :=
  ⟨h.1, (Only.of_below hb).trans h.2.1, fun x hx => (h.2.2 x hx).imp id (Nat.le_trans hb.size)⟩
/-- The rows of counted's own. -/
structure CS (w : World) (g : Nat) (oth : Value) (x0 x1 : Int) (y0 y1 : Nat) (W : World) : Prop where
  bel : Below w.heap.size w W
  b0 : Blk W w.heap.size 79 #[.pointer (some ⟨g, 0, none⟩), oth]
  b1 : Blk W (w.heap.size + 1) 166 #[.int .i64 x0, .int .i64 x1]
  b2 : Blk W (w.heap.size + 1 + 1) 167 #[.int .u64 (y0 : Nat), .int .u64 (y1 : Nat)]
section
variable {w W W' : World} {g : Nat} {oth : Value} {x0 x1 : Int} {y0 y1 : Nat}
theorem CS.below (h : CS w g oth x0 x1 y0 y1 W) (hb : Below W.heap.size W W') : CS w g oth x0 x1 y0 y1 W' :=
  ⟨nextB h.bel hb, h.b0.below hb h.b0.lt, h.b1.below hb h.b1.lt, h.b2.below hb h.b2.lt⟩
theorem CS.set0 (h : CS w g oth x0 x1 y0 y1 W) (x : Int) (y : Nat) : CS w g oth x x1 y y1 ((W.setCell ⟨w.heap.size + 1, 0, none⟩ (.int .i64 x)).setCell ⟨w.heap.size + 1 + 1, 0, none⟩ (.int .u64 (y : Nat))) :=
  ⟨(h.bel.setCell (by simp) _).setCell (by simp; omega) _, (h.b0.far (p := ⟨w.heap.size + 1, 0, none⟩) (by simp) _).far (p := ⟨w.heap.size + 1 + 1, 0, none⟩) (by simp; omega) _, (h.b1.put 0 _).far (p := ⟨w.heap.size + 1 + 1, 0, none⟩) (by simp) _, (h.b2.far (p := ⟨w.heap.size + 1, 0, none⟩) (by simp) _).put 0 _⟩
theorem CS.set1 (h : CS w g oth x0 x1 y0 y1 W) (x : Int) (y : Nat) : CS w g oth x0 x y0 y ((W.setCell ⟨w.heap.size + 1, 1, none⟩ (.int .i64 x)).setCell ⟨w.heap.size + 1 + 1, 1, none⟩ (.int .u64 (y : Nat))) :=
  ⟨(h.bel.setCell (by simp) _).setCell (by simp; omega) _, (h.b0.far (p := ⟨w.heap.size + 1, 1, none⟩) (by simp) _).far (p := ⟨w.heap.size + 1 + 1, 1, none⟩) (by simp; omega) _, (h.b1.put 1 _).far (p := ⟨w.heap.size + 1 + 1, 1, none⟩) (by simp) _, (h.b2.far (p := ⟨w.heap.size + 1, 1, none⟩) (by simp) _).put 1 _⟩
end
theorem Acted.stored {g gl c c' : Nat} {A A' : Option Addr} {m : Int} {all all' L' : List Pr} {w w' : World} (hs : Sto w g gl A c m all) (k : Acted gl A L' w w' A' c') (hL : L' = (cutL all' m).1) (hf : (cutL all' m).2 = (cutL all m).2) : Stored g gl A m all' w w' A' c' := by
  subst hL
  refine ⟨⟨?_, k.1⟩, k.2.1.mono (fun i hi => .inr hi), k.2.2⟩
  rw [hf]
  exact hs.blk.only k.2.1 (hs.lst.ne_blk hs.blk (by decide) (by decide))
set_option maxHeartbeats 12800000 in
set_option maxRecDepth 100000 in
theorem countA (g gl p : Nat) (A : Option Addr) (c : Nat) (m : Int) (all all' L' : List Pr) (er : Int) (w : World) (hs : Sto w g gl A c m all) (hf : Fine all) (hm0 : 2 ≤ m) (hm1 : m ≤ 4097) 
    (HCALL : ∀ W, Below w.heap.size w W → Calls Tryz.prog 76 #[.pointer (some ⟨p, 0, none⟩), .pointer (some ⟨p + 1, 0, none⟩), .pointer (some ⟨p + 1 + 1, 0, none⟩)] W (Did gl A L' er W)) (hf' : Fine L') (hfa : Fine all')
    (h0 : er = 0 → (cutL L' m).1 = (cutL all' m).1 ∧ (cutL all' m).2 = (cutL L' m).2 + stays (cutL all m) (firstK (cutL all' m).1) + stays (cutL [] m) (firstK (cutL all' m).1)) (h1 : er ≠ 0 → L' = (cutL all m).1 ∧ all' = all) :
    Calls Tryz.prog 75 #[.pointer (some ⟨g, 0, none⟩), .func (Fn.func 76) #[] #[.pointer (some ⟨p, 0, none⟩), .pointer (some ⟨p + 1, 0, none⟩), .pointer (some ⟨p + 1 + 1, 0, none⟩)], .pointer none] w fun e w' => e = .returned (.int .i64 er) ∧ ∃ A' c', Stored g gl A m all' w w' A' c' := by
  have e9 : stays (cutL [] m) (firstK (cutL all' m).1) = (if 0 < 0 ∧ (0 : Int) = firstK (cutL all' m).1 then 0 else 0) := by rw [cutL_nil]; rfl
  rw [e9] at h0
  clear e9
  have HFI := Lib.hid (fun W (h : Sto W g gl A c m all) => sfirst_t g gl A c m all W h hf)
  have HF2 := Lib.hid (fun W (h : Sto W g gl A c m all) => h.c2)
  have HS := Lib.hid hs
  have HC := Lib.hid HCALL
  have HCU := Lib.hid (fun W A c (h : Lst W gl A c L') => cut_t gl A c L' m W h hf' (by omega) (by omega))
  have HFM := Lib.hid (fun W A c (h : Lst W gl A c (cutL L' m).1) (hc : W.cell? ⟨g, 1, none⟩ = some (.pointer (some ⟨gl, 0, none⟩))) => sfirst_g g gl A c (cutL L' m).1 W hc h (kept_fine hf' m))
  have H1 := Lib.hid h1
  have HEQ : Hid (er ≠ 0 → (cutL all' m).2 = (cutL all m).2) := Lib.hid (fun h => by rw [(h1 h).2])
  obtain ⟨kA, hkA⟩ : ∃ kA, kA = firstK (cutL all m).1 := ⟨_, rfl⟩
  obtain ⟨fA, hfA⟩ : ∃ fA, fA = (cutL all m).2 := ⟨_, rfl⟩
  have HFE := Lib.hid hfA
  have hfAl : (fA : Int) ≤ 4611686018427387904 := by have := fold_le (L := all) m; have := hf.tot; omega
  have hgq : g < w.heap.size := hs.blk.lt
  try unfold stays at h0
  rw [← hkA] at HFI h0
  rw [← hfA] at HF2 h0
  have H0 := Lib.hid h0
  have HFA := Lib.hid (show (cutL all' m).2 ≤ 4611686018427387904 from Nat.le_trans (fold_le m) hfa.tot)
  have hgn1 : ¬ g = w.heap.size + 1 := by omega
  have hgn2 : ¬ g = w.heap.size + 1 + 1 := by omega
  have hx0 : CS w g (.pointer none) 0 0 0 0 (((w.alloc (.cells #[.pointer (some ⟨g, 0, none⟩), .pointer none] 79)).alloc (.cells #[.int .i64 0, .int .i64 0] 166)).alloc (.cells #[.int .u64 0, .int .u64 0] 167)) := by
    have k0 := Blk.new w 79 #[.pointer (some ⟨g, 0, none⟩), .pointer none]
    have k1 := Blk.new (w.alloc (.cells #[.pointer (some ⟨g, 0, none⟩), .pointer none] 79)) 166 #[.int .i64 0, .int .i64 0]
    have k2 := Blk.new ((w.alloc (.cells #[.pointer (some ⟨g, 0, none⟩), .pointer none] 79)).alloc (.cells #[.int .i64 0, .int .i64 0] 166)) 167 #[.int .u64 0, .int .u64 0]
    simp only [World.size_alloc] at k1 k2
    exact ⟨(((Below.refl _ _).alloc (Nat.le_refl _) _).alloc (by simp) _).alloc (by simp; omega) _, (k0.alloc _).alloc _, k1.alloc _, k2⟩
  have HX0 := Lib.hid hx0
  clear hs HCALL hf hf' hfa h0 h1 hkA hfA hm0 hm1 hx0
  go_enter Tryz.func75, Tryz.ntmps75
  go_wp2_with fail
  generalize ((w.alloc (.cells #[.pointer (some ⟨g, 0, none⟩), .pointer none] 79)).alloc (.cells #[.int .i64 0, .int .i64 0] 166)).alloc (.cells #[.int .u64 0, .int .u64 0] 167) = W0 at *
  have a1 : W0.cell? ⟨w.heap.size, 0, none⟩ = some (.pointer (some ⟨g, 0, none⟩)) := by rw [HX0.out.b0.cell]; rfl
  refine wp_loop_rounds 3 ?_
  rw [rounds_succ]
  go_wp2_with fail
  clear a1
  refine (HFI.out W0 (HS.out.below HX0.out.bel)).mono ?_
  rintro e w1 ⟨⟨bb, rfl⟩, hb1⟩
  have hx1 := HX0.out.below hb1
  have a2 : w1.cell? ⟨w.heap.size + 1, 0, none⟩ = some (.int .i64 0) := by rw [hx1.b1.cell]; rfl
  have a2f := hx1.b1.free 0
  have a3 : w1.cell? ⟨w.heap.size + 1 + 1, 0, none⟩ = some (.int .u64 0) := by rw [hx1.b2.cell]; rfl
  have a3f := hx1.b2.free 0
  have a4 := HF2.out w1 (HS.out.below hx1.bel)
  have hx1' := hx1.set0 kA fA
  have HX1' := Lib.hid hx1'
  clear hb1 hx1 hx1'
  go_wp2_with fail
  clear a2 a2f a3 a3f a4
  obtain ⟨W1, hW1⟩ : ∃ W1, W1 = (w1.setCell ⟨w.heap.size + 1, 0, none⟩ (.int .i64 kA)).setCell ⟨w.heap.size + 1 + 1, 0, none⟩ (.int .u64 (fA : Nat)) := ⟨_, rfl⟩
  rw [← hW1] at HX1' ⊢
  have HX1 := HX1'
  clear hW1
  rw [rounds_succ]
  have a1 : W1.cell? ⟨w.heap.size, 1, none⟩ = some (.pointer none) := by rw [HX1.out.b0.cell]; rfl
  go_wp2_with fail
  clear a1
  obtain ⟨W2, hW2⟩ : ∃ W2, W2 = W1 := ⟨_, rfl⟩
  rw [← hW2] at HX1 ⊢
  have HX2 := HX1
  clear hW2
  rw [rounds_succ]
  go_wp2_with fail
  refine (HC.out W2 HX2.out.bel).mono ?_
  rintro e w3 ⟨rfl, A3, c3, ha3⟩
  have hs2' := HS.out.below HX2.out.bel
  have hg3 := hs2'.blk.only ha3.2.1 (hs2'.lst.ne_blk hs2'.blk (by decide) (by decide))
  have d1 : w3.cell? ⟨g, 1, none⟩ = some (.pointer (some ⟨gl, 0, none⟩)) := by rw [hg3.cell]; rfl
  have d0 : w3.cell? ⟨g, 0, none⟩ = some (.int .i64 m) := by rw [hg3.cell]; rfl
  have HG3 := Lib.hid (And.intro hg3 (And.intro (HX2.out.b1.only ha3.2.1 (hs2'.lst.ne_blk HX2.out.b1 (by decide) (by decide))) (HX2.out.b2.only ha3.2.1 (hs2'.lst.ne_blk HX2.out.b2 (by decide) (by decide)))))
  have HA3 := Lib.hid (Acted.near HX2.out.bel ha3)
  clear ha3 hs2' hg3
  by_cases her : er = 0
  · subst her
    go_wp2_with fail
    refine wp_region_noPanic ?_
    refine wp_region_held_drew (S := (fun w' => w'.cell? ⟨g, 1, none⟩ = some (.pointer (some ⟨gl, 0, none⟩)) ∧ w'.cell? ⟨g, 0, none⟩ = some (.int .i64 m))) (by kernel_rfl) ⟨d1, d0⟩ (fun hHeld => ?_)
    refine wpAnyH_take (i := 0) (oi := ?_) (v := ?_) ?_ ?_ ?_ ?_ ?_ ?_ ?_ ?_
    rotate_left 2
    · simp only [List.getElem?_toArray, List.getElem?_cons_zero]; rfl
    · kernel_rfl
    · kernel_rfl
    · kernel_rfl
    · exact fun _ _ _ h => h
    · exact Or.inl ⟨by kernel_rfl, by intro w hSw; (try dsimp only at hSw); go_simp; try with_reducible rfl⟩
    · assumption
    try go_simp
    refine wpAnyH_take (i := 1) (oi := ?_) (v := ?_) ?_ ?_ ?_ ?_ ?_ ?_ ?_ ?_
    rotate_left 2
    · simp only [List.getElem?_toArray, List.getElem?_cons_succ, List.getElem?_cons_zero]; rfl
    · kernel_rfl
    · kernel_rfl
    · kernel_rfl
    · exact fun _ _ _ h => h
    · exact Or.inl ⟨by kernel_rfl, by intro w hSw; (try dsimp only at hSw); go_simp; try with_reducible rfl⟩
    · assumption
    try go_simp
    refine wpAnyH_take (i := 2) (oi := ?_) (v := ?_) ?_ ?_ ?_ ?_ ?_ ?_ ?_ ?_
    rotate_left 2
    · simp only [List.getElem?_toArray, List.getElem?_cons_succ, List.getElem?_cons_zero]; rfl
    · kernel_rfl
    · kernel_rfl
    · kernel_rfl
    · exact fun _ _ _ h => h
    · exact Or.inl ⟨by kernel_rfl, by intro w hSw; (try dsimp only at hSw); go_simp; try with_reducible rfl⟩
    · assumption
    try go_simp
    refine wpAnyH_take (i := 3) (oi := ?_) (v := ?_) ?_ ?_ ?_ ?_ ?_ ?_ ?_ ?_
    rotate_left 2
    · simp only [List.getElem?_toArray, List.getElem?_cons_succ, List.getElem?_cons_zero]; rfl
    · kernel_rfl
    · kernel_rfl
    · kernel_rfl
    · exact fun _ _ _ h => h
    · exact Or.inl ⟨by kernel_rfl, by intro w hSw; (try dsimp only at hSw); go_simp; try with_reducible rfl⟩
    · assumption
    try go_simp
    refine wpAnyH_take (i := 4) (oi := ?_) (v := ?_) ?_ ?_ ?_ ?_ ?_ ?_ ?_ ?_
    rotate_left 2
    · simp only [List.getElem?_toArray, List.getElem?_cons_succ, List.getElem?_cons_zero]; rfl
    · kernel_rfl
    · kernel_rfl
    · kernel_rfl
    · exact fun _ _ _ h => h
    · exact Or.inl ⟨by kernel_rfl, by intro w hSw; (try dsimp only at hSw); go_simp; try with_reducible rfl⟩
    · assumption
    try go_simp
    refine wpAnyH_take (i := 5) (oi := ?_) (v := ?_) ?_ ?_ ?_ ?_ ?_ ?_ ?_ ?_
    rotate_left 2
    · simp only [List.getElem?_toArray, List.getElem?_cons_succ, List.getElem?_cons_zero]; rfl
    · kernel_rfl
    · kernel_rfl
    · kernel_rfl
    · exact fun _ _ _ h => h
    · exact Or.inl ⟨by kernel_rfl, by intro w hSw; (try dsimp only at hSw); go_simp; try with_reducible rfl⟩
    · assumption
    try go_simp
    refine wpAnyH_take (i := 6) (oi := ?_) (v := ?_) ?_ ?_ ?_ ?_ ?_ ?_ ?_ ?_
    rotate_left 2
    · simp only [List.getElem?_toArray, List.getElem?_cons_succ, List.getElem?_cons_zero]; rfl
    · kernel_rfl
    · kernel_rfl
    · kernel_rfl
    · exact fun _ _ _ h => h
    · exact Or.inl ⟨by kernel_rfl, by intro w hSw; (try dsimp only at hSw); go_simp; try with_reducible rfl⟩
    · assumption
    try go_simp
    refine wpAnyH_take (i := 7) (oi := ?_) (v := ?_) ?_ ?_ ?_ ?_ ?_ ?_ ?_ ?_
    rotate_left 2
    · simp only [List.getElem?_toArray, List.getElem?_cons_succ, List.getElem?_cons_zero]; rfl
    · kernel_rfl
    · kernel_rfl
    · kernel_rfl
    · exact fun _ _ _ h => h
    · exact Or.inl ⟨by kernel_rfl, by intro w hSw; (try dsimp only at hSw); go_simp; try with_reducible rfl⟩
    · assumption
    try go_simp
    refine wpAnyH_ready (rs := [8]) (by kernel_rfl) (by simp) ?_
    refine AllReadyH.cons (o := ?_) ?_ ?_ AllReadyH.nil
    rotate_left 1
    · simp only [List.getElem?_toArray, List.getElem?_cons_succ, List.getElem?_cons_zero]; rfl
    intro K hK
    go_simp
    refine (HCU.out _ A3 c3 (show Lst w3.drew gl A3 c3 L' from HA3.out.1)).mono ?_
    rintro e w4 ⟨rfl, hc4⟩
    obtain ⟨A4, c4, hac⟩ := hc4.acted
    have ha4 : Acted gl A3 (cutL L' m).1 w3 w4 A4 c4 := ⟨hac.1, (Only.refl (LK gl A3) w3).drew.trans hac.2.1, hac.2.2⟩
    have hg4 := HG3.out.1.only ha4.2.1 (HA3.out.1.ne_blk HG3.out.1 (by decide) (by decide))
    have e1 : w4.cell? ⟨g, 1, none⟩ = some (.pointer (some ⟨gl, 0, none⟩)) := by rw [hg4.cell]; rfl
    have e0 : w4.cell? ⟨g, 0, none⟩ = some (.int .i64 m) := by rw [hg4.cell]; rfl
    have HG4 := Lib.hid (And.intro hg4 (And.intro (HG3.out.2.1.only ha4.2.1 (HA3.out.1.ne_blk HG3.out.2.1 (by decide) (by decide))) (HG3.out.2.2.only ha4.2.1 (HA3.out.1.ne_blk HG3.out.2.2 (by decide) (by decide)))))
    have HA4 := Lib.hid (HA3.out.then ha4)
    clear hc4 hac ha4 hg4
    refine hK.out _ _ ?_ (fun hHeld => ?_)
    · exact ⟨e1, e0⟩
    clear hK K
    try go_simp
    refine wpAnyH_take (i := 9) (oi := ?_) (v := ?_) ?_ ?_ ?_ ?_ ?_ ?_ ?_ ?_
    rotate_left 2
    · simp only [List.getElem?_toArray, List.getElem?_cons_succ, List.getElem?_cons_zero]; rfl
    · kernel_rfl
    · kernel_rfl
    · kernel_rfl
    · exact fun _ _ _ h => h
    · exact Or.inl ⟨by kernel_rfl, by intro w hSw; (try dsimp only at hSw); go_simp; try with_reducible rfl⟩
    · assumption
    try go_simp
    refine wpAnyH_done (by kernel_rfl) ?_ _
    refine NoPanic.normal ?_
    clear d0 d1
    go_wp2_with fail
    refine (HFM.out _ A4 c4 HA4.out.1 e1).mono ?_
    rintro e w5 ⟨⟨bb5, rfl⟩, hb5⟩
    have HG5 := Lib.hid (And.intro (HG4.out.1.below hb5 HG4.out.1.lt) (And.intro (HG4.out.2.1.below hb5 HG4.out.2.1.lt) (HG4.out.2.2.below hb5 HG4.out.2.2.lt)))
    have HA5 : Hid (Acted gl A (cutL L' m).1 w w5 A4 c4) := Lib.hid ⟨HA4.out.1.below hb5, HA4.out.2.1.trans (Only.of_below hb5), HA4.out.2.2⟩
    clear hb5 e0 e1
    obtain ⟨hz1, hz2⟩ := H0.out (by first | trivial | rfl)
    have hK : firstK (cutL L' m).1 = firstK (cutL all' m).1 := by rw [hz1]
    rw [hK]
    have HZ1 := Lib.hid hz1
    have hfl := HFA.out
    clear hz1 hK
    generalize firstK (cutL all' m).1 = K at *
    obtain ⟨F0, hF0⟩ : ∃ F0, F0 = (cutL L' m).2 := ⟨_, rfl⟩
    obtain ⟨S1, hS1⟩ : ∃ S1, S1 = (if 0 < fA ∧ kA = K then fA else 0) := ⟨_, rfl⟩
    obtain ⟨S2, hS2⟩ : ∃ S2, S2 = (if 0 < 0 ∧ 0 = K then 0 else 0) := ⟨_, rfl⟩
    rw [← hF0]
    rw [← hF0, ← hS1, ← hS2] at hz2
    have hsum : (F0 : Int) + (S1 : Int) + (S2 : Int) ≤ 4611686018427387904 := by omega
    have HZ2 := Lib.hid hz2
    have HS1 := Lib.hid hS1
    have HS2' := Lib.hid hS2
    clear hz2 hfl hF0 hS1 hS2
    have i0 : ∀ w, (Instr.index 167 (.agg #[.int .u64 (fA : Nat), .int .u64 0]) (.int .i64 0)).run Tryz.prog w = .ok (.int .u64 (fA : Nat)) w := fun _ => by kernel_rfl
    have i1 : ∀ w, (Instr.index 167 (.agg #[.int .u64 (fA : Nat), .int .u64 0]) (.int .i64 1)).run Tryz.prog w = .ok (.int .u64 0) w := fun _ => by kernel_rfl
    go_wp2_with (refine wpList_load_row rfl 167 (.tmp 9) rfl (w.heap.size + 1 + 1) rfl 167 #[.int .u64 (fA : Nat), .int .u64 0] (0, 0) _ HG5.out.2.2 Tryz.underlying167 rfl rfl ?_)
    have b0 : w5.cell? ⟨w.heap.size + 1, 0, none⟩ = some (.int .i64 kA) := by rw [HG5.out.2.1.cell]; rfl
    have b1 : w5.cell? ⟨w.heap.size + 1, 1, none⟩ = some (.int .i64 0) := by rw [HG5.out.2.1.cell]; rfl
    go_loop [13, 64] (fun f v => (f = .int .u64 (F0 : Nat) ∧ v = .int .i64 0) ∨ (f = .int .u64 ((F0 + S1 : Nat) : Int) ∧ v = .int .i64 1) ∨ (f = .int .u64 ((F0 + S1 + S2 : Nat) : Int) ∧ v = .int .i64 2)) (fun _ v => 2 - (intOf v).toNat)
    case atStart => exact .inl ⟨rfl, rfl⟩
    case round =>
      rcases hrel with ⟨rfl, rfl⟩ | ⟨rfl, rfl⟩ | ⟨rfl, rfl⟩
      · by_cases hp : 0 < fA
        · have hp1 : decide ((0 : Int) < (fA : Int)) = true := by simp; omega
          have hp2 : decide (0 < fA) = true := by simp; omega
          by_cases hq : kA = K
          · have HN : Hid ((F0 + S1 : Nat) = F0 + fA) := Lib.hid (by have := HS1.out; rw [if_pos ⟨hp, hq⟩] at this; omega)
            have hqe : (kA == K) = true := by simp; exact hq
            have hsm : ((F0 : Nat) : Int) + (fA : Int) ≤ 4611686018427387904 := by have := HS1.out; rw [if_pos ⟨hp, hq⟩] at this; omega
            clear hp hq
            obtain ⟨F1, hF1⟩ : ∃ F1 : Nat, F1 = F0 := ⟨_, rfl⟩
            rw [← hF1] at hsm HN ⊢
            clear hF1
            go_wp2_with fail
            go_round
            case rel => exact .inr (.inl ⟨by rw [HN.out]; go_num, rfl⟩)
            case measure => simp [intOf]
          · have HN : Hid ((F0 + S1 : Nat) = F0) := Lib.hid (by have := HS1.out; rw [if_neg (fun h => hq h.2)] at this; omega)
            have hqe : (kA == K) = false := by simp; exact hq
            clear hp hq
            go_wp2_with fail
            go_round
            case rel => exact .inr (.inl ⟨by rw [HN.out], rfl⟩)
            case measure => simp [intOf]
        · have HN : Hid ((F0 + S1 : Nat) = F0) := Lib.hid (by have := HS1.out; rw [if_neg (fun h => hp h.1)] at this; omega)
          have hp1 : decide ((0 : Int) < (fA : Int)) = false := by simp; omega
          have hp2 : decide (0 < fA) = false := by simp; omega
          clear hp
          go_wp2_with fail
          go_round
          case rel => exact .inr (.inl ⟨by rw [HN.out], rfl⟩)
          case measure => simp [intOf]
      · have HN : Hid ((F0 + S1 + S2 : Nat) = F0 + S1) := Lib.hid (by have := HS2'.out; rw [if_neg (by omega)] at this; omega)
        go_wp2_with fail
        go_round
        case rel => exact .inr (.inr ⟨by rw [HN.out], rfl⟩)
        case measure => simp [intOf]
      · have q2 := HG5.out.1.cell 2
        have c2f := HG5.out.1.free 2
        have hq2 : w5.cell? ⟨g, 2, none⟩ = some (.int .u64 (fA : Nat)) := q2.trans (by rw [HFE.out]; rfl)
        clear q2
        go_wp2_with fail
        go_ret
        refine ⟨rfl, A4, c4, ⟨?_, ?_⟩, ?_, HA5.out.2.2⟩
        · have h := HG5.out.1.put 2 (.int .u64 ((F0 + S1 + S2 : Nat) : Int))
          rw [HZ2.out]
          simpa using h
        · rw [← HZ1.out]
          have h := HA5.out.1
          exact ⟨h.1.far (p := ⟨g, 2, none⟩) (fun e => (HS.out.ne) e.symm) _, Own.setOther h.2 (p := ⟨g, 2, none⟩) (fun e => Own.ne_blk (show Own w5 gl 64 2 A4 _ c4 (pcs _) from h.2) HG5.out.1 (by decide) e) _⟩
        · exact (HA5.out.2.1.mono (K := SK g gl A) (fun i hi => .inr hi)).set (p := ⟨g, 2, none⟩) (.inl (.inl rfl)) _
  · have hne : (er != 0) = true := by simp; omega
    have hne2 : (er == 0) = false := by simp; omega
    have HER := Lib.hid her
    clear her
    go_wp2_with fail
    go_ret
    exact ⟨rfl, A3, c3, HA3.out.stored HS.out (by rw [(H1.out HER.out).2]; exact (H1.out HER.out).1) (HEQ.out HER.out)⟩
set_option maxHeartbeats 12800000 in
set_option maxRecDepth 100000 in
theorem countT (g gl p : Nat) (A : Option Addr) (c : Nat) (m : Int) (all all' L' : List Pr) (er : Int) (w : World) (hs : Sto w g gl A c m all) (hf : Fine all) (hm0 : 2 ≤ m) (hm1 : m ≤ 4097) (g2 gl2 : Nat) (A2 : Option Addr) (c2 : Nat) (all2 : List Pr) (hs2 : Sto w g2 gl2 A2 c2 m all2) (hf2 : Fine all2) 
    (HCALL : ∀ W, Below w.heap.size w W → Calls Tryz.prog 94 #[.pointer (some ⟨p, 0, none⟩), .pointer (some ⟨p + 1, 0, none⟩)] W (Did gl A L' er W)) (hf' : Fine L') (hfa : Fine all')
    (h0 : er = 0 → (cutL L' m).1 = (cutL all' m).1 ∧ (cutL all' m).2 = (cutL L' m).2 + stays (cutL all m) (firstK (cutL all' m).1) + stays (cutL all2 m) (firstK (cutL all' m).1)) (h1 : er ≠ 0 → L' = (cutL all m).1 ∧ all' = all) :
    Calls Tryz.prog 75 #[.pointer (some ⟨g, 0, none⟩), .func (Fn.func 94) #[] #[.pointer (some ⟨p, 0, none⟩), .pointer (some ⟨p + 1, 0, none⟩)], .pointer (some ⟨g2, 0, none⟩)] w fun e w' => e = .returned (.int .i64 er) ∧ ∃ A' c', Stored g gl A m all' w w' A' c' := by
  have HFI2 := Lib.hid (fun W (h : Sto W g2 gl2 A2 c2 m all2) => sfirst_t g2 gl2 A2 c2 m all2 W h hf2)
  have HF22 := Lib.hid (fun W (h : Sto W g2 gl2 A2 c2 m all2) => h.c2)
  have HS2 := Lib.hid hs2
  obtain ⟨kB, hkB⟩ : ∃ kB, kB = firstK (cutL all2 m).1 := ⟨_, rfl⟩
  obtain ⟨fB, hfB⟩ : ∃ fB, fB = (cutL all2 m).2 := ⟨_, rfl⟩
  have hfBl : (fB : Int) ≤ 4611686018427387904 := by have := fold_le (L := all2) m; have := hf2.tot; omega
  have hgq2 : g2 < w.heap.size := hs2.blk.lt
  unfold stays at h0
  rw [← hkB] at HFI2 h0
  rw [← hfB] at HF22 h0
  clear hs2 hf2 hkB hfB
  have HFI := Lib.hid (fun W (h : Sto W g gl A c m all) => sfirst_t g gl A c m all W h hf)
  have HF2 := Lib.hid (fun W (h : Sto W g gl A c m all) => h.c2)
  have HS := Lib.hid hs
  have HC := Lib.hid HCALL
  have HCU := Lib.hid (fun W A c (h : Lst W gl A c L') => cut_t gl A c L' m W h hf' (by omega) (by omega))
  have HFM := Lib.hid (fun W A c (h : Lst W gl A c (cutL L' m).1) (hc : W.cell? ⟨g, 1, none⟩ = some (.pointer (some ⟨gl, 0, none⟩))) => sfirst_g g gl A c (cutL L' m).1 W hc h (kept_fine hf' m))
  have H1 := Lib.hid h1
  have HEQ : Hid (er ≠ 0 → (cutL all' m).2 = (cutL all m).2) := Lib.hid (fun h => by rw [(h1 h).2])
  obtain ⟨kA, hkA⟩ : ∃ kA, kA = firstK (cutL all m).1 := ⟨_, rfl⟩
  obtain ⟨fA, hfA⟩ : ∃ fA, fA = (cutL all m).2 := ⟨_, rfl⟩
  have HFE := Lib.hid hfA
  have hfAl : (fA : Int) ≤ 4611686018427387904 := by have := fold_le (L := all) m; have := hf.tot; omega
  have hgq : g < w.heap.size := hs.blk.lt
  try unfold stays at h0
  rw [← hkA] at HFI h0
  rw [← hfA] at HF2 h0
  have H0 := Lib.hid h0
  have HFA := Lib.hid (show (cutL all' m).2 ≤ 4611686018427387904 from Nat.le_trans (fold_le m) hfa.tot)
  have hgn1 : ¬ g = w.heap.size + 1 := by omega
  have hgn2 : ¬ g = w.heap.size + 1 + 1 := by omega
  have hgm1 : ¬ g2 = w.heap.size + 1 := by omega
  have hgm2 : ¬ g2 = w.heap.size + 1 + 1 := by omega
  have hx0 : CS w g (.pointer (some ⟨g2, 0, none⟩)) 0 0 0 0 (((w.alloc (.cells #[.pointer (some ⟨g, 0, none⟩), .pointer (some ⟨g2, 0, none⟩)] 79)).alloc (.cells #[.int .i64 0, .int .i64 0] 166)).alloc (.cells #[.int .u64 0, .int .u64 0] 167)) := by
    have k0 := Blk.new w 79 #[.pointer (some ⟨g, 0, none⟩), .pointer (some ⟨g2, 0, none⟩)]
    have k1 := Blk.new (w.alloc (.cells #[.pointer (some ⟨g, 0, none⟩), .pointer (some ⟨g2, 0, none⟩)] 79)) 166 #[.int .i64 0, .int .i64 0]
    have k2 := Blk.new ((w.alloc (.cells #[.pointer (some ⟨g, 0, none⟩), .pointer (some ⟨g2, 0, none⟩)] 79)).alloc (.cells #[.int .i64 0, .int .i64 0] 166)) 167 #[.int .u64 0, .int .u64 0]
    simp only [World.size_alloc] at k1 k2
    exact ⟨(((Below.refl _ _).alloc (Nat.le_refl _) _).alloc (by simp) _).alloc (by simp; omega) _, (k0.alloc _).alloc _, k1.alloc _, k2⟩
  have HX0 := Lib.hid hx0
  clear hs HCALL hf hf' hfa h0 h1 hkA hfA hm0 hm1 hx0
  go_enter Tryz.func75, Tryz.ntmps75
  go_wp2_with fail
  generalize ((w.alloc (.cells #[.pointer (some ⟨g, 0, none⟩), .pointer (some ⟨g2, 0, none⟩)] 79)).alloc (.cells #[.int .i64 0, .int .i64 0] 166)).alloc (.cells #[.int .u64 0, .int .u64 0] 167) = W0 at *
  have a1 : W0.cell? ⟨w.heap.size, 0, none⟩ = some (.pointer (some ⟨g, 0, none⟩)) := by rw [HX0.out.b0.cell]; rfl
  refine wp_loop_rounds 3 ?_
  rw [rounds_succ]
  go_wp2_with fail
  clear a1
  refine (HFI.out W0 (HS.out.below HX0.out.bel)).mono ?_
  rintro e w1 ⟨⟨bb, rfl⟩, hb1⟩
  have hx1 := HX0.out.below hb1
  have a2 : w1.cell? ⟨w.heap.size + 1, 0, none⟩ = some (.int .i64 0) := by rw [hx1.b1.cell]; rfl
  have a2f := hx1.b1.free 0
  have a3 : w1.cell? ⟨w.heap.size + 1 + 1, 0, none⟩ = some (.int .u64 0) := by rw [hx1.b2.cell]; rfl
  have a3f := hx1.b2.free 0
  have a4 := HF2.out w1 (HS.out.below hx1.bel)
  have hx1' := hx1.set0 kA fA
  have HX1' := Lib.hid hx1'
  clear hb1 hx1 hx1'
  go_wp2_with fail
  clear a2 a2f a3 a3f a4
  obtain ⟨W1, hW1⟩ : ∃ W1, W1 = (w1.setCell ⟨w.heap.size + 1, 0, none⟩ (.int .i64 kA)).setCell ⟨w.heap.size + 1 + 1, 0, none⟩ (.int .u64 (fA : Nat)) := ⟨_, rfl⟩
  rw [← hW1] at HX1' ⊢
  have HX1 := HX1'
  clear hW1
  rw [rounds_succ]
  have a1 : W1.cell? ⟨w.heap.size, 1, none⟩ = some (.pointer (some ⟨g2, 0, none⟩)) := by rw [HX1.out.b0.cell]; rfl
  go_wp2_with fail
  clear a1
  refine (HFI2.out W1 (HS2.out.below HX1.out.bel)).mono ?_
  rintro e w2 ⟨⟨bb2, rfl⟩, hb2⟩
  have hx2 := HX1.out.below hb2
  have a2 : w2.cell? ⟨w.heap.size + 1, 1, none⟩ = some (.int .i64 0) := by rw [hx2.b1.cell]; rfl
  have a2f := hx2.b1.free 1
  have a3 : w2.cell? ⟨w.heap.size + 1 + 1, 1, none⟩ = some (.int .u64 0) := by rw [hx2.b2.cell]; rfl
  have a3f := hx2.b2.free 1
  have a4 := HF22.out w2 (HS2.out.below hx2.bel)
  have hx2' := hx2.set1 kB fB
  have HX2' := Lib.hid hx2'
  clear hb2 hx2 hx2'
  go_wp2_with fail
  clear a2 a2f a3 a3f a4
  obtain ⟨W2, hW2⟩ : ∃ W2, W2 = (w2.setCell ⟨w.heap.size + 1, 1, none⟩ (.int .i64 kB)).setCell ⟨w.heap.size + 1 + 1, 1, none⟩ (.int .u64 (fB : Nat)) := ⟨_, rfl⟩
  rw [← hW2] at HX2' ⊢
  have HX2 := HX2'
  clear hW2
  rw [rounds_succ]
  go_wp2_with fail
  refine (HC.out W2 HX2.out.bel).mono ?_
  rintro e w3 ⟨rfl, A3, c3, ha3⟩
  have hs2' := HS.out.below HX2.out.bel
  have hg3 := hs2'.blk.only ha3.2.1 (hs2'.lst.ne_blk hs2'.blk (by decide) (by decide))
  have d1 : w3.cell? ⟨g, 1, none⟩ = some (.pointer (some ⟨gl, 0, none⟩)) := by rw [hg3.cell]; rfl
  have d0 : w3.cell? ⟨g, 0, none⟩ = some (.int .i64 m) := by rw [hg3.cell]; rfl
  have HG3 := Lib.hid (And.intro hg3 (And.intro (HX2.out.b1.only ha3.2.1 (hs2'.lst.ne_blk HX2.out.b1 (by decide) (by decide))) (HX2.out.b2.only ha3.2.1 (hs2'.lst.ne_blk HX2.out.b2 (by decide) (by decide)))))
  have HA3 := Lib.hid (Acted.near HX2.out.bel ha3)
  clear ha3 hs2' hg3
  by_cases her : er = 0
  · subst her
    go_wp2_with fail
    refine wp_region_noPanic ?_
    refine wp_region_held_drew (S := (fun w' => w'.cell? ⟨g, 1, none⟩ = some (.pointer (some ⟨gl, 0, none⟩)) ∧ w'.cell? ⟨g, 0, none⟩ = some (.int .i64 m))) (by kernel_rfl) ⟨d1, d0⟩ (fun hHeld => ?_)
    refine wpAnyH_take (i := 0) (oi := ?_) (v := ?_) ?_ ?_ ?_ ?_ ?_ ?_ ?_ ?_
    rotate_left 2
    · simp only [List.getElem?_toArray, List.getElem?_cons_zero]; rfl
    · kernel_rfl
    · kernel_rfl
    · kernel_rfl
    · exact fun _ _ _ h => h
    · exact Or.inl ⟨by kernel_rfl, by intro w hSw; (try dsimp only at hSw); go_simp; try with_reducible rfl⟩
    · assumption
    try go_simp
    refine wpAnyH_take (i := 1) (oi := ?_) (v := ?_) ?_ ?_ ?_ ?_ ?_ ?_ ?_ ?_
    rotate_left 2
    · simp only [List.getElem?_toArray, List.getElem?_cons_succ, List.getElem?_cons_zero]; rfl
    · kernel_rfl
    · kernel_rfl
    · kernel_rfl
    · exact fun _ _ _ h => h
    · exact Or.inl ⟨by kernel_rfl, by intro w hSw; (try dsimp only at hSw); go_simp; try with_reducible rfl⟩
    · assumption
    try go_simp
    refine wpAnyH_take (i := 2) (oi := ?_) (v := ?_) ?_ ?_ ?_ ?_ ?_ ?_ ?_ ?_
    rotate_left 2
    · simp only [List.getElem?_toArray, List.getElem?_cons_succ, List.getElem?_cons_zero]; rfl
    · kernel_rfl
    · kernel_rfl
    · kernel_rfl
    · exact fun _ _ _ h => h
    · exact Or.inl ⟨by kernel_rfl, by intro w hSw; (try dsimp only at hSw); go_simp; try with_reducible rfl⟩
    · assumption
    try go_simp
    refine wpAnyH_take (i := 3) (oi := ?_) (v := ?_) ?_ ?_ ?_ ?_ ?_ ?_ ?_ ?_
    rotate_left 2
    · simp only [List.getElem?_toArray, List.getElem?_cons_succ, List.getElem?_cons_zero]; rfl
    · kernel_rfl
    · kernel_rfl
    · kernel_rfl
    · exact fun _ _ _ h => h
    · exact Or.inl ⟨by kernel_rfl, by intro w hSw; (try dsimp only at hSw); go_simp; try with_reducible rfl⟩
    · assumption
    try go_simp
    refine wpAnyH_take (i := 4) (oi := ?_) (v := ?_) ?_ ?_ ?_ ?_ ?_ ?_ ?_ ?_
    rotate_left 2
    · simp only [List.getElem?_toArray, List.getElem?_cons_succ, List.getElem?_cons_zero]; rfl
    · kernel_rfl
    · kernel_rfl
    · kernel_rfl
    · exact fun _ _ _ h => h
    · exact Or.inl ⟨by kernel_rfl, by intro w hSw; (try dsimp only at hSw); go_simp; try with_reducible rfl⟩
    · assumption
    try go_simp
    refine wpAnyH_take (i := 5) (oi := ?_) (v := ?_) ?_ ?_ ?_ ?_ ?_ ?_ ?_ ?_
    rotate_left 2
    · simp only [List.getElem?_toArray, List.getElem?_cons_succ, List.getElem?_cons_zero]; rfl
    · kernel_rfl
    · kernel_rfl
    · kernel_rfl
    · exact fun _ _ _ h => h
    · exact Or.inl ⟨by kernel_rfl, by intro w hSw; (try dsimp only at hSw); go_simp; try with_reducible rfl⟩
    · assumption
    try go_simp
    refine wpAnyH_take (i := 6) (oi := ?_) (v := ?_) ?_ ?_ ?_ ?_ ?_ ?_ ?_ ?_
    rotate_left 2
    · simp only [List.getElem?_toArray, List.getElem?_cons_succ, List.getElem?_cons_zero]; rfl
    · kernel_rfl
    · kernel_rfl
    · kernel_rfl
    · exact fun _ _ _ h => h
    · exact Or.inl ⟨by kernel_rfl, by intro w hSw; (try dsimp only at hSw); go_simp; try with_reducible rfl⟩
    · assumption
    try go_simp
    refine wpAnyH_take (i := 7) (oi := ?_) (v := ?_) ?_ ?_ ?_ ?_ ?_ ?_ ?_ ?_
    rotate_left 2
    · simp only [List.getElem?_toArray, List.getElem?_cons_succ, List.getElem?_cons_zero]; rfl
    · kernel_rfl
    · kernel_rfl
    · kernel_rfl
    · exact fun _ _ _ h => h
    · exact Or.inl ⟨by kernel_rfl, by intro w hSw; (try dsimp only at hSw); go_simp; try with_reducible rfl⟩
    · assumption
    try go_simp
    refine wpAnyH_ready (rs := [8]) (by kernel_rfl) (by simp) ?_
    refine AllReadyH.cons (o := ?_) ?_ ?_ AllReadyH.nil
    rotate_left 1
    · simp only [List.getElem?_toArray, List.getElem?_cons_succ, List.getElem?_cons_zero]; rfl
    intro K hK
    go_simp
    refine (HCU.out _ A3 c3 (show Lst w3.drew gl A3 c3 L' from HA3.out.1)).mono ?_
    rintro e w4 ⟨rfl, hc4⟩
    obtain ⟨A4, c4, hac⟩ := hc4.acted
    have ha4 : Acted gl A3 (cutL L' m).1 w3 w4 A4 c4 := ⟨hac.1, (Only.refl (LK gl A3) w3).drew.trans hac.2.1, hac.2.2⟩
    have hg4 := HG3.out.1.only ha4.2.1 (HA3.out.1.ne_blk HG3.out.1 (by decide) (by decide))
    have e1 : w4.cell? ⟨g, 1, none⟩ = some (.pointer (some ⟨gl, 0, none⟩)) := by rw [hg4.cell]; rfl
    have e0 : w4.cell? ⟨g, 0, none⟩ = some (.int .i64 m) := by rw [hg4.cell]; rfl
    have HG4 := Lib.hid (And.intro hg4 (And.intro (HG3.out.2.1.only ha4.2.1 (HA3.out.1.ne_blk HG3.out.2.1 (by decide) (by decide))) (HG3.out.2.2.only ha4.2.1 (HA3.out.1.ne_blk HG3.out.2.2 (by decide) (by decide)))))
    have HA4 := Lib.hid (HA3.out.then ha4)
    clear hc4 hac ha4 hg4
    refine hK.out _ _ ?_ (fun hHeld => ?_)
    · exact ⟨e1, e0⟩
    clear hK K
    try go_simp
    refine wpAnyH_take (i := 9) (oi := ?_) (v := ?_) ?_ ?_ ?_ ?_ ?_ ?_ ?_ ?_
    rotate_left 2
    · simp only [List.getElem?_toArray, List.getElem?_cons_succ, List.getElem?_cons_zero]; rfl
    · kernel_rfl
    · kernel_rfl
    · kernel_rfl
    · exact fun _ _ _ h => h
    · exact Or.inl ⟨by kernel_rfl, by intro w hSw; (try dsimp only at hSw); go_simp; try with_reducible rfl⟩
    · assumption
    try go_simp
    refine wpAnyH_done (by kernel_rfl) ?_ _
    refine NoPanic.normal ?_
    clear d0 d1
    go_wp2_with fail
    refine (HFM.out _ A4 c4 HA4.out.1 e1).mono ?_
    rintro e w5 ⟨⟨bb5, rfl⟩, hb5⟩
    have HG5 := Lib.hid (And.intro (HG4.out.1.below hb5 HG4.out.1.lt) (And.intro (HG4.out.2.1.below hb5 HG4.out.2.1.lt) (HG4.out.2.2.below hb5 HG4.out.2.2.lt)))
    have HA5 : Hid (Acted gl A (cutL L' m).1 w w5 A4 c4) := Lib.hid ⟨HA4.out.1.below hb5, HA4.out.2.1.trans (Only.of_below hb5), HA4.out.2.2⟩
    clear hb5 e0 e1
    obtain ⟨hz1, hz2⟩ := H0.out (by first | trivial | rfl)
    have hK : firstK (cutL L' m).1 = firstK (cutL all' m).1 := by rw [hz1]
    rw [hK]
    have HZ1 := Lib.hid hz1
    have hfl := HFA.out
    clear hz1 hK
    generalize firstK (cutL all' m).1 = K at *
    obtain ⟨F0, hF0⟩ : ∃ F0, F0 = (cutL L' m).2 := ⟨_, rfl⟩
    obtain ⟨S1, hS1⟩ : ∃ S1, S1 = (if 0 < fA ∧ kA = K then fA else 0) := ⟨_, rfl⟩
    obtain ⟨S2, hS2⟩ : ∃ S2, S2 = (if 0 < fB ∧ kB = K then fB else 0) := ⟨_, rfl⟩
    rw [← hF0]
    rw [← hF0, ← hS1, ← hS2] at hz2
    have hsum : (F0 : Int) + (S1 : Int) + (S2 : Int) ≤ 4611686018427387904 := by omega
    have HZ2 := Lib.hid hz2
    have HS1 := Lib.hid hS1
    have HS2' := Lib.hid hS2
    clear hz2 hfl hF0 hS1 hS2
    have i0 : ∀ w, (Instr.index 167 (.agg #[.int .u64 (fA : Nat), .int .u64 ((fB : Nat) : Int)]) (.int .i64 0)).run Tryz.prog w = .ok (.int .u64 (fA : Nat)) w := fun _ => by kernel_rfl
    have i1 : ∀ w, (Instr.index 167 (.agg #[.int .u64 (fA : Nat), .int .u64 ((fB : Nat) : Int)]) (.int .i64 1)).run Tryz.prog w = .ok (.int .u64 ((fB : Nat) : Int)) w := fun _ => by kernel_rfl
    go_wp2_with (refine wpList_load_row rfl 167 (.tmp 9) rfl (w.heap.size + 1 + 1) rfl 167 #[.int .u64 (fA : Nat), .int .u64 ((fB : Nat) : Int)] (0, 0) _ HG5.out.2.2 Tryz.underlying167 rfl rfl ?_)
    have b0 : w5.cell? ⟨w.heap.size + 1, 0, none⟩ = some (.int .i64 kA) := by rw [HG5.out.2.1.cell]; rfl
    have b1 : w5.cell? ⟨w.heap.size + 1, 1, none⟩ = some (.int .i64 kB) := by rw [HG5.out.2.1.cell]; rfl
    go_loop [13, 64] (fun f v => (f = .int .u64 (F0 : Nat) ∧ v = .int .i64 0) ∨ (f = .int .u64 ((F0 + S1 : Nat) : Int) ∧ v = .int .i64 1) ∨ (f = .int .u64 ((F0 + S1 + S2 : Nat) : Int) ∧ v = .int .i64 2)) (fun _ v => 2 - (intOf v).toNat)
    case atStart => exact .inl ⟨rfl, rfl⟩
    case round =>
      rcases hrel with ⟨rfl, rfl⟩ | ⟨rfl, rfl⟩ | ⟨rfl, rfl⟩
      · by_cases hp : 0 < fA
        · have hp1 : decide ((0 : Int) < (fA : Int)) = true := by simp; omega
          have hp2 : decide (0 < fA) = true := by simp; omega
          by_cases hq : kA = K
          · have HN : Hid ((F0 + S1 : Nat) = F0 + fA) := Lib.hid (by have := HS1.out; rw [if_pos ⟨hp, hq⟩] at this; omega)
            have hqe : (kA == K) = true := by simp; exact hq
            have hsm : ((F0 : Nat) : Int) + (fA : Int) ≤ 4611686018427387904 := by have := HS1.out; rw [if_pos ⟨hp, hq⟩] at this; omega
            clear hp hq
            obtain ⟨F1, hF1⟩ : ∃ F1 : Nat, F1 = F0 := ⟨_, rfl⟩
            rw [← hF1] at hsm HN ⊢
            clear hF1
            go_wp2_with fail
            go_round
            case rel => exact .inr (.inl ⟨by rw [HN.out]; go_num, rfl⟩)
            case measure => simp [intOf]
          · have HN : Hid ((F0 + S1 : Nat) = F0) := Lib.hid (by have := HS1.out; rw [if_neg (fun h => hq h.2)] at this; omega)
            have hqe : (kA == K) = false := by simp; exact hq
            clear hp hq
            go_wp2_with fail
            go_round
            case rel => exact .inr (.inl ⟨by rw [HN.out], rfl⟩)
            case measure => simp [intOf]
        · have HN : Hid ((F0 + S1 : Nat) = F0) := Lib.hid (by have := HS1.out; rw [if_neg (fun h => hp h.1)] at this; omega)
          have hp1 : decide ((0 : Int) < (fA : Int)) = false := by simp; omega
          have hp2 : decide (0 < fA) = false := by simp; omega
          clear hp
          go_wp2_with fail
          go_round
          case rel => exact .inr (.inl ⟨by rw [HN.out], rfl⟩)
          case measure => simp [intOf]
      · by_cases hp : 0 < fB
        · have hp1 : decide ((0 : Int) < (fB : Int)) = true := by simp; omega
          have hp2 : decide (0 < fB) = true := by simp; omega
          by_cases hq : kB = K
          · have HN : Hid ((F0 + S1 + S2 : Nat) = F0 + S1 + fB) := Lib.hid (by have := HS2'.out; rw [if_pos ⟨hp, hq⟩] at this; omega)
            have hqe : (kB == K) = true := by simp; exact hq
            have hsm : ((F0 + S1 : Nat) : Int) + (fB : Int) ≤ 4611686018427387904 := by have := HS2'.out; rw [if_pos ⟨hp, hq⟩] at this; omega
            clear hp hq
            obtain ⟨F1, hF1⟩ : ∃ F1 : Nat, F1 = F0 + S1 := ⟨_, rfl⟩
            rw [← hF1] at hsm HN ⊢
            clear hF1
            go_wp2_with fail
            go_round
            case rel => exact .inr (.inr ⟨by rw [HN.out]; go_num, rfl⟩)
            case measure => simp [intOf]
          · have HN : Hid ((F0 + S1 + S2 : Nat) = F0 + S1) := Lib.hid (by have := HS2'.out; rw [if_neg (fun h => hq h.2)] at this; omega)
            have hqe : (kB == K) = false := by simp; exact hq
            clear hp hq
            go_wp2_with fail
            go_round
            case rel => exact .inr (.inr ⟨by rw [HN.out], rfl⟩)
            case measure => simp [intOf]
        · have HN : Hid ((F0 + S1 + S2 : Nat) = F0 + S1) := Lib.hid (by have := HS2'.out; rw [if_neg (fun h => hp h.1)] at this; omega)
          have hp1 : decide ((0 : Int) < (fB : Int)) = false := by simp; omega
          have hp2 : decide (0 < fB) = false := by simp; omega
          clear hp
          go_wp2_with fail
          go_round
          case rel => exact .inr (.inr ⟨by rw [HN.out], rfl⟩)
          case measure => simp [intOf]
      · have q2 := HG5.out.1.cell 2
        have c2f := HG5.out.1.free 2
        have hq2 : w5.cell? ⟨g, 2, none⟩ = some (.int .u64 (fA : Nat)) := q2.trans (by rw [HFE.out]; rfl)
        clear q2
        go_wp2_with fail
        go_ret
        refine ⟨rfl, A4, c4, ⟨?_, ?_⟩, ?_, HA5.out.2.2⟩
        · have h := HG5.out.1.put 2 (.int .u64 ((F0 + S1 + S2 : Nat) : Int))
          rw [HZ2.out]
          simpa using h
        · rw [← HZ1.out]
          have h := HA5.out.1
          exact ⟨h.1.far (p := ⟨g, 2, none⟩) (fun e => (HS.out.ne) e.symm) _, Own.setOther h.2 (p := ⟨g, 2, none⟩) (fun e => Own.ne_blk (show Own w5 gl 64 2 A4 _ c4 (pcs _) from h.2) HG5.out.1 (by decide) e) _⟩
        · exact (HA5.out.2.1.mono (K := SK g gl A) (fun i hi => .inr hi)).set (p := ⟨g, 2, none⟩) (.inl (.inl rfl)) _
  · have hne : (er != 0) = true := by simp; omega
    have hne2 : (er == 0) = false := by simp; omega
    have HER := Lib.hid her
    clear her
    go_wp2_with fail
    go_ret
    exact ⟨rfl, A3, c3, HA3.out.stored HS.out (by rw [(H1.out HER.out).2]; exact (H1.out HER.out).1) (HEQ.out HER.out)⟩
end Go.Proofs.YtbfhiegbgkkgiaaGreat
