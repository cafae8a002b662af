/- Sketches taken together; bytes of sketches joined; the document's; walked. -/
import Derived.Test.YtbfhiegbgkkgiaaGreatC31
import Derived.Deep.RegionHeld3
import Derived.Test.YtbfhiegbgkkgiaaGreatC01
import Derived.Test.YtbfhiegbgkkgiaaGreatRows
import Derived.Test.YtbfhiegbgkkgiaaGreatC06
namespace Go.Proofs.YtbfhiegbgkkgiaaGreat
open Go.RowKit
open Pl
open Sc
open Wi
theorem Skt.drewN {w : World} {p q cs a g gl c : Nat} {As A : Option Addr} {m : Int} {all : List Pr} (h : Skt w p q As cs a g gl A c m all) (n : Nat) : Skt (w.drewN n) p q As cs a g gl A c m all := h.below (below_drewN (Below.refl _ _) n)
theorem RSk.drewN {w : World} {base r cr a m cl : Nat} {Ar Al : Option Addr} {all : List Pr} (h : RSk w base r Ar cr a m Al cl all) (n : Nat) : RSk (w.drewN n) base r Ar cr a m Al cl all := ⟨h.blk, h.rng, h.all⟩
section
variable {p q cs a g gl c p2 q2 cs2 g2 gl2 c2' : Nat} {As A As2 A2 : Option Addr} {m m2 : Int} {all all2 : List Pr} {w : World}
set_option maxRecDepth 100000 in
theorem dtake_t (h : Skt w p q As cs a g gl A c m all) (h2 : Skt w p2 q2 As2 cs2 a g2 gl2 A2 c2' m all2) (hf : Fine all) (hf2 : Fine all2) (hl : all.length + all2.length ≤ 100000) (hm0 : 2 ≤ m) (hm1 : m ≤ 4097) :
    Calls Tryz.prog 49 #[.pointer (some ⟨p, 0, none⟩), .pointer (some ⟨p2, 0, none⟩)] w fun e w' => e = .returned (.int .i64 (rtake all all2 0).2) ∧ ∃ A' c', Skt w' p q As cs a g gl A' c' m (rtake all all2 0).1 ∧ Stored g gl A m (rtake all all2 0).1 w w' A' c' := by
  have c1 := h.c1
  have c2 := h2.c1
  have HT := Lib.hid (fun W (h : Sto W g gl A c m all) (h2 : Sto W g2 gl2 A2 c2' m all2) => stake_t g gl g2 gl2 A A2 c c2' m all all2 W h h2 hf hf2 hl hm0 hm1)
  have HA1 := Lib.hid (dacc_t h)
  have HA2 := Lib.hid (dacc_t h2)
  have HH := Lib.hid h
  have HD := Lib.hid (show Skt w.drew p q As cs a g gl A c m all from h.below (Below.refl _ _).drew)
  have HD2 := Lib.hid (show Skt w.drew p2 q2 As2 cs2 a g2 gl2 A2 c2' m all2 from h2.below (Below.refl _ _).drew)
  clear h h2 hf hf2 hl hm0 hm1
  generalize rtake all all2 0 = R at *
  obtain ⟨R1, R2⟩ := R
  dsimp only at *
  go_enter Tryz.func49, Tryz.ntmps49
  go_wp2_with fail
  refine HA2.out.mono ?_
  rintro e w1 ⟨rfl, rfl⟩
  go_wp2_with fail
  refine HA1.out.mono ?_
  rintro e w1 ⟨rfl, rfl⟩
  go_wp2_with fail
  refine wp_region_noPanic ?_
  refine wp_region_held_drew (S := (fun W => W.cell? ⟨p, 1, none⟩ = some (.pointer (some ⟨g, 0, none⟩)) ∧ W.cell? ⟨p2, 1, none⟩ = some (.pointer (some ⟨g2, 0, none⟩)))) (by kernel_rfl) ⟨c1, c2⟩ (fun hHeld => ?_)
  refine wpAnyH_take (i := 0) (oi := ?_) (v := ?_) ?_ ?_ ?_ ?_ ?_ ?_ ?_ ?_
  rotate_left 2
  · simp only [List.getElem?_toArray, List.getElem?_cons_zero]; rfl
  · kernel_rfl
  · kernel_rfl
  · kernel_rfl
  · exact fun _ _ _ h => h
  · exact Or.inl ⟨by kernel_rfl, by intro w hSw; (try dsimp only at hSw); go_simp; try with_reducible rfl⟩
  · assumption
  try go_simp
  refine wpAnyH_take (i := 1) (oi := ?_) (v := ?_) ?_ ?_ ?_ ?_ ?_ ?_ ?_ ?_
  rotate_left 2
  · simp only [List.getElem?_toArray, List.getElem?_cons_succ, List.getElem?_cons_zero]; rfl
  · kernel_rfl
  · kernel_rfl
  · kernel_rfl
  · exact fun _ _ _ h => h
  · exact Or.inl ⟨by kernel_rfl, by intro w hSw; (try dsimp only at hSw); go_simp; try with_reducible rfl⟩
  · assumption
  try go_simp
  refine wpAnyH_take (i := 2) (oi := ?_) (v := ?_) ?_ ?_ ?_ ?_ ?_ ?_ ?_ ?_
  rotate_left 2
  · simp only [List.getElem?_toArray, List.getElem?_cons_succ, List.getElem?_cons_zero]; rfl
  · kernel_rfl
  · kernel_rfl
  · kernel_rfl
  · exact fun _ _ _ h => h
  · exact Or.inl ⟨by kernel_rfl, by intro w hSw; (try dsimp only at hSw); go_simp; try with_reducible rfl⟩
  · assumption
  try go_simp
  refine wpAnyH_take (i := 3) (oi := ?_) (v := ?_) ?_ ?_ ?_ ?_ ?_ ?_ ?_ ?_
  rotate_left 2
  · simp only [List.getElem?_toArray, List.getElem?_cons_succ, List.getElem?_cons_zero]; rfl
  · kernel_rfl
  · kernel_rfl
  · kernel_rfl
  · exact fun _ _ _ h => h
  · exact Or.inl ⟨by kernel_rfl, by intro w hSw; (try dsimp only at hSw); go_simp; try with_reducible rfl⟩
  · assumption
  try go_simp
  refine wpAnyH_take (i := 4) (oi := ?_) (v := ?_) ?_ ?_ ?_ ?_ ?_ ?_ ?_ ?_
  rotate_left 2
  · simp only [List.getElem?_toArray, List.getElem?_cons_succ, List.getElem?_cons_zero]; rfl
  · kernel_rfl
  · kernel_rfl
  · kernel_rfl
  · exact fun _ _ _ h => h
  · exact Or.inl ⟨by kernel_rfl, by intro w hSw; (try dsimp only at hSw); go_simp; try with_reducible rfl⟩
  · assumption
  try go_simp
  refine wpAnyH_take (i := 5) (oi := ?_) (v := ?_) ?_ ?_ ?_ ?_ ?_ ?_ ?_ ?_
  rotate_left 2
  · simp only [List.getElem?_toArray, List.getElem?_cons_succ, List.getElem?_cons_zero]; rfl
  · kernel_rfl
  · kernel_rfl
  · kernel_rfl
  · exact fun _ _ _ h => h
  · exact Or.inl ⟨by kernel_rfl, by intro w hSw; (try dsimp only at hSw); go_simp; try with_reducible rfl⟩
  · assumption
  try go_simp
  refine wpAnyH_take (i := 6) (oi := ?_) (v := ?_) ?_ ?_ ?_ ?_ ?_ ?_ ?_ ?_
  rotate_left 2
  · simp only [List.getElem?_toArray, List.getElem?_cons_succ, List.getElem?_cons_zero]; rfl
  · kernel_rfl
  · kernel_rfl
  · kernel_rfl
  · exact fun _ _ _ h => h
  · exact Or.inl ⟨by kernel_rfl, by intro w hSw; (try dsimp only at hSw); go_simp; try with_reducible rfl⟩
  · assumption
  try go_simp
  refine wpAnyH_take (i := 7) (oi := ?_) (v := ?_) ?_ ?_ ?_ ?_ ?_ ?_ ?_ ?_
  rotate_left 2
  · simp only [List.getElem?_toArray, List.getElem?_cons_succ, List.getElem?_cons_zero]; rfl
  · kernel_rfl
  · kernel_rfl
  · kernel_rfl
  · exact fun _ _ _ h => h
  · exact Or.inl ⟨by kernel_rfl, by intro w hSw; (try dsimp only at hSw); go_simp; try with_reducible rfl⟩
  · assumption
  try go_simp
  refine wpAnyH_ready (rs := [8]) (by kernel_rfl) (by simp) ?_
  refine AllReadyH.cons (o := ?_) ?_ ?_ AllReadyH.nil
  rotate_left 1
  · simp only [List.getElem?_toArray, List.getElem?_cons_succ, List.getElem?_cons_zero]; rfl
  intro K hK
  go_simp
  refine (HT.out w.drew HD.out.sto HD2.out.sto).mono ?_
  rintro e w2 ⟨rfl, A', c', k2⟩
  have HS2 := Lib.hid (HD.out.stored k2)
  have HK2 := Lib.hid k2
  have d1 := HS2.out.c1
  have d2 : w2.cell? ⟨p2, 1, none⟩ = some (.pointer (some ⟨g2, 0, none⟩)) := by rw [(HD2.out.blk.only k2.only (sto_ne_blk HD.out.sto HD2.out.blk (by decide) (by decide) (by decide))).cell]; rfl
  clear k2
  refine hK.out _ _ ?_ (fun hHeld => ?_)
  · exact ⟨d1, d2⟩
  clear hK K
  try go_simp
  refine wpAnyH_take (i := 9) (oi := ?_) (v := ?_) ?_ ?_ ?_ ?_ ?_ ?_ ?_ ?_
  rotate_left 2
  · simp only [List.getElem?_toArray, List.getElem?_cons_succ, List.getElem?_cons_zero]; rfl
  · kernel_rfl
  · kernel_rfl
  · kernel_rfl
  · exact fun _ _ _ h => h
  · exact Or.inl ⟨by kernel_rfl, by intro w hSw; (try dsimp only at hSw); go_simp; try with_reducible rfl⟩
  · assumption
  try go_simp
  refine wpAnyH_done (by kernel_rfl) ?_ _
  refine NoPanic.normal ?_
  go_wp2_with fail
  go_ret
  have hk : Stored g gl A m R1 w w2 A' c' := ⟨HK2.out.sto, (Only.of_below (Below.refl w.heap.size w).drew).trans HK2.out.only, HK2.out.new⟩
  exact ⟨rfl, A', c', HS2.out, hk⟩
set_option maxRecDepth 100000 in
theorem dtake_kind (h : Skt w p q As cs a g gl A c m all) (h2 : Skt w p2 q2 As2 cs2 a g2 gl2 A2 c2' m2 all2) (hm : m2 ≠ m) :
    Calls Tryz.prog 49 #[.pointer (some ⟨p, 0, none⟩), .pointer (some ⟨p2, 0, none⟩)] w fun e w' => e = .returned (.int .i64 3) ∧ Below w.heap.size w w' := by
  have c1 := h.c1
  have c2 := h2.c1
  have HT := Lib.hid (fun W (h : Sto W g gl A c m all) (h2 : Sto W g2 gl2 A2 c2' m2 all2) => stake_kind g gl g2 gl2 A A2 c c2' m m2 all all2 W h h2 hm)
  have HA1 := Lib.hid (dacc_t h)
  have HA2 := Lib.hid (dacc_t h2)
  have HD := Lib.hid (show Skt w.drew p q As cs a g gl A c m all from h.below (Below.refl _ _).drew)
  have HD2 := Lib.hid (show Skt w.drew p2 q2 As2 cs2 a g2 gl2 A2 c2' m2 all2 from h2.below (Below.refl _ _).drew)
  clear h h2 hm
  go_enter Tryz.func49, Tryz.ntmps49
  go_wp2_with fail
  refine HA2.out.mono ?_
  rintro e w1 ⟨rfl, rfl⟩
  go_wp2_with fail
  refine HA1.out.mono ?_
  rintro e w1 ⟨rfl, rfl⟩
  go_wp2_with fail
  refine wp_region_noPanic ?_
  refine wp_region_held_drew (S := (fun W => W.cell? ⟨p, 1, none⟩ = some (.pointer (some ⟨g, 0, none⟩)) ∧ W.cell? ⟨p2, 1, none⟩ = some (.pointer (some ⟨g2, 0, none⟩)))) (by kernel_rfl) ⟨c1, c2⟩ (fun hHeld => ?_)
  refine wpAnyH_take (i := 0) (oi := ?_) (v := ?_) ?_ ?_ ?_ ?_ ?_ ?_ ?_ ?_
  rotate_left 2
  · simp only [List.getElem?_toArray, List.getElem?_cons_zero]; rfl
  · kernel_rfl
  · kernel_rfl
  · kernel_rfl
  · exact fun _ _ _ h => h
  · exact Or.inl ⟨by kernel_rfl, by intro w hSw; (try dsimp only at hSw); go_simp; try with_reducible rfl⟩
  · assumption
  try go_simp
  refine wpAnyH_take (i := 1) (oi := ?_) (v := ?_) ?_ ?_ ?_ ?_ ?_ ?_ ?_ ?_
  rotate_left 2
  · simp only [List.getElem?_toArray, List.getElem?_cons_succ, List.getElem?_cons_zero]; rfl
  · kernel_rfl
  · kernel_rfl
  · kernel_rfl
  · exact fun _ _ _ h => h
  · exact Or.inl ⟨by kernel_rfl, by intro w hSw; (try dsimp only at hSw); go_simp; try with_reducible rfl⟩
  · assumption
  try go_simp
  refine wpAnyH_take (i := 2) (oi := ?_) (v := ?_) ?_ ?_ ?_ ?_ ?_ ?_ ?_ ?_
  rotate_left 2
  · simp only [List.getElem?_toArray, List.getElem?_cons_succ, List.getElem?_cons_zero]; rfl
  · kernel_rfl
  · kernel_rfl
  · kernel_rfl
  · exact fun _ _ _ h => h
  · exact Or.inl ⟨by kernel_rfl, by intro w hSw; (try dsimp only at hSw); go_simp; try with_reducible rfl⟩
  · assumption
  try go_simp
  refine wpAnyH_take (i := 3) (oi := ?_) (v := ?_) ?_ ?_ ?_ ?_ ?_ ?_ ?_ ?_
  rotate_left 2
  · simp only [List.getElem?_toArray, List.getElem?_cons_succ, List.getElem?_cons_zero]; rfl
  · kernel_rfl
  · kernel_rfl
  · kernel_rfl
  · exact fun _ _ _ h => h
  · exact Or.inl ⟨by kernel_rfl, by intro w hSw; (try dsimp only at hSw); go_simp; try with_reducible rfl⟩
  · assumption
  try go_simp
  refine wpAnyH_take (i := 4) (oi := ?_) (v := ?_) ?_ ?_ ?_ ?_ ?_ ?_ ?_ ?_
  rotate_left 2
  · simp only [List.getElem?_toArray, List.getElem?_cons_succ, List.getElem?_cons_zero]; rfl
  · kernel_rfl
  · kernel_rfl
  · kernel_rfl
  · exact fun _ _ _ h => h
  · exact Or.inl ⟨by kernel_rfl, by intro w hSw; (try dsimp only at hSw); go_simp; try with_reducible rfl⟩
  · assumption
  try go_simp
  refine wpAnyH_take (i := 5) (oi := ?_) (v := ?_) ?_ ?_ ?_ ?_ ?_ ?_ ?_ ?_
  rotate_left 2
  · simp only [List.getElem?_toArray, List.getElem?_cons_succ, List.getElem?_cons_zero]; rfl
  · kernel_rfl
  · kernel_rfl
  · kernel_rfl
  · exact fun _ _ _ h => h
  · exact Or.inl ⟨by kernel_rfl, by intro w hSw; (try dsimp only at hSw); go_simp; try with_reducible rfl⟩
  · assumption
  try go_simp
  refine wpAnyH_take (i := 6) (oi := ?_) (v := ?_) ?_ ?_ ?_ ?_ ?_ ?_ ?_ ?_
  rotate_left 2
  · simp only [List.getElem?_toArray, List.getElem?_cons_succ, List.getElem?_cons_zero]; rfl
  · kernel_rfl
  · kernel_rfl
  · kernel_rfl
  · exact fun _ _ _ h => h
  · exact Or.inl ⟨by kernel_rfl, by intro w hSw; (try dsimp only at hSw); go_simp; try with_reducible rfl⟩
  · assumption
  try go_simp
  refine wpAnyH_take (i := 7) (oi := ?_) (v := ?_) ?_ ?_ ?_ ?_ ?_ ?_ ?_ ?_
  rotate_left 2
  · simp only [List.getElem?_toArray, List.getElem?_cons_succ, List.getElem?_cons_zero]; rfl
  · kernel_rfl
  · kernel_rfl
  · kernel_rfl
  · exact fun _ _ _ h => h
  · exact Or.inl ⟨by kernel_rfl, by intro w hSw; (try dsimp only at hSw); go_simp; try with_reducible rfl⟩
  · assumption
  try go_simp
  refine wpAnyH_ready (rs := [8]) (by kernel_rfl) (by simp) ?_
  refine AllReadyH.cons (o := ?_) ?_ ?_ AllReadyH.nil
  rotate_left 1
  · simp only [List.getElem?_toArray, List.getElem?_cons_succ, List.getElem?_cons_zero]; rfl
  intro K hK
  go_simp
  refine (HT.out w.drew HD.out.sto HD2.out.sto).mono ?_
  rintro e w2 ⟨rfl, b2⟩
  have HB2 := Lib.hid b2
  have d1 := (HD.out.below b2).c1
  have d2 := (HD2.out.below b2).c1
  clear b2
  refine hK.out _ _ ?_ (fun hHeld => ?_)
  · exact ⟨d1, d2⟩
  clear hK K
  try go_simp
  refine wpAnyH_take (i := 9) (oi := ?_) (v := ?_) ?_ ?_ ?_ ?_ ?_ ?_ ?_ ?_
  rotate_left 2
  · simp only [List.getElem?_toArray, List.getElem?_cons_succ, List.getElem?_cons_zero]; rfl
  · kernel_rfl
  · kernel_rfl
  · kernel_rfl
  · exact fun _ _ _ h => h
  · exact Or.inl ⟨by kernel_rfl, by intro w hSw; (try dsimp only at hSw); go_simp; try with_reducible rfl⟩
  · assumption
  try go_simp
  refine wpAnyH_done (by kernel_rfl) ?_ _
  refine NoPanic.normal ?_
  go_wp2_with fail
  go_ret
  exact ⟨rfl, nextB (b := w.drew) (Below.refl _ _).drew HB2.out⟩
end
section
variable {base r cr a m cl base2 r2 cr2 m2 cl2 : Nat} {Ar Al Ar2 Al2 : Option Addr} {all all2 : List Pr} {w : World}
set_option maxRecDepth 100000 in
theorem rtake20_t (h : RSk w base r Ar cr a m Al cl all) (h2 : RSk w base2 r2 Ar2 cr2 a m Al2 cl2 all2) (hf : Fine all) (hf2 : Fine all2) (hb : base ≤ w.heap.size) :
    Calls Tryz.prog 20 #[.pointer (some ⟨r, 0, none⟩), .pointer (some ⟨r2, 0, none⟩)] w fun e w' => e = .returned (.int .i64 (rtake all all2 0).2) ∧ ∃ A' c', RSk w' base r Ar cr a m A' c' (rtake all all2 0).1 ∧ Only (fun i => i = r) w w' := by
  have HT := Lib.hid (fun W (h : OwnP W base Al cl all) (h2 : RSk W base2 r2 Ar2 cr2 a m Al2 cl2 all2 ∧ base ≤ W.heap.size) => take13_0 Al Al2 cl cl2 base all all2 W h (OwnP.reads h2.1.all) (by have := hf.len; omega) (by have := hf2.len; omega) hf.tot hf2.tot h2.2)
  have c1 : w.cell? ⟨r, 1, none⟩ = some (.int .i64 (a : Int)) := by rw [h.blk.cell]; rfl
  have c2 : w.cell? ⟨r, 2, none⟩ = some (.int .i64 (m : Int)) := by rw [h.blk.cell]; rfl
  have c3 : w.cell? ⟨r, 3, none⟩ = some (.slice Al all.length cl) := by rw [h.blk.cell]; rfl
  have d1 : w.cell? ⟨r2, 1, none⟩ = some (.int .i64 (a : Int)) := by rw [h2.blk.cell]; rfl
  have d2 : w.cell? ⟨r2, 2, none⟩ = some (.int .i64 (m : Int)) := by rw [h2.blk.cell]; rfl
  have d3 : w.cell? ⟨r2, 3, none⟩ = some (.slice Al2 all2.length cl2) := by rw [h2.blk.cell]; rfl
  have HD := Lib.hid (fun n => (h.drewN n).drew)
  have HD2 := Lib.hid (fun n => And.intro ((h2.drewN n).drew) (show base ≤ (w.drewN n).drew.heap.size from hb))
  have HH := Lib.hid h
  clear h h2 hf hf2 hb
  generalize rtake all all2 0 = R at *
  obtain ⟨R1, R2⟩ := R
  dsimp only at *
  go_enter Tryz.func20, Tryz.ntmps20
  go_wp2_with fail
  go_quiet (fail)
  go_wp2_with fail
  have HD' := Lib.hid (HD.out nq)
  have HD2' := Lib.hid (HD2.out nq)
  have HD3 := Lib.hid (HD2.out nq).1
  clear HD HD2
  have HD := HD'
  have HD2 := HD2'
  clear HD' HD2'
  refine wp_region_noPanic ?_
  refine wp_region_held_drew (S := (fun W => W.cell? ⟨r, 3, none⟩ = some (.slice Al all.length cl) ∧ W.cell? ⟨r2, 3, none⟩ = some (.slice Al2 all2.length cl2))) (by kernel_rfl) ⟨c3, d3⟩ (fun hHeld => ?_)
  refine wpAnyH_take (i := 0) (oi := ?_) (v := ?_) ?_ ?_ ?_ ?_ ?_ ?_ ?_ ?_
  rotate_left 2
  · simp only [List.getElem?_toArray, List.getElem?_cons_zero]; rfl
  · kernel_rfl
  · kernel_rfl
  · kernel_rfl
  · exact fun _ _ _ h => h
  · exact Or.inl ⟨by kernel_rfl, by intro w hSw; (try dsimp only at hSw); go_simp; try with_reducible rfl⟩
  · assumption
  try go_simp
  refine wpAnyH_take (i := 1) (oi := ?_) (v := ?_) ?_ ?_ ?_ ?_ ?_ ?_ ?_ ?_
  rotate_left 2
  · simp only [List.getElem?_toArray, List.getElem?_cons_succ, List.getElem?_cons_zero]; rfl
  · kernel_rfl
  · kernel_rfl
  · kernel_rfl
  · exact fun _ _ _ h => h
  · exact Or.inl ⟨by kernel_rfl, by intro w hSw; (try dsimp only at hSw); go_simp; try with_reducible rfl⟩
  · assumption
  try go_simp
  refine wpAnyH_take (i := 2) (oi := ?_) (v := ?_) ?_ ?_ ?_ ?_ ?_ ?_ ?_ ?_
  rotate_left 2
  · simp only [List.getElem?_toArray, List.getElem?_cons_succ, List.getElem?_cons_zero]; rfl
  · kernel_rfl
  · kernel_rfl
  · kernel_rfl
  · exact fun _ _ _ h => h
  · exact Or.inl ⟨by kernel_rfl, by intro w hSw; (try dsimp only at hSw); go_simp; try with_reducible rfl⟩
  · assumption
  try go_simp
  refine wpAnyH_take (i := 3) (oi := ?_) (v := ?_) ?_ ?_ ?_ ?_ ?_ ?_ ?_ ?_
  rotate_left 2
  · simp only [List.getElem?_toArray, List.getElem?_cons_succ, List.getElem?_cons_zero]; rfl
  · kernel_rfl
  · kernel_rfl
  · kernel_rfl
  · exact fun _ _ _ h => h
  · exact Or.inl ⟨by kernel_rfl, by intro w hSw; (try dsimp only at hSw); go_simp; try with_reducible rfl⟩
  · assumption
  try go_simp
  refine wpAnyH_take (i := 4) (oi := ?_) (v := ?_) ?_ ?_ ?_ ?_ ?_ ?_ ?_ ?_
  rotate_left 2
  · simp only [List.getElem?_toArray, List.getElem?_cons_succ, List.getElem?_cons_zero]; rfl
  · kernel_rfl
  · kernel_rfl
  · kernel_rfl
  · exact fun _ _ _ h => h
  · exact Or.inl ⟨by kernel_rfl, by intro w hSw; (try dsimp only at hSw); go_simp; try with_reducible rfl⟩
  · assumption
  try go_simp
  refine wpAnyH_take (i := 5) (oi := ?_) (v := ?_) ?_ ?_ ?_ ?_ ?_ ?_ ?_ ?_
  rotate_left 2
  · simp only [List.getElem?_toArray, List.getElem?_cons_succ, List.getElem?_cons_zero]; rfl
  · kernel_rfl
  · kernel_rfl
  · kernel_rfl
  · exact fun _ _ _ h => h
  · exact Or.inl ⟨by kernel_rfl, by intro w hSw; (try dsimp only at hSw); go_simp; try with_reducible rfl⟩
  · assumption
  try go_simp
  refine wpAnyH_take (i := 6) (oi := ?_) (v := ?_) ?_ ?_ ?_ ?_ ?_ ?_ ?_ ?_
  rotate_left 2
  · simp only [List.getElem?_toArray, List.getElem?_cons_succ, List.getElem?_cons_zero]; rfl
  · kernel_rfl
  · kernel_rfl
  · kernel_rfl
  · exact fun _ _ _ h => h
  · exact Or.inl ⟨by kernel_rfl, by intro w hSw; (try dsimp only at hSw); go_simp; try with_reducible rfl⟩
  · assumption
  try go_simp
  refine wpAnyH_take (i := 7) (oi := ?_) (v := ?_) ?_ ?_ ?_ ?_ ?_ ?_ ?_ ?_
  rotate_left 2
  · simp only [List.getElem?_toArray, List.getElem?_cons_succ, List.getElem?_cons_zero]; rfl
  · kernel_rfl
  · kernel_rfl
  · kernel_rfl
  · exact fun _ _ _ h => h
  · exact Or.inl ⟨by kernel_rfl, by intro w hSw; (try dsimp only at hSw); go_simp; try with_reducible rfl⟩
  · assumption
  try go_simp
  refine wpAnyH_ready (rs := [8]) (by kernel_rfl) (by simp) ?_
  refine AllReadyH.cons (o := ?_) ?_ ?_ AllReadyH.nil
  rotate_left 1
  · simp only [List.getElem?_toArray, List.getElem?_cons_succ, List.getElem?_cons_zero]; rfl
  intro K hK
  go_simp
  refine (HT.out (w.drewN nq).drew HD.out.all HD2.out).mono ?_
  rintro e w2 ⟨A2, c2_, rfl, o2, b2⟩
  have HR2 := Lib.hid (RSk.below HD.out b2)
  have HO2 := Lib.hid o2
  have HB2 := Lib.hid b2
  have x3 : w2.cell? ⟨r, 3, none⟩ = some (.slice Al all.length cl) := by rw [HR2.out.blk.cell]; rfl
  have y3 : w2.cell? ⟨r2, 3, none⟩ = some (.slice Al2 all2.length cl2) := by rw [(HD3.out.below b2).blk.cell]; rfl
  have f3 := HR2.out.blk.free 3
  clear o2 b2
  refine hK.out _ _ ?_ (fun hHeld => ?_)
  · exact ⟨x3, y3⟩
  clear hK K
  try go_simp
  refine wpAnyH_take (i := 9) (oi := ?_) (v := ?_) ?_ ?_ ?_ ?_ ?_ ?_ ?_ ?_
  rotate_left 2
  · simp only [List.getElem?_toArray, List.getElem?_cons_succ, List.getElem?_cons_zero]; rfl
  · kernel_rfl
  · kernel_rfl
  · kernel_rfl
  · exact fun _ _ _ h => h
  · exact Or.inl ⟨by kernel_rfl, by intro w hSw; (try dsimp only at hSw); go_simp; try with_reducible rfl⟩
  · assumption
  try go_simp
  refine wpAnyH_take (i := 10) (oi := ?_) (v := ?_) ?_ ?_ ?_ ?_ ?_ ?_ ?_ ?_
  rotate_left 2
  · simp only [List.getElem?_toArray, List.getElem?_cons_succ, List.getElem?_cons_zero]; rfl
  · kernel_rfl
  · kernel_rfl
  · kernel_rfl
  · exact fun _ _ _ h => h
  · exact Or.inl ⟨by kernel_rfl, by intro w hSw; (try dsimp only at hSw); go_simp; try with_reducible rfl⟩
  · assumption
  try go_simp
  refine wpAnyH_take (i := 11) (oi := ?_) (v := ?_) ?_ ?_ ?_ ?_ ?_ ?_ ?_ ?_
  rotate_left 2
  · simp only [List.getElem?_toArray, List.getElem?_cons_succ, List.getElem?_cons_zero]; rfl
  · kernel_rfl
  · kernel_rfl
  · kernel_rfl
  · exact fun _ _ _ h => h
  · exact Or.inl ⟨by kernel_rfl, by intro w hSw; (try dsimp only at hSw); go_simp; try with_reducible rfl⟩
  · assumption
  try go_simp
  refine wpAnyH_take (i := 12) (oi := ?_) (v := ?_) ?_ ?_ ?_ ?_ ?_ ?_ ?_ ?_
  rotate_left 2
  · simp only [List.getElem?_toArray, List.getElem?_cons_succ, List.getElem?_cons_zero]; rfl
  · kernel_rfl
  · kernel_rfl
  · kernel_rfl
  · exact fun _ _ _ h => h
  · exact Or.inl ⟨by kernel_rfl, by intro w hSw; (try dsimp only at hSw); go_simp; try with_reducible rfl⟩
  · assumption
  try go_simp
  refine wpAnyH_take (i := 13) (oi := ?_) (v := ?_) ?_ ?_ ?_ ?_ ?_ ?_ ?_ ?_
  rotate_left 2
  · simp only [List.getElem?_toArray, List.getElem?_cons_succ, List.getElem?_cons_zero]; rfl
  · kernel_rfl
  · kernel_rfl
  · kernel_rfl
  · exact fun _ _ _ h => h
  · exact Or.inl ⟨by kernel_rfl, by intro w hSw; (try dsimp only at hSw); go_simp; try with_reducible rfl⟩
  · assumption
  try go_simp
  refine wpAnyH_done (by kernel_rfl) ?_ _
  refine NoPanic.normal ?_
  go_wp2_with fail
  go_ret
  refine ⟨rfl, ⟨A2, c2_, ⟨?_, ?_, ?_⟩⟩, ?_⟩
  · have := HR2.out.blk.put 3 (.slice A2 R1.length c2_)
    simpa using this
  · exact Own.setOther HR2.out.rng (p := ⟨r, 3, none⟩) (Own.ne_blk HR2.out.rng HR2.out.blk (by decide)) _
  · exact Own.setOther (show Own w2 base 64 2 A2 R1.length c2_ (pcs R1) from HO2.out) (p := ⟨r, 3, none⟩) (Own.ne_blk (show Own w2 base 64 2 A2 R1.length c2_ (pcs R1) from HO2.out) HR2.out.blk (by decide)) _
  · exact Only.set (K := fun i => i = r) (p := ⟨r, 3, none⟩) ((Only.of_below ((below_drewN (Below.refl w.heap.size w) nq).drew.trans HB2.out))) (.inl rfl) _
set_option maxRecDepth 100000 in
theorem rtake20_kind (h : RSk w base r Ar cr a m Al cl all) (h2 : RSk w base2 r2 Ar2 cr2 a m2 Al2 cl2 all2) (hm : m2 ≠ m) :
    Calls Tryz.prog 20 #[.pointer (some ⟨r, 0, none⟩), .pointer (some ⟨r2, 0, none⟩)] w fun e w' => e = .returned (.int .i64 3) ∧ ∃ n, w' = w.drewN n := by
  have c1 : w.cell? ⟨r, 1, none⟩ = some (.int .i64 (a : Int)) := by rw [h.blk.cell]; rfl
  have c2 : w.cell? ⟨r, 2, none⟩ = some (.int .i64 (m : Int)) := by rw [h.blk.cell]; rfl
  have d1 : w.cell? ⟨r2, 1, none⟩ = some (.int .i64 (a : Int)) := by rw [h2.blk.cell]; rfl
  have d2 : w.cell? ⟨r2, 2, none⟩ = some (.int .i64 (m2 : Int)) := by rw [h2.blk.cell]; rfl
  have x1 : ((m2 : Int) == (m : Int)) = false := by simp; omega
  have x2 : (m2 == m) = false := by simp; omega
  have x3 : ((m2 : Int) != (m : Int)) = true := by simp; omega
  have x4 : (m2 != m) = true := by simp; omega
  clear h h2 hm
  go_enter Tryz.func20, Tryz.ntmps20
  go_wp2_with fail
  go_quiet (fail)
  go_wp2_with fail
  go_ret
  exact ⟨rfl, nq, rfl⟩
end
theorem rof_t (base a m : Nat) (A : Option Addr) (c : Nat) (all : List Pr) (w : World) (h : OwnP w base A c all) (hb : base ≤ w.heap.size) (hf : Fine all) (hm0 : 2 ≤ m) (hm1 : m ≤ 4096) (ha : a ≤ 5000) :
    Calls Tryz.prog 16 #[.int .i64 (a : Int), .int .i64 (m : Int), .slice A all.length c] w fun e w' => ∃ A' c', e = .returned (.slice A' (docW a m (cutL all (m : Int)).1 (cutL all (m : Int)).2).length c') ∧ OwnB w' w.heap.size A' c' (docW a m (cutL all (m : Int)).1 (cutL all (m : Int)).2) ∧ Below w.heap.size w w' := by
  have HK := Lib.hid (kept15_t base A c all (m : Int) w h hb (by have := hf.len; omega) hf.tot)
  have hfk := kept_fine hf (m : Int)
  have hlk := cutL_len (L := all) (m := m) (by omega)
  have hF : (cutL all (m : Int)).2 ≤ 4611686018427387904 := by
    have ht := hf.tot
    unfold cutL
    split
    · exact Nat.zero_le _
    · have := tot_take_le (L := all) (k := all.length - cutN (m : Int))
      exact Nat.le_trans this ht
  have HW := Lib.hid (fun A c W (h : Prs W W.heap.size A (cutL all (m : Int)).1) => refwrite_t a m A c (cutL all (m : Int)).1 (cutL all (m : Int)).2 W h hfk (by omega) ha hm1 hF)
  clear h hb hf hm0 hm1 ha hfk hlk hF
  generalize cutL all (m : Int) = R at *
  obtain ⟨R1, R2⟩ := R
  dsimp only at *
  go_enter Tryz.func16, Tryz.ntmps16
  go_wp2_with fail
  refine HK.out.mono ?_
  rintro e w1 ⟨A1, c1, rfl, o1, b1, _⟩
  have HO1 := Lib.hid o1
  have HB1 := Lib.hid b1
  clear o1 b1
  go_wp2_with fail
  refine (HW.out A1 c1 w1 (OwnP.reads HO1.out)).mono ?_
  rintro e w2 ⟨A2, c2, rfl, o2, b2⟩
  have HO2 := Lib.hid (Own.mono o2 HB1.out.size)
  have HB2 := Lib.hid (nextB HB1.out b2)
  clear o2 b2
  go_wp2_with fail
  go_ret
  exact ⟨A2, c2, rfl, HO2.out, HB2.out⟩
/-- What is cut off ahead of being taken together: plain. -/
theorem cut_both {all1 all2 B1 B2 : List Pr} {m : Int} (h1 : Fine all1) (h2 : Fine all2) (k1 : Fine B1) (k2 : Fine B2) (e1 : cutL B1 m = cutL all1 m) (e2 : cutL B2 m = cutL all2 m) (h0 : (rtake all1 all2 0).2 = 0) : (rtake B1 B2 0).2 = 0 ∧ cutL (rtake B1 B2 0).1 m = cutL (rtake all1 all2 0).1 m := by
  obtain ⟨r1, r2, _⟩ := rtake_kept h1 h2 m
  obtain ⟨s1, s2, _⟩ := rtake_kept k1 k2 m
  rw [e1, e2, r1] at s1
  have hz : (rtake B1 B2 0).2 = 0 := by rw [← s1, h0]
  obtain ⟨r3, r4⟩ := r2 h0
  obtain ⟨s3, s4⟩ := s2 hz
  rw [e1, e2] at s3 s4
  rw [r3] at s3
  refine ⟨hz, Prod.ext s3.symm ?_⟩
  rw [s4, r4, s3]
end Go.Proofs.YtbfhiegbgkkgiaaGreat
/- Bytes of sketches joined: walked. -/

namespace Go.Proofs.YtbfhiegbgkkgiaaGreat
open Go.RowKit
open Pl
open Sc
open Wi
theorem few_take {all1 all2 : List Pr} {i j a : Nat} (h1 : Few all1 i a) (h2 : Few all2 j a) (hij : i + j ≤ 100) : (rtake all1 all2 0).2 = 0 ∧ Few (rtake all1 all2 0).1 (i + j) a := by
  have ht1 := h1.tot
  have ht2 := h2.tot
  have hl1 := h1.len
  have hl2 := h2.len
  obtain ⟨f1, f2⟩ := took_fine h1.fine h2.fine (by omega)
  have hr := rtake0 all1 all2
  by_cases hM : all2 = []
  · rw [if_pos hM] at hr
    rw [hr] at f1 f2 ⊢
    exact ⟨rfl, f1, by dsimp only; omega, by dsimp only; omega, h1.keys⟩
  · rw [if_neg hM, if_neg (by omega)] at hr
    rw [hr] at f1 f2 ⊢
    refine ⟨rfl, f1, by dsimp only at f2 ⊢; omega, by dsimp only; rw [puts_tot]; omega, fun p hp => ?_⟩
    rcases puts_keys p hp with ⟨q, hq, e⟩ | ⟨q, hq, e⟩
    · rw [← e]; exact h1.keys q hq
    · rw [← e]; exact h2.keys q hq
theorem readF_cut {D : List UInt8} {r : Nat × Nat × List Pr × Nat} (h : readF D = some r) {k : Nat} (hk : k < D.length) : readF (D.take k) = none := by
  cases hc : readF (D.take k) with
  | none => rfl
  | some s =>
    obtain ⟨a, m, L, f⟩ := s
    obtain ⟨a0, a1, m0, m1, hl, hs, hp, hke, hd, _⟩ := readF_some hc
    have hb := readF_behind hke hs hp hl a0 a1 m0 m1 (more := D.drop k) (fun e => by
      have := congrArg List.length e
      rw [List.length_drop, List.length_nil] at this
      omega)
    rw [hd, List.take_append_drop, h] at hb
    cases hb
def JoinNo (w : World) (x : Int) (e : Ending) (w' : World) : Prop := e = .returned (.tuple #[.slice none 0 0, .int .i64 x]) ∧ Below w.heap.size w w'
section
variable {w : World} {A A2 : Option Addr} {c c2 n n2 : Nat} {la lb : List UInt8} (hn : la.length = n) (hn2 : lb.length = n2) (hb : Bts w w.heap.size A la) (hb2 : Bts w w.heap.size A2 lb) (hl : la.length ≤ 100000000) (hl2 : lb.length ≤ 100000000)
include hn hb hl
theorem join_no1 (h : readF la = none) : Calls Tryz.prog 19 #[.slice A n c, .slice A2 n2 c2] w (JoinNo w 9) := by
  have H := Lib.hid (read_t A c la w hb hl)
  rw [h, hn] at H
  clear h hn hb hl
  go_enter Tryz.func19, Tryz.ntmps19
  go_wp2_with fail
  refine H.out.mono ?_
  rintro e w1 ⟨rfl, b1⟩
  have B1 := Lib.hid b1
  clear b1
  go_wp2_with fail
  go_ret2
  exact ⟨rfl, B1.out⟩
include hn2 hb2 hl2
theorem join_no2 {r : Nat × Nat × List Pr × Nat} (h : readF la = some r) (h2 : readF lb = none) : Calls Tryz.prog 19 #[.slice A n c, .slice A2 n2 c2] w (JoinNo w 9) := by
  have H := Lib.hid (read_t A c la w hb hl)
  have H2 := Lib.hid (fun W h => read_t A2 c2 lb W h hl2)
  have HB2 := Lib.hid hb2
  rw [h, hn] at H
  rw [h2, hn2] at H2
  obtain ⟨a, m, L, f⟩ := r
  clear h h2 hn hn2 hb hb2 hl hl2
  go_enter Tryz.func19, Tryz.ntmps19
  go_wp2_with fail
  refine H.out.mono ?_
  rintro e w1 ⟨p, q, As, cs, g, gl, A', c', rfl, s1, b1⟩
  have B1 := Lib.hid b1
  clear b1 s1
  go_wp2_with fail
  refine (H2.out w1 (HB2.out.at_below B1.out)).mono ?_
  rintro e w2 ⟨rfl, b2⟩
  have B2 := Lib.hid (nextB B1.out b2)
  clear b2
  go_wp2_with fail
  go_ret2
  exact ⟨rfl, B2.out⟩
theorem join_kind {a m m2 f f2 : Nat} {L L2 : List Pr} (h : readF la = some (a, m, L, f)) (h2 : readF lb = some (a, m2, L2, f2)) (hm : m2 ≠ m) : Calls Tryz.prog 19 #[.slice A n c, .slice A2 n2 c2] w (JoinNo w 3) := by
  have H := Lib.hid (read_t A c la w hb hl)
  have H2 := Lib.hid (fun W h => read_t A2 c2 lb W h hl2)
  have HB2 := Lib.hid hb2
  have HM : Hid ((m2 : Int) ≠ (m : Int)) := Lib.hid (by omega)
  rw [h, hn] at H
  rw [h2, hn2] at H2
  clear h h2 hn hn2 hb hb2 hl hl2 hm
  go_enter Tryz.func19, Tryz.ntmps19
  go_wp2_with fail
  refine H.out.mono ?_
  rintro e w1 ⟨p, q, As, cs, g, gl, A', c', rfl, s1, b1⟩
  have B1 := Lib.hid b1
  have S1 := Lib.hid s1
  clear b1 s1
  go_wp2_with fail
  refine (H2.out w1 (HB2.out.at_below B1.out)).mono ?_
  rintro e w2 ⟨p2, q2, As2, cs2, g2, gl2, A2', c2', rfl, s2, b2⟩
  have B2 := Lib.hid (nextB B1.out b2)
  have S2 := Lib.hid s2
  have S1' := Lib.hid (S1.out.below b2)
  clear b2 s2
  go_wp2_with fail
  refine (dtake_kind S1'.out S2.out HM.out).mono ?_
  rintro e w3 ⟨rfl, b3⟩
  have B3 := Lib.hid (nextB B2.out b3)
  clear b3
  go_wp2_with fail
  go_ret2
  exact ⟨rfl, B3.out⟩
theorem join_ok {a m f f2 : Nat} {L L2 K : List Pr} {F : Nat} (h : readF la = some (a, m, L, f)) (h2 : readF lb = some (a, m, L2, f2)) (hz : (rtake (allOf L f) (allOf L2 f2) 0).2 = 0) (hK : cutL (rtake (allOf L f) (allOf L2 f2) 0).1 (m : Int) = (K, F)) (k1 : Keeps a m K F) (k2 : Srt K) (k3 : Pos K) (k4 : K.length ≤ m) :
    Calls Tryz.prog 19 #[.slice A n c, .slice A2 n2 c2] w (Bytes w (docW a m K F)) := by
  obtain ⟨a0, a1, m0, m1, hlm, hs, hp, hke, _, _⟩ := readF_some h
  obtain ⟨_, _, _, _, hlm2, hs2, hp2, hke2, _, _⟩ := readF_some h2
  have H := Lib.hid (read_g A c la w hb hl)
  have H2 := Lib.hid (fun W h => read_t A2 c2 lb W h hl2)
  have HB2 := Lib.hid hb2
  have hf1 := allOf_fine hke hs hp (by omega)
  have hf2 := allOf_fine hke2 hs2 hp2 (by omega)
  have hlen : (allOf L f).length + (allOf L2 f2).length ≤ 100000 := by
    have e1 : ∀ (X : List Pr) (z : Nat), (allOf X z).length ≤ X.length + 1 := fun X z => by
      unfold allOf
      split
      · omega
      · split <;> simp
    have := e1 L f
    have := e1 L2 f2
    omega
  have hft := (took_fine hf1 hf2 hlen).1
  rw [h, hn] at H
  rw [h2, hn2] at H2
  have HDT := Lib.hid (fun W p q cs g gl c' As A' p2 q2 cs2 g2 gl2 c2' As2 A2' (s1 : Skt W p q As cs a g gl A' c' (m : Int) (allOf L f)) (s2 : Skt W p2 q2 As2 cs2 a g2 gl2 A2' c2' (m : Int) (allOf L2 f2)) => dtake_t s1 s2 hf1 hf2 hlen (by omega) (by omega))
  have HWG := Lib.hid (fun W p q cs g gl c' As A' (s : Skt W p q As cs a g gl A' c' (m : Int) (rtake (allOf L f) (allOf L2 f2) 0).1) => write_g p a m K F W (keeps_fine k1 k2 k3 m1 k4) (by omega) a1 m1 (keeps_fold k1) (by have := dpairs_t s hft; rwa [hK] at this) (fun V hb => dacc_t (s.below hb)) (fun V hb => dbudget_t (s.below hb)) (fun V hb => by have := dfolded_t (s.below hb); rwa [hK] at this))
  obtain ⟨T, hT⟩ : ∃ T, T = rtake (allOf L f) (allOf L2 f2) 0 := ⟨_, rfl⟩
  rw [← hT] at HDT HWG hz
  obtain ⟨T1, T2⟩ := T
  dsimp only at hz HDT HWG
  subst hz
  generalize docW a m K F = DW at *
  clear h h2 hn hn2 hb hb2 hl hl2 hke hke2 hs hs2 hp hp2 hlm hlm2 a0 a1 m0 m1 hf1 hf2 hlen hft hK k1 k2 k3 k4 hT
  go_enter Tryz.func19, Tryz.ntmps19
  go_wp2_with fail
  refine H.out.mono ?_
  rintro e w1 ⟨p, q, As, cs, g, gl, A', c', rfl, s1, b1, hg, hgl⟩
  have B1 := Lib.hid b1
  have S1 := Lib.hid s1
  have HG := Lib.hid (And.intro hg hgl)
  clear b1 s1 hg hgl
  go_wp2_with fail
  refine (H2.out w1 (HB2.out.at_below B1.out)).mono ?_
  rintro e w2 ⟨p2, q2, As2, cs2, g2, gl2, A2', c2', rfl, s2, b2⟩
  have B2 := Lib.hid (nextB B1.out b2)
  have S2 := Lib.hid s2
  have S1' := Lib.hid (S1.out.below b2)
  clear b2 s2
  go_wp2_with fail
  refine (HDT.out w2 p q cs g gl c' As A' p2 q2 cs2 g2 gl2 c2' As2 A2' S1'.out S2.out).mono ?_
  rintro e w3 ⟨rfl, A3, c3, s3, k3⟩
  have B3 := Lib.hid (stored_below B2.out HG.out.1 HG.out.2 S1'.out.sto k3)
  have S3 := Lib.hid s3
  clear s3 k3
  go_wp2_with fail
  refine (HWG.out w3 p q cs g gl c3 As A3 S3.out).mono ?_
  rintro e w4 ⟨A4, c4, rfl, o4, b4⟩
  have O4 := Lib.hid (Own.mono o4 B3.out.size)
  have B4 := Lib.hid (nextB B3.out b4)
  clear o4 b4
  go_wp2_with fail
  go_ret2
  exact ⟨A4, c4, rfl, O4.out, B4.out⟩
end
end Go.Proofs.YtbfhiegbgkkgiaaGreat
/- DdwireJoins walked. -/

namespace Go.Proofs.YtbfhiegbgkkgiaaGreat
open Go.RowKit
open Pl
open Sc
open Wi
theorem cut_ways (cut : Int) (n : Nat) : decide (cut < 0) = true ∨ (decide (cut < 0) = false ∧ decide ((n : Int) ≤ cut) = true) ∨ ∃ k : Nat, cut = (k : Int) ∧ k < n := by
  by_cases h1 : cut < 0
  · exact .inl (by simp; omega)
  · by_cases h2 : (n : Int) ≤ cut
    · exact .inr (.inl ⟨by simp; omega, by simp; omega⟩)
    · exact .inr (.inr ⟨cut.toNat, by omega, by omega⟩)
set_option maxRecDepth 100000 in
set_option maxHeartbeats 6400000 in
theorem ddwireJoins_walk (w : World) (am : Int) (ham0 : 0 ≤ am) (_ham1 : am ≤ 65535) (mm : Int) (hmm0 : 0 ≤ mm) (hmm1 : mm ≤ 65535) (L : Option Addr) (cL : Nat) (l : List Int) (hl : l.length ≤ maxLen) (_hcl : l.length ≤ cL) (zl : ∀ n ∈ l, (Lit.int .i64 n).wf = true) (sl : Reads w w.heap.size 1 L l.length (l.map (intv .i64)))
    (K : Option Addr) (cK : Nat) (lk : List Int) (hlk : lk.length ≤ maxLen) (_hck : lk.length ≤ cK) (zk : ∀ n ∈ lk, (Lit.int .i64 n).wf = true) (sk : Reads w w.heap.size 1 K lk.length (lk.map (intv .i64)))
    (N : Option Addr) (cN : Nat) (ns : List Int) (hn : ns.length ≤ maxLen) (_hcn : ns.length ≤ cN) (zn : ∀ n ∈ ns, (Lit.int .u16 n).wf = true) (sn : Reads w w.heap.size 1 N ns.length (ns.map (intv .u16)))
    (other : Bool) (cut : Int) (_hcut0 : -9223372036854775808 ≤ cut) (_hcut1 : cut ≤ 9223372036854775807) :
    Calls Tryz.prog 5 #[.int .u16 am, .int .u16 mm, .slice L l.length cL, .slice K lk.length cK, .slice N ns.length cN, .bool other, .int .i64 cut] w fun e w' => e = .returned (.bool true) ∧ Below w.heap.size w w' := by
  obtain ⟨am, rfl⟩ : ∃ n : Nat, am = (n : Int) := ⟨am.toNat, by omega⟩
  obtain ⟨mm, rfl⟩ : ∃ n : Nat, mm = (n : Int) := ⟨mm.toNat, by omega⟩
  unfold maxLen at hl hlk hn
  have zl' : ∀ x ∈ l, -9223372036854775808 ≤ x ∧ x ≤ 9223372036854775807 := fun x hx => WfBounds.i64 (zl x hx)
  have zk' : ∀ x ∈ lk, -9223372036854775808 ≤ x ∧ x ≤ 9223372036854775807 := fun x hx => WfBounds.i64 (zk x hx)
  have zn' : ∀ x ∈ ns, 0 ≤ x ∧ x ≤ 65535 := fun x hx => WfBounds.u16 (zn x hx)
  obtain ⟨m2, hm2⟩ : ∃ m2 : Nat, m2 = if other then (mm + 1) % 65536 else mm := ⟨_, rfl⟩
  have HAD := Lib.hid (fun W (h : Reads W W.heap.size 1 L l.length (l.map (intv .i64))) (h2 : Reads W W.heap.size 1 N ns.length (ns.map (intv .u16))) => added_t am mm L N cL cN l ns W h h2 (by omega) (by omega) zl' zn')
  have HAD2 := Lib.hid (fun W (h : Reads W W.heap.size 1 K lk.length (lk.map (intv .i64))) => added_t am m2 K none cK 0 lk [] W h (Reads.empty _ _ _ _) (by omega) (Nat.zero_le _) zk' (fun x hx => by cases hx))
  have hmo : if other then 2 + m2 % 20 ≠ 2 + mm % 20 else m2 = mm := by
    rw [hm2]
    cases other <;> simp <;> omega
  obtain ⟨a, ha⟩ : ∃ a, a = 500 + am % 46 * 100 := ⟨_, rfl⟩
  obtain ⟨m, hm⟩ : ∃ m, m = 2 + mm % 20 := ⟨_, rfl⟩
  obtain ⟨m', hm'⟩ : ∃ m', m' = 2 + m2 % 20 := ⟨_, rfl⟩
  rw [← ha, ← hm] at HAD
  rw [← ha, ← hm'] at HAD2
  have ha0 : 100 ≤ a := by omega
  have ha1 : a ≤ 5000 := by omega
  have hm0 : 2 ≤ m := by omega
  have hm1 : m ≤ 4096 := by omega
  have hm0' : 2 ≤ m' := by omega
  have hm1' : m' ≤ 4096 := by omega
  have hfw := allZ_few (ns := ns) ha0 ha1 zl' (min l.length 40) (by omega)
  have hfw2 := allZ_few (ns := []) ha0 ha1 zk' (min lk.length 40) (by omega)
  generalize allZ a l ns (min l.length 40) = all at *
  generalize allZ a lk [] (min lk.length 40) = all2 at *
  obtain ⟨k1, k2, k3, k4⟩ := keeps_all hfw hm0 (m := m)
  obtain ⟨j1, j2, j3, j4⟩ := keeps_all hfw2 hm0' (m := m')
  have HWR := Lib.hid (fun W p q cs g gl c As A (h : Skt W p q As cs a g gl A c (m : Int) all) => write_all h ha1 hm0 hm1 hfw)
  have HWR2 := Lib.hid (fun W p q cs g gl c As A (h : Skt W p q As cs a g gl A c (m' : Int) all2) => write_all h ha1 hm0' hm1' hfw2)
  have hr1 := readF_docW k1 k2 k3 k4 ha0 ha1 hm0 hm1
  have hr2 := readF_docW j1 j2 j3 j4 ha0 ha1 hm0' hm1'
  have hd1 := docW_len k1 k4 ha1 hm1
  have hd2 := docW_len j1 j4 ha1 hm1'
  obtain ⟨D1, hD1⟩ : ∃ D, D = docW a m (cutL all (m : Int)).1 (cutL all (m : Int)).2 := ⟨_, rfl⟩
  obtain ⟨D2, hD2⟩ : ∃ D, D = docW a m' (cutL all2 (m' : Int)).1 (cutL all2 (m' : Int)).2 := ⟨_, rfl⟩
  rw [← hD1] at HWR hr1 hd1
  rw [← hD2] at HWR2 hr2 hd2
  have HRD1 := Lib.hid hr1
  have HRD2 := Lib.hid hr2
  have HD1 := Lib.hid hd1
  have hcut := cut_ways cut D2.length
  have hD1i : (D1.length : Int) ≤ 100000 := by omega
  have hD2i : (D2.length : Int) ≤ 100000 := by omega
  have HSL := Lib.hid sl
  have HSK := Lib.hid sk
  have HSN := Lib.hid sn
  have HM2 := Lib.hid hm2
  have hmmi : (mm : Int) ≤ 65535 := hmm1
  have HF1 := Lib.hid hfw
  have HF2 := Lib.hid hfw2
  have HMB := Lib.hid (And.intro ha0 (And.intro ha1 (And.intro hm0 hm1)))
  cases other with
  | true =>
    have hne : (m' : Nat) ≠ m := by rw [hm', hm]; simpa using hmo
    have HNE := Lib.hid hne
    have HKI := Lib.hid (fun W A A2 c c2 (h : Bts W W.heap.size A D1) (h2 : Bts W W.heap.size A2 D2) => join_kind (w := W) (A := A) (A2 := A2) (c := c) (c2 := c2) rfl rfl h h2 (by omega) (by omega) hr1 hr2 hne)
    have e46 : IntKind.u16.wrap ((mm : Int) + 1) = (m2 : Int) := by
      rw [IntKind.wrap_u16, hm2]; simp
    clear hmo hl zl zl' sl hlk zk zk' sk hn zn zn' sn ham0 hmm0 hmm1 k1 k2 k3 k4 j1 j2 j3 j4 ha hm hm' hD1 hD2 hfw hfw2 hd1 hd2 hr1 hr2 ha0 ha1 hm0 hm1 hm0' hm1' hm2 hne
    go_enter Tryz.func5, Tryz.ntmps5
    go_wp2_with fail
    refine (alive21_t _).mono ?_
    rintro e w1 ⟨rfl, hb1⟩
    have HB1 := Lib.hid hb1
    clear hb1
    go_wp2_with fail
    refine (HAD.out w1 (Reads.at_below HSL.out HB1.out) (Reads.at_below HSN.out HB1.out)).mono ?_
    rintro e w2 ⟨p, q, As, cs, gk, gl, A, c, r, Ar, cr, Al, cl, rfl, _, hbo⟩
    have HB2 := Lib.hid (nextB HB1.out hbo.below)
    have HBO := Lib.hid hbo
    clear hbo HAD
    go_wp2_with fail
    refine (show Calls Tryz.prog 7 #[.int .u16 (am : Int), .int .u16 (m2 : Int), .slice K lk.length cK, .slice none 0 0] w2 _ from HAD2.out w2 (Reads.at_below HSK.out HB2.out)).mono ?_
    rintro e w3 ⟨p2, q2, As2, cs2, gk2, gl2, A2, c2, r2, Ar2, cr2, Al2, cl2, rfl, _, hbo2⟩
    have HB3 := Lib.hid (nextB HB2.out hbo2.below)
    have HBO2 := Lib.hid hbo2
    have HS3 := Lib.hid (HBO.out.sk.below hbo2.below)
    have HR3 := Lib.hid (HBO.out.rs.below hbo2.below)
    clear hbo2 HAD2
    go_wp2_with fail
    refine (HWR.out w3 _ _ _ _ _ _ _ _ HS3.out).mono ?_
    rintro e w4 ⟨A4, c4, rfl, o4, b4⟩
    have HB4 := Lib.hid (nextB HB3.out b4)
    have HO4 := Lib.hid o4
    have HS4 := Lib.hid (HBO2.out.sk.below b4)
    have HR4 := Lib.hid (HR3.out.below b4)
    have HR24 := Lib.hid (HBO2.out.rs.below b4)
    clear o4 b4
    go_wp2_with fail
    refine (HWR2.out w4 _ _ _ _ _ _ _ _ HS4.out).mono ?_
    rintro e w5 ⟨A5, c5, rfl, o5, b5⟩
    have HB5 := Lib.hid (nextB HB4.out b5)
    have HO5 := Lib.hid o5
    have HO45 : Hid (OwnB w5 w3.heap.size A4 c4 D1) := Lib.hid (Own.below HO4.out b5)
    have HR5 := Lib.hid (HR4.out.below b5)
    have HR25 := Lib.hid (HR24.out.below b5)
    clear o5 b5
    go_wp2_with fail
    refine (HKI.out w5 A4 A5 c4 c5 (OwnB.reads HO45.out) (OwnB.reads HO5.out)).mono ?_
    rintro e w6 ⟨rfl, b6⟩
    have HB6 := Lib.hid (nextB HB5.out b6)
    have HX6 : Hid (OwnB w6 w3.heap.size A4 c4 D1) := Lib.hid (Own.below HO45.out b6)
    have HY6 : Hid (OwnB w6 w4.heap.size A5 c5 D2) := Lib.hid (Own.below HO5.out b6)
    have HR6 := Lib.hid (HR5.out.below b6)
    have HR26 := Lib.hid (HR25.out.below b6)
    clear b6
    go_wp2_with fail
    refine (rtake20_kind HR6.out HR26.out HNE.out).mono ?_
    rintro e w7 ⟨rfl, n7, rfl⟩
    have HB7 := Lib.hid (below_drewN HB6.out n7)
    have HX : Hid (OwnB (w6.drewN n7) w3.heap.size A4 c4 D1) := HX6
    have HY : Hid (OwnB (w6.drewN n7) w4.heap.size A5 c5 D2) := HY6
    clear HX6 HY6 HM2
    rcases hcut with x1 | ⟨x1, x2⟩ | ⟨k, rfl, hk⟩
    · go_wp2_with fail
      go_ret
      exact ⟨rfl, HB7.out⟩
    · go_wp2_with fail
      go_ret
      exact ⟨rfl, HB7.out⟩
    · obtain ⟨g, hg, _, _, hcc, _, _⟩ := Own.form (show Own (w6.drewN n7) w4.heap.size 5 1 A5 D2.length c5 (bvs D2) from HY.out) (by omega)
      subst hg
      have hT : Bts (w6.drewN n7) (w6.drewN n7).heap.size (some ⟨g, 0, none⟩) (D2.take k) := by
        have h := Reads.take (k := k) (show Reads (w6.drewN n7) (w6.drewN n7).heap.size 1 (some ⟨g, 0, none⟩) D2.length (bvs D2) from OwnB.reads HY.out) (by omega)
        unfold Bts
        rw [List.length_take, Nat.min_eq_left (by omega), bvs_take]
        simpa using h
      have hlk : (D2.take k).length = k := by rw [List.length_take]; omega
      have HJ1 := Lib.hid (join_no2 (A := A4) (A2 := some ⟨g, 0, none⟩) (c := c4) (c2 := c5) rfl hlk (OwnB.reads HX.out) hT (by have := HD1.out; omega) (by omega) HRD1.out (readF_cut HRD2.out hk))
      have HJ2 := Lib.hid (fun W (h : Bts W W.heap.size (some ⟨g, 0, none⟩) (D2.take k)) => join_no1 (w := W) (A := some ⟨g, 0, none⟩) (A2 := A4) (c := c5) (c2 := c4) (n2 := D1.length) hlk h (by omega) (readF_cut HRD2.out hk))
      have HT := Lib.hid hT
      have t1 : decide ((k : Int) < 0) = false := by simp
      have t2 : decide (D2.length ≤ k) = false := by simp; omega
      have t3 : (k : Int) ≤ (c5 : Int) := by omega
      have t4 : (0 : Int) ≤ (k : Int) := by omega
      clear hk hcc hT hlk
      go_wp2_with fail
      refine HJ1.out.mono ?_
      rintro e w10 ⟨rfl, b10⟩
      have HB10 := Lib.hid (nextB HB7.out b10)
      have HT10 := Lib.hid (HT.out.at_below b10)
      clear b10
      go_wp2_with fail
      refine (HJ2.out w10 HT10.out).mono ?_
      rintro e w11 ⟨rfl, b11⟩
      have HB11 := Lib.hid (nextB HB10.out b11)
      clear b11
      go_wp2_with fail
      go_ret
      exact ⟨rfl, HB11.out⟩
  | false =>
    have hmm2 : m2 = mm := by simpa using hmo
    obtain rfl : m' = m := by rw [hm', hm, hmm2]
    subst hmm2
    obtain ⟨T, hT⟩ : ∃ T, T = (rtake all all2 0).1 := ⟨_, rfl⟩
    have hij : min l.length 40 + min lk.length 40 ≤ 100 := by omega
    obtain ⟨t1, t2⟩ := few_take hfw hfw2 hij
    obtain ⟨i1, i2, i3, i4⟩ := keeps_all t2 hm0 (m := m')
    obtain ⟨b1, b2⟩ := cut_both hfw.fine hfw2.fine (allOf_fine k1 k2 k3 (by omega)) (allOf_fine j1 j2 j3 (by omega)) (allOf_cut k1 hm0 k4) (allOf_cut j1 hm0 j4) t1
    have HJO := Lib.hid (fun W A A2 c c2 (h : Bts W W.heap.size A D1) (h2 : Bts W W.heap.size A2 D2) => join_ok (w := W) (A := A) (A2 := A2) (c := c) (c2 := c2) rfl rfl h h2 (by omega) (by omega) hr1 hr2 b1 (by rw [b2]) i1 i2 i3 i4)
    have HOF := Lib.hid (fun A c W {base : Nat} (h : OwnP W base A c T) hb => rof_t base a m' A c T W h hb (by rw [hT]; exact t2.fine) hm0 hm1 ha1)
    have HRT := Lib.hid (fun W {base r cr cl base2 r2 cr2 cl2 : Nat} {Ar Al Ar2 Al2 : Option Addr} (h : RSk W base r Ar cr a m' Al cl all) (h2 : RSk W base2 r2 Ar2 cr2 a m' Al2 cl2 all2) hb => rtake20_t h h2 hfw.fine hfw2.fine hb)
    rw [t1, ← hT] at HRT
    rw [← hT] at HJO
    obtain ⟨DJ, hDJ⟩ : ∃ D, D = docW a m' (cutL T (m' : Int)).1 (cutL T (m' : Int)).2 := ⟨_, rfl⟩
    rw [← hDJ] at HJO HOF
    clear hmo hl zl zl' sl hlk zk zk' sk hn zn zn' sn ham0 hmm0 hmm1 k1 k2 k3 k4 j1 j2 j3 j4 ha hm hm' hD1 hD2 hfw hfw2 hd1 hd2 hr1 hr2 ha0 ha1 hm0 hm1 hm0' hm1' hm2 t1 t2 i1 i2 i3 i4 b1 b2 hT hDJ hij
    go_enter Tryz.func5, Tryz.ntmps5
    go_wp2_with fail
    refine (alive21_t _).mono ?_
    rintro e w1 ⟨rfl, hb1⟩
    have HB1 := Lib.hid hb1
    clear hb1
    go_wp2_with fail
    refine (HAD.out w1 (Reads.at_below HSL.out HB1.out) (Reads.at_below HSN.out HB1.out)).mono ?_
    rintro e w2 ⟨p, q, As, cs, gk, gl, A, c, r, Ar, cr, Al, cl, rfl, hwh, hbo⟩
    have HB2 := Lib.hid (nextB HB1.out hbo.below)
    have HBO := Lib.hid hbo
    have HWH := Lib.hid hwh
    clear hbo HAD hwh
    go_wp2_with fail
    refine (show Calls Tryz.prog 7 #[.int .u16 (am : Int), .int .u16 (m2 : Int), .slice K lk.length cK, .slice none 0 0] w2 _ from HAD2.out w2 (Reads.at_below HSK.out HB2.out)).mono ?_
    rintro e w3 ⟨p2, q2, As2, cs2, gk2, gl2, A2, c2, r2, Ar2, cr2, Al2, cl2, rfl, _, hbo2⟩
    have HB3 := Lib.hid (nextB HB2.out hbo2.below)
    have HBO2 := Lib.hid hbo2
    have HS3 := Lib.hid (HBO.out.sk.below hbo2.below)
    have HR3 := Lib.hid (HBO.out.rs.below hbo2.below)
    clear hbo2 HAD2
    go_wp2_with fail
    refine (HWR.out w3 _ _ _ _ _ _ _ _ HS3.out).mono ?_
    rintro e w4 ⟨A4, c4, rfl, o4, b4⟩
    have HB4 := Lib.hid (nextB HB3.out b4)
    have HZ4 := Lib.hid b4.size
    have HO4 := Lib.hid o4
    have HS4 := Lib.hid (HBO2.out.sk.below b4)
    have HR4 := Lib.hid (HR3.out.below b4)
    have HR24 := Lib.hid (HBO2.out.rs.below b4)
    clear o4 b4
    go_wp2_with fail
    refine (HWR2.out w4 _ _ _ _ _ _ _ _ HS4.out).mono ?_
    rintro e w5 ⟨A5, c5, rfl, o5, b5⟩
    have HB5 := Lib.hid (nextB HB4.out b5)
    have HZ5 := Lib.hid b5.size
    have HO5 := Lib.hid o5
    have HO45 : Hid (OwnB w5 w3.heap.size A4 c4 D1) := Lib.hid (Own.below HO4.out b5)
    have HR5 := Lib.hid (HR4.out.below b5)
    have HR25 := Lib.hid (HR24.out.below b5)
    clear o5 b5
    go_wp2_with fail
    refine (HJO.out w5 A4 A5 c4 c5 (OwnB.reads HO45.out) (OwnB.reads HO5.out)).mono ?_
    rintro e w6 ⟨A6, c6, rfl, o6, b6⟩
    have HB6 := Lib.hid (nextB HB5.out b6)
    have HO6 := Lib.hid o6
    have HX6 : Hid (OwnB w6 w3.heap.size A4 c4 D1) := Lib.hid (Own.below HO45.out b6)
    have HY6 : Hid (OwnB w6 w4.heap.size A5 c5 D2) := Lib.hid (Own.below HO5.out b6)
    have HR6 := Lib.hid (HR5.out.below b6)
    have HR26 := Lib.hid (HR25.out.below b6)
    have HBS := Lib.hid (show w1.heap.size ≤ w6.heap.size from Nat.le_trans HBO.out.below.size (Nat.le_trans HBO2.out.below.size (Nat.le_trans HZ4.out (Nat.le_trans HZ5.out b6.size))))
    clear o6 b6
    go_wp2_with fail
    refine (HRT.out w6 HR6.out HR26.out HBS.out).mono ?_
    rintro e w7 ⟨rfl, A7, c7, r7, k7⟩
    have HB7 := Lib.hid (HB6.out.trans (k7.below HB6.out.size (fun i hi => by rw [hi]; exact Nat.le_trans HB1.out.size HWH.out.r)))
    have hne : ∀ {A : Option Addr} {c base : Nat} {D : List UInt8}, OwnB w6 base A c D → ∀ g, blockOf A = some g → ¬ g = r := fun h g hg e => Own.ne_blk (show Own w6 _ 5 1 _ _ _ _ from h) HR6.out.blk (by decide) (by rw [hg, e])
    have HX : Hid (OwnB w7 w3.heap.size A4 c4 D1) := Lib.hid (Own.only HX6.out k7 (hne HX6.out))
    have HY : Hid (OwnB w7 w4.heap.size A5 c5 D2) := Lib.hid (Own.only HY6.out k7 (hne HY6.out))
    have HC7 : Hid (OwnB w7 w5.heap.size A6 c6 DJ) := Lib.hid (Own.only HO6.out k7 (hne HO6.out))
    have HR7 := Lib.hid r7
    have HR7D := Lib.hid r7.drew
    have HSS : Hid (∀ W, Below w7.heap.size w7 W → (convert 24 9 (.slice A6 DJ.length c6)).run Tryz.prog W = .ok (.string (str DJ)) W ∧ W.cell? ⟨r, 1, none⟩ = some (.int .i64 (a : Int)) ∧ W.cell? ⟨r, 2, none⟩ = some (.int .i64 (m' : Int)) ∧ W.cell? ⟨r, 3, none⟩ = some (.slice A7 T.length c7)) := Lib.hid (fun W hb => by
      have h := (HR7.out.below hb).blk
      exact ⟨run_str Tryz.underlying24 Tryz.underlying5 Tryz.underlying9 ((OwnB.reads HC7.out).at_below hb), by rw [h.cell]; rfl, by rw [h.cell]; rfl, by rw [h.cell]; rfl⟩)
    have HBZ := Lib.hid (show w1.heap.size ≤ w7.drew.heap.size from Nat.le_trans HBS.out k7.size)
    clear r7 k7 hne HX6 HY6 HM2
    go_wp2_with fail
    refine wp_region_noPanic ?_
    refine wp_region_held_drew (S := (fun W => (convert 24 9 (.slice A6 DJ.length c6)).run Tryz.prog W = .ok (.string (str DJ)) W ∧ W.cell? ⟨r, 1, none⟩ = some (.int .i64 (a : Int)) ∧ W.cell? ⟨r, 2, none⟩ = some (.int .i64 (m' : Int)) ∧ W.cell? ⟨r, 3, none⟩ = some (.slice A7 T.length c7))) (by kernel_rfl) (HSS.out _ (Below.refl w7.heap.size w7).drew) (fun hHeld => ?_)
    refine wpAnyH_take (i := 0) (oi := ?_) (v := ?_) ?_ ?_ ?_ ?_ ?_ ?_ ?_ ?_
    rotate_left 2
    · simp only [List.getElem?_toArray, List.getElem?_cons_zero]; rfl
    · kernel_rfl
    · kernel_rfl
    · kernel_rfl
    · exact fun _ _ _ h => h
    · exact Or.inl ⟨by kernel_rfl, by intro w hSw; (try dsimp only at hSw); go_simp; try with_reducible rfl⟩
    · assumption
    try go_simp
    refine wpAnyH_take (i := 1) (oi := ?_) (v := ?_) ?_ ?_ ?_ ?_ ?_ ?_ ?_ ?_
    rotate_left 2
    · simp only [List.getElem?_toArray, List.getElem?_cons_succ, List.getElem?_cons_zero]; rfl
    · kernel_rfl
    · kernel_rfl
    · kernel_rfl
    · exact fun _ _ _ h => h
    · exact Or.inl ⟨by kernel_rfl, by intro w hSw; (try dsimp only at hSw); go_simp; try with_reducible rfl⟩
    · assumption
    try go_simp
    refine wpAnyH_take (i := 2) (oi := ?_) (v := ?_) ?_ ?_ ?_ ?_ ?_ ?_ ?_ ?_
    rotate_left 2
    · simp only [List.getElem?_toArray, List.getElem?_cons_succ, List.getElem?_cons_zero]; rfl
    · kernel_rfl
    · kernel_rfl
    · kernel_rfl
    · exact fun _ _ _ h => h
    · exact Or.inl ⟨by kernel_rfl, by intro w hSw; (try dsimp only at hSw); go_simp; try with_reducible rfl⟩
    · assumption
    try go_simp
    refine wpAnyH_take (i := 3) (oi := ?_) (v := ?_) ?_ ?_ ?_ ?_ ?_ ?_ ?_ ?_
    rotate_left 2
    · simp only [List.getElem?_toArray, List.getElem?_cons_succ, List.getElem?_cons_zero]; rfl
    · kernel_rfl
    · kernel_rfl
    · kernel_rfl
    · exact fun _ _ _ h => h
    · exact Or.inl ⟨by kernel_rfl, by intro w hSw; (try dsimp only at hSw); go_simp; try with_reducible rfl⟩
    · assumption
    try go_simp
    refine wpAnyH_take (i := 4) (oi := ?_) (v := ?_) ?_ ?_ ?_ ?_ ?_ ?_ ?_ ?_
    rotate_left 2
    · simp only [List.getElem?_toArray, List.getElem?_cons_succ, List.getElem?_cons_zero]; rfl
    · kernel_rfl
    · kernel_rfl
    · kernel_rfl
    · exact fun _ _ _ h => h
    · exact Or.inl ⟨by kernel_rfl, by intro w hSw; (try dsimp only at hSw); go_simp; try with_reducible rfl⟩
    · assumption
    try go_simp
    refine wpAnyH_take (i := 5) (oi := ?_) (v := ?_) ?_ ?_ ?_ ?_ ?_ ?_ ?_ ?_
    rotate_left 2
    · simp only [List.getElem?_toArray, List.getElem?_cons_succ, List.getElem?_cons_zero]; rfl
    · kernel_rfl
    · kernel_rfl
    · kernel_rfl
    · exact fun _ _ _ h => h
    · exact Or.inl ⟨by kernel_rfl, by intro w hSw; (try dsimp only at hSw); go_simp; try with_reducible rfl⟩
    · assumption
    try go_simp
    refine wpAnyH_take (i := 6) (oi := ?_) (v := ?_) ?_ ?_ ?_ ?_ ?_ ?_ ?_ ?_
    rotate_left 2
    · simp only [List.getElem?_toArray, List.getElem?_cons_succ, List.getElem?_cons_zero]; rfl
    · kernel_rfl
    · kernel_rfl
    · kernel_rfl
    · exact fun _ _ _ h => h
    · exact Or.inl ⟨by kernel_rfl, by intro w hSw; (try dsimp only at hSw); go_simp; try with_reducible rfl⟩
    · assumption
    try go_simp
    refine wpAnyH_take (i := 7) (oi := ?_) (v := ?_) ?_ ?_ ?_ ?_ ?_ ?_ ?_ ?_
    rotate_left 2
    · simp only [List.getElem?_toArray, List.getElem?_cons_succ, List.getElem?_cons_zero]; rfl
    · kernel_rfl
    · kernel_rfl
    · kernel_rfl
    · exact fun _ _ _ h => h
    · exact Or.inl ⟨by kernel_rfl, by intro w hSw; (try dsimp only at hSw); go_simp; try with_reducible rfl⟩
    · assumption
    try go_simp
    refine wpAnyH_take (i := 8) (oi := ?_) (v := ?_) ?_ ?_ ?_ ?_ ?_ ?_ ?_ ?_
    rotate_left 2
    · simp only [List.getElem?_toArray, List.getElem?_cons_succ, List.getElem?_cons_zero]; rfl
    · kernel_rfl
    · kernel_rfl
    · kernel_rfl
    · exact fun _ _ _ h => h
    · exact Or.inl ⟨by kernel_rfl, by intro w hSw; (try dsimp only at hSw); go_simp; try with_reducible rfl⟩
    · assumption
    try go_simp
    refine wpAnyH_take (i := 9) (oi := ?_) (v := ?_) ?_ ?_ ?_ ?_ ?_ ?_ ?_ ?_
    rotate_left 2
    · simp only [List.getElem?_toArray, List.getElem?_cons_succ, List.getElem?_cons_zero]; rfl
    · kernel_rfl
    · kernel_rfl
    · kernel_rfl
    · exact fun _ _ _ h => h
    · exact Or.inl ⟨by kernel_rfl, by intro w hSw; (try dsimp only at hSw); go_simp; try with_reducible rfl⟩
    · assumption
    try go_simp
    refine wpAnyH_take (i := 10) (oi := ?_) (v := ?_) ?_ ?_ ?_ ?_ ?_ ?_ ?_ ?_
    rotate_left 2
    · simp only [List.getElem?_toArray, List.getElem?_cons_succ, List.getElem?_cons_zero]; rfl
    · kernel_rfl
    · kernel_rfl
    · kernel_rfl
    · exact fun _ _ _ h => h
    · exact Or.inl ⟨by kernel_rfl, by intro w hSw; (try dsimp only at hSw); go_simp; try with_reducible rfl⟩
    · assumption
    try go_simp
    refine wpAnyH_take (i := 11) (oi := ?_) (v := ?_) ?_ ?_ ?_ ?_ ?_ ?_ ?_ ?_
    rotate_left 2
    · simp only [List.getElem?_toArray, List.getElem?_cons_succ, List.getElem?_cons_zero]; rfl
    · kernel_rfl
    · kernel_rfl
    · kernel_rfl
    · exact fun _ _ _ h => h
    · exact Or.inl ⟨by kernel_rfl, by intro w hSw; (try dsimp only at hSw); go_simp; try with_reducible rfl⟩
    · assumption
    try go_simp
    refine wpAnyH_take (i := 12) (oi := ?_) (v := ?_) ?_ ?_ ?_ ?_ ?_ ?_ ?_ ?_
    rotate_left 2
    · simp only [List.getElem?_toArray, List.getElem?_cons_succ, List.getElem?_cons_zero]; rfl
    · kernel_rfl
    · kernel_rfl
    · kernel_rfl
    · exact fun _ _ _ h => h
    · exact Or.inl ⟨by kernel_rfl, by intro w hSw; (try dsimp only at hSw); go_simp; try with_reducible rfl⟩
    · assumption
    try go_simp
    refine wpAnyH_take (i := 13) (oi := ?_) (v := ?_) ?_ ?_ ?_ ?_ ?_ ?_ ?_ ?_
    rotate_left 2
    · simp only [List.getElem?_toArray, List.getElem?_cons_succ, List.getElem?_cons_zero]; rfl
    · kernel_rfl
    · kernel_rfl
    · kernel_rfl
    · exact fun _ _ _ h => h
    · exact Or.inl ⟨by kernel_rfl, by intro w hSw; (try dsimp only at hSw); go_simp; try with_reducible rfl⟩
    · assumption
    try go_simp
    refine wpAnyH_take (i := 14) (oi := ?_) (v := ?_) ?_ ?_ ?_ ?_ ?_ ?_ ?_ ?_
    rotate_left 2
    · simp only [List.getElem?_toArray, List.getElem?_cons_succ, List.getElem?_cons_zero]; rfl
    · kernel_rfl
    · kernel_rfl
    · kernel_rfl
    · exact fun _ _ _ h => h
    · exact Or.inl ⟨by kernel_rfl, by intro w hSw; (try dsimp only at hSw); go_simp; try with_reducible rfl⟩
    · assumption
    try go_simp
    refine wpAnyH_take (i := 15) (oi := ?_) (v := ?_) ?_ ?_ ?_ ?_ ?_ ?_ ?_ ?_
    rotate_left 2
    · simp only [List.getElem?_toArray, List.getElem?_cons_succ, List.getElem?_cons_zero]; rfl
    · kernel_rfl
    · kernel_rfl
    · kernel_rfl
    · exact fun _ _ _ h => h
    · exact Or.inl ⟨by kernel_rfl, by intro w hSw; (try dsimp only at hSw); go_simp; try with_reducible rfl⟩
    · assumption
    try go_simp
    refine wpAnyH_take (i := 16) (oi := ?_) (v := ?_) ?_ ?_ ?_ ?_ ?_ ?_ ?_ ?_
    rotate_left 2
    · simp only [List.getElem?_toArray, List.getElem?_cons_succ, List.getElem?_cons_zero]; rfl
    · kernel_rfl
    · kernel_rfl
    · kernel_rfl
    · exact fun _ _ _ h => h
    · exact Or.inl ⟨by kernel_rfl, by intro w hSw; (try dsimp only at hSw); go_simp; try with_reducible rfl⟩
    · assumption
    try go_simp
    refine wpAnyH_ready (rs := [17]) (by kernel_rfl) (by simp) ?_
    refine AllReadyH.cons (o := ?_) ?_ ?_ AllReadyH.nil
    rotate_left 1
    · simp only [List.getElem?_toArray, List.getElem?_cons_succ, List.getElem?_cons_zero]; rfl
    intro K hK
    go_simp
    refine (HOF.out A7 c7 w7.drew HR7D.out.all HBZ.out).mono ?_
    rintro e w8 ⟨A8, c8, rfl, o8, b8⟩
    have HB8 := Lib.hid (nextB (b := w7.drew) (Below.refl w7.heap.size w7).drew b8)
    have hs9 := str_own21 o8 rfl
    clear o8 b8
    refine hK.out _ _ ?_ (fun hHeld => ?_)
    · exact HSS.out _ HB8.out
    clear hK K
    try go_simp
    refine wpAnyH_ready (rs := [18]) (by kernel_rfl) (by simp) ?_
    refine AllReadyH.cons (o := ?_) ?_ ?_ AllReadyH.nil
    rotate_left 1
    · simp only [List.getElem?_toArray, List.getElem?_cons_succ, List.getElem?_cons_zero]; rfl
    intro K hK
    go_simp
    refine hK.out _ _ ?_ (fun hHeld => ?_)
    · exact HSS.out _ HB8.out
    clear hK K
    try go_simp
    refine wpAnyH_take (i := 19) (oi := ?_) (v := ?_) ?_ ?_ ?_ ?_ ?_ ?_ ?_ ?_
    rotate_left 2
    · simp only [List.getElem?_toArray, List.getElem?_cons_succ, List.getElem?_cons_zero]; rfl
    · kernel_rfl
    · kernel_rfl
    · kernel_rfl
    · exact fun _ _ _ h => h
    · exact Or.inl ⟨by kernel_rfl, by intro w hSw; (try dsimp only at hSw); go_simp; try with_reducible rfl⟩
    · assumption
    try go_simp
    refine wpAnyH_take (i := 20) (oi := ?_) (v := ?_) ?_ ?_ ?_ ?_ ?_ ?_ ?_ ?_
    rotate_left 2
    · simp only [List.getElem?_toArray, List.getElem?_cons_succ, List.getElem?_cons_zero]; rfl
    · kernel_rfl
    · kernel_rfl
    · kernel_rfl
    · exact fun _ _ _ h => h
    · exact Or.inl ⟨by kernel_rfl, by intro w hSw; (try dsimp only at hSw); go_simp; try with_reducible rfl⟩
    · assumption
    try go_simp
    refine wpAnyH_done (by kernel_rfl) ?_ _
    refine NoPanic.normal ?_
    have HB9 := Lib.hid (nextB HB7.out HB8.out)
    have HX9 : Hid (OwnB w8 w3.heap.size A4 c4 D1) := Lib.hid (Own.below HX.out HB8.out)
    have HY9 : Hid (OwnB w8 w4.heap.size A5 c5 D2) := Lib.hid (Own.below HY.out HB8.out)
    clear HX HY
    have HX := HX9
    have HY := HY9
    clear HX9 HY9 hs9
    rcases hcut with x1 | ⟨x1, x2⟩ | ⟨k, rfl, hk⟩
    · go_wp2_with fail
      go_ret
      exact ⟨rfl, HB9.out⟩
    · go_wp2_with fail
      go_ret
      exact ⟨rfl, HB9.out⟩
    · obtain ⟨g, hg, _, _, hcc, _, _⟩ := Own.form (show Own w8 w4.heap.size 5 1 A5 D2.length c5 (bvs D2) from HY.out) (by omega)
      subst hg
      have hT : Bts w8 w8.heap.size (some ⟨g, 0, none⟩) (D2.take k) := by
        have h := Reads.take (k := k) (show Reads w8 w8.heap.size 1 (some ⟨g, 0, none⟩) D2.length (bvs D2) from OwnB.reads HY.out) (by omega)
        unfold Bts
        rw [List.length_take, Nat.min_eq_left (by omega), bvs_take]
        simpa using h
      have hlk : (D2.take k).length = k := by rw [List.length_take]; omega
      have HJ1 := Lib.hid (join_no2 (A := A4) (A2 := some ⟨g, 0, none⟩) (c := c4) (c2 := c5) rfl hlk (OwnB.reads HX.out) hT (by have := HD1.out; omega) (by omega) HRD1.out (readF_cut HRD2.out hk))
      have HJ2 := Lib.hid (fun W (h : Bts W W.heap.size (some ⟨g, 0, none⟩) (D2.take k)) => join_no1 (w := W) (A := some ⟨g, 0, none⟩) (A2 := A4) (c := c5) (c2 := c4) (n2 := D1.length) hlk h (by omega) (readF_cut HRD2.out hk))
      have HT := Lib.hid hT
      have t1 : decide ((k : Int) < 0) = false := by simp
      have t2 : decide (D2.length ≤ k) = false := by simp; omega
      have t3 : (k : Int) ≤ (c5 : Int) := by omega
      have t4 : (0 : Int) ≤ (k : Int) := by omega
      clear hk hcc hT hlk
      go_wp2_with fail
      refine HJ1.out.mono ?_
      rintro e w10 ⟨rfl, b10⟩
      have HB10 := Lib.hid (nextB HB9.out b10)
      have HT10 := Lib.hid (HT.out.at_below b10)
      clear b10
      go_wp2_with fail
      refine (HJ2.out w10 HT10.out).mono ?_
      rintro e w11 ⟨rfl, b11⟩
      have HB11 := Lib.hid (nextB HB10.out b11)
      clear b11
      go_wp2_with fail
      go_ret
      exact ⟨rfl, HB11.out⟩
end Go.Proofs.YtbfhiegbgkkgiaaGreat
/- The row of DdwireJoins: its arguments opened, its walk met, the arguments shut again. -/

namespace Go.Proofs.YtbfhiegbgkkgiaaGreat.ddwireJoins
open Go.ChangeShapes Go.WideShapes Go.ChangeAt Go.RowKit
open Go.ChangeMaps (open_string shut_string)

theorem own : ownKnob Tryz.prog.godebug = none := by kernel_rfl
theorem laidOut : laidOutB Tryz.prog = true := by kernel_rfl

set_option maxRecDepth 100000 in
theorem lifted (os : Os) (started : os.Started) (H : Type) (enc : TypeId × Value → H) :
    ReturnsInHanded {} Tryz.checked os 5 .any (Rows.ddwireJoinsSpec.pre6 enc Tryz.prog Tryz.f5 Rows.ddwireJoinsRow.domain false) (Rows.ddwireJoinsSpec.post enc Tryz.prog Tryz.f5 false true false false) := by
  refine returnsInHanded_of_change (C := Tryz.checked) own started (by kernel_rfl) Tryz.func5
    (ChangeSpec.witness6 (enc := enc) (C := Tryz.checked) false ⟨#[], #[.int .u16 0, .int .u16 0, .slice none 0 0, .slice none 0 0, .slice none 0 0, .bool false, .int .i64 0], []⟩ 8 (by kernel_rfl) (by kernel_rfl) (by kernel_rfl) (by kernel_rfl)) ?_
  intro W base args ds gs before hval0 hW _ _
  have hval : ∀ (j : Nat) t v, Tryz.f5.params[j]? = some t → args[j]? = some v → Value.okWide Tryz.prog W .any base t v := hval0
  have hW' := hW
  obtain ⟨p, q, hA0, hV, rfl, _, _⟩ := hW
  have hA : DataW.TrodAll enc Tryz.prog W 0 (fun _ => true) true Tryz.f5.params.toList args.toList ds p := hA0
  rw [Tryz.params5] at hA hval
  obtain ⟨v0, vs0, d0, ds0, p0, q0, hargs, rfl, rfl, h0, r0⟩ := trodAll_cons hA
  obtain ⟨v1, vs1, d1, ds1, p1, q1, rfl, rfl, rfl, h1, r1⟩ := trodAll_cons r0
  obtain ⟨v2, vs2, d2, ds2, p2, q2, rfl, rfl, rfl, h2, r2⟩ := trodAll_cons r1
  obtain ⟨v3, vs3, d3, ds3, p3, q3, rfl, rfl, rfl, h3, r3⟩ := trodAll_cons r2
  obtain ⟨v4, vs4, d4, ds4, p4, q4, rfl, rfl, rfl, h4, r4⟩ := trodAll_cons r3
  obtain ⟨v5, vs5, d5, ds5, p5, q5, rfl, rfl, rfl, h5, r5⟩ := trodAll_cons r4
  obtain ⟨v6, vs6, d6, ds6, p6, q6, rfl, rfl, rfl, h6, r6⟩ := trodAll_cons r5
  obtain ⟨rfl, rfl, rfl⟩ := trodAll_nil r6
  obtain rfl : args = #[v0, v1, v2, v3, v4, v5, v6] := by cases args; simp_all
  obtain ⟨rfl, rfl⟩ := trodVars_none hV
  obtain ⟨a0, rfl, rfl, rfl, w0⟩ := open_int Tryz.underlying22 (hval 0 22 v0 rfl rfl) h0
  have b0 := WfBounds.u16 w0
  obtain ⟨a1, rfl, rfl, rfl, w1⟩ := open_int Tryz.underlying22 (hval 1 22 v1 rfl rfl) h1
  have b1 := WfBounds.u16 w1
  have k2 := h2
  have lt2 : ∀ x ∈ p2, x.block < W.heap.size := by obtain ⟨m, hm⟩ := k2; exact DataW.trod_lt m _ _ _ hm
  obtain ⟨a2, c2, l2, rfl, m2, e2, z2, s2⟩ := open_intsL Tryz.underlying23 Tryz.underlying2 (by kernel_rfl) (hval 2 23 v2 rfl rfl) h2
  have k3 := h3
  have lt3 : ∀ x ∈ p3, x.block < W.heap.size := by obtain ⟨m, hm⟩ := k3; exact DataW.trod_lt m _ _ _ hm
  obtain ⟨a3, c3, l3, rfl, m3, e3, z3, s3⟩ := open_intsL Tryz.underlying23 Tryz.underlying2 (by kernel_rfl) (hval 3 23 v3 rfl rfl) h3
  have k4 := h4
  have lt4 : ∀ x ∈ p4, x.block < W.heap.size := by obtain ⟨m, hm⟩ := k4; exact DataW.trod_lt m _ _ _ hm
  obtain ⟨a4, c4, l4, rfl, m4, e4, z4, s4⟩ := open_intsL Tryz.underlying42 Tryz.underlying22 (by kernel_rfl) (hval 4 42 v4 rfl rfl) h4
  obtain ⟨a5, rfl, rfl, rfl⟩ := open_bool Tryz.underlying4 (hval 5 4 v5 rfl rfl) h5
  obtain ⟨a6, rfl, rfl, rfl, w6⟩ := open_int Tryz.underlying3 (hval 6 3 v6 rfl rfl) h6
  have b6 := WfBounds.i64 w6
  clear hA0 hval0
  refine (ddwireJoins_walk W a0 (b0).1 (b0).2 a1 (b1).1 (b1).2 a2 c2 l2 m2 e2 z2 s2 a3 c3 l3 m3 e3 z3 s3 a4 c4 l4 m4 e4 z4 s4 a5 a6 (b6).1 (b6).2).mono fun e W' ⟨he, bel⟩ => ?_
  subst he
  exact ⟨_, rfl, _, _, _, [], _, [], hW', trodAll_mk1 (shut_bool Tryz.underlying4 _), (trodAll_cons_mk (shut_int Tryz.underlying22 w0) (trodAll_cons_mk (shut_int Tryz.underlying22 w1) (trodAll_cons_mk (Below.trod laidOut (by kernel_rfl) (of_decide_eq_true (by kernel_rfl)) k2 bel lt2) (trodAll_cons_mk (Below.trod laidOut (by kernel_rfl) (of_decide_eq_true (by kernel_rfl)) k3 bel lt3) (trodAll_cons_mk (Below.trod laidOut (by kernel_rfl) (of_decide_eq_true (by kernel_rfl)) k4 bel lt4) (trodAll_cons_mk (shut_bool Tryz.underlying4 _) (trodAll_cons_mk (shut_int Tryz.underlying3 w6) trodAll_mk0))))))), rfl, bel.frame _, fun h => by cases h⟩

theorem over : Rows.ddwireJoinsRow.holds Tryz.pinned (OpenSpec.ofChange Rows.ddwireJoinsSpec) :=
  OpenClaim.holds_of_wide 5 Tryz.f5 rfl rfl rfl rfl rfl rfl rfl ⟨rfl, rfl, rfl, rfl, rfl⟩ rfl rfl rfl rfl rfl (by kernel_rfl) Tryz.func5 (by kernel_rfl)
    (of_decide_eq_true (by kernel_rfl)) (by unfold Func.isWrapper; first | (rw [if_pos (by decide +kernel)]; kernel_rfl) | (rw [if_neg (by decide +kernel)]; exact ⟨rfl, rfl⟩))
    (fun os started H enc _ => lifted os started H enc)

/-- The given statement. -/
theorem proved : Rows.DdwireJoinsSaid := over
#print axioms proved
end Go.Proofs.YtbfhiegbgkkgiaaGreat.ddwireJoins
