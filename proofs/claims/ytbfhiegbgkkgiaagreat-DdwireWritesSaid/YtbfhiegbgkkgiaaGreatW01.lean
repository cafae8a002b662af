/- Sketches taken together; bytes of sketches joined; the document's; walked. -/
import Derived.Test.YtbfhiegbgkkgiaaGreatC31
import Derived.Deep.RegionHeld3
namespace Go.Proofs.YtbfhiegbgkkgiaaGreat
open Go.RowKit
open Pl
open Sc
open Wi
theorem Skt.drewN {w : World} {p q cs a g gl c : Nat} {As A : Option Addr} {m : Int} {all : List Pr} (h : Skt w p q As cs a g gl A c m all) (n : Nat) : Skt (w.drewN n) p q As cs a g gl A c m all := h.below (below_drewN (Below.refl _ _) n)
theorem RSk.drewN {w : World} {base r cr a m cl : Nat} {Ar Al : Option Addr} {all : List Pr} (h : RSk w base r Ar cr a m Al cl all) (n : Nat) : RSk (w.drewN n) base r Ar cr a m Al cl all := ⟨h.blk, h.rng, h.all⟩
section
variable {p q cs a g gl c p2 q2 cs2 g2 gl2 c2' : Nat} {As A As2 A2 : Option Addr} {m m2 : Int} {all all2 : List Pr} {w : World}
set_option maxRecDepth 100000 in
theorem dtake_t (h : Skt w p q As cs a g gl A c m all) (h2 : Skt w p2 q2 As2 cs2 a g2 gl2 A2 c2' m all2) (hf : Fine all) (hf2 : Fine all2) (hl : all.length + all2.length ≤ 100000) (hm0 : 2 ≤ m) (hm1 : m ≤ 4097) :
    Calls Tryz.prog 49 #[.pointer (some ⟨p, 0, none⟩), .pointer (some ⟨p2, 0, none⟩)] w fun e w' => e = .returned (.int .i64 (rtake all all2 0).2) ∧ ∃ A' c', Skt w' p q As cs a g gl A' c' m (rtake all all2 0).1 ∧ Stored g gl A m (rtake all all2 0).1 w w' A' c' := by
  have c1 := h.c1
  have c2 := h2.c1
  have HT := Lib.hid (fun W (h : Sto W g gl A c m all) (h2 : Sto W g2 gl2 A2 c2' m all2) => stake_t g gl g2 gl2 A A2 c c2' m all all2 W h h2 hf hf2 hl hm0 hm1)
  have HA1 := Lib.hid (dacc_t h)
  have HA2 := Lib.hid (dacc_t h2)
  have HH := Lib.hid h
  have HD := Lib.hid (show Skt w.drew p q As cs a g gl A c m all from h.below (Below.refl _ _).drew)
  have HD2 := Lib.hid (show Skt w.drew p2 q2 As2 cs2 a g2 gl2 A2 c2' m all2 from h2.below (Below.refl _ _).drew)
  clear h h2 hf hf2 hl hm0 hm1
  generalize rtake all all2 0 = R at *
  obtain ⟨R1, R2⟩ := R
  dsimp only at *
  go_enter Tryz.func49, Tryz.ntmps49
  go_wp2_with fail
  refine HA2.out.mono ?_
  rintro e w1 ⟨rfl, rfl⟩
  go_wp2_with fail
  refine HA1.out.mono ?_
  rintro e w1 ⟨rfl, rfl⟩
  go_wp2_with fail
  refine wp_region_noPanic ?_
  refine wp_region_held_drew (S := (fun W => W.cell? ⟨p, 1, none⟩ = some (.pointer (some ⟨g, 0, none⟩)) ∧ W.cell? ⟨p2, 1, none⟩ = some (.pointer (some ⟨g2, 0, none⟩)))) (by kernel_rfl) ⟨c1, c2⟩ (fun hHeld => ?_)
  refine wpAnyH_take (i := 0) (oi := ?_) (v := ?_) ?_ ?_ ?_ ?_ ?_ ?_ ?_ ?_
  rotate_left 2
  · simp only [List.getElem?_toArray, List.getElem?_cons_zero]; rfl
  · kernel_rfl
  · kernel_rfl
  · kernel_rfl
  · exact fun _ _ _ h => h
  · exact Or.inl ⟨by kernel_rfl, by intro w hSw; (try dsimp only at hSw); go_simp; try with_reducible rfl⟩
  · assumption
  try go_simp
  refine wpAnyH_take (i := 1) (oi := ?_) (v := ?_) ?_ ?_ ?_ ?_ ?_ ?_ ?_ ?_
  rotate_left 2
  · simp only [List.getElem?_toArray, List.getElem?_cons_succ, List.getElem?_cons_zero]; rfl
  · kernel_rfl
  · kernel_rfl
  · kernel_rfl
  · exact fun _ _ _ h => h
  · exact Or.inl ⟨by kernel_rfl, by intro w hSw; (try dsimp only at hSw); go_simp; try with_reducible rfl⟩
  · assumption
  try go_simp
  refine wpAnyH_take (i := 2) (oi := ?_) (v := ?_) ?_ ?_ ?_ ?_ ?_ ?_ ?_ ?_
  rotate_left 2
  · simp only [List.getElem?_toArray, List.getElem?_cons_succ, List.getElem?_cons_zero]; rfl
  · kernel_rfl
  · kernel_rfl
  · kernel_rfl
  · exact fun _ _ _ h => h
  · exact Or.inl ⟨by kernel_rfl, by intro w hSw; (try dsimp only at hSw); go_simp; try with_reducible rfl⟩
  · assumption
  try go_simp
  refine wpAnyH_take (i := 3) (oi := ?_) (v := ?_) ?_ ?_ ?_ ?_ ?_ ?_ ?_ ?_
  rotate_left 2
  · simp only [List.getElem?_toArray, List.getElem?_cons_succ, List.getElem?_cons_zero]; rfl
  · kernel_rfl
  · kernel_rfl
  · kernel_rfl
  · exact fun _ _ _ h => h
  · exact Or.inl ⟨by kernel_rfl, by intro w hSw; (try dsimp only at hSw); go_simp; try with_reducible rfl⟩
  · assumption
  try go_simp
  refine wpAnyH_take (i := 4) (oi := ?_) (v := ?_) ?_ ?_ ?_ ?_ ?_ ?_ ?_ ?_
  rotate_left 2
  · simp only [List.getElem?_toArray, List.getElem?_cons_succ, List.getElem?_cons_zero]; rfl
  · kernel_rfl
  · kernel_rfl
  · kernel_rfl
  · exact fun _ _ _ h => h
  · exact Or.inl ⟨by kernel_rfl, by intro w hSw; (try dsimp only at hSw); go_simp; try with_reducible rfl⟩
  · assumption
  try go_simp
  refine wpAnyH_take (i := 5) (oi := ?_) (v := ?_) ?_ ?_ ?_ ?_ ?_ ?_ ?_ ?_
  rotate_left 2
  · simp only [List.getElem?_toArray, List.getElem?_cons_succ, List.getElem?_cons_zero]; rfl
  · kernel_rfl
  · kernel_rfl
  · kernel_rfl
  · exact fun _ _ _ h => h
  · exact Or.inl ⟨by kernel_rfl, by intro w hSw; (try dsimp only at hSw); go_simp; try with_reducible rfl⟩
  · assumption
  try go_simp
  refine wpAnyH_take (i := 6) (oi := ?_) (v := ?_) ?_ ?_ ?_ ?_ ?_ ?_ ?_ ?_
  rotate_left 2
  · simp only [List.getElem?_toArray, List.getElem?_cons_succ, List.getElem?_cons_zero]; rfl
  · kernel_rfl
  · kernel_rfl
  · kernel_rfl
  · exact fun _ _ _ h => h
  · exact Or.inl ⟨by kernel_rfl, by intro w hSw; (try dsimp only at hSw); go_simp; try with_reducible rfl⟩
  · assumption
  try go_simp
  refine wpAnyH_take (i := 7) (oi := ?_) (v := ?_) ?_ ?_ ?_ ?_ ?_ ?_ ?_ ?_
  rotate_left 2
  · simp only [List.getElem?_toArray, List.getElem?_cons_succ, List.getElem?_cons_zero]; rfl
  · kernel_rfl
  · kernel_rfl
  · kernel_rfl
  · exact fun _ _ _ h => h
  · exact Or.inl ⟨by kernel_rfl, by intro w hSw; (try dsimp only at hSw); go_simp; try with_reducible rfl⟩
  · assumption
  try go_simp
  refine wpAnyH_ready (rs := [8]) (by kernel_rfl) (by simp) ?_
  refine AllReadyH.cons (o := ?_) ?_ ?_ AllReadyH.nil
  rotate_left 1
  · simp only [List.getElem?_toArray, List.getElem?_cons_succ, List.getElem?_cons_zero]; rfl
  intro K hK
  go_simp
  refine (HT.out w.drew HD.out.sto HD2.out.sto).mono ?_
  rintro e w2 ⟨rfl, A', c', k2⟩
  have HS2 := Lib.hid (HD.out.stored k2)
  have HK2 := Lib.hid k2
  have d1 := HS2.out.c1
  have d2 : w2.cell? ⟨p2, 1, none⟩ = some (.pointer (some ⟨g2, 0, none⟩)) := by rw [(HD2.out.blk.only k2.only (sto_ne_blk HD.out.sto HD2.out.blk (by decide) (by decide) (by decide))).cell]; rfl
  clear k2
  refine hK.out _ _ ?_ (fun hHeld => ?_)
  · exact ⟨d1, d2⟩
  clear hK K
  try go_simp
  refine wpAnyH_take (i := 9) (oi := ?_) (v := ?_) ?_ ?_ ?_ ?_ ?_ ?_ ?_ ?_
  rotate_left 2
  · simp only [List.getElem?_toArray, List.getElem?_cons_succ, List.getElem?_cons_zero]; rfl
  · kernel_rfl
  · kernel_rfl
  · kernel_rfl
  · exact fun _ _ _ h => h
  · exact Or.inl ⟨by kernel_rfl, by intro w hSw; (try dsimp only at hSw); go_simp; try with_reducible rfl⟩
  · assumption
  try go_simp
  refine wpAnyH_done (by kernel_rfl) ?_ _
  refine NoPanic.normal ?_
  go_wp2_with fail
  go_ret
  have hk : Stored g gl A m R1 w w2 A' c' := ⟨HK2.out.sto, (Only.of_below (Below.refl w.heap.size w).drew).trans HK2.out.only, HK2.out.new⟩
  exact ⟨rfl, A', c', HS2.out, hk⟩
set_option maxRecDepth 100000 in
theorem dtake_kind (h : Skt w p q As cs a g gl A c m all) (h2 : Skt w p2 q2 As2 cs2 a g2 gl2 A2 c2' m2 all2) (hm : m2 ≠ m) :
    Calls Tryz.prog 49 #[.pointer (some ⟨p, 0, none⟩), .pointer (some ⟨p2, 0, none⟩)] w fun e w' => e = .returned (.int .i64 3) ∧ Below w.heap.size w w' := by
  have c1 := h.c1
  have c2 := h2.c1
  have HT := Lib.hid (fun W (h : Sto W g gl A c m all) (h2 : Sto W g2 gl2 A2 c2' m2 all2) => stake_kind g gl g2 gl2 A A2 c c2' m m2 all all2 W h h2 hm)
  have HA1 := Lib.hid (dacc_t h)
  have HA2 := Lib.hid (dacc_t h2)
  have HD := Lib.hid (show Skt w.drew p q As cs a g gl A c m all from h.below (Below.refl _ _).drew)
  have HD2 := Lib.hid (show Skt w.drew p2 q2 As2 cs2 a g2 gl2 A2 c2' m2 all2 from h2.below (Below.refl _ _).drew)
  clear h h2 hm
  go_enter Tryz.func49, Tryz.ntmps49
  go_wp2_with fail
  refine HA2.out.mono ?_
  rintro e w1 ⟨rfl, rfl⟩
  go_wp2_with fail
  refine HA1.out.mono ?_
  rintro e w1 ⟨rfl, rfl⟩
  go_wp2_with fail
  refine wp_region_noPanic ?_
  refine wp_region_held_drew (S := (fun W => W.cell? ⟨p, 1, none⟩ = some (.pointer (some ⟨g, 0, none⟩)) ∧ W.cell? ⟨p2, 1, none⟩ = some (.pointer (some ⟨g2, 0, none⟩)))) (by kernel_rfl) ⟨c1, c2⟩ (fun hHeld => ?_)
  refine wpAnyH_take (i := 0) (oi := ?_) (v := ?_) ?_ ?_ ?_ ?_ ?_ ?_ ?_ ?_
  rotate_left 2
  · simp only [List.getElem?_toArray, List.getElem?_cons_zero]; rfl
  · kernel_rfl
  · kernel_rfl
  · kernel_rfl
  · exact fun _ _ _ h => h
  · exact Or.inl ⟨by kernel_rfl, by intro w hSw; (try dsimp only at hSw); go_simp; try with_reducible rfl⟩
  · assumption
  try go_simp
  refine wpAnyH_take (i := 1) (oi := ?_) (v := ?_) ?_ ?_ ?_ ?_ ?_ ?_ ?_ ?_
  rotate_left 2
  · simp only [List.getElem?_toArray, List.getElem?_cons_succ, List.getElem?_cons_zero]; rfl
  · kernel_rfl
  · kernel_rfl
  · kernel_rfl
  · exact fun _ _ _ h => h
  · exact Or.inl ⟨by kernel_rfl, by intro w hSw; (try dsimp only at hSw); go_simp; try with_reducible rfl⟩
  · assumption
  try go_simp
  refine wpAnyH_take (i := 2) (oi := ?_) (v := ?_) ?_ ?_ ?_ ?_ ?_ ?_ ?_ ?_
  rotate_left 2
  · simp only [List.getElem?_toArray, List.getElem?_cons_succ, List.getElem?_cons_zero]; rfl
  · kernel_rfl
  · kernel_rfl
  · kernel_rfl
  · exact fun _ _ _ h => h
  · exact Or.inl ⟨by kernel_rfl, by intro w hSw; (try dsimp only at hSw); go_simp; try with_reducible rfl⟩
  · assumption
  try go_simp
  refine wpAnyH_take (i := 3) (oi := ?_) (v := ?_) ?_ ?_ ?_ ?_ ?_ ?_ ?_ ?_
  rotate_left 2
  · simp only [List.getElem?_toArray, List.getElem?_cons_succ, List.getElem?_cons_zero]; rfl
  · kernel_rfl
  · kernel_rfl
  · kernel_rfl
  · exact fun _ _ _ h => h
  · exact Or.inl ⟨by kernel_rfl, by intro w hSw; (try dsimp only at hSw); go_simp; try with_reducible rfl⟩
  · assumption
  try go_simp
  refine wpAnyH_take (i := 4) (oi := ?_) (v := ?_) ?_ ?_ ?_ ?_ ?_ ?_ ?_ ?_
  rotate_left 2
  · simp only [List.getElem?_toArray, List.getElem?_cons_succ, List.getElem?_cons_zero]; rfl
  · kernel_rfl
  · kernel_rfl
  · kernel_rfl
  · exact fun _ _ _ h => h
  · exact Or.inl ⟨by kernel_rfl, by intro w hSw; (try dsimp only at hSw); go_simp; try with_reducible rfl⟩
  · assumption
  try go_simp
  refine wpAnyH_take (i := 5) (oi := ?_) (v := ?_) ?_ ?_ ?_ ?_ ?_ ?_ ?_ ?_
  rotate_left 2
  · simp only [List.getElem?_toArray, List.getElem?_cons_succ, List.getElem?_cons_zero]; rfl
  · kernel_rfl
  · kernel_rfl
  · kernel_rfl
  · exact fun _ _ _ h => h
  · exact Or.inl ⟨by kernel_rfl, by intro w hSw; (try dsimp only at hSw); go_simp; try with_reducible rfl⟩
  · assumption
  try go_simp
  refine wpAnyH_take (i := 6) (oi := ?_) (v := ?_) ?_ ?_ ?_ ?_ ?_ ?_ ?_ ?_
  rotate_left 2
  · simp only [List.getElem?_toArray, List.getElem?_cons_succ, List.getElem?_cons_zero]; rfl
  · kernel_rfl
  · kernel_rfl
  · kernel_rfl
  · exact fun _ _ _ h => h
  · exact Or.inl ⟨by kernel_rfl, by intro w hSw; (try dsimp only at hSw); go_simp; try with_reducible rfl⟩
  · assumption
  try go_simp
  refine wpAnyH_take (i := 7) (oi := ?_) (v := ?_) ?_ ?_ ?_ ?_ ?_ ?_ ?_ ?_
  rotate_left 2
  · simp only [List.getElem?_toArray, List.getElem?_cons_succ, List.getElem?_cons_zero]; rfl
  · kernel_rfl
  · kernel_rfl
  · kernel_rfl
  · exact fun _ _ _ h => h
  · exact Or.inl ⟨by kernel_rfl, by intro w hSw; (try dsimp only at hSw); go_simp; try with_reducible rfl⟩
  · assumption
  try go_simp
  refine wpAnyH_ready (rs := [8]) (by kernel_rfl) (by simp) ?_
  refine AllReadyH.cons (o := ?_) ?_ ?_ AllReadyH.nil
  rotate_left 1
  · simp only [List.getElem?_toArray, List.getElem?_cons_succ, List.getElem?_cons_zero]; rfl
  intro K hK
  go_simp
  refine (HT.out w.drew HD.out.sto HD2.out.sto).mono ?_
  rintro e w2 ⟨rfl, b2⟩
  have HB2 := Lib.hid b2
  have d1 := (HD.out.below b2).c1
  have d2 := (HD2.out.below b2).c1
  clear b2
  refine hK.out _ _ ?_ (fun hHeld => ?_)
  · exact ⟨d1, d2⟩
  clear hK K
  try go_simp
  refine wpAnyH_take (i := 9) (oi := ?_) (v := ?_) ?_ ?_ ?_ ?_ ?_ ?_ ?_ ?_
  rotate_left 2
  · simp only [List.getElem?_toArray, List.getElem?_cons_succ, List.getElem?_cons_zero]; rfl
  · kernel_rfl
  · kernel_rfl
  · kernel_rfl
  · exact fun _ _ _ h => h
  · exact Or.inl ⟨by kernel_rfl, by intro w hSw; (try dsimp only at hSw); go_simp; try with_reducible rfl⟩
  · assumption
  try go_simp
  refine wpAnyH_done (by kernel_rfl) ?_ _
  refine NoPanic.normal ?_
  go_wp2_with fail
  go_ret
  exact ⟨rfl, nextB (b := w.drew) (Below.refl _ _).drew HB2.out⟩
end
section
variable {base r cr a m cl base2 r2 cr2 m2 cl2 : Nat} {Ar Al Ar2 Al2 : Option Addr} {all all2 : List Pr} {w : World}
set_option maxRecDepth 100000 in
theorem rtake20_t (h : RSk w base r Ar cr a m Al cl all) (h2 : RSk w base2 r2 Ar2 cr2 a m Al2 cl2 all2) (hf : Fine all) (hf2 : Fine all2) (hb : base ≤ w.heap.size) :
    Calls Tryz.prog 20 #[.pointer (some ⟨r, 0, none⟩), .pointer (some ⟨r2, 0, none⟩)] w fun e w' => e = .returned (.int .i64 (rtake all all2 0).2) ∧ ∃ A' c', RSk w' base r Ar cr a m A' c' (rtake all all2 0).1 ∧ Only (fun i => i = r) w w' := by
  have HT := Lib.hid (fun W (h : OwnP W base Al cl all) (h2 : RSk W base2 r2 Ar2 cr2 a m Al2 cl2 all2 ∧ base ≤ W.heap.size) => take13_0 Al Al2 cl cl2 base all all2 W h (OwnP.reads h2.1.all) (by have := hf.len; omega) (by have := hf2.len; omega) hf.tot hf2.tot h2.2)
  have c1 : w.cell? ⟨r, 1, none⟩ = some (.int .i64 (a : Int)) := by rw [h.blk.cell]; rfl
  have c2 : w.cell? ⟨r, 2, none⟩ = some (.int .i64 (m : Int)) := by rw [h.blk.cell]; rfl
  have c3 : w.cell? ⟨r, 3, none⟩ = some (.slice Al all.length cl) := by rw [h.blk.cell]; rfl
  have d1 : w.cell? ⟨r2, 1, none⟩ = some (.int .i64 (a : Int)) := by rw [h2.blk.cell]; rfl
  have d2 : w.cell? ⟨r2, 2, none⟩ = some (.int .i64 (m : Int)) := by rw [h2.blk.cell]; rfl
  have d3 : w.cell? ⟨r2, 3, none⟩ = some (.slice Al2 all2.length cl2) := by rw [h2.blk.cell]; rfl
  have HD := Lib.hid (fun n => (h.drewN n).drew)
  have HD2 := Lib.hid (fun n => And.intro ((h2.drewN n).drew) (show base ≤ (w.drewN n).drew.heap.size from hb))
  have HH := Lib.hid h
  clear h h2 hf hf2 hb
  generalize rtake all all2 0 = R at *
  obtain ⟨R1, R2⟩ := R
  dsimp only at *
  go_enter Tryz.func20, Tryz.ntmps20
  go_wp2_with fail
  go_quiet (fail)
  go_wp2_with fail
  have HD' := Lib.hid (HD.out nq)
  have HD2' := Lib.hid (HD2.out nq)
  have HD3 := Lib.hid (HD2.out nq).1
  clear HD HD2
  have HD := HD'
  have HD2 := HD2'
  clear HD' HD2'
  refine wp_region_noPanic ?_
  refine wp_region_held_drew (S := (fun W => W.cell? ⟨r, 3, none⟩ = some (.slice Al all.length cl) ∧ W.cell? ⟨r2, 3, none⟩ = some (.slice Al2 all2.length cl2))) (by kernel_rfl) ⟨c3, d3⟩ (fun hHeld => ?_)
  refine wpAnyH_take (i := 0) (oi := ?_) (v := ?_) ?_ ?_ ?_ ?_ ?_ ?_ ?_ ?_
  rotate_left 2
  · simp only [List.getElem?_toArray, List.getElem?_cons_zero]; rfl
  · kernel_rfl
  · kernel_rfl
  · kernel_rfl
  · exact fun _ _ _ h => h
  · exact Or.inl ⟨by kernel_rfl, by intro w hSw; (try dsimp only at hSw); go_simp; try with_reducible rfl⟩
  · assumption
  try go_simp
  refine wpAnyH_take (i := 1) (oi := ?_) (v := ?_) ?_ ?_ ?_ ?_ ?_ ?_ ?_ ?_
  rotate_left 2
  · simp only [List.getElem?_toArray, List.getElem?_cons_succ, List.getElem?_cons_zero]; rfl
  · kernel_rfl
  · kernel_rfl
  · kernel_rfl
  · exact fun _ _ _ h => h
  · exact Or.inl ⟨by kernel_rfl, by intro w hSw; (try dsimp only at hSw); go_simp; try with_reducible rfl⟩
  · assumption
  try go_simp
  refine wpAnyH_take (i := 2) (oi := ?_) (v := ?_) ?_ ?_ ?_ ?_ ?_ ?_ ?_ ?_
  rotate_left 2
  · simp only [List.getElem?_toArray, List.getElem?_cons_succ, List.getElem?_cons_zero]; rfl
  · kernel_rfl
  · kernel_rfl
  · kernel_rfl
  · exact fun _ _ _ h => h
  · exact Or.inl ⟨by kernel_rfl, by intro w hSw; (try dsimp only at hSw); go_simp; try with_reducible rfl⟩
  · assumption
  try go_simp
  refine wpAnyH_take (i := 3) (oi := ?_) (v := ?_) ?_ ?_ ?_ ?_ ?_ ?_ ?_ ?_
  rotate_left 2
  · simp only [List.getElem?_toArray, List.getElem?_cons_succ, List.getElem?_cons_zero]; rfl
  · kernel_rfl
  · kernel_rfl
  · kernel_rfl
  · exact fun _ _ _ h => h
  · exact Or.inl ⟨by kernel_rfl, by intro w hSw; (try dsimp only at hSw); go_simp; try with_reducible rfl⟩
  · assumption
  try go_simp
  refine wpAnyH_take (i := 4) (oi := ?_) (v := ?_) ?_ ?_ ?_ ?_ ?_ ?_ ?_ ?_
  rotate_left 2
  · simp only [List.getElem?_toArray, List.getElem?_cons_succ, List.getElem?_cons_zero]; rfl
  · kernel_rfl
  · kernel_rfl
  · kernel_rfl
  · exact fun _ _ _ h => h
  · exact Or.inl ⟨by kernel_rfl, by intro w hSw; (try dsimp only at hSw); go_simp; try with_reducible rfl⟩
  · assumption
  try go_simp
  refine wpAnyH_take (i := 5) (oi := ?_) (v := ?_) ?_ ?_ ?_ ?_ ?_ ?_ ?_ ?_
  rotate_left 2
  · simp only [List.getElem?_toArray, List.getElem?_cons_succ, List.getElem?_cons_zero]; rfl
  · kernel_rfl
  · kernel_rfl
  · kernel_rfl
  · exact fun _ _ _ h => h
  · exact Or.inl ⟨by kernel_rfl, by intro w hSw; (try dsimp only at hSw); go_simp; try with_reducible rfl⟩
  · assumption
  try go_simp
  refine wpAnyH_take (i := 6) (oi := ?_) (v := ?_) ?_ ?_ ?_ ?_ ?_ ?_ ?_ ?_
  rotate_left 2
  · simp only [List.getElem?_toArray, List.getElem?_cons_succ, List.getElem?_cons_zero]; rfl
  · kernel_rfl
  · kernel_rfl
  · kernel_rfl
  · exact fun _ _ _ h => h
  · exact Or.inl ⟨by kernel_rfl, by intro w hSw; (try dsimp only at hSw); go_simp; try with_reducible rfl⟩
  · assumption
  try go_simp
  refine wpAnyH_take (i := 7) (oi := ?_) (v := ?_) ?_ ?_ ?_ ?_ ?_ ?_ ?_ ?_
  rotate_left 2
  · simp only [List.getElem?_toArray, List.getElem?_cons_succ, List.getElem?_cons_zero]; rfl
  · kernel_rfl
  · kernel_rfl
  · kernel_rfl
  · exact fun _ _ _ h => h
  · exact Or.inl ⟨by kernel_rfl, by intro w hSw; (try dsimp only at hSw); go_simp; try with_reducible rfl⟩
  · assumption
  try go_simp
  refine wpAnyH_ready (rs := [8]) (by kernel_rfl) (by simp) ?_
  refine AllReadyH.cons (o := ?_) ?_ ?_ AllReadyH.nil
  rotate_left 1
  · simp only [List.getElem?_toArray, List.getElem?_cons_succ, List.getElem?_cons_zero]; rfl
  intro K hK
  go_simp
  refine (HT.out (w.drewN nq).drew HD.out.all HD2.out).mono ?_
  rintro e w2 ⟨A2, c2_, rfl, o2, b2⟩
  have HR2 := Lib.hid (RSk.below HD.out b2)
  have HO2 := Lib.hid o2
  have HB2 := Lib.hid b2
  have x3 : w2.cell? ⟨r, 3, none⟩ = some (.slice Al all.length cl) := by rw [HR2.out.blk.cell]; rfl
  have y3 : w2.cell? ⟨r2, 3, none⟩ = some (.slice Al2 all2.length cl2) := by rw [(HD3.out.below b2).blk.cell]; rfl
  have f3 := HR2.out.blk.free 3
  clear o2 b2
  refine hK.out _ _ ?_ (fun hHeld => ?_)
  · exact ⟨x3, y3⟩
  clear hK K
  try go_simp
  refine wpAnyH_take (i := 9) (oi := ?_) (v := ?_) ?_ ?_ ?_ ?_ ?_ ?_ ?_ ?_
  rotate_left 2
  · simp only [List.getElem?_toArray, List.getElem?_cons_succ, List.getElem?_cons_zero]; rfl
  · kernel_rfl
  · kernel_rfl
  · kernel_rfl
  · exact fun _ _ _ h => h
  · exact Or.inl ⟨by kernel_rfl, by intro w hSw; (try dsimp only at hSw); go_simp; try with_reducible rfl⟩
  · assumption
  try go_simp
  refine wpAnyH_take (i := 10) (oi := ?_) (v := ?_) ?_ ?_ ?_ ?_ ?_ ?_ ?_ ?_
  rotate_left 2
  · simp only [List.getElem?_toArray, List.getElem?_cons_succ, List.getElem?_cons_zero]; rfl
  · kernel_rfl
  · kernel_rfl
  · kernel_rfl
  · exact fun _ _ _ h => h
  · exact Or.inl ⟨by kernel_rfl, by intro w hSw; (try dsimp only at hSw); go_simp; try with_reducible rfl⟩
  · assumption
  try go_simp
  refine wpAnyH_take (i := 11) (oi := ?_) (v := ?_) ?_ ?_ ?_ ?_ ?_ ?_ ?_ ?_
  rotate_left 2
  · simp only [List.getElem?_toArray, List.getElem?_cons_succ, List.getElem?_cons_zero]; rfl
  · kernel_rfl
  · kernel_rfl
  · kernel_rfl
  · exact fun _ _ _ h => h
  · exact Or.inl ⟨by kernel_rfl, by intro w hSw; (try dsimp only at hSw); go_simp; try with_reducible rfl⟩
  · assumption
  try go_simp
  refine wpAnyH_take (i := 12) (oi := ?_) (v := ?_) ?_ ?_ ?_ ?_ ?_ ?_ ?_ ?_
  rotate_left 2
  · simp only [List.getElem?_toArray, List.getElem?_cons_succ, List.getElem?_cons_zero]; rfl
  · kernel_rfl
  · kernel_rfl
  · kernel_rfl
  · exact fun _ _ _ h => h
  · exact Or.inl ⟨by kernel_rfl, by intro w hSw; (try dsimp only at hSw); go_simp; try with_reducible rfl⟩
  · assumption
  try go_simp
  refine wpAnyH_take (i := 13) (oi := ?_) (v := ?_) ?_ ?_ ?_ ?_ ?_ ?_ ?_ ?_
  rotate_left 2
  · simp only [List.getElem?_toArray, List.getElem?_cons_succ, List.getElem?_cons_zero]; rfl
  · kernel_rfl
  · kernel_rfl
  · kernel_rfl
  · exact fun _ _ _ h => h
  · exact Or.inl ⟨by kernel_rfl, by intro w hSw; (try dsimp only at hSw); go_simp; try with_reducible rfl⟩
  · assumption
  try go_simp
  refine wpAnyH_done (by kernel_rfl) ?_ _
  refine NoPanic.normal ?_
  go_wp2_with fail
  go_ret
  refine ⟨rfl, ⟨A2, c2_, ⟨?_, ?_, ?_⟩⟩, ?_⟩
  · have := HR2.out.blk.put 3 (.slice A2 R1.length c2_)
    simpa using this
  · exact Own.setOther HR2.out.rng (p := ⟨r, 3, none⟩) (Own.ne_blk HR2.out.rng HR2.out.blk (by decide)) _
  · exact Own.setOther (show Own w2 base 64 2 A2 R1.length c2_ (pcs R1) from HO2.out) (p := ⟨r, 3, none⟩) (Own.ne_blk (show Own w2 base 64 2 A2 R1.length c2_ (pcs R1) from HO2.out) HR2.out.blk (by decide)) _
  · exact Only.set (K := fun i => i = r) (p := ⟨r, 3, none⟩) ((Only.of_below ((below_drewN (Below.refl w.heap.size w) nq).drew.trans HB2.out))) (.inl rfl) _
set_option maxRecDepth 100000 in
theorem rtake20_kind (h : RSk w base r Ar cr a m Al cl all) (h2 : RSk w base2 r2 Ar2 cr2 a m2 Al2 cl2 all2) (hm : m2 ≠ m) :
    Calls Tryz.prog 20 #[.pointer (some ⟨r, 0, none⟩), .pointer (some ⟨r2, 0, none⟩)] w fun e w' => e = .returned (.int .i64 3) ∧ ∃ n, w' = w.drewN n := by
  have c1 : w.cell? ⟨r, 1, none⟩ = some (.int .i64 (a : Int)) := by rw [h.blk.cell]; rfl
  have c2 : w.cell? ⟨r, 2, none⟩ = some (.int .i64 (m : Int)) := by rw [h.blk.cell]; rfl
  have d1 : w.cell? ⟨r2, 1, none⟩ = some (.int .i64 (a : Int)) := by rw [h2.blk.cell]; rfl
  have d2 : w.cell? ⟨r2, 2, none⟩ = some (.int .i64 (m2 : Int)) := by rw [h2.blk.cell]; rfl
  have x1 : ((m2 : Int) == (m : Int)) = false := by simp; omega
  have x2 : (m2 == m) = false := by simp; omega
  have x3 : ((m2 : Int) != (m : Int)) = true := by simp; omega
  have x4 : (m2 != m) = true := by simp; omega
  clear h h2 hm
  go_enter Tryz.func20, Tryz.ntmps20
  go_wp2_with fail
  go_quiet (fail)
  go_wp2_with fail
  go_ret
  exact ⟨rfl, nq, rfl⟩
end
theorem rof_t (base a m : Nat) (A : Option Addr) (c : Nat) (all : List Pr) (w : World) (h : OwnP w base A c all) (hb : base ≤ w.heap.size) (hf : Fine all) (hm0 : 2 ≤ m) (hm1 : m ≤ 4096) (ha : a ≤ 5000) :
    Calls Tryz.prog 16 #[.int .i64 (a : Int), .int .i64 (m : Int), .slice A all.length c] w fun e w' => ∃ A' c', e = .returned (.slice A' (docW a m (cutL all (m : Int)).1 (cutL all (m : Int)).2).length c') ∧ OwnB w' w.heap.size A' c' (docW a m (cutL all (m : Int)).1 (cutL all (m : Int)).2) ∧ Below w.heap.size w w' := by
  have HK := Lib.hid (kept15_t base A c all (m : Int) w h hb (by have := hf.len; omega) hf.tot)
  have hfk := kept_fine hf (m : Int)
  have hlk := cutL_len (L := all) (m := m) (by omega)
  have hF : (cutL all (m : Int)).2 ≤ 4611686018427387904 := by
    have ht := hf.tot
    unfold cutL
    split
    · exact Nat.zero_le _
    · have := tot_take_le (L := all) (k := all.length - cutN (m : Int))
      exact Nat.le_trans this ht
  have HW := Lib.hid (fun A c W (h : Prs W W.heap.size A (cutL all (m : Int)).1) => refwrite_t a m A c (cutL all (m : Int)).1 (cutL all (m : Int)).2 W h hfk (by omega) ha hm1 hF)
  clear h hb hf hm0 hm1 ha hfk hlk hF
  generalize cutL all (m : Int) = R at *
  obtain ⟨R1, R2⟩ := R
  dsimp only at *
  go_enter Tryz.func16, Tryz.ntmps16
  go_wp2_with fail
  refine HK.out.mono ?_
  rintro e w1 ⟨A1, c1, rfl, o1, b1, _⟩
  have HO1 := Lib.hid o1
  have HB1 := Lib.hid b1
  clear o1 b1
  go_wp2_with fail
  refine (HW.out A1 c1 w1 (OwnP.reads HO1.out)).mono ?_
  rintro e w2 ⟨A2, c2, rfl, o2, b2⟩
  have HO2 := Lib.hid (Own.mono o2 HB1.out.size)
  have HB2 := Lib.hid (nextB HB1.out b2)
  clear o2 b2
  go_wp2_with fail
  go_ret
  exact ⟨A2, c2, rfl, HO2.out, HB2.out⟩
/-- What is cut off ahead of being taken together: plain. -/
theorem cut_both {all1 all2 B1 B2 : List Pr} {m : Int} (h1 : Fine all1) (h2 : Fine all2) (k1 : Fine B1) (k2 : Fine B2) (e1 : cutL B1 m = cutL all1 m) (e2 : cutL B2 m = cutL all2 m) (h0 : (rtake all1 all2 0).2 = 0) : (rtake B1 B2 0).2 = 0 ∧ cutL (rtake B1 B2 0).1 m = cutL (rtake all1 all2 0).1 m := by
  obtain ⟨r1, r2, _⟩ := rtake_kept h1 h2 m
  obtain ⟨s1, s2, _⟩ := rtake_kept k1 k2 m
  rw [e1, e2, r1] at s1
  have hz : (rtake B1 B2 0).2 = 0 := by rw [← s1, h0]
  obtain ⟨r3, r4⟩ := r2 h0
  obtain ⟨s3, s4⟩ := s2 hz
  rw [e1, e2] at s3 s4
  rw [r3] at s3
  refine ⟨hz, Prod.ext s3.symm ?_⟩
  rw [s4, r4, s3]
end Go.Proofs.YtbfhiegbgkkgiaaGreat
/- Bytes of sketches joined: walked. -/

namespace Go.Proofs.YtbfhiegbgkkgiaaGreat
open Go.RowKit
open Pl
open Sc
open Wi
theorem few_take {all1 all2 : List Pr} {i j a : Nat} (h1 : Few all1 i a) (h2 : Few all2 j a) (hij : i + j ≤ 100) : (rtake all1 all2 0).2 = 0 ∧ Few (rtake all1 all2 0).1 (i + j) a := by
  have ht1 := h1.tot
  have ht2 := h2.tot
  have hl1 := h1.len
  have hl2 := h2.len
  obtain ⟨f1, f2⟩ := took_fine h1.fine h2.fine (by omega)
  have hr := rtake0 all1 all2
  by_cases hM : all2 = []
  · rw [if_pos hM] at hr
    rw [hr] at f1 f2 ⊢
    exact ⟨rfl, f1, by dsimp only; omega, by dsimp only; omega, h1.keys⟩
  · rw [if_neg hM, if_neg (by omega)] at hr
    rw [hr] at f1 f2 ⊢
    refine ⟨rfl, f1, by dsimp only at f2 ⊢; omega, by dsimp only; rw [puts_tot]; omega, fun p hp => ?_⟩
    rcases puts_keys p hp with ⟨q, hq, e⟩ | ⟨q, hq, e⟩
    · rw [← e]; exact h1.keys q hq
    · rw [← e]; exact h2.keys q hq
theorem readF_cut {D : List UInt8} {r : Nat × Nat × List Pr × Nat} (h : readF D = some r) {k : Nat} (hk : k < D.length) : readF (D.take k) = none := by
  cases hc : readF (D.take k) with
  | none => rfl
  | some s =>
    obtain ⟨a, m, L, f⟩ := s
    obtain ⟨a0, a1, m0, m1, hl, hs, hp, hke, hd, _⟩ := readF_some hc
    have hb := readF_behind hke hs hp hl a0 a1 m0 m1 (more := D.drop k) (fun e => by
      have := congrArg List.length e
      rw [List.length_drop, List.length_nil] at this
      omega)
    rw [hd, List.take_append_drop, h] at hb
    cases hb
def JoinNo (w : World) (x : Int) (e : Ending) (w' : World) : Prop := e = .returned (.tuple #[.slice none 0 0, .int .i64 x]) ∧ Below w.heap.size w w'
section
variable {w : World} {A A2 : Option Addr} {c c2 n n2 : Nat} {la lb : List UInt8} (hn : la.length = n) (hn2 : lb.length = n2) (hb : Bts w w.heap.size A la) (hb2 : Bts w w.heap.size A2 lb) (hl : la.length ≤ 100000000) (hl2 : lb.length ≤ 100000000)
include hn hb hl
theorem join_no1 (h : readF la = none) : Calls Tryz.prog 19 #[.slice A n c, .slice A2 n2 c2] w (JoinNo w 9) := by
  have H := Lib.hid (read_t A c la w hb hl)
  rw [h, hn] at H
  clear h hn hb hl
  go_enter Tryz.func19, Tryz.ntmps19
  go_wp2_with fail
  refine H.out.mono ?_
  rintro e w1 ⟨rfl, b1⟩
  have B1 := Lib.hid b1
  clear b1
  go_wp2_with fail
  go_ret2
  exact ⟨rfl, B1.out⟩
include hn2 hb2 hl2
theorem join_no2 {r : Nat × Nat × List Pr × Nat} (h : readF la = some r) (h2 : readF lb = none) : Calls Tryz.prog 19 #[.slice A n c, .slice A2 n2 c2] w (JoinNo w 9) := by
  have H := Lib.hid (read_t A c la w hb hl)
  have H2 := Lib.hid (fun W h => read_t A2 c2 lb W h hl2)
  have HB2 := Lib.hid hb2
  rw [h, hn] at H
  rw [h2, hn2] at H2
  obtain ⟨a, m, L, f⟩ := r
  clear h h2 hn hn2 hb hb2 hl hl2
  go_enter Tryz.func19, Tryz.ntmps19
  go_wp2_with fail
  refine H.out.mono ?_
  rintro e w1 ⟨p, q, As, cs, g, gl, A', c', rfl, s1, b1⟩
  have B1 := Lib.hid b1
  clear b1 s1
  go_wp2_with fail
  refine (H2.out w1 (HB2.out.at_below B1.out)).mono ?_
  rintro e w2 ⟨rfl, b2⟩
  have B2 := Lib.hid (nextB B1.out b2)
  clear b2
  go_wp2_with fail
  go_ret2
  exact ⟨rfl, B2.out⟩
theorem join_kind {a m m2 f f2 : Nat} {L L2 : List Pr} (h : readF la = some (a, m, L, f)) (h2 : readF lb = some (a, m2, L2, f2)) (hm : m2 ≠ m) : Calls Tryz.prog 19 #[.slice A n c, .slice A2 n2 c2] w (JoinNo w 3) := by
  have H := Lib.hid (read_t A c la w hb hl)
  have H2 := Lib.hid (fun W h => read_t A2 c2 lb W h hl2)
  have HB2 := Lib.hid hb2
  have HM : Hid ((m2 : Int) ≠ (m : Int)) := Lib.hid (by omega)
  rw [h, hn] at H
  rw [h2, hn2] at H2
  clear h h2 hn hn2 hb hb2 hl hl2 hm
  go_enter Tryz.func19, Tryz.ntmps19
  go_wp2_with fail
  refine H.out.mono ?_
  rintro e w1 ⟨p, q, As, cs, g, gl, A', c', rfl, s1, b1⟩
  have B1 := Lib.hid b1
  have S1 := Lib.hid s1
  clear b1 s1
  go_wp2_with fail
  refine (H2.out w1 (HB2.out.at_below B1.out)).mono ?_
  rintro e w2 ⟨p2, q2, As2, cs2, g2, gl2, A2', c2', rfl, s2, b2⟩
  have B2 := Lib.hid (nextB B1.out b2)
  have S2 := Lib.hid s2
  have S1' := Lib.hid (S1.out.below b2)
  clear b2 s2
  go_wp2_with fail
  refine (dtake_kind S1'.out S2.out HM.out).mono ?_
  rintro e w3 ⟨rfl, b3⟩
  have B3 := Lib.hid (nextB B2.out b3)
  clear b3
  go_wp2_with fail
  go_ret2
  exact ⟨rfl, B3.out⟩
theorem join_ok {a m f f2 : Nat} {L L2 K : List Pr} {F : Nat} (h : readF la = some (a, m, L, f)) (h2 : readF lb = some (a, m, L2, f2)) (hz : (rtake (allOf L f) (allOf L2 f2) 0).2 = 0) (hK : cutL (rtake (allOf L f) (allOf L2 f2) 0).1 (m : Int) = (K, F)) (k1 : Keeps a m K F) (k2 : Srt K) (k3 : Pos K) (k4 : K.length ≤ m) :
    Calls Tryz.prog 19 #[.slice A n c, .slice A2 n2 c2] w (Bytes w (docW a m K F)) := by
  obtain ⟨a0, a1, m0, m1, hlm, hs, hp, hke, _, _⟩ := readF_some h
  obtain ⟨_, _, _, _, hlm2, hs2, hp2, hke2, _, _⟩ := readF_some h2
  have H := Lib.hid (read_g A c la w hb hl)
  have H2 := Lib.hid (fun W h => read_t A2 c2 lb W h hl2)
  have HB2 := Lib.hid hb2
  have hf1 := allOf_fine hke hs hp (by omega)
  have hf2 := allOf_fine hke2 hs2 hp2 (by omega)
  have hlen : (allOf L f).length + (allOf L2 f2).length ≤ 100000 := by
    have e1 : ∀ (X : List Pr) (z : Nat), (allOf X z).length ≤ X.length + 1 := fun X z => by
      unfold allOf
      split
      · omega
      · split <;> simp
    have := e1 L f
    have := e1 L2 f2
    omega
  have hft := (took_fine hf1 hf2 hlen).1
  rw [h, hn] at H
  rw [h2, hn2] at H2
  have HDT := Lib.hid (fun W p q cs g gl c' As A' p2 q2 cs2 g2 gl2 c2' As2 A2' (s1 : Skt W p q As cs a g gl A' c' (m : Int) (allOf L f)) (s2 : Skt W p2 q2 As2 cs2 a g2 gl2 A2' c2' (m : Int) (allOf L2 f2)) => dtake_t s1 s2 hf1 hf2 hlen (by omega) (by omega))
  have HWG := Lib.hid (fun W p q cs g gl c' As A' (s : Skt W p q As cs a g gl A' c' (m : Int) (rtake (allOf L f) (allOf L2 f2) 0).1) => write_g p a m K F W (keeps_fine k1 k2 k3 m1 k4) (by omega) a1 m1 (keeps_fold k1) (by have := dpairs_t s hft; rwa [hK] at this) (fun V hb => dacc_t (s.below hb)) (fun V hb => dbudget_t (s.below hb)) (fun V hb => by have := dfolded_t (s.below hb); rwa [hK] at this))
  obtain ⟨T, hT⟩ : ∃ T, T = rtake (allOf L f) (allOf L2 f2) 0 := ⟨_, rfl⟩
  rw [← hT] at HDT HWG hz
  obtain ⟨T1, T2⟩ := T
  dsimp only at hz HDT HWG
  subst hz
  generalize docW a m K F = DW at *
  clear h h2 hn hn2 hb hb2 hl hl2 hke hke2 hs hs2 hp hp2 hlm hlm2 a0 a1 m0 m1 hf1 hf2 hlen hft hK k1 k2 k3 k4 hT
  go_enter Tryz.func19, Tryz.ntmps19
  go_wp2_with fail
  refine H.out.mono ?_
  rintro e w1 ⟨p, q, As, cs, g, gl, A', c', rfl, s1, b1, hg, hgl⟩
  have B1 := Lib.hid b1
  have S1 := Lib.hid s1
  have HG := Lib.hid (And.intro hg hgl)
  clear b1 s1 hg hgl
  go_wp2_with fail
  refine (H2.out w1 (HB2.out.at_below B1.out)).mono ?_
  rintro e w2 ⟨p2, q2, As2, cs2, g2, gl2, A2', c2', rfl, s2, b2⟩
  have B2 := Lib.hid (nextB B1.out b2)
  have S2 := Lib.hid s2
  have S1' := Lib.hid (S1.out.below b2)
  clear b2 s2
  go_wp2_with fail
  refine (HDT.out w2 p q cs g gl c' As A' p2 q2 cs2 g2 gl2 c2' As2 A2' S1'.out S2.out).mono ?_
  rintro e w3 ⟨rfl, A3, c3, s3, k3⟩
  have B3 := Lib.hid (stored_below B2.out HG.out.1 HG.out.2 S1'.out.sto k3)
  have S3 := Lib.hid s3
  clear s3 k3
  go_wp2_with fail
  refine (HWG.out w3 p q cs g gl c3 As A3 S3.out).mono ?_
  rintro e w4 ⟨A4, c4, rfl, o4, b4⟩
  have O4 := Lib.hid (Own.mono o4 B3.out.size)
  have B4 := Lib.hid (nextB B3.out b4)
  clear o4 b4
  go_wp2_with fail
  go_ret2
  exact ⟨A4, c4, rfl, O4.out, B4.out⟩
end
end Go.Proofs.YtbfhiegbgkkgiaaGreat
/- Where a key's range begins, and where it ends; a sketch's ends; walked. -/

namespace Go.Proofs.YtbfhiegbgkkgiaaGreat
open Go.RowKit
open Pl
open Sc
/-- A key's range, below zero the contrary. -/
def rangeZ (T : List Span) (k : Int) : Int × Int × Int := if k = 0 then (0, 0, 0) else if 0 < k then (match T[k.toNat - 1]? with
  | some s => ((s.1 : Int), (s.2.1 : Int), (s.2.2 : Int))
  | none => (0, 0, 0)) else (match T[(-k).toNat - 1]? with
  | some s => (-(s.2.2 : Int), -(s.2.1 : Int), -(s.1 : Int))
  | none => (0, 0, 0))
theorem low_zero (g c a : Nat) (A : Option Addr) (T : List Span) (w : World) (h : Scl w g A c a T) (hT : T.length ≤ 100000) :
    Calls Tryz.prog 68 #[.pointer (some ⟨g, 0, none⟩), .int .i64 0] w fun e w' => e = .returned (.tuple #[.int .i64 0, .int .i64 0]) ∧ Below w.heap.size w w' := by
  have c1 : w.cell? ⟨g, 1, none⟩ = some (.slice A T.length c) := by rw [h.blk.cell]; rfl
  have hTl : (T.length : Int) ≤ 100000 := by omega
  have x1 : decide ((T.length : Int) < 0) = false := by simp
  have x2 : decide (0 < -(T.length : Int)) = false := by simp
  clear h hT
  generalize T.length = n at *
  go_enter Tryz.func68, Tryz.ntmps68
  go_wp2
  go_wp2
  go_ret2
  exact ⟨rfl, Below.refl _ _⟩
set_option maxHeartbeats 1600000 in
theorem low_pos (g c a : Nat) (A : Option Addr) (T : List Span) (i : Nat) (s : Span) (w : World) (h : Scl w g A c a T) (hT : T.length ≤ 100000) (hs : T[i]? = some s) (k : Int) (hk : k = (i : Int) + 1) :
    Calls Tryz.prog 68 #[.pointer (some ⟨g, 0, none⟩), .int .i64 k] w fun e w' => e = .returned (.tuple #[.int .i64 (s.1 : Int), .int .i64 0]) ∧ Below w.heap.size w w' := by
  have c1 : w.cell? ⟨g, 1, none⟩ = some (.slice A T.length c) := by rw [h.blk.cell]; rfl
  obtain ⟨b, rfl, hb, d0, d1, d2⟩ := h.at_ hs
  have hi : i < T.length := (List.getElem?_eq_some_iff.1 hs).1
  have hTl : (T.length : Int) ≤ 100000 := by omega
  have x1 : decide ((T.length : Int) < k) = false := by simp; omega
  have x2 : decide (k < -(T.length : Int)) = false := by simp; omega
  have x3 : decide (0 < k) = true := by simp; omega
  have x4 : k - 1 = (i : Int) := by omega
  have x5 : (i : Int) < (T.length : Int) := by omega
  have x6 : 1 ≤ k := by omega
  have x7 : k ≤ 100000 := by omega
  obtain ⟨lo, md, hh⟩ := s
  dsimp only at *
  clear h hT hs hi hk
  generalize T.length = n at *
  go_enter Tryz.func68, Tryz.ntmps68
  go_wp2
  go_ret2
  exact ⟨rfl, (Below.refl _ _).alloc (Nat.le_refl _) _⟩
set_option maxHeartbeats 1600000 in
theorem low_neg (g c a : Nat) (A : Option Addr) (T : List Span) (i : Nat) (s : Span) (w : World) (h : Scl w g A c a T) (hT : T.length ≤ 100000) (hs : T[i]? = some s) (hmx : s.2.2 ≤ 9223372036854775807) (k : Int) (hk : k = -((i : Int) + 1)) :
    Calls Tryz.prog 68 #[.pointer (some ⟨g, 0, none⟩), .int .i64 k] w fun e w' => e = .returned (.tuple #[.int .i64 (-(s.2.2 : Int)), .int .i64 0]) ∧ Below w.heap.size w w' := by
  have c1 : w.cell? ⟨g, 1, none⟩ = some (.slice A T.length c) := by rw [h.blk.cell]; rfl
  obtain ⟨b, rfl, hb, d0, d1, d2⟩ := h.at_ hs
  have hi : i < T.length := (List.getElem?_eq_some_iff.1 hs).1
  have hTl : (T.length : Int) ≤ 100000 := by omega
  have x1 : decide ((T.length : Int) < k) = false := by simp; omega
  have x2 : decide (k < -(T.length : Int)) = false := by simp; omega
  have x3 : decide (0 < k) = false := by simp; omega
  have x3b : decide (k < 0) = true := by simp; omega
  have x4a : -k = (i : Int) + 1 := by omega
  have x4 : (i : Int) + 1 - 1 = (i : Int) := by omega
  have x4b : -k - 1 = (i : Int) := by omega
  have x8 : (s.2.2 : Int) ≤ 9223372036854775807 := by omega
  have x5 : (i : Int) < (T.length : Int) := by omega
  have x6 : k ≤ -1 := by omega
  have x7 : -100000 ≤ k := by omega
  obtain ⟨lo, md, hh⟩ := s
  dsimp only at *
  clear h hT hs hi hk
  generalize T.length = n at *
  go_enter Tryz.func68, Tryz.ntmps68
  go_wp2
  go_ret2
  exact ⟨rfl, (Below.refl _ _).alloc (Nat.le_refl _) _⟩
theorem low_any (g c a : Nat) (A : Option Addr) (k : Int) (w : World) (h : Scl w g A c a (spans a)) (ha0 : 100 ≤ a) (ha : a ≤ 5000) (hk : -((spans a).length : Int) ≤ k ∧ k ≤ ((spans a).length : Int)) :
    Calls Tryz.prog 68 #[.pointer (some ⟨g, 0, none⟩), .int .i64 k] w fun e w' => e = .returned (.tuple #[.int .i64 (rangeZ (spans a) k).1, .int .i64 0]) ∧ Below w.heap.size w w' := by
  have hl := spans_len' a
  rcases Int.lt_trichotomy k 0 with h0 | h0 | h0
  · obtain ⟨s, hs⟩ : ∃ s, (spans a)[(-k).toNat - 1]? = some s := ⟨_, List.getElem?_eq_getElem (by omega)⟩
    have hf := spans_facts ha0 ha s (List.mem_of_getElem? hs)
    rw [show (rangeZ (spans a) k).1 = -(s.2.2 : Int) by unfold rangeZ; rw [if_neg (by omega), if_neg (by omega), hs]]
    exact low_neg g c a A (spans a) ((-k).toNat - 1) s w h (by omega) hs (by omega) k (by omega)
  · subst h0
    exact low_zero g c a A (spans a) w h (by omega)
  · obtain ⟨s, hs⟩ : ∃ s, (spans a)[k.toNat - 1]? = some s := ⟨_, List.getElem?_eq_getElem (by omega)⟩
    rw [show (rangeZ (spans a) k).1 = (s.1 : Int) by unfold rangeZ; rw [if_neg (by omega), if_pos (by omega), hs]]
    exact low_pos g c a A (spans a) (k.toNat - 1) s w h (by omega) hs k (by omega)
theorem endlow_t (q c a : Nat) (A : Option Addr) (k : Int) (w : World) (h : Scl w q A c a (spans a)) (ha0 : 100 ≤ a) (ha : a ≤ 5000) (hk : -((spans a).length : Int) ≤ k ∧ k ≤ ((spans a).length : Int)) :
    Calls Tryz.prog 67 #[.int .i64 k, .func (Fn.func 68) #[.pointer (some ⟨q, 0, none⟩)] #[]] w fun e w' => e = .returned (.int .i64 (rangeZ (spans a) k).1) ∧ Below w.heap.size w w' := by
  have H := Lib.hid (low_any q c a A k w h ha0 ha hk)
  clear h ha0 ha hk
  generalize (rangeZ (spans a) k).1 = v at *
  go_enter Tryz.func67, Tryz.ntmps67
  go_wp2_with fail
  refine H.out.mono ?_
  rintro e w1 ⟨rfl, b1⟩
  have B1 := Lib.hid b1
  clear b1
  go_wp2_with fail
  go_ret
  exact ⟨rfl, B1.out⟩
theorem high_zero (g c a : Nat) (A : Option Addr) (T : List Span) (w : World) (h : Scl w g A c a T) (hT : T.length ≤ 100000) :
    Calls Tryz.prog 69 #[.pointer (some ⟨g, 0, none⟩), .int .i64 0] w fun e w' => e = .returned (.tuple #[.int .i64 0, .int .i64 0]) ∧ Below w.heap.size w w' := by
  have c1 : w.cell? ⟨g, 1, none⟩ = some (.slice A T.length c) := by rw [h.blk.cell]; rfl
  have hTl : (T.length : Int) ≤ 100000 := by omega
  have x1 : decide ((T.length : Int) < 0) = false := by simp
  have x2 : decide (0 < -(T.length : Int)) = false := by simp
  clear h hT
  generalize T.length = n at *
  go_enter Tryz.func69, Tryz.ntmps69
  go_wp2
  go_wp2
  go_ret2
  exact ⟨rfl, Below.refl _ _⟩
set_option maxHeartbeats 1600000 in
theorem high_pos (g c a : Nat) (A : Option Addr) (T : List Span) (i : Nat) (s : Span) (w : World) (h : Scl w g A c a T) (hT : T.length ≤ 100000) (hs : T[i]? = some s) (k : Int) (hk : k = (i : Int) + 1) :
    Calls Tryz.prog 69 #[.pointer (some ⟨g, 0, none⟩), .int .i64 k] w fun e w' => e = .returned (.tuple #[.int .i64 (s.2.2 : Int), .int .i64 0]) ∧ Below w.heap.size w w' := by
  have c1 : w.cell? ⟨g, 1, none⟩ = some (.slice A T.length c) := by rw [h.blk.cell]; rfl
  obtain ⟨b, rfl, hb, d0, d1, d2⟩ := h.at_ hs
  have hi : i < T.length := (List.getElem?_eq_some_iff.1 hs).1
  have hTl : (T.length : Int) ≤ 100000 := by omega
  have x1 : decide ((T.length : Int) < k) = false := by simp; omega
  have x2 : decide (k < -(T.length : Int)) = false := by simp; omega
  have x3 : decide (0 < k) = true := by simp; omega
  have x4 : k - 1 = (i : Int) := by omega
  have x5 : (i : Int) < (T.length : Int) := by omega
  have x6 : 1 ≤ k := by omega
  have x7 : k ≤ 100000 := by omega
  obtain ⟨lo, md, hh⟩ := s
  dsimp only at *
  clear h hT hs hi hk
  generalize T.length = n at *
  go_enter Tryz.func69, Tryz.ntmps69
  go_wp2
  go_ret2
  exact ⟨rfl, (Below.refl _ _).alloc (Nat.le_refl _) _⟩
set_option maxHeartbeats 1600000 in
theorem high_neg (g c a : Nat) (A : Option Addr) (T : List Span) (i : Nat) (s : Span) (w : World) (h : Scl w g A c a T) (hT : T.length ≤ 100000) (hs : T[i]? = some s) (hmx : s.1 ≤ 9223372036854775807) (k : Int) (hk : k = -((i : Int) + 1)) :
    Calls Tryz.prog 69 #[.pointer (some ⟨g, 0, none⟩), .int .i64 k] w fun e w' => e = .returned (.tuple #[.int .i64 (-(s.1 : Int)), .int .i64 0]) ∧ Below w.heap.size w w' := by
  have c1 : w.cell? ⟨g, 1, none⟩ = some (.slice A T.length c) := by rw [h.blk.cell]; rfl
  obtain ⟨b, rfl, hb, d0, d1, d2⟩ := h.at_ hs
  have hi : i < T.length := (List.getElem?_eq_some_iff.1 hs).1
  have hTl : (T.length : Int) ≤ 100000 := by omega
  have x1 : decide ((T.length : Int) < k) = false := by simp; omega
  have x2 : decide (k < -(T.length : Int)) = false := by simp; omega
  have x3 : decide (0 < k) = false := by simp; omega
  have x3b : decide (k < 0) = true := by simp; omega
  have x4a : -k = (i : Int) + 1 := by omega
  have x4 : (i : Int) + 1 - 1 = (i : Int) := by omega
  have x4b : -k - 1 = (i : Int) := by omega
  have x8 : (s.1 : Int) ≤ 9223372036854775807 := by omega
  have x5 : (i : Int) < (T.length : Int) := by omega
  have x6 : k ≤ -1 := by omega
  have x7 : -100000 ≤ k := by omega
  obtain ⟨lo, md, hh⟩ := s
  dsimp only at *
  clear h hT hs hi hk
  generalize T.length = n at *
  go_enter Tryz.func69, Tryz.ntmps69
  go_wp2
  go_ret2
  exact ⟨rfl, (Below.refl _ _).alloc (Nat.le_refl _) _⟩
theorem high_any (g c a : Nat) (A : Option Addr) (k : Int) (w : World) (h : Scl w g A c a (spans a)) (ha0 : 100 ≤ a) (ha : a ≤ 5000) (hk : -((spans a).length : Int) ≤ k ∧ k ≤ ((spans a).length : Int)) :
    Calls Tryz.prog 69 #[.pointer (some ⟨g, 0, none⟩), .int .i64 k] w fun e w' => e = .returned (.tuple #[.int .i64 (rangeZ (spans a) k).2.2, .int .i64 0]) ∧ Below w.heap.size w w' := by
  have hl := spans_len' a
  rcases Int.lt_trichotomy k 0 with h0 | h0 | h0
  · obtain ⟨s, hs⟩ : ∃ s, (spans a)[(-k).toNat - 1]? = some s := ⟨_, List.getElem?_eq_getElem (by omega)⟩
    have hf := spans_facts ha0 ha s (List.mem_of_getElem? hs)
    rw [show (rangeZ (spans a) k).2.2 = -(s.1 : Int) by unfold rangeZ; rw [if_neg (by omega), if_neg (by omega), hs]]
    exact high_neg g c a A (spans a) ((-k).toNat - 1) s w h (by omega) hs (by omega) k (by omega)
  · subst h0
    exact high_zero g c a A (spans a) w h (by omega)
  · obtain ⟨s, hs⟩ : ∃ s, (spans a)[k.toNat - 1]? = some s := ⟨_, List.getElem?_eq_getElem (by omega)⟩
    rw [show (rangeZ (spans a) k).2.2 = (s.2.2 : Int) by unfold rangeZ; rw [if_neg (by omega), if_pos (by omega), hs]]
    exact high_pos g c a A (spans a) (k.toNat - 1) s w h (by omega) hs k (by omega)
theorem endhigh_t (q c a : Nat) (A : Option Addr) (k : Int) (w : World) (h : Scl w q A c a (spans a)) (ha0 : 100 ≤ a) (ha : a ≤ 5000) (hk : -((spans a).length : Int) ≤ k ∧ k ≤ ((spans a).length : Int)) :
    Calls Tryz.prog 67 #[.int .i64 k, .func (Fn.func 69) #[.pointer (some ⟨q, 0, none⟩)] #[]] w fun e w' => e = .returned (.int .i64 (rangeZ (spans a) k).2.2) ∧ Below w.heap.size w w' := by
  have H := Lib.hid (high_any q c a A k w h ha0 ha hk)
  clear h ha0 ha hk
  generalize (rangeZ (spans a) k).2.2 = v at *
  go_enter Tryz.func67, Tryz.ntmps67
  go_wp2_with fail
  refine H.out.mono ?_
  rintro e w1 ⟨rfl, b1⟩
  have B1 := Lib.hid b1
  clear b1
  go_wp2_with fail
  go_ret
  exact ⟨rfl, B1.out⟩
/-- What a sketch's ends are. -/
def endsZ (a : Nat) (K : List Pr) : Array Value := match K with
  | [] => #[.int .i64 0, .int .i64 0, .int .i64 8]
  | p :: R => #[.int .i64 (rangeZ (spans a) p.1).1, .int .i64 (rangeZ (spans a) ((p :: R).getLast (by simp)).1).2.2, .int .i64 0]
section
variable {p q cs a g gl c : Nat} {As A : Option Addr} {m : Int} {all : List Pr} {w : World}
theorem ends_none (h : Skt w p q As cs a g gl A c m all) (hf : Fine all) (hK : (cutL all m).1 = []) : Calls Tryz.prog 45 #[.pointer (some ⟨p, 0, none⟩)] w fun e w' => e = .returned (.tuple #[.int .i64 0, .int .i64 0, .int .i64 8]) ∧ Below w.heap.size w w' := by
  have H := Lib.hid (dpairs_t h hf)
  rw [hK] at H
  clear h hf hK
  go_enter Tryz.func45, Tryz.ntmps45
  go_wp2_with fail
  refine H.out.mono ?_
  rintro e w1 ⟨A1, c1, rfl, _, b1⟩
  have B1 := Lib.hid b1
  clear b1
  rw [show ([] : List Pr).length = 0 from rfl]
  go_wp2_with fail
  go_ret3
  exact ⟨rfl, B1.out⟩
set_option maxRecDepth 100000 in
set_option maxHeartbeats 1600000 in
theorem ends_some (h : Skt w p q As cs a g gl A c m all) (hf : Fine all) (ha0 : 100 ≤ a) (ha : a ≤ 5000) {K : List Pr} (hK : (cutL all m).1 = K) (j : Nat) (x y : Pr) (hj : K.length = j + 1) (hx : K[0]? = some x) (hy : K[j]? = some y) (hkx : -((spans a).length : Int) ≤ x.1 ∧ x.1 ≤ ((spans a).length : Int)) (hky : -((spans a).length : Int) ≤ y.1 ∧ y.1 ≤ ((spans a).length : Int)) (hKl : K.length ≤ 100000) :
    Calls Tryz.prog 45 #[.pointer (some ⟨p, 0, none⟩)] w fun e w' => e = .returned (.tuple #[.int .i64 (rangeZ (spans a) x.1).1, .int .i64 (rangeZ (spans a) y.1).2.2, .int .i64 0]) ∧ Below w.heap.size w w' := by
  have H := Lib.hid (dpairs_t h hf)
  rw [hK] at H
  have HE0 := Lib.hid (fun W (h : Scl W q As cs a (spans a)) => endlow_t q cs a As x.1 W h ha0 ha hkx)
  have HE1 := Lib.hid (fun W (h : Scl W q As cs a (spans a)) => endhigh_t q cs a As y.1 W h ha0 ha hky)
  have HH := Lib.hid h
  have hKi : (K.length : Int) ≤ 100000 := by omega
  have e1 : ((K.length : Int) == 0) = false := beq_eq_false_iff_ne.2 (by omega)
  have e1b : (K.length == 0) = false := beq_eq_false_iff_ne.2 (by omega)
  have e2 : IntKind.i64.wrap ((K.length : Int) - 1) = (j : Int) := by rw [IntWalk.i64_in _ ⟨by omega, by omega⟩]; omega
  have e3 : (j : Int) < (K.length : Int) := by omega
  have e4 : (0 : Int) < (K.length : Int) := by omega
  have e4b : 0 < K.length := by omega
  have e3b : j < K.length := by omega
  have hmf : ∀ (fn : Fn) (first cap : Array Value) (w : World), (Instr.makeFunc fn first cap).run Tryz.prog w = .ok (.func fn first cap) w := fun _ _ _ _ => rfl
  have HXY := Lib.hid (And.intro hx (And.intro hy hj))
  generalize (rangeZ (spans a) x.1).1 = v0 at *
  generalize (rangeZ (spans a) y.1).2.2 = v1 at *
  obtain ⟨K0, hK0⟩ : ∃ K0, K0 = x.1 := ⟨_, rfl⟩
  obtain ⟨K1, hK1⟩ : ∃ K1, K1 = y.1 := ⟨_, rfl⟩
  rw [← hK0] at HE0
  rw [← hK1] at HE1
  have HKK := Lib.hid (And.intro hK0 hK1)
  clear h hf ha0 ha hK hj hx hy hkx hky hKl hK0 hK1
  go_enter Tryz.func45, Tryz.ntmps45
  go_wp2_with fail
  refine H.out.mono ?_
  rintro e w1 ⟨A1, c1, rfl, o1, b1⟩
  obtain ⟨b, rfl, hb1, hb2, _, hcl, _⟩ := Own.form (show Own w1 w.heap.size 64 2 A1 K.length c1 (pcs K) from o1) (by have := HXY.out.2.2; omega)
  have HSS : Hid (∀ W, Below w1.heap.size w1 W → W.cell? ⟨b, 0, none⟩ = some (.int .i64 K0) ∧ W.cell? ⟨b, j * 2, none⟩ = some (.int .i64 K1) ∧ W.cell? ⟨p, 0, none⟩ = some (.pointer (some ⟨q, 0, none⟩))) := Lib.hid (fun W hb => by
    refine ⟨(hb.cell (p := ⟨b, 0, none⟩) hb2).trans ?_, (hb.cell (p := ⟨b, j * 2, none⟩) hb2).trans ?_, ((HH.out.below b1).below hb).c0⟩
    · have := hcl 0 _ (pcs_key HXY.out.1).1
      rw [HKK.out.1]; exact this
    · have := hcl (j * 2) _ (pcs_key HXY.out.2.1).1
      rw [HKK.out.2]; exact this)
  obtain ⟨y0, y1, y2⟩ := HSS.out w1 (Below.refl _ _)
  have HS1 := Lib.hid (HH.out.below b1)
  have B1 := Lib.hid b1
  clear o1 b1 hb1 hb2 hcl
  go_wp2_with fail
  refine wp_region_noPanic ?_
  refine wp_region_held_drew (S := (fun W => W.cell? ⟨b, 0, none⟩ = some (.int .i64 K0) ∧ W.cell? ⟨b, j * 2, none⟩ = some (.int .i64 K1) ∧ W.cell? ⟨p, 0, none⟩ = some (.pointer (some ⟨q, 0, none⟩)))) (by kernel_rfl) ⟨y0, y1, y2⟩ (fun hHeld => ?_)
  refine wpAnyH_take (i := 0) (oi := ?_) (v := ?_) ?_ ?_ ?_ ?_ ?_ ?_ ?_ ?_
  rotate_left 2
  · simp only [List.getElem?_toArray, List.getElem?_cons_zero]; rfl
  · kernel_rfl
  · kernel_rfl
  · kernel_rfl
  · exact fun _ _ _ h => h
  · exact Or.inl ⟨by kernel_rfl, by intro w hSw; (try dsimp only at hSw); go_simp; try with_reducible rfl⟩
  · assumption
  try go_simp
  refine wpAnyH_take (i := 1) (oi := ?_) (v := ?_) ?_ ?_ ?_ ?_ ?_ ?_ ?_ ?_
  rotate_left 2
  · simp only [List.getElem?_toArray, List.getElem?_cons_succ, List.getElem?_cons_zero]; rfl
  · kernel_rfl
  · kernel_rfl
  · kernel_rfl
  · exact fun _ _ _ h => h
  · exact Or.inl ⟨by kernel_rfl, by intro w hSw; (try dsimp only at hSw); go_simp; try with_reducible rfl⟩
  · assumption
  try go_simp
  refine wpAnyH_take (i := 2) (oi := ?_) (v := ?_) ?_ ?_ ?_ ?_ ?_ ?_ ?_ ?_
  rotate_left 2
  · simp only [List.getElem?_toArray, List.getElem?_cons_succ, List.getElem?_cons_zero]; rfl
  · kernel_rfl
  · kernel_rfl
  · kernel_rfl
  · exact fun _ _ _ h => h
  · exact Or.inl ⟨by kernel_rfl, by intro w hSw; (try dsimp only at hSw); go_simp; try with_reducible rfl⟩
  · assumption
  try go_simp
  refine wpAnyH_take (i := 3) (oi := ?_) (v := ?_) ?_ ?_ ?_ ?_ ?_ ?_ ?_ ?_
  rotate_left 2
  · simp only [List.getElem?_toArray, List.getElem?_cons_succ, List.getElem?_cons_zero]; rfl
  · kernel_rfl
  · kernel_rfl
  · kernel_rfl
  · exact fun _ _ _ h => h
  · exact Or.inl ⟨by kernel_rfl, by intro w hSw; (try dsimp only at hSw); go_simp; try with_reducible rfl⟩
  · assumption
  try go_simp
  refine wpAnyH_take (i := 4) (oi := ?_) (v := ?_) ?_ ?_ ?_ ?_ ?_ ?_ ?_ ?_
  rotate_left 2
  · simp only [List.getElem?_toArray, List.getElem?_cons_succ, List.getElem?_cons_zero]; rfl
  · kernel_rfl
  · kernel_rfl
  · kernel_rfl
  · exact fun _ _ _ h => h
  · exact Or.inl ⟨by kernel_rfl, by intro w hSw; (try dsimp only at hSw); go_simp; try with_reducible rfl⟩
  · assumption
  try go_simp
  refine wpAnyH_take (i := 5) (oi := ?_) (v := ?_) ?_ ?_ ?_ ?_ ?_ ?_ ?_ ?_
  rotate_left 2
  · simp only [List.getElem?_toArray, List.getElem?_cons_succ, List.getElem?_cons_zero]; rfl
  · kernel_rfl
  · kernel_rfl
  · kernel_rfl
  · exact fun _ _ _ h => h
  · exact Or.inl ⟨by kernel_rfl, by intro w hSw; (try dsimp only at hSw); go_simp; try with_reducible rfl⟩
  · assumption
  try go_simp
  refine wpAnyH_take (i := 6) (oi := ?_) (v := ?_) ?_ ?_ ?_ ?_ ?_ ?_ ?_ ?_
  rotate_left 2
  · simp only [List.getElem?_toArray, List.getElem?_cons_succ, List.getElem?_cons_zero]; rfl
  · kernel_rfl
  · kernel_rfl
  · kernel_rfl
  · exact fun _ _ _ h => h
  · exact Or.inl ⟨by kernel_rfl, by intro w hSw; (try dsimp only at hSw); go_simp; try with_reducible rfl⟩
  · assumption
  try go_simp
  refine wpAnyH_take (i := 7) (oi := ?_) (v := ?_) ?_ ?_ ?_ ?_ ?_ ?_ ?_ ?_
  rotate_left 2
  · simp only [List.getElem?_toArray, List.getElem?_cons_succ, List.getElem?_cons_zero]; rfl
  · kernel_rfl
  · kernel_rfl
  · kernel_rfl
  · exact fun _ _ _ h => h
  · exact Or.inl ⟨by kernel_rfl, by intro w hSw; (try dsimp only at hSw); go_simp; try with_reducible rfl⟩
  · assumption
  try go_simp
  refine wpAnyH_take (i := 8) (oi := ?_) (v := ?_) ?_ ?_ ?_ ?_ ?_ ?_ ?_ ?_
  rotate_left 2
  · simp only [List.getElem?_toArray, List.getElem?_cons_succ, List.getElem?_cons_zero]; rfl
  · kernel_rfl
  · kernel_rfl
  · kernel_rfl
  · exact fun _ _ _ h => h
  · exact Or.inl ⟨by kernel_rfl, by intro w hSw; (try dsimp only at hSw); go_simp; try with_reducible rfl⟩
  · assumption
  try go_simp
  refine wpAnyH_take (i := 10) (oi := ?_) (v := ?_) ?_ ?_ ?_ ?_ ?_ ?_ ?_ ?_
  rotate_left 2
  · simp only [List.getElem?_toArray, List.getElem?_cons_succ, List.getElem?_cons_zero]; rfl
  · kernel_rfl
  · kernel_rfl
  · kernel_rfl
  · exact fun _ _ _ h => h
  · exact Or.inl ⟨by kernel_rfl, by intro w hSw; (try dsimp only at hSw); go_simp; try with_reducible rfl⟩
  · assumption
  try go_simp
  refine wpAnyH_take (i := 11) (oi := ?_) (v := ?_) ?_ ?_ ?_ ?_ ?_ ?_ ?_ ?_
  rotate_left 2
  · simp only [List.getElem?_toArray, List.getElem?_cons_succ, List.getElem?_cons_zero]; rfl
  · kernel_rfl
  · kernel_rfl
  · kernel_rfl
  · exact fun _ _ _ h => h
  · exact Or.inl ⟨by kernel_rfl, by intro w hSw; (try dsimp only at hSw); go_simp; try with_reducible rfl⟩
  · assumption
  try go_simp
  refine wpAnyH_take (i := 12) (oi := ?_) (v := ?_) ?_ ?_ ?_ ?_ ?_ ?_ ?_ ?_
  rotate_left 2
  · simp only [List.getElem?_toArray, List.getElem?_cons_succ, List.getElem?_cons_zero]; rfl
  · kernel_rfl
  · kernel_rfl
  · kernel_rfl
  · exact fun _ _ _ h => h
  · exact Or.inl ⟨by kernel_rfl, by intro w hSw; (try dsimp only at hSw); go_simp; try with_reducible rfl⟩
  · assumption
  try go_simp
  refine wpAnyH_take (i := 13) (oi := ?_) (v := ?_) ?_ ?_ ?_ ?_ ?_ ?_ ?_ ?_
  rotate_left 2
  · simp only [List.getElem?_toArray, List.getElem?_cons_succ, List.getElem?_cons_zero]; rfl
  · kernel_rfl
  · kernel_rfl
  · kernel_rfl
  · exact fun _ _ _ h => h
  · exact Or.inl ⟨by kernel_rfl, by intro w hSw; (try dsimp only at hSw); go_simp; try with_reducible rfl⟩
  · assumption
  try go_simp
  refine wpAnyH_take (i := 14) (oi := ?_) (v := ?_) ?_ ?_ ?_ ?_ ?_ ?_ ?_ ?_
  rotate_left 2
  · simp only [List.getElem?_toArray, List.getElem?_cons_succ, List.getElem?_cons_zero]; rfl
  · kernel_rfl
  · kernel_rfl
  · kernel_rfl
  · exact fun _ _ _ h => h
  · exact Or.inl ⟨by kernel_rfl, by intro w hSw; (try dsimp only at hSw); go_simp; try with_reducible rfl⟩
  · assumption
  try go_simp
  refine wpAnyH_take (i := 15) (oi := ?_) (v := ?_) ?_ ?_ ?_ ?_ ?_ ?_ ?_ ?_
  rotate_left 2
  · simp only [List.getElem?_toArray, List.getElem?_cons_succ, List.getElem?_cons_zero]; rfl
  · kernel_rfl
  · kernel_rfl
  · kernel_rfl
  · exact fun _ _ _ h => h
  · exact Or.inl ⟨by kernel_rfl, by intro w hSw; (try dsimp only at hSw); go_simp; try with_reducible rfl⟩
  · assumption
  try go_simp
  refine wpAnyH_take (i := 16) (oi := ?_) (v := ?_) ?_ ?_ ?_ ?_ ?_ ?_ ?_ ?_
  rotate_left 2
  · simp only [List.getElem?_toArray, List.getElem?_cons_succ, List.getElem?_cons_zero]; rfl
  · kernel_rfl
  · kernel_rfl
  · kernel_rfl
  · exact fun _ _ _ h => h
  · exact Or.inl ⟨by kernel_rfl, by intro w hSw; (try dsimp only at hSw); go_simp; try with_reducible rfl⟩
  · assumption
  try go_simp
  refine wpAnyH_take (i := 17) (oi := ?_) (v := ?_) ?_ ?_ ?_ ?_ ?_ ?_ ?_ ?_
  rotate_left 2
  · simp only [List.getElem?_toArray, List.getElem?_cons_succ, List.getElem?_cons_zero]; rfl
  · kernel_rfl
  · kernel_rfl
  · kernel_rfl
  · exact fun _ _ _ h => h
  · exact Or.inl ⟨by kernel_rfl, by intro w hSw; (try dsimp only at hSw); go_simp; try with_reducible rfl⟩
  · assumption
  try go_simp
  refine wpAnyH_take (i := 18) (oi := ?_) (v := ?_) ?_ ?_ ?_ ?_ ?_ ?_ ?_ ?_
  rotate_left 2
  · simp only [List.getElem?_toArray, List.getElem?_cons_succ, List.getElem?_cons_zero]; rfl
  · kernel_rfl
  · kernel_rfl
  · kernel_rfl
  · exact fun _ _ _ h => h
  · exact Or.inl ⟨by kernel_rfl, by intro w hSw; (try dsimp only at hSw); go_simp; try with_reducible rfl⟩
  · assumption
  try go_simp
  refine wpAnyH_take (i := 19) (oi := ?_) (v := ?_) ?_ ?_ ?_ ?_ ?_ ?_ ?_ ?_
  rotate_left 2
  · simp only [List.getElem?_toArray, List.getElem?_cons_succ, List.getElem?_cons_zero]; rfl
  · kernel_rfl
  · kernel_rfl
  · kernel_rfl
  · exact fun _ _ _ h => h
  · exact Or.inl ⟨by kernel_rfl, by intro w hSw; (try dsimp only at hSw); go_simp; try with_reducible rfl⟩
  · assumption
  try go_simp
  refine wpAnyH_take (i := 20) (oi := ?_) (v := ?_) ?_ ?_ ?_ ?_ ?_ ?_ ?_ ?_
  rotate_left 2
  · simp only [List.getElem?_toArray, List.getElem?_cons_succ, List.getElem?_cons_zero]; rfl
  · kernel_rfl
  · kernel_rfl
  · kernel_rfl
  · exact fun _ _ _ h => h
  · exact Or.inl ⟨by kernel_rfl, by intro w hSw; (try dsimp only at hSw); go_simp; try with_reducible rfl⟩
  · assumption
  try go_simp
  refine wpAnyH_take (i := 21) (oi := ?_) (v := ?_) ?_ ?_ ?_ ?_ ?_ ?_ ?_ ?_
  rotate_left 2
  · simp only [List.getElem?_toArray, List.getElem?_cons_succ, List.getElem?_cons_zero]; rfl
  · kernel_rfl
  · kernel_rfl
  · kernel_rfl
  · exact fun _ _ _ h => h
  · exact Or.inl ⟨by kernel_rfl, by intro w hSw; (try dsimp only at hSw); go_simp; try with_reducible rfl⟩
  · assumption
  try go_simp
  refine wpAnyH_ready (rs := [9]) (by kernel_rfl) (by simp) ?_
  refine AllReadyH.cons (o := ?_) ?_ ?_ AllReadyH.nil
  rotate_left 1
  · simp only [List.getElem?_toArray, List.getElem?_cons_succ, List.getElem?_cons_zero]; rfl
  intro K hK
  go_simp
  refine (HE0.out w1.drew (HS1.out.below (Below.refl _ _).drew).scl).mono ?_
  rintro e w2 ⟨rfl, b2⟩
  have HB2 := Lib.hid (nextB (b := w1.drew) (Below.refl w1.heap.size w1).drew b2)
  have HS2 := Lib.hid (HS1.out.below HB2.out)
  clear b2
  refine hK.out _ _ ?_ (fun hHeld => ?_)
  · exact HSS.out _ HB2.out
  clear hK K
  try go_simp
  refine wpAnyH_ready (rs := [22]) (by kernel_rfl) (by simp) ?_
  refine AllReadyH.cons (o := ?_) ?_ ?_ AllReadyH.nil
  rotate_left 1
  · simp only [List.getElem?_toArray, List.getElem?_cons_succ, List.getElem?_cons_zero]; rfl
  intro K hK
  go_simp
  refine (HE1.out w2 HS2.out.scl).mono ?_
  rintro e w3 ⟨rfl, b3⟩
  have HB3 := Lib.hid (nextB HB2.out b3)
  clear b3
  refine hK.out _ _ ?_ (fun hHeld => ?_)
  · exact HSS.out _ HB3.out
  clear hK K
  try go_simp
  refine wpAnyH_take (i := 23) (oi := ?_) (v := ?_) ?_ ?_ ?_ ?_ ?_ ?_ ?_ ?_
  rotate_left 2
  · simp only [List.getElem?_toArray, List.getElem?_cons_succ, List.getElem?_cons_zero]; rfl
  · kernel_rfl
  · kernel_rfl
  · kernel_rfl
  · exact fun _ _ _ h => h
  · exact Or.inl ⟨by kernel_rfl, by intro w hSw; (try dsimp only at hSw); go_simp; try with_reducible rfl⟩
  · assumption
  try go_simp
  refine wpAnyH_take (i := 24) (oi := ?_) (v := ?_) ?_ ?_ ?_ ?_ ?_ ?_ ?_ ?_
  rotate_left 2
  · simp only [List.getElem?_toArray, List.getElem?_cons_succ, List.getElem?_cons_zero]; rfl
  · kernel_rfl
  · kernel_rfl
  · kernel_rfl
  · exact fun _ _ _ h => h
  · exact Or.inl ⟨by kernel_rfl, by intro w hSw; (try dsimp only at hSw); go_simp; try with_reducible rfl⟩
  · assumption
  try go_simp
  refine wpAnyH_take (i := 25) (oi := ?_) (v := ?_) ?_ ?_ ?_ ?_ ?_ ?_ ?_ ?_
  rotate_left 2
  · simp only [List.getElem?_toArray, List.getElem?_cons_succ, List.getElem?_cons_zero]; rfl
  · kernel_rfl
  · kernel_rfl
  · kernel_rfl
  · exact fun _ _ _ h => h
  · exact Or.inl ⟨by kernel_rfl, by intro w hSw; (try dsimp only at hSw); go_simp; try with_reducible rfl⟩
  · assumption
  try go_simp
  refine wpAnyH_done (by kernel_rfl) ?_ _
  refine NoPanic.normal ?_
  go_wp2_with fail
  go_ret3
  exact ⟨rfl, nextB B1.out HB3.out⟩
end
end Go.Proofs.YtbfhiegbgkkgiaaGreat
/- The document's range of a key: walked. -/

namespace Go.Proofs.YtbfhiegbgkkgiaaGreat
open Go.RowKit
open Pl
open Sc
theorem OwnR.at3 {w : World} {base c : Nat} {A : Option Addr} {T : List Span} (h : OwnR w base A c T) {i : Nat} {s : Span} (hs : T[i]? = some s) : ∃ b, A = some ⟨b, 0, none⟩ ∧ b < w.heap.size ∧ w.cell? ⟨b, i * 3, none⟩ = some (.int .i64 (s.1 : Int)) ∧ w.cell? ⟨b, i * 3 + 1, none⟩ = some (.int .i64 (s.2.1 : Int)) ∧ w.cell? ⟨b, i * 3 + 2, none⟩ = some (.int .i64 (s.2.2 : Int)) := by
  have hi : 0 < T.length := by have := (List.getElem?_eq_some_iff.1 hs).1; omega
  obtain ⟨b, hA, hb, hl, _, hcl, _⟩ := Own.form (show Own w base 89 3 A T.length c (scs T) from h) hi
  obtain ⟨k1, k2, k3⟩ := scs_at hs
  exact ⟨b, hA, hl, hcl _ _ k1, hcl _ _ k2, hcl _ _ k3⟩
set_option maxRecDepth 100000 in
theorem rrange_zero (c : Nat) (A : Option Addr) (T : List Span) (w : World) : Calls Tryz.prog 48 #[.slice A T.length c, .int .i64 0] w fun e w' => e = .returned (.agg #[.int .i64 0, .int .i64 0, .int .i64 0]) ∧ Below w.heap.size w w' := by
  have HK := Lib.hid (Blk.new w 89 #[.int .i64 0, .int .i64 0, .int .i64 0])
  go_enter Tryz.func48, Tryz.ntmps48
  go_wp2_with fail
  refine bodyPost_ret (v := .agg #[.int .i64 0, .int .i64 0, .int .i64 0]) (results_cell_row Tryz.results48 _ _ w.heap.size 89 _ (0, 0) _ rfl HK.out Tryz.underlying89 (by rfl) (by kernel_rfl)) rfl ?_
  exact ⟨rfl, (Below.refl _ _).alloc (Nat.le_refl _) _⟩
set_option maxRecDepth 100000 in
theorem rrange_pos (base c : Nat) (A : Option Addr) (T : List Span) (i : Nat) (s : Span) (w : World) (h : OwnR w base A c T) (hs : T[i]? = some s) (hT : T.length ≤ 100000) (k : Int) (hk : k = (i : Int) + 1) : Calls Tryz.prog 48 #[.slice A T.length c, .int .i64 k] w fun e w' => e = .returned (.agg #[.int .i64 (s.1 : Int), .int .i64 (s.2.1 : Int), .int .i64 (s.2.2 : Int)]) ∧ Below w.heap.size w w' := by
  obtain ⟨b, rfl, hb, d0, d1, d2⟩ := h.at3 hs
  have hi : i < T.length := (List.getElem?_eq_some_iff.1 hs).1
  have hTl : (T.length : Int) ≤ 100000 := by omega
  have x1 : (k == 0) = false := by simp; omega
  have x2 : decide (0 < k) = true := by simp; omega
  have x4 : k - 1 = (i : Int) := by omega
  have x5 : (i : Int) < (T.length : Int) := by omega
  have x6 : 1 ≤ k := by omega
  have x7 : k ≤ 100000 := by omega
  have hne : ¬ b = w.heap.size := by omega
  obtain ⟨lo, md, hh⟩ := s
  dsimp only at *
  clear h hT hs hi hk
  generalize T.length = n at *
  go_enter Tryz.func48, Tryz.ntmps48
  go_wp2_with fail
  refine bodyPost_ret (v := .agg #[.int .i64 (lo : Int), .int .i64 (md : Int), .int .i64 (hh : Int)]) (results_cell_row Tryz.results48 _ _ w.heap.size 89 _ (0, 0) _ rfl (Blk.new w 89 #[.int .i64 (lo : Int), .int .i64 (md : Int), .int .i64 (hh : Int)]) Tryz.underlying89 (by rfl) (by kernel_rfl)) rfl ?_
  exact ⟨rfl, (Below.refl _ _).alloc (Nat.le_refl _) _⟩
set_option maxRecDepth 100000 in
theorem rrange_neg (base c : Nat) (A : Option Addr) (T : List Span) (i : Nat) (s : Span) (w : World) (h : OwnR w base A c T) (hs : T[i]? = some s) (hT : T.length ≤ 100000) (hs1 : s.1 ≤ 9223372036854775807) (hs2 : s.2.1 ≤ 9223372036854775807) (hs3 : s.2.2 ≤ 9223372036854775807) (k : Int) (hk : k = -((i : Int) + 1)) : Calls Tryz.prog 48 #[.slice A T.length c, .int .i64 k] w fun e w' => e = .returned (.agg #[.int .i64 (-(s.2.2 : Int)), .int .i64 (-(s.2.1 : Int)), .int .i64 (-(s.1 : Int))]) ∧ Below w.heap.size w w' := by
  obtain ⟨b, rfl, hb, d0, d1, d2⟩ := h.at3 hs
  have hi : i < T.length := (List.getElem?_eq_some_iff.1 hs).1
  have hTl : (T.length : Int) ≤ 100000 := by omega
  have x1 : (k == 0) = false := by simp; omega
  have x2 : decide (0 < k) = false := by simp; omega
  have x4a : -k = (i : Int) + 1 := by omega
  have x4 : (i : Int) + 1 - 1 = (i : Int) := by omega
  have x4b : -k - 1 = (i : Int) := by omega
  have x5 : (i : Int) < (T.length : Int) := by omega
  have x6 : k ≤ -1 := by omega
  have x7 : -100000 ≤ k := by omega
  have y1 : (s.1 : Int) ≤ 9223372036854775807 := by omega
  have y2 : (s.2.1 : Int) ≤ 9223372036854775807 := by omega
  have y3 : (s.2.2 : Int) ≤ 9223372036854775807 := by omega
  obtain ⟨lo, md, hh⟩ := s
  dsimp only at *
  clear h hT hs hi hk hs1 hs2 hs3
  generalize T.length = n at *
  go_enter Tryz.func48, Tryz.ntmps48
  go_wp2_with fail
  refine bodyPost_ret (v := .agg #[.int .i64 (-(hh : Int)), .int .i64 (-(md : Int)), .int .i64 (-(lo : Int))]) (results_cell_row Tryz.results48 _ _ w.heap.size 89 _ (0, 0) _ rfl ((Blk.new w 89 #[.int .i64 (-(hh : Int)), .int .i64 (-(md : Int)), .int .i64 (-(lo : Int))]).alloc _) Tryz.underlying89 (by rfl) (by kernel_rfl)) rfl ?_
  exact ⟨rfl, ((Below.refl _ _).alloc (Nat.le_refl _) _).alloc (by simp) _⟩
def rzV (r : Int × Int × Int) : Value := .agg #[.int .i64 r.1, .int .i64 r.2.1, .int .i64 r.2.2]
theorem rrange_t (base c a : Nat) (A : Option Addr) (k : Int) (w : World) (h : OwnR w base A c (spans a)) (ha0 : 100 ≤ a) (ha : a ≤ 5000) (hk : -((spans a).length : Int) ≤ k ∧ k ≤ ((spans a).length : Int)) :
    Calls Tryz.prog 48 #[.slice A (spans a).length c, .int .i64 k] w fun e w' => e = .returned (rzV (rangeZ (spans a) k)) ∧ Below w.heap.size w w' := by
  have hl := spans_len' a
  rcases Int.lt_trichotomy k 0 with h0 | h0 | h0
  · obtain ⟨s, hs⟩ : ∃ s, (spans a)[(-k).toNat - 1]? = some s := ⟨_, List.getElem?_eq_getElem (by omega)⟩
    have hf := spans_facts ha0 ha s (List.mem_of_getElem? hs)
    rw [show rangeZ (spans a) k = (-(s.2.2 : Int), -(s.2.1 : Int), -(s.1 : Int)) by unfold rangeZ; rw [if_neg (by omega), if_neg (by omega), hs]]
    exact rrange_neg base c A (spans a) ((-k).toNat - 1) s w h hs (by omega) (by omega) (by omega) (by omega) k (by omega)
  · subst h0
    exact rrange_zero c A (spans a) w
  · obtain ⟨s, hs⟩ : ∃ s, (spans a)[k.toNat - 1]? = some s := ⟨_, List.getElem?_eq_getElem (by omega)⟩
    rw [show rangeZ (spans a) k = ((s.1 : Int), (s.2.1 : Int), (s.2.2 : Int)) by unfold rangeZ; rw [if_neg (by omega), if_pos (by omega), hs]]
    exact rrange_pos base c A (spans a) (k.toNat - 1) s w h hs (by omega) k (by omega)
end Go.Proofs.YtbfhiegbgkkgiaaGreat
