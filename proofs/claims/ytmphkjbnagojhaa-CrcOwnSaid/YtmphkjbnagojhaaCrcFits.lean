/- CRC-32: the document's Fits, whose one statement leaves its order open. -/
import Derived.Test.YtmphkjbnagojhaaCrcWalks
import Derived.Deep.RegionHeld3
namespace Go.Proofs.Ytmphkjbnagojhaa
open Go.RowKit
open Cr (W32)

set_option maxHeartbeats 400000 in
theorem rfits_t (b o cp N : Nat) (m z : List UInt8) (w : World) (hN : N = m.length + 4) (hm : m.length ≤ 1000000) (hz : z.length = 4) (hcp : m.length + 4 ≤ cp) (hr : Bts w w.heap.size (some ⟨b, o, none⟩) (m ++ z)) :
    Calls Try.prog 18 #[.slice (some ⟨b, o, none⟩) N cp] w fun e w' => e = .returned (.bool (fitsB m z)) ∧ Below w.heap.size w w' := by
  obtain ⟨b', o', hA, hbl, hcell⟩ := hr.at_ (by simp; omega)
  injection hA with hA
  injection hA with e1 e2 _
  subst e1
  subst e2
  have hread : Bts w w.heap.size (some ⟨b, o, none⟩) m := ⟨by simp [bvs_length], fun _ => ⟨b, o, rfl, hbl, fun j u hu => by
    have hj : j < m.length := by have := (List.getElem?_eq_some_iff.1 hu).1; rwa [bvs_length] at this
    have e : (bvs m)[j]? = some (bv m[j]) := by simp [bvs, hj]
    rw [e] at hu
    injection hu with hu
    rw [hcell j (by simp; omega), ← hu]
    simp [bv, List.getElem_append_left hj]⟩⟩
  have hread2 : Reads w w.heap.size 1 (some ⟨b, o + m.length, none⟩) 4 (bvs z) := ⟨by simp [bvs_length, hz], fun _ => ⟨b, o + m.length, rfl, hbl, fun j u hu => by
    have hj : j < z.length := by have := (List.getElem?_eq_some_iff.1 hu).1; rwa [bvs_length] at this
    have e : (bvs z)[j]? = some (bv z[j]) := by simp [bvs, hj]
    rw [e] at hu
    injection hu with hu
    rw [Nat.add_assoc, hcell (m.length + j) (by simp; omega), ← hu]
    simp [bv, List.getElem_append_right]⟩⟩
  have hconv : ∀ W : World, Below w.heap.size w W → (convert 22 9 (.slice (some ⟨b, o + m.length, none⟩) 4 (cp - m.length))).run Try.prog W = .ok (.string (str z)) W := fun W hW =>
    run_str Try.underlying22 Try.underlying5 Try.underlying9 (hread2.below hW)
  have HR := Lib.hid hread
  have HL := Lib.hid (show m.length ≤ maxLen by unfold maxLen; omega)
  clear hr hcell hread hread2
  have hself : Below w.heap.size w w.drew := (Below.refl _ _).drew
  have hd : decide ((4 : Int) ≤ (N : Int)) = true := by simp; omega
  have hsub : (N : Int) - 4 = (m.length : Int) := by omega
  have hw : IntKind.i64.wrap (m.length : Int) = (m.length : Int) := IntWalk.i64_in _ (by omega)
  have g1 : (m.length : Int) ≤ (cp : Int) := by omega
  have g2 : (m.length : Int) ≤ (N : Int) := by omega
  have g3 : (N : Int) ≤ (cp : Int) := by omega
  have g4 : ¬ cp = m.length := by omega
  have g5 : N - m.length = 4 := by omega
  have g6 : m.length ≤ N := by omega
  have g7 : m.length ≤ cp := by omega
  have g8 : N ≤ cp := by omega
  clear hN
  go_enter Try.func18, Try.ntmps18
  go_wp2_with fail
  refine wp_region_noPanic ?_
  refine wp_region_held_drew (S := fun W' => Below w.heap.size w W') (by kernel_rfl) hself (fun hHeld => ?_)
  refine wpAnyH_take (i := 0) (oi := ?_) (v := ?_) ?_ ?_ ?_ ?_ ?_ ?_ ?_ ?_
  rotate_left 2
  · simp only [List.getElem?_toArray, List.getElem?_cons_zero]; rfl
  · kernel_rfl
  · kernel_rfl
  · kernel_rfl
  · exact fun _ _ _ h => h
  · exact Or.inl ⟨by kernel_rfl, by intro w hSw; (try dsimp only at hSw); go_simp; try with_reducible rfl⟩
  · assumption
  try go_simp
  refine wpAnyH_take (i := 1) (oi := ?_) (v := ?_) ?_ ?_ ?_ ?_ ?_ ?_ ?_ ?_
  rotate_left 2
  · simp only [List.getElem?_toArray, List.getElem?_cons_succ, List.getElem?_cons_zero]; rfl
  · kernel_rfl
  · kernel_rfl
  · kernel_rfl
  · exact fun _ _ _ h => h
  · exact Or.inl ⟨by kernel_rfl, by intro w hSw; (try dsimp only at hSw); go_simp; try with_reducible rfl⟩
  · assumption
  try go_simp
  refine wpAnyH_take (i := 2) (oi := ?_) (v := ?_) ?_ ?_ ?_ ?_ ?_ ?_ ?_ ?_
  rotate_left 2
  · simp only [List.getElem?_toArray, List.getElem?_cons_succ, List.getElem?_cons_zero]; rfl
  · kernel_rfl
  · kernel_rfl
  · kernel_rfl
  · exact fun _ _ _ h => h
  · exact Or.inl ⟨by kernel_rfl, by intro w hSw; (try dsimp only at hSw); go_simp; try with_reducible rfl⟩
  · assumption
  try go_simp
  refine wpAnyH_take (i := 3) (oi := ?_) (v := ?_) ?_ ?_ ?_ ?_ ?_ ?_ ?_ ?_
  rotate_left 2
  · simp only [List.getElem?_toArray, List.getElem?_cons_succ, List.getElem?_cons_zero]; rfl
  · kernel_rfl
  · kernel_rfl
  · kernel_rfl
  · exact fun _ _ _ h => h
  · exact Or.inl ⟨by kernel_rfl, by intro w hSw; (try dsimp only at hSw); go_simp; try with_reducible rfl⟩
  · assumption
  try go_simp
  refine wpAnyH_take (i := 4) (oi := ?_) (v := ?_) ?_ ?_ ?_ ?_ ?_ ?_ ?_ ?_
  rotate_left 2
  · simp only [List.getElem?_toArray, List.getElem?_cons_succ, List.getElem?_cons_zero]; rfl
  · kernel_rfl
  · kernel_rfl
  · kernel_rfl
  · exact fun _ _ _ h => h
  · exact Or.inl ⟨by kernel_rfl, by intro w hSw; (try dsimp only at hSw); go_simp; try with_reducible rfl⟩
  · assumption
  try go_simp
  refine wpAnyH_take (i := 5) (oi := ?_) (v := ?_) ?_ ?_ ?_ ?_ ?_ ?_ ?_ ?_
  rotate_left 2
  · simp only [List.getElem?_toArray, List.getElem?_cons_succ, List.getElem?_cons_zero]; rfl
  · kernel_rfl
  · kernel_rfl
  · kernel_rfl
  · exact fun _ _ _ h => h
  · exact Or.inl ⟨by kernel_rfl, by intro w hSw; (try dsimp only at hSw); go_simp; try with_reducible rfl⟩
  · assumption
  try go_simp
  refine wpAnyH_take (i := 6) (oi := ?_) (v := ?_) ?_ ?_ ?_ ?_ ?_ ?_ ?_ ?_
  rotate_left 2
  · simp only [List.getElem?_toArray, List.getElem?_cons_succ, List.getElem?_cons_zero]; rfl
  · kernel_rfl
  · kernel_rfl
  · kernel_rfl
  · exact fun _ _ _ h => h
  · exact Or.inl ⟨by kernel_rfl, by intro w hSw; (try dsimp only at hSw); go_simp; try with_reducible rfl⟩
  · assumption
  try go_simp
  refine wpAnyH_take (i := 7) (oi := ?_) (v := ?_) ?_ ?_ ?_ ?_ ?_ ?_ ?_ ?_
  rotate_left 2
  · simp only [List.getElem?_toArray, List.getElem?_cons_succ, List.getElem?_cons_zero]; rfl
  · kernel_rfl
  · kernel_rfl
  · kernel_rfl
  · exact fun _ _ _ h => h
  · exact Or.inl ⟨by kernel_rfl, by intro w hSw; (try dsimp only at hSw); go_simp; try with_reducible rfl⟩
  · assumption
  try go_simp
  refine wpAnyH_take (i := 8) (oi := ?_) (v := ?_) ?_ ?_ ?_ ?_ ?_ ?_ ?_ ?_
  rotate_left 2
  · simp only [List.getElem?_toArray, List.getElem?_cons_succ, List.getElem?_cons_zero]; rfl
  · kernel_rfl
  · kernel_rfl
  · kernel_rfl
  · exact fun _ _ _ h => h
  · exact Or.inl ⟨by kernel_rfl, by intro w hSw; (try dsimp only at hSw); go_simp; try with_reducible rfl⟩
  · assumption
  try go_simp
  refine wpAnyH_take (i := 12) (oi := ?_) (v := ?_) ?_ ?_ ?_ ?_ ?_ ?_ ?_ ?_
  rotate_left 2
  · simp only [List.getElem?_toArray, List.getElem?_cons_succ, List.getElem?_cons_zero]; rfl
  · kernel_rfl
  · kernel_rfl
  · kernel_rfl
  · exact fun _ _ _ h => h
  · exact Or.inl ⟨by kernel_rfl, by intro w hSw; (try dsimp only at hSw); go_simp; try with_reducible rfl⟩
  · assumption
  try go_simp
  refine wpAnyH_take (i := 13) (oi := ?_) (v := ?_) ?_ ?_ ?_ ?_ ?_ ?_ ?_ ?_
  rotate_left 2
  · simp only [List.getElem?_toArray, List.getElem?_cons_succ, List.getElem?_cons_zero]; rfl
  · kernel_rfl
  · kernel_rfl
  · kernel_rfl
  · exact fun _ _ _ h => h
  · exact Or.inl ⟨by kernel_rfl, by intro w hSw; (try dsimp only at hSw); go_simp; try with_reducible rfl⟩
  · assumption
  try go_simp
  refine wpAnyH_take (i := 14) (oi := ?_) (v := ?_) ?_ ?_ ?_ ?_ ?_ ?_ ?_ ?_
  rotate_left 2
  · simp only [List.getElem?_toArray, List.getElem?_cons_succ, List.getElem?_cons_zero]; rfl
  · kernel_rfl
  · kernel_rfl
  · kernel_rfl
  · exact fun _ _ _ h => h
  · exact Or.inl ⟨by kernel_rfl, by intro w hSw; (try dsimp only at hSw); go_simp; try with_reducible rfl⟩
  · assumption
  try go_simp
  refine wpAnyH_take (i := 15) (oi := ?_) (v := ?_) ?_ ?_ ?_ ?_ ?_ ?_ ?_ ?_
  rotate_left 2
  · simp only [List.getElem?_toArray, List.getElem?_cons_succ, List.getElem?_cons_zero]; rfl
  · kernel_rfl
  · kernel_rfl
  · kernel_rfl
  · exact fun _ _ _ h => h
  · exact Or.inl ⟨by kernel_rfl, by intro w hSw; (try dsimp only at hSw); go_simp; try with_reducible rfl⟩
  · assumption
  try go_simp
  refine wpAnyH_take (i := 16) (oi := ?_) (v := ?_) ?_ ?_ ?_ ?_ ?_ ?_ ?_ ?_
  rotate_left 2
  · simp only [List.getElem?_toArray, List.getElem?_cons_succ, List.getElem?_cons_zero]; rfl
  · kernel_rfl
  · kernel_rfl
  · kernel_rfl
  · exact fun _ _ _ h => h
  · exact Or.inl ⟨by kernel_rfl, by intro w hSw; (try dsimp only at hSw); go_simp; try with_reducible rfl⟩
  · assumption
  try go_simp
  refine wpAnyH_take (i := 17) (oi := ?_) (v := ?_) ?_ ?_ ?_ ?_ ?_ ?_ ?_ ?_
  rotate_left 2
  · simp only [List.getElem?_toArray, List.getElem?_cons_succ, List.getElem?_cons_zero]; rfl
  · kernel_rfl
  · kernel_rfl
  · kernel_rfl
  · exact fun _ _ _ h => h
  · exact Or.inl ⟨by kernel_rfl, by intro w hSw; (try dsimp only at hSw); go_simp; try with_reducible rfl⟩
  · assumption
  try go_simp
  refine wpAnyH_ready (rs := [9]) (by kernel_rfl) (by simp) ?_
  refine AllReadyH.cons (o := ?_) ?_ ?_ AllReadyH.nil
  rotate_left 1
  · simp only [List.getElem?_toArray, List.getElem?_cons_succ, List.getElem?_cons_zero]; rfl
  intro K hK
  go_simp
  (with_reducible refine (rsum_t _ _ m _ HL.out ?_).mono ?_)
  · exact HR.out.at_below hself
  rintro e w1 ⟨rfl, rfl⟩
  refine hK.out _ _ ?_ (fun hHeld => ?_)
  · first | exact hself | assumption | exact nextB ‹_› ‹_›
  clear hK K
  try go_simp
  refine wpAnyH_ready (rs := [10]) (by kernel_rfl) (by simp) ?_
  refine AllReadyH.cons (o := ?_) ?_ ?_ AllReadyH.nil
  rotate_left 1
  · simp only [List.getElem?_toArray, List.getElem?_cons_succ, List.getElem?_cons_zero]; rfl
  intro K hK
  go_simp
  (with_reducible refine (rbytes_t _ _).mono ?_)
  rintro e w2 ⟨A2, c2, rfl, o2, b2⟩
  have hconv2 := run_str (dst := 9) (c := c2) Try.underlying22 Try.underlying5 Try.underlying9 o2.reads
  refine hK.out _ _ ?_ (fun hHeld => ?_)
  · first | exact hself | assumption | exact nextB ‹_› ‹_›
  clear hK K
  try go_simp
  refine wpAnyH_ready (rs := [11]) (by kernel_rfl) (by simp) ?_
  refine AllReadyH.cons (o := ?_) ?_ ?_ AllReadyH.nil
  rotate_left 1
  · simp only [List.getElem?_toArray, List.getElem?_cons_succ, List.getElem?_cons_zero]; rfl
  intro K hK
  go_simp
  refine hK.out _ _ ?_ (fun hHeld => ?_)
  · first | exact hself | assumption | exact nextB ‹_› ‹_›
  clear hK K
  try go_simp
  refine wpAnyH_take (i := 18) (oi := ?_) (v := ?_) ?_ ?_ ?_ ?_ ?_ ?_ ?_ ?_
  rotate_left 2
  · simp only [List.getElem?_toArray, List.getElem?_cons_succ, List.getElem?_cons_zero]; rfl
  · kernel_rfl
  · kernel_rfl
  · kernel_rfl
  · exact fun _ _ _ h => h
  · exact Or.inl ⟨by kernel_rfl, by intro w hSw; (try dsimp only at hSw); go_simp; try with_reducible rfl⟩
  · assumption
  try go_simp
  refine wpAnyH_take (i := 19) (oi := ?_) (v := ?_) ?_ ?_ ?_ ?_ ?_ ?_ ?_ ?_
  rotate_left 2
  · simp only [List.getElem?_toArray, List.getElem?_cons_succ, List.getElem?_cons_zero]; rfl
  · kernel_rfl
  · kernel_rfl
  · kernel_rfl
  · exact fun _ _ _ h => h
  · exact Or.inl ⟨by kernel_rfl, by intro w hSw; (try dsimp only at hSw); go_simp; try with_reducible rfl⟩
  · assumption
  try go_simp
  refine wpAnyH_take (i := 20) (oi := ?_) (v := ?_) ?_ ?_ ?_ ?_ ?_ ?_ ?_ ?_
  rotate_left 2
  · simp only [List.getElem?_toArray, List.getElem?_cons_succ, List.getElem?_cons_zero]; rfl
  · kernel_rfl
  · kernel_rfl
  · kernel_rfl
  · exact fun _ _ _ h => h
  · exact Or.inl ⟨by kernel_rfl, by intro w hSw; (try dsimp only at hSw); go_simp; try with_reducible rfl⟩
  · assumption
  try go_simp
  refine wpAnyH_done (by kernel_rfl) ?_ _
  refine NoPanic.normal ?_
  have hres : ((str (Cr.le (Cr.sum m))).toList == (str z).toList) = fitsB m z := by
    rw [str_eq, fitsB, Bool.eq_iff_iff]
    simp only [beq_iff_eq, decide_eq_true_eq]
    exact eq_comm
  have HRES := Lib.hid hres
  clear hres
  go_wp2_with fail
  go_ret
  exact ⟨by rw [← HRES.out]; rfl, hHeld⟩

/-- Does a text fit. -/
def fitsL (l : List UInt8) : Bool := if l.length < 4 then false else fitsB (l.take (l.length - 4)) (l.drop (l.length - 4))
theorem fitsL_seal (l : List UInt8) : fitsL (l ++ Cr.le (Cr.sum l)) = true := by
  have h : (l ++ Cr.le (Cr.sum l)).length - 4 = l.length := by simp [Cr.le]
  unfold fitsL
  rw [if_neg (by simp [Cr.le]), h]
  simp [fitsB]
theorem four (z : List UInt8) (h : z.length = 4) : ∃ a b c d, z = [a, b, c, d] := by
  match z, h with
  | [a, b, c, d], _ => exact ⟨a, b, c, d, rfl⟩
theorem fits_any (g : Nat) (A : Option Addr) (n cp : Nat) (l : List UInt8) (w : World) (hn : n = l.length) (hm : l.length ≤ 1000000) (hcp : l.length ≤ cp) (hb : Blk w g 42 tab) (hr : Reads w w.heap.size 1 A n (bvs l)) :
    Calls Try.prog 17 #[.pointer (some ⟨g, 0, none⟩), .slice A n cp] w fun e w' => e = .returned (.bool (fitsL l)) ∧ w = w' := by
  subst hn
  by_cases h : l.length < 4
  · have e : fitsL l = false := by unfold fitsL; rw [if_pos h]
    rw [e]
    exact fits_short g A _ cp w h
  · have e : fitsL l = fitsB (l.take (l.length - 4)) (l.drop (l.length - 4)) := by unfold fitsL; rw [if_neg h]
    obtain ⟨x0, x1, x2, x3, hz⟩ := four (l.drop (l.length - 4)) (by simp; omega)
    obtain ⟨b, o, rfl, _, _⟩ := Bts.at_ hr (by omega)
    have hlen : (l.take (l.length - 4)).length + 4 = l.length := by simp; omega
    have hl : l.take (l.length - 4) ++ [x0, x1, x2, x3] = l := by rw [← hz]; exact List.take_append_drop _ _
    have := fits_t g b o cp (l.take (l.length - 4)) x0 x1 x2 x3 w (by omega) (by omega) hb (by rw [hl]; exact hr)
    rw [hlen] at this
    rw [e, hz]
    exact this

set_option maxHeartbeats 400000 in
theorem rfits_short (A : Option Addr) (n cp : Nat) (w : World) (hn : n < 4) :
    Calls Try.prog 18 #[.slice A n cp] w fun e w' => e = .returned (.bool false) ∧ Below w.heap.size w w' := by
  have hd : decide ((4 : Int) ≤ (n : Int)) = false := by simp; omega
  have hself : Below w.heap.size w w.drew := (Below.refl _ _).drew
  go_enter Try.func18, Try.ntmps18
  go_wp2_with fail
  refine wp_region_noPanic ?_
  refine wp_region_held_drew (S := fun W' => Below w.heap.size w W') (by kernel_rfl) hself (fun hHeld => ?_)
  refine wpAnyH_take (i := 0) (oi := ?_) (v := ?_) ?_ ?_ ?_ ?_ ?_ ?_ ?_ ?_
  rotate_left 2
  · simp only [List.getElem?_toArray, List.getElem?_cons_zero]; rfl
  · kernel_rfl
  · kernel_rfl
  · kernel_rfl
  · exact fun _ _ _ h => h
  · exact Or.inl ⟨by kernel_rfl, by intro w hSw; (try dsimp only at hSw); go_simp; try with_reducible rfl⟩
  · assumption
  try go_simp
  refine wpAnyH_take (i := 1) (oi := ?_) (v := ?_) ?_ ?_ ?_ ?_ ?_ ?_ ?_ ?_
  rotate_left 2
  · simp only [List.getElem?_toArray, List.getElem?_cons_succ, List.getElem?_cons_zero]; rfl
  · kernel_rfl
  · kernel_rfl
  · kernel_rfl
  · exact fun _ _ _ h => h
  · exact Or.inl ⟨by kernel_rfl, by intro w hSw; (try dsimp only at hSw); go_simp; try with_reducible rfl⟩
  · assumption
  try go_simp
  refine wpAnyH_take (i := 2) (oi := ?_) (v := ?_) ?_ ?_ ?_ ?_ ?_ ?_ ?_ ?_
  rotate_left 2
  · simp only [List.getElem?_toArray, List.getElem?_cons_succ, List.getElem?_cons_zero]; rfl
  · kernel_rfl
  · kernel_rfl
  · kernel_rfl
  · exact fun _ _ _ h => h
  · exact Or.inl ⟨by kernel_rfl, by intro w hSw; (try dsimp only at hSw); go_simp; try with_reducible rfl⟩
  · assumption
  try go_simp
  refine wpAnyH_take (i := 3) (oi := ?_) (v := ?_) ?_ ?_ ?_ ?_ ?_ ?_ ?_ ?_
  rotate_left 2
  · simp only [List.getElem?_toArray, List.getElem?_cons_succ, List.getElem?_cons_zero]; rfl
  · kernel_rfl
  · kernel_rfl
  · kernel_rfl
  · exact fun _ _ _ h => h
  · exact Or.inl ⟨by kernel_rfl, by intro w hSw; (try dsimp only at hSw); go_simp; try with_reducible rfl⟩
  · assumption
  try go_simp
  refine wpAnyH_take (i := 4) (oi := ?_) (v := undef) ?_ ?_ ?_ ?_ ?_ ?_ ?_ ?_
  rotate_left 1
  · simp only [List.getElem?_toArray, List.getElem?_cons_succ, List.getElem?_cons_zero]; rfl
  · kernel_rfl
  · kernel_rfl
  · kernel_rfl
  · exact fun _ _ _ h => h
  · exact Or.inr ⟨by kernel_rfl, rfl⟩
  · assumption
  try go_simp
  refine wpAnyH_take (i := 5) (oi := ?_) (v := undef) ?_ ?_ ?_ ?_ ?_ ?_ ?_ ?_
  rotate_left 1
  · simp only [List.getElem?_toArray, List.getElem?_cons_succ, List.getElem?_cons_zero]; rfl
  · kernel_rfl
  · kernel_rfl
  · kernel_rfl
  · exact fun _ _ _ h => h
  · exact Or.inr ⟨by kernel_rfl, rfl⟩
  · assumption
  try go_simp
  refine wpAnyH_take (i := 6) (oi := ?_) (v := undef) ?_ ?_ ?_ ?_ ?_ ?_ ?_ ?_
  rotate_left 1
  · simp only [List.getElem?_toArray, List.getElem?_cons_succ, List.getElem?_cons_zero]; rfl
  · kernel_rfl
  · kernel_rfl
  · kernel_rfl
  · exact fun _ _ _ h => h
  · exact Or.inr ⟨by kernel_rfl, rfl⟩
  · assumption
  try go_simp
  refine wpAnyH_take (i := 7) (oi := ?_) (v := undef) ?_ ?_ ?_ ?_ ?_ ?_ ?_ ?_
  rotate_left 1
  · simp only [List.getElem?_toArray, List.getElem?_cons_succ, List.getElem?_cons_zero]; rfl
  · kernel_rfl
  · kernel_rfl
  · kernel_rfl
  · exact fun _ _ _ h => h
  · exact Or.inr ⟨by kernel_rfl, rfl⟩
  · assumption
  try go_simp
  refine wpAnyH_take (i := 8) (oi := ?_) (v := undef) ?_ ?_ ?_ ?_ ?_ ?_ ?_ ?_
  rotate_left 1
  · simp only [List.getElem?_toArray, List.getElem?_cons_succ, List.getElem?_cons_zero]; rfl
  · kernel_rfl
  · kernel_rfl
  · kernel_rfl
  · exact fun _ _ _ h => h
  · exact Or.inr ⟨by kernel_rfl, rfl⟩
  · assumption
  try go_simp
  refine wpAnyH_take (i := 9) (oi := ?_) (v := undef) ?_ ?_ ?_ ?_ ?_ ?_ ?_ ?_
  rotate_left 1
  · simp only [List.getElem?_toArray, List.getElem?_cons_succ, List.getElem?_cons_zero]; rfl
  · kernel_rfl
  · kernel_rfl
  · kernel_rfl
  · exact fun _ _ _ h => h
  · exact Or.inr ⟨by kernel_rfl, rfl⟩
  · assumption
  try go_simp
  refine wpAnyH_take (i := 10) (oi := ?_) (v := undef) ?_ ?_ ?_ ?_ ?_ ?_ ?_ ?_
  rotate_left 1
  · simp only [List.getElem?_toArray, List.getElem?_cons_succ, List.getElem?_cons_zero]; rfl
  · kernel_rfl
  · kernel_rfl
  · kernel_rfl
  · exact fun _ _ _ h => h
  · exact Or.inr ⟨by kernel_rfl, rfl⟩
  · assumption
  try go_simp
  refine wpAnyH_take (i := 11) (oi := ?_) (v := undef) ?_ ?_ ?_ ?_ ?_ ?_ ?_ ?_
  rotate_left 1
  · simp only [List.getElem?_toArray, List.getElem?_cons_succ, List.getElem?_cons_zero]; rfl
  · kernel_rfl
  · kernel_rfl
  · kernel_rfl
  · exact fun _ _ _ h => h
  · exact Or.inr ⟨by kernel_rfl, rfl⟩
  · assumption
  try go_simp
  refine wpAnyH_take (i := 12) (oi := ?_) (v := undef) ?_ ?_ ?_ ?_ ?_ ?_ ?_ ?_
  rotate_left 1
  · simp only [List.getElem?_toArray, List.getElem?_cons_succ, List.getElem?_cons_zero]; rfl
  · kernel_rfl
  · kernel_rfl
  · kernel_rfl
  · exact fun _ _ _ h => h
  · exact Or.inr ⟨by kernel_rfl, rfl⟩
  · assumption
  try go_simp
  refine wpAnyH_take (i := 13) (oi := ?_) (v := undef) ?_ ?_ ?_ ?_ ?_ ?_ ?_ ?_
  rotate_left 1
  · simp only [List.getElem?_toArray, List.getElem?_cons_succ, List.getElem?_cons_zero]; rfl
  · kernel_rfl
  · kernel_rfl
  · kernel_rfl
  · exact fun _ _ _ h => h
  · exact Or.inr ⟨by kernel_rfl, rfl⟩
  · assumption
  try go_simp
  refine wpAnyH_take (i := 14) (oi := ?_) (v := undef) ?_ ?_ ?_ ?_ ?_ ?_ ?_ ?_
  rotate_left 1
  · simp only [List.getElem?_toArray, List.getElem?_cons_succ, List.getElem?_cons_zero]; rfl
  · kernel_rfl
  · kernel_rfl
  · kernel_rfl
  · exact fun _ _ _ h => h
  · exact Or.inr ⟨by kernel_rfl, rfl⟩
  · assumption
  try go_simp
  refine wpAnyH_take (i := 15) (oi := ?_) (v := undef) ?_ ?_ ?_ ?_ ?_ ?_ ?_ ?_
  rotate_left 1
  · simp only [List.getElem?_toArray, List.getElem?_cons_succ, List.getElem?_cons_zero]; rfl
  · kernel_rfl
  · kernel_rfl
  · kernel_rfl
  · exact fun _ _ _ h => h
  · exact Or.inr ⟨by kernel_rfl, rfl⟩
  · assumption
  try go_simp
  refine wpAnyH_take (i := 16) (oi := ?_) (v := undef) ?_ ?_ ?_ ?_ ?_ ?_ ?_ ?_
  rotate_left 1
  · simp only [List.getElem?_toArray, List.getElem?_cons_succ, List.getElem?_cons_zero]; rfl
  · kernel_rfl
  · kernel_rfl
  · kernel_rfl
  · exact fun _ _ _ h => h
  · exact Or.inr ⟨by kernel_rfl, rfl⟩
  · assumption
  try go_simp
  refine wpAnyH_take (i := 17) (oi := ?_) (v := undef) ?_ ?_ ?_ ?_ ?_ ?_ ?_ ?_
  rotate_left 1
  · simp only [List.getElem?_toArray, List.getElem?_cons_succ, List.getElem?_cons_zero]; rfl
  · kernel_rfl
  · kernel_rfl
  · kernel_rfl
  · exact fun _ _ _ h => h
  · exact Or.inr ⟨by kernel_rfl, rfl⟩
  · assumption
  try go_simp
  refine wpAnyH_take (i := 18) (oi := ?_) (v := undef) ?_ ?_ ?_ ?_ ?_ ?_ ?_ ?_
  rotate_left 1
  · simp only [List.getElem?_toArray, List.getElem?_cons_succ, List.getElem?_cons_zero]; rfl
  · kernel_rfl
  · kernel_rfl
  · kernel_rfl
  · exact fun _ _ _ h => h
  · exact Or.inr ⟨by kernel_rfl, rfl⟩
  · assumption
  try go_simp
  refine wpAnyH_take (i := 19) (oi := ?_) (v := ?_) ?_ ?_ ?_ ?_ ?_ ?_ ?_ ?_
  rotate_left 2
  · simp only [List.getElem?_toArray, List.getElem?_cons_succ, List.getElem?_cons_zero]; rfl
  · kernel_rfl
  · kernel_rfl
  · kernel_rfl
  · exact fun _ _ _ h => h
  · exact Or.inl ⟨by kernel_rfl, by intro w hSw; (try dsimp only at hSw); go_simp; try with_reducible rfl⟩
  · assumption
  try go_simp
  refine wpAnyH_take (i := 20) (oi := ?_) (v := ?_) ?_ ?_ ?_ ?_ ?_ ?_ ?_ ?_
  rotate_left 2
  · simp only [List.getElem?_toArray, List.getElem?_cons_succ, List.getElem?_cons_zero]; rfl
  · kernel_rfl
  · kernel_rfl
  · kernel_rfl
  · exact fun _ _ _ h => h
  · exact Or.inl ⟨by kernel_rfl, by intro w hSw; (try dsimp only at hSw); go_simp; try with_reducible rfl⟩
  · assumption
  try go_simp
  refine wpAnyH_done (by kernel_rfl) ?_ _
  refine NoPanic.normal ?_
  go_wp2_with fail
  go_ret
  exact ⟨rfl, hHeld⟩

theorem rfits_any (A : Option Addr) (cp : Nat) (l : List UInt8) (w : World) (hm : l.length ≤ 1000000) (hcp : l.length ≤ cp) (hr : Bts w w.heap.size A l) :
    Calls Try.prog 18 #[.slice A l.length cp] w fun e w' => e = .returned (.bool (fitsL l)) ∧ Below w.heap.size w w' := by
  by_cases h : l.length < 4
  · have e : fitsL l = false := by unfold fitsL; rw [if_pos h]
    rw [e]
    exact rfits_short A _ cp w h
  · have e : fitsL l = fitsB (l.take (l.length - 4)) (l.drop (l.length - 4)) := by unfold fitsL; rw [if_neg h]
    obtain ⟨b, o, rfl, _, _⟩ := Bts.at_ hr (by omega)
    rw [e]
    exact rfits_t b o cp l.length (l.take (l.length - 4)) (l.drop (l.length - 4)) w (by simp; omega) (by simp; omega) (by simp; omega) (by simp; omega) (by rw [List.take_append_drop]; exact hr)
end Go.Proofs.Ytmphkjbnagojhaa
