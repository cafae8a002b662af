/- Sparse: Add walked. -/
import Derived.Test.YtbfhiegbgkkgiaaGreatC04
namespace Go.Proofs.YtbfhiegbgkkgiaaGreat
open Go.RowKit
open Pl
def LK (g : Nat) (A : Option Addr) (i : Nat) : Prop := i = g ∨ blockOf A = some i
/-- Block g is the same list, that has counted L now. -/
def Counted (g : Nat) (A : Option Addr) (L : List Pr) (w w' : World) : Prop := ∃ A' c', Lst w' g A' c' L ∧ Only (LK g A) w w' ∧ (blockOf A' = blockOf A ∨ ∃ i, blockOf A' = some i ∧ w.heap.size ≤ i)
theorem Counted.refl {w : World} {g : Nat} {A : Option Addr} {c : Nat} {L : List Pr} (h : Lst w g A c L) : Counted g A L w w := ⟨A, c, h, Only.refl _ _, .inl rfl⟩
theorem Counted.of_below {w w' : World} {g : Nat} {A : Option Addr} {c : Nat} {L : List Pr} (h : Lst w g A c L) (hb : Below w.heap.size w w') : Counted g A L w w' := ⟨A, c, h.below hb, Only.of_below hb, .inl rfl⟩
theorem Counted.then {g : Nat} {A : Option Addr} {L : List Pr} {w w' w'' : World} {A' : Option Addr} (ho : Only (LK g A) w w') (hl : blockOf A' = blockOf A ∨ ∃ i, blockOf A' = some i ∧ w.heap.size ≤ i) (h : Counted g A' L w' w'') : Counted g A L w w'' := by
  obtain ⟨A2, c2, h1, h2, h3⟩ := h
  refine ⟨A2, c2, h1, ho.step h2 (fun i hi => ?_), ?_⟩
  · rcases hi with rfl | hi
    · exact .inl (.inl rfl)
    · rcases hl with hl | ⟨j, hj, hw⟩
      · exact .inl (.inr (hl ▸ hi))
      · rw [hj] at hi
        injection hi with hi
        exact .inr (by omega)
  · rcases h3 with h3 | ⟨j, hj, hw⟩
    · rcases hl with hl | ⟨j, hj, hw⟩
      · exact .inl (h3.trans hl)
      · exact .inr ⟨j, h3.trans hj, hw⟩
    · exact .inr ⟨j, hj, Nat.le_trans ho.size hw⟩
theorem pcs_setN {l : List Pr} {i : Nat} {p : Pr} (h : l[i]? = some p) (m : Nat) : (pcs l).set (i * 2 + 1) (.int .u64 (m : Nat)) = pcs (l.set i (p.1, m)) := by
  induction l generalizing i with
  | nil => simp at h
  | cons q l ih =>
    cases i with
    | zero =>
      simp at h
      subst h
      simp [pcs]
    | succ i =>
      have := ih (i := i) (by simpa using h)
      rw [show (i + 1) * 2 = i * 2 + 2 by omega]
      simpa [pcs] using this
theorem radd0 (L : List Pr) (k : Int) (n : Nat) : radd L k n 0 = if n = 0 then (L, 4) else if k < -1048576 ∨ 1048576 < k then (L, 5) else if 4611686018427387904 - tot L < n then (L, 6) else (put L k n, 0) := by
  unfold radd
  rw [if_neg (show ¬ (0 < 0 ∧ ((0 : Nat) : Int) < wideL L k) from fun h => absurd h.1 (by decide))]
/-- The count of the pair at a place, and the total, stored. -/
theorem count_end {w W : World} {g g' c t N : Nat} {A : Option Addr} {L1 : List Pr} {i n : Nat} {p : Pr} (hb : Blk W g 138 #[.slice (some ⟨g', 0, none⟩) N c, .int .u64 (t : Nat)]) (ho : OwnP W g (some ⟨g', 0, none⟩) c L1) (hN : N = L1.length)
    (hp : L1[i]? = some p) (hne : g' ≠ g) (ht : t + n = tot (L1.set i (p.1, p.2 + n))) (hon : Only (LK g A) w W) (hl : blockOf A = some g' ∨ w.heap.size ≤ g') :
    Counted g A (L1.set i (p.1, p.2 + n)) w ((W.setCell ⟨g', i * 2 + 1, none⟩ (.int .u64 ((p.2 + n : Nat) : Int))).setCell ⟨g, 1, none⟩ (.int .u64 ((t + n : Nat) : Int))) := by
  subst hN
  have h1 := hb.far (p := ⟨g', i * 2 + 1, none⟩) (fun e => hne e.symm) (.int .u64 ((p.2 + n : Nat) : Int))
  have h2 := h1.put 1 (.int .u64 ((t + n : Nat) : Int))
  have o1 := Own.stored (show Own W g 64 2 (some ⟨g', 0, none⟩) L1.length c (pcs L1) from ho) (i * 2 + 1) (.int .u64 ((p.2 + n : Nat) : Int))
  rw [pcs_setN hp] at o1
  have o2 := Own.setOther o1 (p := ⟨g, 1, none⟩) (by simpa [blockOf] using hne) (.int .u64 ((t + n : Nat) : Int))
  refine ⟨some ⟨g', 0, none⟩, c, ⟨?_, ?_⟩, (hon.set (p := ⟨g', i * 2 + 1, none⟩) (hl.imp (fun h => .inr h) id) _).set (p := ⟨g, 1, none⟩) (.inl (.inl rfl)) _, ?_⟩
  · rw [List.length_set, ← ht]
    simpa using h2
  · unfold OwnP
    rw [List.length_set]
    exact o2
  · rcases hl with hl | hl
    · exact .inl hl.symm
    · exact .inr ⟨g', rfl, hl⟩
set_option maxRecDepth 100000 in
theorem add_zero (g : Nat) (A : Option Addr) (c : Nat) (L : List Pr) (k : Int) (w : World) (h : Lst w g A c L) :
    Calls Tryz.prog 77 #[.pointer (some ⟨g, 0, none⟩), .int .i64 k, .int .u64 0] w fun e w' => e = .returned (.int .i64 4) ∧ Counted g A L w w' := by
  have H := Lib.hid h
  clear h
  go_enter Tryz.func77, Tryz.ntmps77
  go_wp2_with fail
  go_ret
  exact ⟨rfl, Counted.refl H.out⟩
set_option maxRecDepth 100000 in
theorem add_range (g : Nat) (A : Option Addr) (c : Nat) (L : List Pr) (k : Int) (n : Nat) (w : World) (h : Lst w g A c L) (hn : n ≠ 0) (hk : k < -1048576 ∨ 1048576 < k) :
    Calls Tryz.prog 77 #[.pointer (some ⟨g, 0, none⟩), .int .i64 k, .int .u64 (n : Int)] w fun e w' => e = .returned (.int .i64 5) ∧ Counted g A L w w' := by
  have H := Lib.hid h
  have e1 : ((n : Int) == 0) = false := by simp; omega
  have hc : decide (k < -1048576) = true ∨ decide (k < -1048576) = false ∧ decide (1048576 < k) = true := by
    by_cases h1 : k < -1048576
    · exact .inl (by simp; omega)
    · exact .inr ⟨by simp; omega, by simp; omega⟩
  clear h hn hk
  rcases hc with e2 | ⟨e2, e3⟩
  all_goals
    go_enter Tryz.func77, Tryz.ntmps77
    go_wp2_with fail
    go_ret
    exact ⟨rfl, Counted.refl H.out⟩
set_option maxRecDepth 100000 in
theorem add_cap (g : Nat) (A : Option Addr) (c : Nat) (L : List Pr) (k : Int) (n : Nat) (w : World) (h : Lst w g A c L) (ht : tot L ≤ 4611686018427387904) (hn : n ≠ 0) (h0 : -1048576 ≤ k) (h1 : k ≤ 1048576) (hc : 4611686018427387904 - tot L < n) :
    Calls Tryz.prog 77 #[.pointer (some ⟨g, 0, none⟩), .int .i64 k, .int .u64 (n : Int)] w fun e w' => e = .returned (.int .i64 6) ∧ Counted g A L w w' := by
  have H := Lib.hid h
  have e1 : ((n : Int) == 0) = false := by simp; omega
  have e2 : decide (k < -1048576) = false := by simp; omega
  have e3 : decide (1048576 < k) = false := by simp; omega
  have c1 : w.cell? ⟨g, 1, none⟩ = some (.int .u64 (tot L : Nat)) := by rw [h.1.cell]; rfl
  have e4 : decide (4611686018427387904 - ((tot L : Nat) : Int) < (n : Int)) = true := by simp; omega
  have ht2 : ((tot L : Nat) : Int) ≤ 4611686018427387904 := by omega
  clear h hn hc h0 h1
  go_enter Tryz.func77, Tryz.ntmps77
  go_wp2_with fail
  go_ret
  exact ⟨rfl, Counted.refl H.out⟩
set_option maxRecDepth 100000 in
set_option maxHeartbeats 3200000 in
theorem add_found (g : Nat) (A : Option Addr) (c : Nat) (L : List Pr) (k : Int) (n : Nat) (w : World) (h : Lst w g A c L) (hf : Fine L) (hn : n ≠ 0) (h0 : -1048576 ≤ k) (h1 : k ≤ 1048576) (hc : ¬ 4611686018427387904 - tot L < n) (hk : hasK L k = true) :
    Calls Tryz.prog 77 #[.pointer (some ⟨g, 0, none⟩), .int .i64 k, .int .u64 (n : Int)] w fun e w' => e = .returned (.int .i64 0) ∧ Counted g A (put L k n) w w' := by
  have e1 : ((n : Int) == 0) = false := by simp; omega
  have e2 : decide (k < -1048576) = false := by simp; omega
  have e3 : decide (1048576 < k) = false := by simp; omega
  have ht := hf.tot
  have c1 : w.cell? ⟨g, 1, none⟩ = some (.int .u64 (tot L : Nat)) := by rw [h.1.cell]; rfl
  have e4 : decide (4611686018427387904 - ((tot L : Nat) : Int) < (n : Int)) = false := by simp; omega
  have ht2 : ((tot L : Nat) : Int) ≤ 4611686018427387904 := by omega
  have hnt : ((tot L : Nat) : Int) + (n : Int) ≤ 4611686018427387904 := by omega
  obtain ⟨m, hm, hput⟩ := put_set hf.srt (n := n) hk
  have hml := tot_le_of_mem (List.mem_of_getElem? hm)
  have hptot : tot (put L k n) = tot L + n := put_tot
  dsimp only at hml
  have hmn : (m : Int) + (n : Int) ≤ 4611686018427387904 := by omega
  have HPL := Lib.hid (place_t g A c L k w h hf (by omega) (by omega))
  rw [hk] at HPL
  have hlen := hf.len
  generalize lo L k = i at *
  have hil : i < L.length := (List.getElem?_eq_some_iff.1 hm).1
  have hi0 : (0 : Int) ≤ (i : Int) := by omega
  have hii : (i : Int) < (L.length : Int) := by omega
  have hll : (L.length : Int) ≤ 100000 := by omega
  have H := Lib.hid h
  have HM := Lib.hid hm
  have HPUT := Lib.hid hput
  have HPT := Lib.hid hptot
  clear h hf hn h0 h1 hc hk hm hput hml hptot hlen ht c1
  go_enter Tryz.func77, Tryz.ntmps77
  have c1 : w.cell? ⟨g, 1, none⟩ = some (.int .u64 (tot L : Nat)) := by rw [H.out.1.cell]; rfl
  go_wp2_with fail
  refine HPL.out.mono ?_
  rintro e w1 ⟨rfl, hb1⟩
  have hL1 := H.out.below hb1
  clear c1
  have c0 : w1.cell? ⟨g, 0, none⟩ = some (.slice A L.length c) := by rw [hL1.1.cell]; rfl
  have c1 : w1.cell? ⟨g, 1, none⟩ = some (.int .u64 (tot L : Nat)) := by rw [hL1.1.cell]; rfl
  have fr := hL1.1.free
  obtain ⟨g', hA, hgg, hgl, hlc, hcl, hfr⟩ := Own.form (show Own w1 g 64 2 A L.length c (pcs L) from hL1.2) (by omega)
  subst hA
  have d1 : w1.cell? ⟨g', i * 2 + 1, none⟩ = some (.int .u64 (m : Int)) := hcl _ _ (pcs_key HM.out).2
  have fr2 := hfr (i * 2 + 1)
  have hne : ¬ g' = g := fun e => Own.ne_blk (show Own w1 g 64 2 (some ⟨g', 0, none⟩) L.length c (pcs L) from hL1.2) hL1.1 (by decide) (by rw [e]; rfl)
  have hne2 : ¬ g = g' := fun e => hne e.symm
  have HE := Lib.hid (count_end (w := w) (A := some ⟨g', 0, none⟩) (n := n) (t := tot L) hL1.1 hL1.2 rfl HM.out hne (by rw [← HPUT.out, HPT.out]) (Only.of_below hb1) (.inl rfl))
  clear hL1 hb1 hcl hfr hgg hgl hlc
  go_wp2_with fail
  go_ret
  refine ⟨rfl, ?_⟩
  rw [HPUT.out]
  exact HE.out
set_option maxRecDepth 100000 in
set_option maxHeartbeats 3200000 in
theorem add_new (g : Nat) (A : Option Addr) (c : Nat) (L : List Pr) (k : Int) (n : Nat) (w : World) (h : Lst w g A c L) (hf : Fine L) (hn : n ≠ 0) (h0 : -1048576 ≤ k) (h1 : k ≤ 1048576) (hc : ¬ 4611686018427387904 - tot L < n) (hk : hasK L k = false) :
    Calls Tryz.prog 77 #[.pointer (some ⟨g, 0, none⟩), .int .i64 k, .int .u64 (n : Int)] w fun e w' => e = .returned (.int .i64 0) ∧ Counted g A (put L k n) w w' := by
  have e1 : ((n : Int) == 0) = false := by simp; omega
  have e2 : decide (k < -1048576) = false := by simp; omega
  have e3 : decide (1048576 < k) = false := by simp; omega
  have ht := hf.tot
  have e4 : decide (4611686018427387904 - ((tot L : Nat) : Int) < (n : Int)) = false := by simp; omega
  have ht2 : ((tot L : Nat) : Int) ≤ 4611686018427387904 := by omega
  have hnt : ((tot L : Nat) : Int) + (n : Int) ≤ 4611686018427387904 := by omega
  have hput := put_ins hf.srt (n := n) hk
  have hptot : tot (put L k n) = tot L + n := put_tot
  have hile := lo_le L k
  have HPL := Lib.hid (place_t g A c L k w h hf (by omega) (by omega))
  rw [hk] at HPL
  have hlen := hf.len
  generalize lo L k = i at *
  obtain ⟨L1, hL1⟩ : ∃ L1, L1 = L.take i ++ (k, 0) :: L.drop i := ⟨_, rfl⟩
  have hl1 : L1.length = L.length + 1 := by rw [hL1]; simp only [List.length_append, List.length_take, List.length_cons, List.length_drop]; omega
  have hg1 : L1[i]? = some (k, 0) := by rw [hL1, List.getElem?_append_right (by rw [List.length_take]; omega), List.length_take, Nat.min_eq_left hile, Nat.sub_self]; rfl
  have hs1 : L1.set i (k, n) = put L k n := by
    rw [hL1, hput, List.set_append_right _ _ (by rw [List.length_take]; omega), List.length_take, Nat.min_eq_left hile, Nat.sub_self]
    rfl
  have hi0 : (0 : Int) ≤ (i : Int) := by omega
  have hii : (i : Int) ≤ (L.length : Int) := by omega
  have hii2 : (i : Int) < (L1.length : Int) := by omega
  have hll : (L.length : Int) ≤ 100000 := by omega
  have hll1 : (L1.length : Int) ≤ 100001 := by omega
  have H := Lib.hid h
  have HG1 := Lib.hid hg1
  have HL1 := Lib.hid hL1
  have HS1 := Lib.hid hs1
  have HPT := Lib.hid hptot
  have HI := Lib.hid hile
  have HLN := Lib.hid hlen
  have HLN1 := Lib.hid hl1
  clear h hf hn h0 h1 hc hk hput hptot hlen ht hL1 hg1 hs1 hile hl1
  go_enter Tryz.func77, Tryz.ntmps77
  have c1 : w.cell? ⟨g, 1, none⟩ = some (.int .u64 (tot L : Nat)) := by rw [H.out.1.cell]; rfl
  go_wp2_with fail
  refine HPL.out.mono ?_
  rintro e w1 ⟨rfl, hb1⟩
  have hLw := H.out.below hb1
  clear c1
  have c0 : w1.cell? ⟨g, 0, none⟩ = some (.slice A L.length c) := by rw [hLw.1.cell]; rfl
  have HB1 := Lib.hid hb1
  have HLW := Lib.hid hLw
  have hgl1 : g < w1.heap.size := hLw.1.lt
  clear hb1 hLw
  go_wp2_with fail
  have hOw := Own.alloc (show Own w1 g 64 2 A L.length c (pcs L) from HLW.out.2) (.cells #[.int .i64 k, .int .u64 0] 64)
  have hne0 : blockOf A ≠ some w1.heap.size := fun e => by have := (Own.block (show Own w1 g 64 2 A L.length c (pcs L) from HLW.out.2) e).2; omega
  refine (insert_t g A c w1.heap.size L k 0 i _ hOw (by have := HLN.out; omega) HI.out (by simp; omega) (Blk.new w1 _ _) hne0).mono ?_
  rintro e w3 ⟨A3, c3, rfl, o3, g3, q3⟩
  rw [← HL1.out] at o3 ⊢
  have hb3 : Blk w3 g 138 #[.slice A L.length c, .int .u64 (tot L : Nat)] := (HLW.out.1.alloc _).grown g3 (fun e => Own.ne_blk hOw (HLW.out.1.alloc _) (by decide) e.symm)
  have hon3 : Only (LK g A) w w3 := ((Only.of_below HB1.out).alloc (.cells #[.int .i64 k, .int .u64 0] 64)).step (Only.of_grown g3) (fun i hi => .inl (.inr hi))
  obtain ⟨g', hA, hgg, hgl, hlc, hcl, hfr⟩ := Own.form (show Own w3 g 64 2 A3 L1.length c3 (pcs L1) from o3) (by have := HLN1.out; omega)
  subst hA
  have hne : ¬ g' = g := fun e => Own.ne_blk (show Own w3 g 64 2 (some ⟨g', 0, none⟩) L1.length c3 (pcs L1) from o3) hb3 (by decide) (by rw [e]; rfl)
  have hne2 : ¬ g = g' := fun e => hne e.symm
  have d0 : w3.cell? ⟨g, 0, none⟩ = some (.slice A L.length c) := by rw [hb3.cell]; rfl
  have d1 : w3.cell? ⟨g, 1, none⟩ = some (.int .u64 (tot L : Nat)) := by rw [hb3.cell]; rfl
  have fr := hb3.free
  have d2 : w3.cell? ⟨g', i * 2 + 1, none⟩ = some (.int .u64 0) := hcl _ _ (pcs_key HG1.out).2
  have fr2 := hfr (i * 2 + 1)
  have hq : blockOf A = some g' ∨ w.heap.size ≤ g' := by
    rcases q3 with q3 | ⟨j, hj, hw⟩
    · exact .inl q3.symm
    · have hj2 : g' = j := by simpa [blockOf] using hj
      have := HB1.out.size
      simp at hw
      exact .inr (by omega)
  have hb4 := hb3.put 0 (.slice (some ⟨g', 0, none⟩) L1.length c3)
  have ho4 := Own.setOther (show Own w3 g 64 2 (some ⟨g', 0, none⟩) L1.length c3 (pcs L1) from o3) (p := ⟨g, 0, none⟩) (by simpa [blockOf] using hne) (.slice (some ⟨g', 0, none⟩) L1.length c3)
  have hon4 := hon3.set (p := ⟨g, 0, none⟩) (.inl (.inl rfl)) (.slice (some ⟨g', 0, none⟩) L1.length c3)
  have hce := count_end (w := w) (A := A) (n := n) (t := tot L) (by simpa using hb4) ho4 rfl HG1.out hne (by rw [Nat.zero_add, HS1.out, HPT.out]) hon4 hq
  dsimp only at hce
  rw [Nat.zero_add, HS1.out] at hce
  have HE := Lib.hid hce
  clear hOw hne0 o3 g3 q3 hb3 hon3 hgg hgl hlc hcl hfr hq hb4 ho4 hon4 hce c0
  go_wp2_with fail
  go_ret
  exact ⟨rfl, HE.out⟩
set_option maxRecDepth 100000 in
theorem add_t (g : Nat) (A : Option Addr) (c : Nat) (L : List Pr) (k : Int) (n : Nat) (w : World) (h : Lst w g A c L) (hf : Fine L) :
    Calls Tryz.prog 77 #[.pointer (some ⟨g, 0, none⟩), .int .i64 k, .int .u64 (n : Int)] w fun e w' => e = .returned (.int .i64 (radd L k n 0).2) ∧ Counted g A (radd L k n 0).1 w w' := by
  rw [radd0]
  by_cases hn : n = 0
  · rw [if_pos hn]
    subst hn
    exact add_zero g A c L k w h
  · rw [if_neg hn]
    by_cases hk : k < -1048576 ∨ 1048576 < k
    · rw [if_pos hk]; exact add_range g A c L k n w h hn hk
    · rw [if_neg hk]
      by_cases hc : 4611686018427387904 - tot L < n
      · rw [if_pos hc]; exact add_cap g A c L k n w h hf.tot hn (by omega) (by omega) hc
      · rw [if_neg hc]
        cases hh : hasK L k with
        | true => exact add_found g A c L k n w h hf hn (by omega) (by omega) hc hh
        | false => exact add_new g A c L k n w h hf hn (by omega) (by omega) hc hh
end Go.Proofs.YtbfhiegbgkkgiaaGreat
/- Sparse: what a list tells; Cut; walked. -/

namespace Go.Proofs.YtbfhiegbgkkgiaaGreat
open Go.RowKit
open Pl
set_option maxRecDepth 100000 in
theorem clonep_t (A : Option Addr) (c : Nat) (L : List Pr) (w : World) (hb : Prs w w.heap.size A L) (hl : L.length ≤ 1000000) :
    Calls Tryz.prog 91 #[.slice A L.length c] w (NewPairs L w) := by
  rcases A with _ | a
  · have hl0 : L = [] := by
      rcases Nat.eq_zero_or_pos L.length with h0 | h0
      · exact List.length_eq_zero_iff.1 h0
      · obtain ⟨b, o, e, _⟩ := hb.at_ h0
        cases e
    subst hl0
    have hk : ∀ W : World, (binOp .eql 37 (.slice none 0 c) (.slice none 0 0)).run Tryz.prog W = .ok (.bool true) W := fun W => Lib.run_eql_slice_nil W 37 64 none 0 c 0 0 Tryz.underlying37
    simp only [List.length_nil]
    clear hb
    go_enter Tryz.func91, Tryz.ntmps91
    go_wp2_with fail
    go_ret
    exact ⟨none, 0, rfl, Own.nil _ _ _ _, Below.refl _ _⟩
  · have hk : ∀ W : World, (binOp .eql 37 (.slice (some a) L.length c) (.slice none 0 0)).run Tryz.prog W = .ok (.bool false) W := fun W => Lib.run_eql_slice_nil W 37 64 (some a) L.length c 0 0 Tryz.underlying37
    have HB := Lib.hid hb
    clear hb
    go_enter Tryz.func91, Tryz.ntmps91
    go_wp2_with (at_builtin; refine Hid.out ?_)
    have hO1 : Own (w.alloc (.cells #[] 64)) w.heap.size 64 2 (some ⟨w.heap.size, 0, none⟩) 0 0 [] := Own.made w _ _ _ #[] 0 (Nat.le_refl _) (Nat.zero_le _) rfl
    have hW1 : Below w.heap.size w (w.alloc (.cells #[] 64)) := (Below.refl _ _).alloc (Nat.le_refl _) _
    have hS1 := HB.out.at_below hW1
    refine wpList_app (xs := []) rfl rfl elem_pair rfl hO1 rfl hS1 (pcs_one _) L.length (Nat.zero_add _) (pcs L) rfl (by unfold maxLen; omega) (by omega) hW1.size ?_
    intro A2 c2 w2 o2 g2 q2
    have HO2 : Hid (OwnP w2 w.heap.size A2 c2 L) := Lib.hid o2
    have HW2 := Lib.hid (appB hW1 hO1 g2 (Nat.le_refl _) hW1.size)
    clear hO1 hW1 hS1 o2 g2 q2
    go_wp2_with fail
    go_ret
    exact ⟨A2, c2, rfl, HO2.out, HW2.out⟩
set_option maxRecDepth 100000 in
theorem pairs_t (g : Nat) (A : Option Addr) (c : Nat) (L : List Pr) (w : World) (h : Lst w g A c L) (hf : Fine L) :
    Calls Tryz.prog 65 #[.pointer (some ⟨g, 0, none⟩)] w (NewPairs L w) := by
  have c0 : w.cell? ⟨g, 0, none⟩ = some (.slice A L.length c) := by rw [h.1.cell]; rfl
  have HC := Lib.hid (clonep_t A c L w (OwnP.reads h.2) (by have := hf.len; omega))
  clear h hf
  go_enter Tryz.func65, Tryz.ntmps65
  go_wp2_with fail
  refine HC.out.mono ?_
  rintro e w1 ⟨A1, c1, rfl, h1, h2⟩
  have H1 := Lib.hid h1
  have H2 := Lib.hid h2
  clear h1 h2
  go_wp2_with fail
  go_ret
  exact ⟨A1, c1, rfl, H1.out, H2.out⟩
set_option maxRecDepth 100000 in
theorem total_t (g : Nat) (A : Option Addr) (c : Nat) (L : List Pr) (w : World) (h : Lst w g A c L) :
    Calls Tryz.prog 78 #[.pointer (some ⟨g, 0, none⟩)] w fun e w' => e = .returned (.int .u64 (tot L : Nat)) ∧ w = w' := by
  have c1 : w.cell? ⟨g, 1, none⟩ = some (.int .u64 (tot L : Nat)) := by rw [h.1.cell]; rfl
  clear h
  go_enter Tryz.func78, Tryz.ntmps78
  go_wp2_with fail
  go_ret
  exact ⟨rfl, rfl⟩
end Go.Proofs.YtbfhiegbgkkgiaaGreat
/- Sparse: Len, Below, Upto, Cut walked. -/

namespace Go.Proofs.YtbfhiegbgkkgiaaGreat
open Go.RowKit
open Pl
end Go.Proofs.YtbfhiegbgkkgiaaGreat
/- Sparse: Cut walked. -/

namespace Go.Proofs.YtbfhiegbgkkgiaaGreat
open Go.RowKit
open Pl
set_option maxRecDepth 100000 in
theorem clonep_tn (A : Option Addr) (c n : Nat) (L : List Pr) (w : World) (hb : Prs w w.heap.size A L) (hl : L.length ≤ 1000000) (hn : L.length = n) :
    Calls Tryz.prog 91 #[.slice A n c] w (NewPairs L w) := by
  subst hn
  exact clonep_t A c L w hb hl
theorem pcs_drop (L : List Pr) (i : Nat) : pcs (L.drop i) = (pcs L).drop (i * 2) := by
  induction i generalizing L with
  | zero => simp
  | succ i ih =>
    cases L with
    | nil => simp [pcs]
    | cons p L => rw [List.drop_succ_cons, ih, show (i + 1) * 2 = i * 2 + 2 by omega]; rfl
theorem prs_drop {w : World} {B g : Nat} {L : List Pr} {i : Nat} (h : Prs w B (some ⟨g, 0, none⟩) L) (hi : i ≤ L.length) : Prs w B (some ⟨g, i * 2, none⟩) (L.drop i) := by
  refine ⟨pcs_length _, fun hn => ?_⟩
  rw [List.length_drop] at hn
  obtain ⟨b, o, e, hb, hc⟩ := h.2 (by omega)
  injection e with e
  injection e with e1 e2 _
  subst e1
  subst e2
  refine ⟨g, i * 2, rfl, hb, fun j u hj => ?_⟩
  rw [pcs_drop, List.getElem?_drop] at hj
  have := hc _ u hj
  rwa [Nat.zero_add] at this
theorem lst_set0 {w W : World} {g g' base c t N S : Nat} {A : Option Addr} {D : List Pr} {p : Pr} (hb : Blk W g 138 #[.slice (some ⟨g', 0, none⟩) N c, .int .u64 (t : Nat)]) (ho : OwnP W base (some ⟨g', 0, none⟩) c D) (hbase : g ≤ base) (hN : N = D.length)
    (hp : D[0]? = some p) (hne : g' ≠ g) (ht : t = tot (D.set 0 (p.1, p.2 + S))) (hon : Only (LK g A) w W) (hl : w.heap.size ≤ g') :
    Counted g A (D.set 0 (p.1, p.2 + S)) w (W.setCell ⟨g', 1, none⟩ (.int .u64 ((p.2 + S : Nat) : Int))) := by
  subst hN
  have h1 := hb.far (p := ⟨g', 1, none⟩) (fun e => hne e.symm) (.int .u64 ((p.2 + S : Nat) : Int))
  have o1 := Own.stored (show Own W base 64 2 (some ⟨g', 0, none⟩) D.length c (pcs D) from ho) 1 (.int .u64 ((p.2 + S : Nat) : Int))
  have e := pcs_setN hp (p.2 + S)
  rw [show 0 * 2 + 1 = 1 from rfl] at e
  rw [e] at o1
  refine ⟨some ⟨g', 0, none⟩, c, ⟨?_, ?_⟩, hon.set (p := ⟨g', 1, none⟩) (.inr hl) _, .inr ⟨g', rfl, hl⟩⟩
  · rw [List.length_set, ← ht]
    exact h1
  · unfold OwnP
    rw [List.length_set]
    exact o1.mono hbase
theorem cutI_set {L : List Pr} {i : Nat} {p : Pr} (h : (L.drop i)[0]? = some p) : cutI L i = (L.drop i).set 0 (p.1, p.2 + tot (L.take i)) := by
  unfold cutI
  cases hd : L.drop i with
  | nil => rw [hd] at h; simp at h
  | cons q R =>
    rw [hd] at h
    simp at h
    subst h
    rfl
set_option maxRecDepth 100000 in
theorem cut_noA (g : Nat) (A : Option Addr) (c : Nat) (L : List Pr) (m : Int) (w : World) (h : Lst w g A c L) (hf : Fine L) (hm : m < 1) (_hhi : m ≤ 9223372036854775807) (hl : (L.length : Int) ≤ 1) :
    Calls Tryz.prog 99 #[.pointer (some ⟨g, 0, none⟩), .int .i64 m] w fun e w' => e = .returned (.int .u64 0) ∧ Counted g A L w w' := by
  have c0 : w.cell? ⟨g, 0, none⟩ = some (.slice A L.length c) := by rw [h.1.cell]; rfl
  have hll : (L.length : Int) ≤ 100000 := by have := hf.len; omega
  have hmax : max m 1 = 1 := by omega
  obtain ⟨d, hd⟩ : ∃ d, (L.length : Int) - 1 = d := ⟨_, rfl⟩
  have hd0 : d ≤ 0 := by omega
  have hlo : -9223372036854775808 ≤ m ∨ m < -9223372036854775808 := by omega
  have H := Lib.hid h
  have hk1 : ¬ 1 < m := by omega
  clear h hf hl hlo
  go_enter Tryz.func99, Tryz.ntmps99
  go_wp2_with fail
  go_ret
  exact ⟨rfl, Counted.refl H.out⟩
set_option maxRecDepth 100000 in
theorem cut_noB (g : Nat) (A : Option Addr) (c : Nat) (L : List Pr) (m : Int) (w : World) (h : Lst w g A c L) (hf : Fine L) (hm : 1 < m) (_hhi : m ≤ 9223372036854775807) (hl : (L.length : Int) ≤ m) :
    Calls Tryz.prog 99 #[.pointer (some ⟨g, 0, none⟩), .int .i64 m] w fun e w' => e = .returned (.int .u64 0) ∧ Counted g A L w w' := by
  have c0 : w.cell? ⟨g, 0, none⟩ = some (.slice A L.length c) := by rw [h.1.cell]; rfl
  have hll : (L.length : Int) ≤ 100000 := by have := hf.len; omega
  have hmax : max m 1 = m := by omega
  obtain ⟨d, hd⟩ : ∃ d, (L.length : Int) - m = d := ⟨_, rfl⟩
  have hd0 : d ≤ 0 := by omega
  have hlo : -9223372036854775808 ≤ m ∨ m < -9223372036854775808 := by omega
  have H := Lib.hid h
  have hk1 : ¬ m ≤ 1 := by omega
  clear h hf hl hlo
  go_enter Tryz.func99, Tryz.ntmps99
  go_wp2_with fail
  go_ret
  exact ⟨rfl, Counted.refl H.out⟩
set_option maxRecDepth 100000 in
theorem cut_noC (g : Nat) (A : Option Addr) (c : Nat) (L : List Pr) (m : Int) (w : World) (h : Lst w g A c L) (hf : Fine L) (hm : m = 1) (_hhi : m ≤ 9223372036854775807) (hl : (L.length : Int) ≤ 1) :
    Calls Tryz.prog 99 #[.pointer (some ⟨g, 0, none⟩), .int .i64 m] w fun e w' => e = .returned (.int .u64 0) ∧ Counted g A L w w' := by
  have c0 : w.cell? ⟨g, 0, none⟩ = some (.slice A L.length c) := by rw [h.1.cell]; rfl
  have hll : (L.length : Int) ≤ 100000 := by have := hf.len; omega
  obtain ⟨d, hd⟩ : ∃ d, (L.length : Int) - 1 = d := ⟨_, rfl⟩
  have hd0 : d ≤ 0 := by omega
  have hlo : -9223372036854775808 ≤ m ∨ m < -9223372036854775808 := by omega
  have H := Lib.hid h
  subst hm
  clear h hf hl hlo
  go_enter Tryz.func99, Tryz.ntmps99
  go_wp2_with fail
  go_ret
  exact ⟨rfl, Counted.refl H.out⟩
set_option maxRecDepth 100000 in
set_option maxHeartbeats 3200000 in
theorem cut_yesA (g : Nat) (A : Option Addr) (c : Nat) (L : List Pr) (m : Int) (i : Nat) (w : World) (h : Lst w g A c L) (hf : Fine L) (hm : m < 1) (hi : (L.length : Int) - 1 = (i : Int)) (hi0 : 0 < i) (hil : i < L.length) :
    Calls Tryz.prog 99 #[.pointer (some ⟨g, 0, none⟩), .int .i64 m] w fun e w' => e = .returned (.int .u64 (tot (L.take i) : Nat)) ∧ Counted g A (cutI L i) w w' := by
  have c0 : w.cell? ⟨g, 0, none⟩ = some (.slice A L.length c) := by rw [h.1.cell]; rfl
  have hll : (L.length : Int) ≤ 100000 := by have := hf.len; omega
  have hmax : max m 1 = 1 := by omega
  have hip : (0 : Int) < (i : Int) := by omega
  have hii : (i : Int) < (L.length : Int) := by omega
  have HSU := Lib.hid (sum_t g A c L i w h hf (Nat.le_of_lt hil))
  obtain ⟨p, hp⟩ : ∃ p, (L.drop i)[0]? = some p := ⟨_, List.getElem?_eq_getElem (by rw [List.length_drop]; omega)⟩
  have hcs := cutI_set hp
  have hct := cutI_tot hil
  have hpt : p.2 + tot (L.take i) ≤ tot L := by
    have h1 := tot_take_next (L := L) (i := i) (p := p) (by rw [List.getElem?_drop] at hp; exact hp)
    have h2 := tot_take_le' L (i + 1)
    omega
  have htot := hf.tot
  have hdl : (L.drop i).length = L.length - i := List.length_drop
  obtain ⟨g', hA, hgg, hgl, hlc, hcl, hfr⟩ := Own.form (show Own w g 64 2 A L.length c (pcs L) from h.2) (by omega)
  subst hA
  have hic : (i : Int) ≤ (c : Int) := by omega
  have hnc : ¬ c = i := by omega
  have hsum : (p.2 : Int) + ((tot (L.take i) : Nat) : Int) ≤ 4611686018427387904 := by omega
  have hlen := hf.len
  have H := Lib.hid h
  have HCL := Lib.hid (fun W (hW : Lst W g (some ⟨g', 0, none⟩) c L) c2 => clonep_tn (some ⟨g', i * 2, none⟩) c2 (L.length - i) (L.drop i) W (prs_drop (OwnP.reads hW.2) (Nat.le_of_lt hil)) (by omega) hdl)
  have HCS := Lib.hid hcs
  have HCT := Lib.hid hct
  have HP := Lib.hid hp
  have HDL := Lib.hid hdl
  have hdp : 0 < L.length - i := by omega
  have hk1 : ¬ 1 < m := by omega
  clear h hf hgg hgl hlc hcl hfr hi0 hil hcs hct hp hdl hpt htot hlen
  obtain ⟨S, hS⟩ : ∃ S, S = tot (L.take i) := ⟨_, rfl⟩
  rw [← hS] at HSU HCS hsum ⊢
  clear hS
  go_enter Tryz.func99, Tryz.ntmps99
  go_wp2_with fail
  refine HSU.out.mono ?_
  rintro e w1 ⟨rfl, hb1⟩
  have hL1 := H.out.below hb1
  clear c0
  have c0 : w1.cell? ⟨g, 0, none⟩ = some (.slice (some ⟨g', 0, none⟩) L.length c) := by rw [hL1.1.cell]; rfl
  have HL1 := Lib.hid hL1
  have HB1 := Lib.hid hb1
  clear hL1 hb1
  go_wp2_with fail
  refine (HCL.out w1 HL1.out _).mono ?_
  rintro e w2 ⟨A3, c3, rfl, h3, hb2⟩
  rw [HDL.out]
  obtain ⟨g3, hA3, hg3, hgl3, hlc3, hcl3, hfr3⟩ := Own.form (show Own w2 w1.heap.size 64 2 A3 (L.drop i).length c3 (pcs (L.drop i)) from h3) (by rw [HDL.out]; exact hdp)
  subst hA3
  have hL2 := HL1.out.below hb2
  have hgw := HL1.out.1.lt
  have hne : ¬ g3 = g := by omega
  have hne2 : ¬ g = g3 := by omega
  clear c0
  have c0 : w2.cell? ⟨g, 0, none⟩ = some (.slice (some ⟨g', 0, none⟩) L.length c) := by rw [hL2.1.cell]; rfl
  have fr := hL2.1.free
  have d1 : w2.cell? ⟨g3, 1, none⟩ = some (.int .u64 (p.2 : Nat)) := hcl3 _ _ (pcs_key HP.out).2
  have fr2 := hfr3 1
  have hbB := HB1.out.trans (hb2.mono HB1.out.size)
  have hb4 := hL2.1.put 0 (.slice (some ⟨g3, 0, none⟩) (L.length - i) c3)
  have ho4 := Own.setOther (show Own w2 w1.heap.size 64 2 (some ⟨g3, 0, none⟩) (L.drop i).length c3 (pcs (L.drop i)) from h3) (p := ⟨g, 0, none⟩) (by simpa [blockOf] using hne) (.slice (some ⟨g3, 0, none⟩) (L.length - i) c3)
  have hon4 := (Only.of_below (K := LK g (some ⟨g', 0, none⟩)) hbB).set (p := ⟨g, 0, none⟩) (.inl (.inl rfl)) (.slice (some ⟨g3, 0, none⟩) (L.length - i) c3)
  have hce := lst_set0 (w := w) (A := some ⟨g', 0, none⟩) (S := S) (t := tot L) (by simpa using hb4) ho4 (Nat.le_of_lt hgw) HDL.out.symm HP.out hne (by rw [← HCS.out, HCT.out]) hon4 (Nat.le_trans HB1.out.size hg3)
  rw [← HCS.out] at hce
  have HE := Lib.hid hce
  clear h3 hb2 hL2 hgw hg3 hgl3 hlc3 hcl3 hfr3 hbB hb4 ho4 hon4 hce
  go_wp2_with fail
  go_ret
  exact ⟨rfl, HE.out⟩
set_option maxRecDepth 100000 in
set_option maxHeartbeats 3200000 in
theorem cut_yesB (g : Nat) (A : Option Addr) (c : Nat) (L : List Pr) (m : Int) (i : Nat) (w : World) (h : Lst w g A c L) (hf : Fine L) (hm : 1 < m) (hi : (L.length : Int) - m = (i : Int)) (hi0 : 0 < i) (hil : i < L.length) :
    Calls Tryz.prog 99 #[.pointer (some ⟨g, 0, none⟩), .int .i64 m] w fun e w' => e = .returned (.int .u64 (tot (L.take i) : Nat)) ∧ Counted g A (cutI L i) w w' := by
  have c0 : w.cell? ⟨g, 0, none⟩ = some (.slice A L.length c) := by rw [h.1.cell]; rfl
  have hll : (L.length : Int) ≤ 100000 := by have := hf.len; omega
  have hmax : max m 1 = m := by omega
  have hip : (0 : Int) < (i : Int) := by omega
  have hii : (i : Int) < (L.length : Int) := by omega
  have HSU := Lib.hid (sum_t g A c L i w h hf (Nat.le_of_lt hil))
  obtain ⟨p, hp⟩ : ∃ p, (L.drop i)[0]? = some p := ⟨_, List.getElem?_eq_getElem (by rw [List.length_drop]; omega)⟩
  have hcs := cutI_set hp
  have hct := cutI_tot hil
  have hpt : p.2 + tot (L.take i) ≤ tot L := by
    have h1 := tot_take_next (L := L) (i := i) (p := p) (by rw [List.getElem?_drop] at hp; exact hp)
    have h2 := tot_take_le' L (i + 1)
    omega
  have htot := hf.tot
  have hdl : (L.drop i).length = L.length - i := List.length_drop
  obtain ⟨g', hA, hgg, hgl, hlc, hcl, hfr⟩ := Own.form (show Own w g 64 2 A L.length c (pcs L) from h.2) (by omega)
  subst hA
  have hic : (i : Int) ≤ (c : Int) := by omega
  have hnc : ¬ c = i := by omega
  have hsum : (p.2 : Int) + ((tot (L.take i) : Nat) : Int) ≤ 4611686018427387904 := by omega
  have hlen := hf.len
  have H := Lib.hid h
  have HCL := Lib.hid (fun W (hW : Lst W g (some ⟨g', 0, none⟩) c L) c2 => clonep_tn (some ⟨g', i * 2, none⟩) c2 (L.length - i) (L.drop i) W (prs_drop (OwnP.reads hW.2) (Nat.le_of_lt hil)) (by omega) hdl)
  have HCS := Lib.hid hcs
  have HCT := Lib.hid hct
  have HP := Lib.hid hp
  have HDL := Lib.hid hdl
  have hdp : 0 < L.length - i := by omega
  have hk1 : ¬ m ≤ 1 := by omega
  clear h hf hgg hgl hlc hcl hfr hi0 hil hcs hct hp hdl hpt htot hlen
  obtain ⟨S, hS⟩ : ∃ S, S = tot (L.take i) := ⟨_, rfl⟩
  rw [← hS] at HSU HCS hsum ⊢
  clear hS
  go_enter Tryz.func99, Tryz.ntmps99
  go_wp2_with fail
  refine HSU.out.mono ?_
  rintro e w1 ⟨rfl, hb1⟩
  have hL1 := H.out.below hb1
  clear c0
  have c0 : w1.cell? ⟨g, 0, none⟩ = some (.slice (some ⟨g', 0, none⟩) L.length c) := by rw [hL1.1.cell]; rfl
  have HL1 := Lib.hid hL1
  have HB1 := Lib.hid hb1
  clear hL1 hb1
  go_wp2_with fail
  refine (HCL.out w1 HL1.out _).mono ?_
  rintro e w2 ⟨A3, c3, rfl, h3, hb2⟩
  rw [HDL.out]
  obtain ⟨g3, hA3, hg3, hgl3, hlc3, hcl3, hfr3⟩ := Own.form (show Own w2 w1.heap.size 64 2 A3 (L.drop i).length c3 (pcs (L.drop i)) from h3) (by rw [HDL.out]; exact hdp)
  subst hA3
  have hL2 := HL1.out.below hb2
  have hgw := HL1.out.1.lt
  have hne : ¬ g3 = g := by omega
  have hne2 : ¬ g = g3 := by omega
  clear c0
  have c0 : w2.cell? ⟨g, 0, none⟩ = some (.slice (some ⟨g', 0, none⟩) L.length c) := by rw [hL2.1.cell]; rfl
  have fr := hL2.1.free
  have d1 : w2.cell? ⟨g3, 1, none⟩ = some (.int .u64 (p.2 : Nat)) := hcl3 _ _ (pcs_key HP.out).2
  have fr2 := hfr3 1
  have hbB := HB1.out.trans (hb2.mono HB1.out.size)
  have hb4 := hL2.1.put 0 (.slice (some ⟨g3, 0, none⟩) (L.length - i) c3)
  have ho4 := Own.setOther (show Own w2 w1.heap.size 64 2 (some ⟨g3, 0, none⟩) (L.drop i).length c3 (pcs (L.drop i)) from h3) (p := ⟨g, 0, none⟩) (by simpa [blockOf] using hne) (.slice (some ⟨g3, 0, none⟩) (L.length - i) c3)
  have hon4 := (Only.of_below (K := LK g (some ⟨g', 0, none⟩)) hbB).set (p := ⟨g, 0, none⟩) (.inl (.inl rfl)) (.slice (some ⟨g3, 0, none⟩) (L.length - i) c3)
  have hce := lst_set0 (w := w) (A := some ⟨g', 0, none⟩) (S := S) (t := tot L) (by simpa using hb4) ho4 (Nat.le_of_lt hgw) HDL.out.symm HP.out hne (by rw [← HCS.out, HCT.out]) hon4 (Nat.le_trans HB1.out.size hg3)
  rw [← HCS.out] at hce
  have HE := Lib.hid hce
  clear h3 hb2 hL2 hgw hg3 hgl3 hlc3 hcl3 hfr3 hbB hb4 ho4 hon4 hce
  go_wp2_with fail
  go_ret
  exact ⟨rfl, HE.out⟩
set_option maxRecDepth 100000 in
set_option maxHeartbeats 3200000 in
theorem cut_yesC (g : Nat) (A : Option Addr) (c : Nat) (L : List Pr) (m : Int) (i : Nat) (w : World) (h : Lst w g A c L) (hf : Fine L) (hm : m = 1) (hi : (L.length : Int) - 1 = (i : Int)) (hi0 : 0 < i) (hil : i < L.length) :
    Calls Tryz.prog 99 #[.pointer (some ⟨g, 0, none⟩), .int .i64 m] w fun e w' => e = .returned (.int .u64 (tot (L.take i) : Nat)) ∧ Counted g A (cutI L i) w w' := by
  have c0 : w.cell? ⟨g, 0, none⟩ = some (.slice A L.length c) := by rw [h.1.cell]; rfl
  have hll : (L.length : Int) ≤ 100000 := by have := hf.len; omega
  have hip : (0 : Int) < (i : Int) := by omega
  have hii : (i : Int) < (L.length : Int) := by omega
  have HSU := Lib.hid (sum_t g A c L i w h hf (Nat.le_of_lt hil))
  obtain ⟨p, hp⟩ : ∃ p, (L.drop i)[0]? = some p := ⟨_, List.getElem?_eq_getElem (by rw [List.length_drop]; omega)⟩
  have hcs := cutI_set hp
  have hct := cutI_tot hil
  have hpt : p.2 + tot (L.take i) ≤ tot L := by
    have h1 := tot_take_next (L := L) (i := i) (p := p) (by rw [List.getElem?_drop] at hp; exact hp)
    have h2 := tot_take_le' L (i + 1)
    omega
  have htot := hf.tot
  have hdl : (L.drop i).length = L.length - i := List.length_drop
  obtain ⟨g', hA, hgg, hgl, hlc, hcl, hfr⟩ := Own.form (show Own w g 64 2 A L.length c (pcs L) from h.2) (by omega)
  subst hA
  have hic : (i : Int) ≤ (c : Int) := by omega
  have hnc : ¬ c = i := by omega
  have hsum : (p.2 : Int) + ((tot (L.take i) : Nat) : Int) ≤ 4611686018427387904 := by omega
  have hlen := hf.len
  have H := Lib.hid h
  have HCL := Lib.hid (fun W (hW : Lst W g (some ⟨g', 0, none⟩) c L) c2 => clonep_tn (some ⟨g', i * 2, none⟩) c2 (L.length - i) (L.drop i) W (prs_drop (OwnP.reads hW.2) (Nat.le_of_lt hil)) (by omega) hdl)
  have HCS := Lib.hid hcs
  have HCT := Lib.hid hct
  have HP := Lib.hid hp
  have HDL := Lib.hid hdl
  have hdp : 0 < L.length - i := by omega
  subst hm
  clear h hf hgg hgl hlc hcl hfr hi0 hil hcs hct hp hdl hpt htot hlen
  obtain ⟨S, hS⟩ : ∃ S, S = tot (L.take i) := ⟨_, rfl⟩
  rw [← hS] at HSU HCS hsum ⊢
  clear hS
  go_enter Tryz.func99, Tryz.ntmps99
  go_wp2_with fail
  refine HSU.out.mono ?_
  rintro e w1 ⟨rfl, hb1⟩
  have hL1 := H.out.below hb1
  clear c0
  have c0 : w1.cell? ⟨g, 0, none⟩ = some (.slice (some ⟨g', 0, none⟩) L.length c) := by rw [hL1.1.cell]; rfl
  have HL1 := Lib.hid hL1
  have HB1 := Lib.hid hb1
  clear hL1 hb1
  go_wp2_with fail
  refine (HCL.out w1 HL1.out _).mono ?_
  rintro e w2 ⟨A3, c3, rfl, h3, hb2⟩
  rw [HDL.out]
  obtain ⟨g3, hA3, hg3, hgl3, hlc3, hcl3, hfr3⟩ := Own.form (show Own w2 w1.heap.size 64 2 A3 (L.drop i).length c3 (pcs (L.drop i)) from h3) (by rw [HDL.out]; exact hdp)
  subst hA3
  have hL2 := HL1.out.below hb2
  have hgw := HL1.out.1.lt
  have hne : ¬ g3 = g := by omega
  have hne2 : ¬ g = g3 := by omega
  clear c0
  have c0 : w2.cell? ⟨g, 0, none⟩ = some (.slice (some ⟨g', 0, none⟩) L.length c) := by rw [hL2.1.cell]; rfl
  have fr := hL2.1.free
  have d1 : w2.cell? ⟨g3, 1, none⟩ = some (.int .u64 (p.2 : Nat)) := hcl3 _ _ (pcs_key HP.out).2
  have fr2 := hfr3 1
  have hbB := HB1.out.trans (hb2.mono HB1.out.size)
  have hb4 := hL2.1.put 0 (.slice (some ⟨g3, 0, none⟩) (L.length - i) c3)
  have ho4 := Own.setOther (show Own w2 w1.heap.size 64 2 (some ⟨g3, 0, none⟩) (L.drop i).length c3 (pcs (L.drop i)) from h3) (p := ⟨g, 0, none⟩) (by simpa [blockOf] using hne) (.slice (some ⟨g3, 0, none⟩) (L.length - i) c3)
  have hon4 := (Only.of_below (K := LK g (some ⟨g', 0, none⟩)) hbB).set (p := ⟨g, 0, none⟩) (.inl (.inl rfl)) (.slice (some ⟨g3, 0, none⟩) (L.length - i) c3)
  have hce := lst_set0 (w := w) (A := some ⟨g', 0, none⟩) (S := S) (t := tot L) (by simpa using hb4) ho4 (Nat.le_of_lt hgw) HDL.out.symm HP.out hne (by rw [← HCS.out, HCT.out]) hon4 (Nat.le_trans HB1.out.size hg3)
  rw [← HCS.out] at hce
  have HE := Lib.hid hce
  clear h3 hb2 hL2 hgw hg3 hgl3 hlc3 hcl3 hfr3 hbB hb4 ho4 hon4 hce
  go_wp2_with fail
  go_ret
  exact ⟨rfl, HE.out⟩
set_option maxRecDepth 100000 in
theorem cut_t (g : Nat) (A : Option Addr) (c : Nat) (L : List Pr) (m : Int) (w : World) (h : Lst w g A c L) (hf : Fine L) (_h0 : -9223372036854775808 ≤ m) (h1 : m ≤ 9223372036854775807) :
    Calls Tryz.prog 99 #[.pointer (some ⟨g, 0, none⟩), .int .i64 m] w fun e w' => e = .returned (.int .u64 ((cutL L m).2 : Nat)) ∧ Counted g A (cutL L m).1 w w' := by
  unfold cutL cutN
  by_cases hm : m ≤ 1
  · rw [show max m 1 = 1 by omega]
    by_cases he : m = 1
    · split
      · exact cut_noC g A c L m w h hf he h1 (by omega)
      · exact cut_yesC g A c L m _ w h hf he (by omega) (by omega) (by omega)
    · split
      · exact cut_noA g A c L m w h hf (by omega) h1 (by omega)
      · exact cut_yesA g A c L m _ w h hf (by omega) (by omega) (by omega) (by omega)
  · rw [show max m 1 = m by omega]
    split
    · exact cut_noB g A c L m w h hf (by omega) h1 (by omega)
    · exact cut_yesB g A c L m _ w h hf (by omega) (by omega) (by omega) (by omega)
end Go.Proofs.YtbfhiegbgkkgiaaGreat
/- Sparse: the document's Below, Key, Cut walked. -/

namespace Go.Proofs.YtbfhiegbgkkgiaaGreat
open Go.RowKit
open Pl
theorem below_snoc {L : List Pr} {i : Nat} {p : Pr} (h : L[i]? = some p) (K : Int) : below (L.take (i + 1)) K = below (L.take i) K + if p.1 < K then p.2 else 0 := by
  unfold below
  rw [List.take_add_one, h, List.filter_append, tot_append]
  congr 1
  by_cases hk : p.1 < K <;> simp [hk, tot]
theorem below_le (L : List Pr) (K : Int) : below L K ≤ tot L := by
  unfold below
  induction L with
  | nil => exact Nat.le_refl _
  | cons p L ih =>
    rw [List.filter_cons, tot_cons]
    split
    · rw [tot_cons]; omega
    · omega
theorem below_take_le (L : List Pr) (K : Int) (i : Nat) : below (L.take i) K ≤ tot L := Nat.le_trans (below_le _ _) (tot_take_le' L i)
theorem below_at {L : List Pr} (hs : Srt L) {i : Nat} {p : Pr} (hp : L[i]? = some p) : below L (p.1 + 1) = tot (L.take (i + 1)) := by
  rw [below_take hs]
  congr 2
  rw [lo_succ hs]
  have h1 := lo_iff hs (k := p.1) hp
  have hlt : i < L.length := (List.getElem?_eq_some_iff.1 hp).1
  have hk : hasK L p.1 = true := (hasK_iff hs).2 ⟨p, List.mem_of_getElem? hp, rfl⟩
  rw [if_pos hk]
  have hge : lo L p.1 ≤ i := by
    rcases Nat.lt_or_ge i (lo L p.1) with h | h
    · have := h1.2 h; omega
    · exact h
  obtain ⟨m, hm, _⟩ := put_set hs (n := 0) hk
  rcases Nat.lt_or_ge (lo L p.1) i with h | h
  · have h4 := List.pairwise_iff_getElem.1 hs (lo L p.1) i (List.getElem?_eq_some_iff.1 hm).1 hlt h
    rw [(List.getElem?_eq_some_iff.1 hm).2, (List.getElem?_eq_some_iff.1 hp).2] at h4
    dsimp only at h4
    omega
  · omega
end Go.Proofs.YtbfhiegbgkkgiaaGreat
