/- Sparse: Add walked. -/
import Derived.Test.YtmpmjgoipfgfoaaIns
namespace Go.Proofs.Ytmpmjgoipfgfoaa
open Go.RowKit
open Pl
def LK (g : Nat) (A : Option Addr) (i : Nat) : Prop := i = g ∨ blockOf A = some i
/-- Block g is the same list, that has counted L now. -/
def Counted (g : Nat) (A : Option Addr) (L : List Pr) (w w' : World) : Prop := ∃ A' c', Lst w' g A' c' L ∧ Only (LK g A) w w' ∧ (blockOf A' = blockOf A ∨ ∃ i, blockOf A' = some i ∧ w.heap.size ≤ i)
theorem Counted.refl {w : World} {g : Nat} {A : Option Addr} {c : Nat} {L : List Pr} (h : Lst w g A c L) : Counted g A L w w := ⟨A, c, h, Only.refl _ _, .inl rfl⟩
theorem Counted.of_below {w w' : World} {g : Nat} {A : Option Addr} {c : Nat} {L : List Pr} (h : Lst w g A c L) (hb : Below w.heap.size w w') : Counted g A L w w' := ⟨A, c, h.below hb, Only.of_below hb, .inl rfl⟩
theorem Counted.then {g : Nat} {A : Option Addr} {L : List Pr} {w w' w'' : World} {A' : Option Addr} (ho : Only (LK g A) w w') (hl : blockOf A' = blockOf A ∨ ∃ i, blockOf A' = some i ∧ w.heap.size ≤ i) (h : Counted g A' L w' w'') : Counted g A L w w'' := by
  obtain ⟨A2, c2, h1, h2, h3⟩ := h
  refine ⟨A2, c2, h1, ho.step h2 (fun i hi => ?_), ?_⟩
  · rcases hi with rfl | hi
    · exact .inl (.inl rfl)
    · rcases hl with hl | ⟨j, hj, hw⟩
      · exact .inl (.inr (hl ▸ hi))
      · rw [hj] at hi
        injection hi with hi
        exact .inr (by omega)
  · rcases h3 with h3 | ⟨j, hj, hw⟩
    · rcases hl with hl | ⟨j, hj, hw⟩
      · exact .inl (h3.trans hl)
      · exact .inr ⟨j, h3.trans hj, hw⟩
    · exact .inr ⟨j, hj, Nat.le_trans ho.size hw⟩
theorem pcs_setN {l : List Pr} {i : Nat} {p : Pr} (h : l[i]? = some p) (m : Nat) : (pcs l).set (i * 2 + 1) (.int .u64 (m : Nat)) = pcs (l.set i (p.1, m)) := by
  induction l generalizing i with
  | nil => simp at h
  | cons q l ih =>
    cases i with
    | zero =>
      simp at h
      subst h
      simp [pcs]
    | succ i =>
      have := ih (i := i) (by simpa using h)
      rw [show (i + 1) * 2 = i * 2 + 2 by omega]
      simpa [pcs] using this
theorem radd0 (L : List Pr) (k : Int) (n : Nat) : radd L k n 0 = if n = 0 then (L, 4) else if k < -1048576 ∨ 1048576 < k then (L, 5) else if 4611686018427387904 - tot L < n then (L, 6) else (put L k n, 0) := by
  unfold radd
  rw [if_neg (show ¬ (0 < 0 ∧ ((0 : Nat) : Int) < wideL L k) from fun h => absurd h.1 (by decide))]
/-- The count of the pair at a place, and the total, stored. -/
theorem count_end {w W : World} {g g' c t N : Nat} {A : Option Addr} {L1 : List Pr} {i n : Nat} {p : Pr} (hb : Blk W g 76 #[.slice (some ⟨g', 0, none⟩) N c, .int .u64 (t : Nat)]) (ho : OwnP W g (some ⟨g', 0, none⟩) c L1) (hN : N = L1.length)
    (hp : L1[i]? = some p) (hne : g' ≠ g) (ht : t + n = tot (L1.set i (p.1, p.2 + n))) (hon : Only (LK g A) w W) (hl : blockOf A = some g' ∨ w.heap.size ≤ g') :
    Counted g A (L1.set i (p.1, p.2 + n)) w ((W.setCell ⟨g', i * 2 + 1, none⟩ (.int .u64 ((p.2 + n : Nat) : Int))).setCell ⟨g, 1, none⟩ (.int .u64 ((t + n : Nat) : Int))) := by
  subst hN
  have h1 := hb.far (p := ⟨g', i * 2 + 1, none⟩) (fun e => hne e.symm) (.int .u64 ((p.2 + n : Nat) : Int))
  have h2 := h1.put 1 (.int .u64 ((t + n : Nat) : Int))
  have o1 := Own.stored (show Own W g 38 2 (some ⟨g', 0, none⟩) L1.length c (pcs L1) from ho) (i * 2 + 1) (.int .u64 ((p.2 + n : Nat) : Int))
  rw [pcs_setN hp] at o1
  have o2 := Own.setOther o1 (p := ⟨g, 1, none⟩) (by simpa [blockOf] using hne) (.int .u64 ((t + n : Nat) : Int))
  refine ⟨some ⟨g', 0, none⟩, c, ⟨?_, ?_⟩, (hon.set (p := ⟨g', i * 2 + 1, none⟩) (hl.imp (fun h => .inr h) id) _).set (p := ⟨g, 1, none⟩) (.inl (.inl rfl)) _, ?_⟩
  · rw [List.length_set, ← ht]
    simpa using h2
  · unfold OwnP
    rw [List.length_set]
    exact o2
  · rcases hl with hl | hl
    · exact .inl hl.symm
    · exact .inr ⟨g', rfl, hl⟩
theorem add_zero (g : Nat) (A : Option Addr) (c : Nat) (L : List Pr) (k : Int) (w : World) (h : Lst w g A c L) :
    Calls Try.prog 40 #[.pointer (some ⟨g, 0, none⟩), .int .i64 k, .int .u64 0] w fun e w' => e = .returned (.int .i64 4) ∧ Counted g A L w w' := by
  have H := Lib.hid h
  clear h
  go_enter Try.func40, Try.ntmps40
  go_wp2_with fail
  go_ret
  exact ⟨rfl, Counted.refl H.out⟩
theorem add_range (g : Nat) (A : Option Addr) (c : Nat) (L : List Pr) (k : Int) (n : Nat) (w : World) (h : Lst w g A c L) (hn : n ≠ 0) (hk : k < -1048576 ∨ 1048576 < k) :
    Calls Try.prog 40 #[.pointer (some ⟨g, 0, none⟩), .int .i64 k, .int .u64 (n : Int)] w fun e w' => e = .returned (.int .i64 5) ∧ Counted g A L w w' := by
  have H := Lib.hid h
  have e1 : ((n : Int) == 0) = false := by simp; omega
  have hc : decide (k < -1048576) = true ∨ decide (k < -1048576) = false ∧ decide (1048576 < k) = true := by
    by_cases h1 : k < -1048576
    · exact .inl (by simp; omega)
    · exact .inr ⟨by simp; omega, by simp; omega⟩
  clear h hn hk
  rcases hc with e2 | ⟨e2, e3⟩
  all_goals
    go_enter Try.func40, Try.ntmps40
    go_wp2_with fail
    go_ret
    exact ⟨rfl, Counted.refl H.out⟩
theorem add_cap (g : Nat) (A : Option Addr) (c : Nat) (L : List Pr) (k : Int) (n : Nat) (w : World) (h : Lst w g A c L) (ht : tot L ≤ 4611686018427387904) (hn : n ≠ 0) (h0 : -1048576 ≤ k) (h1 : k ≤ 1048576) (hc : 4611686018427387904 - tot L < n) :
    Calls Try.prog 40 #[.pointer (some ⟨g, 0, none⟩), .int .i64 k, .int .u64 (n : Int)] w fun e w' => e = .returned (.int .i64 6) ∧ Counted g A L w w' := by
  have H := Lib.hid h
  have e1 : ((n : Int) == 0) = false := by simp; omega
  have e2 : decide (k < -1048576) = false := by simp; omega
  have e3 : decide (1048576 < k) = false := by simp; omega
  have c1 : w.cell? ⟨g, 1, none⟩ = some (.int .u64 (tot L : Nat)) := by rw [h.1.cell]; rfl
  have e4 : decide (4611686018427387904 - ((tot L : Nat) : Int) < (n : Int)) = true := by simp; omega
  have ht2 : ((tot L : Nat) : Int) ≤ 4611686018427387904 := by omega
  clear h hn hc h0 h1
  go_enter Try.func40, Try.ntmps40
  go_wp2_with fail
  go_ret
  exact ⟨rfl, Counted.refl H.out⟩
set_option maxHeartbeats 3200000 in
theorem add_found (g : Nat) (A : Option Addr) (c : Nat) (L : List Pr) (k : Int) (n : Nat) (w : World) (h : Lst w g A c L) (hf : Fine L) (hn : n ≠ 0) (h0 : -1048576 ≤ k) (h1 : k ≤ 1048576) (hc : ¬ 4611686018427387904 - tot L < n) (hk : hasK L k = true) :
    Calls Try.prog 40 #[.pointer (some ⟨g, 0, none⟩), .int .i64 k, .int .u64 (n : Int)] w fun e w' => e = .returned (.int .i64 0) ∧ Counted g A (put L k n) w w' := by
  have e1 : ((n : Int) == 0) = false := by simp; omega
  have e2 : decide (k < -1048576) = false := by simp; omega
  have e3 : decide (1048576 < k) = false := by simp; omega
  have ht := hf.tot
  have c1 : w.cell? ⟨g, 1, none⟩ = some (.int .u64 (tot L : Nat)) := by rw [h.1.cell]; rfl
  have e4 : decide (4611686018427387904 - ((tot L : Nat) : Int) < (n : Int)) = false := by simp; omega
  have ht2 : ((tot L : Nat) : Int) ≤ 4611686018427387904 := by omega
  have hnt : ((tot L : Nat) : Int) + (n : Int) ≤ 4611686018427387904 := by omega
  obtain ⟨m, hm, hput⟩ := put_set hf.srt (n := n) hk
  have hml := tot_le_of_mem (List.mem_of_getElem? hm)
  have hptot : tot (put L k n) = tot L + n := put_tot
  dsimp only at hml
  have hmn : (m : Int) + (n : Int) ≤ 4611686018427387904 := by omega
  have HPL := Lib.hid (place_t g A c L k w h hf (by omega) (by omega))
  rw [hk] at HPL
  have hlen := hf.len
  generalize lo L k = i at *
  have hil : i < L.length := (List.getElem?_eq_some_iff.1 hm).1
  have hi0 : (0 : Int) ≤ (i : Int) := by omega
  have hii : (i : Int) < (L.length : Int) := by omega
  have hll : (L.length : Int) ≤ 100000 := by omega
  have H := Lib.hid h
  have HM := Lib.hid hm
  have HPUT := Lib.hid hput
  have HPT := Lib.hid hptot
  clear h hf hn h0 h1 hc hk hm hput hml hptot hlen ht c1
  go_enter Try.func40, Try.ntmps40
  have c1 : w.cell? ⟨g, 1, none⟩ = some (.int .u64 (tot L : Nat)) := by rw [H.out.1.cell]; rfl
  go_wp2_with fail
  refine HPL.out.mono ?_
  rintro e w1 ⟨rfl, hb1⟩
  have hL1 := H.out.below hb1
  clear c1
  have c0 : w1.cell? ⟨g, 0, none⟩ = some (.slice A L.length c) := by rw [hL1.1.cell]; rfl
  have c1 : w1.cell? ⟨g, 1, none⟩ = some (.int .u64 (tot L : Nat)) := by rw [hL1.1.cell]; rfl
  have fr := hL1.1.free
  obtain ⟨g', hA, hgg, hgl, hlc, hcl, hfr⟩ := Own.form (show Own w1 g 38 2 A L.length c (pcs L) from hL1.2) (by omega)
  subst hA
  have d1 : w1.cell? ⟨g', i * 2 + 1, none⟩ = some (.int .u64 (m : Int)) := hcl _ _ (pcs_key HM.out).2
  have fr2 := hfr (i * 2 + 1)
  have hne : ¬ g' = g := fun e => Own.ne_blk (show Own w1 g 38 2 (some ⟨g', 0, none⟩) L.length c (pcs L) from hL1.2) hL1.1 (by decide) (by rw [e]; rfl)
  have hne2 : ¬ g = g' := fun e => hne e.symm
  have HE := Lib.hid (count_end (w := w) (A := some ⟨g', 0, none⟩) (n := n) (t := tot L) hL1.1 hL1.2 rfl HM.out hne (by rw [← HPUT.out, HPT.out]) (Only.of_below hb1) (.inl rfl))
  clear hL1 hb1 hcl hfr hgg hgl hlc
  go_wp2_with fail
  go_ret
  refine ⟨rfl, ?_⟩
  rw [HPUT.out]
  exact HE.out
set_option maxHeartbeats 3200000 in
theorem add_new (g : Nat) (A : Option Addr) (c : Nat) (L : List Pr) (k : Int) (n : Nat) (w : World) (h : Lst w g A c L) (hf : Fine L) (hn : n ≠ 0) (h0 : -1048576 ≤ k) (h1 : k ≤ 1048576) (hc : ¬ 4611686018427387904 - tot L < n) (hk : hasK L k = false) :
    Calls Try.prog 40 #[.pointer (some ⟨g, 0, none⟩), .int .i64 k, .int .u64 (n : Int)] w fun e w' => e = .returned (.int .i64 0) ∧ Counted g A (put L k n) w w' := by
  have e1 : ((n : Int) == 0) = false := by simp; omega
  have e2 : decide (k < -1048576) = false := by simp; omega
  have e3 : decide (1048576 < k) = false := by simp; omega
  have ht := hf.tot
  have e4 : decide (4611686018427387904 - ((tot L : Nat) : Int) < (n : Int)) = false := by simp; omega
  have ht2 : ((tot L : Nat) : Int) ≤ 4611686018427387904 := by omega
  have hnt : ((tot L : Nat) : Int) + (n : Int) ≤ 4611686018427387904 := by omega
  have hput := put_ins hf.srt (n := n) hk
  have hptot : tot (put L k n) = tot L + n := put_tot
  have hile := lo_le L k
  have HPL := Lib.hid (place_t g A c L k w h hf (by omega) (by omega))
  rw [hk] at HPL
  have hlen := hf.len
  generalize lo L k = i at *
  obtain ⟨L1, hL1⟩ : ∃ L1, L1 = L.take i ++ (k, 0) :: L.drop i := ⟨_, rfl⟩
  have hl1 : L1.length = L.length + 1 := by rw [hL1]; simp only [List.length_append, List.length_take, List.length_cons, List.length_drop]; omega
  have hg1 : L1[i]? = some (k, 0) := by rw [hL1, List.getElem?_append_right (by rw [List.length_take]; omega), List.length_take, Nat.min_eq_left hile, Nat.sub_self]; rfl
  have hs1 : L1.set i (k, n) = put L k n := by
    rw [hL1, hput, List.set_append_right _ _ (by rw [List.length_take]; omega), List.length_take, Nat.min_eq_left hile, Nat.sub_self]
    rfl
  have hi0 : (0 : Int) ≤ (i : Int) := by omega
  have hii : (i : Int) ≤ (L.length : Int) := by omega
  have hii2 : (i : Int) < (L1.length : Int) := by omega
  have hll : (L.length : Int) ≤ 100000 := by omega
  have hll1 : (L1.length : Int) ≤ 100001 := by omega
  have H := Lib.hid h
  have HG1 := Lib.hid hg1
  have HL1 := Lib.hid hL1
  have HS1 := Lib.hid hs1
  have HPT := Lib.hid hptot
  have HI := Lib.hid hile
  have HLN := Lib.hid hlen
  have HLN1 := Lib.hid hl1
  clear h hf hn h0 h1 hc hk hput hptot hlen ht hL1 hg1 hs1 hile hl1
  go_enter Try.func40, Try.ntmps40
  have c1 : w.cell? ⟨g, 1, none⟩ = some (.int .u64 (tot L : Nat)) := by rw [H.out.1.cell]; rfl
  go_wp2_with fail
  refine HPL.out.mono ?_
  rintro e w1 ⟨rfl, hb1⟩
  have hLw := H.out.below hb1
  clear c1
  have c0 : w1.cell? ⟨g, 0, none⟩ = some (.slice A L.length c) := by rw [hLw.1.cell]; rfl
  have HB1 := Lib.hid hb1
  have HLW := Lib.hid hLw
  have hgl1 : g < w1.heap.size := hLw.1.lt
  clear hb1 hLw
  go_wp2_with fail
  have hOw := Own.alloc (show Own w1 g 38 2 A L.length c (pcs L) from HLW.out.2) (.cells #[.int .i64 k, .int .u64 0] 38)
  have hne0 : blockOf A ≠ some w1.heap.size := fun e => by have := (Own.block (show Own w1 g 38 2 A L.length c (pcs L) from HLW.out.2) e).2; omega
  refine (insert_t g A c w1.heap.size L k 0 i _ hOw (by have := HLN.out; omega) HI.out (by simp; omega) (Blk.new w1 _ _) hne0).mono ?_
  rintro e w3 ⟨A3, c3, rfl, o3, g3, q3⟩
  rw [← HL1.out] at o3 ⊢
  have hb3 : Blk w3 g 76 #[.slice A L.length c, .int .u64 (tot L : Nat)] := (HLW.out.1.alloc _).grown g3 (fun e => Own.ne_blk hOw (HLW.out.1.alloc _) (by decide) e.symm)
  have hon3 : Only (LK g A) w w3 := ((Only.of_below HB1.out).alloc (.cells #[.int .i64 k, .int .u64 0] 38)).step (Only.of_grown g3) (fun i hi => .inl (.inr hi))
  obtain ⟨g', hA, hgg, hgl, hlc, hcl, hfr⟩ := Own.form (show Own w3 g 38 2 A3 L1.length c3 (pcs L1) from o3) (by have := HLN1.out; omega)
  subst hA
  have hne : ¬ g' = g := fun e => Own.ne_blk (show Own w3 g 38 2 (some ⟨g', 0, none⟩) L1.length c3 (pcs L1) from o3) hb3 (by decide) (by rw [e]; rfl)
  have hne2 : ¬ g = g' := fun e => hne e.symm
  have d0 : w3.cell? ⟨g, 0, none⟩ = some (.slice A L.length c) := by rw [hb3.cell]; rfl
  have d1 : w3.cell? ⟨g, 1, none⟩ = some (.int .u64 (tot L : Nat)) := by rw [hb3.cell]; rfl
  have fr := hb3.free
  have d2 : w3.cell? ⟨g', i * 2 + 1, none⟩ = some (.int .u64 0) := hcl _ _ (pcs_key HG1.out).2
  have fr2 := hfr (i * 2 + 1)
  have hq : blockOf A = some g' ∨ w.heap.size ≤ g' := by
    rcases q3 with q3 | ⟨j, hj, hw⟩
    · exact .inl q3.symm
    · have hj2 : g' = j := by simpa [blockOf] using hj
      have := HB1.out.size
      simp at hw
      exact .inr (by omega)
  have hb4 := hb3.put 0 (.slice (some ⟨g', 0, none⟩) L1.length c3)
  have ho4 := Own.setOther (show Own w3 g 38 2 (some ⟨g', 0, none⟩) L1.length c3 (pcs L1) from o3) (p := ⟨g, 0, none⟩) (by simpa [blockOf] using hne) (.slice (some ⟨g', 0, none⟩) L1.length c3)
  have hon4 := hon3.set (p := ⟨g, 0, none⟩) (.inl (.inl rfl)) (.slice (some ⟨g', 0, none⟩) L1.length c3)
  have hce := count_end (w := w) (A := A) (n := n) (t := tot L) (by simpa using hb4) ho4 rfl HG1.out hne (by rw [Nat.zero_add, HS1.out, HPT.out]) hon4 hq
  dsimp only at hce
  rw [Nat.zero_add, HS1.out] at hce
  have HE := Lib.hid hce
  clear hOw hne0 o3 g3 q3 hb3 hon3 hgg hgl hlc hcl hfr hq hb4 ho4 hon4 hce c0
  go_wp2_with fail
  go_ret
  exact ⟨rfl, HE.out⟩
theorem add_t (g : Nat) (A : Option Addr) (c : Nat) (L : List Pr) (k : Int) (n : Nat) (w : World) (h : Lst w g A c L) (hf : Fine L) :
    Calls Try.prog 40 #[.pointer (some ⟨g, 0, none⟩), .int .i64 k, .int .u64 (n : Int)] w fun e w' => e = .returned (.int .i64 (radd L k n 0).2) ∧ Counted g A (radd L k n 0).1 w w' := by
  rw [radd0]
  by_cases hn : n = 0
  · rw [if_pos hn]
    subst hn
    exact add_zero g A c L k w h
  · rw [if_neg hn]
    by_cases hk : k < -1048576 ∨ 1048576 < k
    · rw [if_pos hk]; exact add_range g A c L k n w h hn hk
    · rw [if_neg hk]
      by_cases hc : 4611686018427387904 - tot L < n
      · rw [if_pos hc]; exact add_cap g A c L k n w h hf.tot hn (by omega) (by omega) hc
      · rw [if_neg hc]
        cases hh : hasK L k with
        | true => exact add_found g A c L k n w h hf hn (by omega) (by omega) hc hh
        | false => exact add_new g A c L k n w h hf hn (by omega) (by omega) hc hh
end Go.Proofs.Ytmpmjgoipfgfoaa
