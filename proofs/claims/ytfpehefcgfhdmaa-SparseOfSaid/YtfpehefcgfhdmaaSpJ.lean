/- Sparse: SparseOf walked. -/
import Derived.Test.YtfpehefcgfhdmaaSpI
namespace Go.Proofs.Ytfpehefcgfhdmaa
open Go.RowKit
open Pl
theorem of_no (w : World) (A : Option Addr) (c n : Nat) (h : 100 < n) :
    Calls Try.prog 3 #[.slice A n c] w fun e w' => e = .returned (.bool true) ∧ Below w.heap.size w w' := by
  have hd : decide ((100 : Int) < (n : Int)) = true := by simp; omega
  have hd2 : (100 : Int) < (n : Int) := by omega
  clear h
  go_enter Try.func3, Try.ntmps3
  go_wp2_with fail
  refine (alive_t _).mono ?_
  rintro e w1 ⟨rfl, hb1⟩
  go_wp2_with fail
  go_ret
  exact ⟨rfl, hb1⟩
/-- What ofL gives has been counted. -/
theorem ofL_fine : ∀ (l L : List Pr), Fine L → L.length + l.length ≤ 100000 → Fine (ofL l L).1
  | [], L, hf, _ => hf
  | p :: l, L, hf, hl => by
    rw [List.length_cons] at hl
    rw [ofL]
    have h := radd_fine (k := p.1) (n := p.2) hf (by omega)
    split
    · exact ofL_fine l _ h.1 (by omega)
    · exact Fine.nil
set_option maxRecDepth 100000 in
set_option maxHeartbeats 6400000 in
theorem of_ok (w : World) (A0 : Option Addr) (c0 : Nat) (l : List Pr) (hl : l.length ≤ 100) (hb : Pairs w A0 l) (hR : (ofL l []).2 = 0) :
    Calls Try.prog 3 #[.slice A0 l.length c0] w fun e w' => e = .returned (.bool true) ∧ Below w.heap.size w w' := by
  have hd : decide ((100 : Int) < (l.length : Int)) = false := by simp; omega
  have hd2 : (l.length : Int) ≤ 100 := by omega
  have HLN := Lib.hid hl
  have HOF := Lib.hid (fun W (h : Prs W W.heap.size A0 l) => of_t A0 c0 l W h (by omega))
  obtain ⟨R, hRR⟩ : ∃ R, R = ofL l [] := ⟨_, rfl⟩
  have hfR : Fine R.1 := by rw [hRR]; exact ofL_fine l [] Fine.nil (by simp; omega)
  rw [← hRR] at HOF hR
  have HRR := Lib.hid hRR
  have HFR := Lib.hid hfR
  have HPB := Lib.hid hb
  clear hl hb hRR hfR
  go_enter Try.func3, Try.ntmps3
  go_wp2_with fail
  refine (alive_t _).mono ?_
  rintro e w1 ⟨rfl, hb1⟩
  have HB1 := Lib.hid hb1
  clear hb1
  go_wp2_with fail
  refine (HOF.out _ (HPB.out.2.at_below HB1.out)).mono ?_
  rintro e w2 (⟨_, ⟨g, A, c, rfl, hg, hlst⟩, hb2⟩ | ⟨h0, _⟩)
  case inr => exact absurd hR h0
  have HLS := Lib.hid hlst
  have HG := Lib.hid hg
  have HB2 := Lib.hid (nextB HB1.out hb2)
  have HR0 := Lib.hid hR
  clear hb2 hR hlst hg
  go_wp2_with fail
  go_loopw [5, 6] (fun u v wr => ∃ (i : Nat) (L : List Pr) (A3 : Option Addr) (c3 : Nat), u = .slice A3 L.length c3 ∧ v = .int .i64 (i : Int) ∧ i ≤ l.length ∧ L.length ≤ i ∧ Fine L ∧ R = ofL (l.drop i) L ∧ OwnP wr w2.heap.size A3 c3 L ∧ Below w2.heap.size w2 wr) (fun _ v _ => l.length - (intOf v).toNat)
  case atStart => exact ⟨0, [], none, 0, rfl, rfl, Nat.zero_le _, Nat.le_refl _, Fine.nil, HRR.out, Own.nil _ _ _ _, Below.refl _ _⟩
  case round =>
    obtain ⟨i, L, A3, c3, rfl, rfl, hi, hLl, hf, hRi, how, hbel⟩ := hrel
    obtain ⟨wo, rfl⟩ : ∃ wo : World, wo = wr := ⟨_, rfl⟩
    have HOW := Lib.hid how
    have HBE := Lib.hid hbel
    have HF := Lib.hid hf
    have HRI := Lib.hid hRi
    have HLL := Lib.hid hLl
    have HBL : Hid (w2.heap.size ≤ wo.drew.heap.size) := Lib.hid hbel.size
    clear how hbel hf hRi hLl
    by_cases hlt : i < l.length
    · have hii : (i : Int) < (l.length : Int) := by omega
      have hii2 : decide (i < l.length) = true := by simp; omega
      have hi0 : (0 : Int) ≤ (i : Int) := by omega
      obtain ⟨p, hp⟩ : ∃ p, l[i]? = some p := ⟨_, List.getElem?_eq_getElem hlt⟩
      obtain ⟨b, o, rfl, hbb, hc⟩ := (Prs.below HPB.out.2 (HB2.out.trans (HBE.out.mono HB2.out.size))).at_ (by omega)
      obtain ⟨d1, d2⟩ := hc i p hp
      have hpo := HPB.out.1 p (List.mem_of_getElem? hp)
      have hRn : R = if (radd L p.1 p.2 0).2 = 0 then ofL (l.drop (i + 1)) (radd L p.1 p.2 0).1 else ([], (radd L p.1 p.2 0).2) := by
        rw [HRI.out, drop_next hp]
        rfl
      have HI := Lib.hid hlt
      have hrf := radd_fine (k := p.1) (n := p.2) HF.out (by have := HLL.out; have := HLN.out; omega)
      have HAD := Lib.hid (fun W (h : OwnP W w2.heap.size A3 c3 L) (hbs : w2.heap.size ≤ W.heap.size) => add13_t A3 c3 w2.heap.size L p.1 p.2 0 W h (by decide) hpo.2.2 (by have := HLL.out; have := HLN.out; omega) HF.out.tot HF.out.keys hbs)
      have hbw : b < wo.drew.heap.size := Nat.lt_of_lt_of_le hbb (Nat.le_trans HB2.out.size HBE.out.size)
      obtain ⟨x, n⟩ := p
      dsimp only at d1 d2 hRn HAD hrf
      generalize radd L x n 0 = r at *
      obtain ⟨r1, r2⟩ := r
      dsimp only at hRn hrf
      have HRF := Lib.hid hrf
      have HRN := Lib.hid hRn
      clear hc hp hRn hbb hi hlt hrf hpo
      go_wp2_with fail
      refine wp_region_noPanic ?_
      refine wp_region_held_drew (S := (fun W' => W'.cell? ⟨b, o + i * 2, none⟩ = some (.int .i64 x) ∧ W'.cell? ⟨b, o + i * 2 + 1, none⟩ = some (.int .u64 (n : Int)))) (by kernel_rfl) ⟨d1, d2⟩ (fun hHeld => ?_)
      refine wpAnyH_take (i := 0) (oi := ?_) (v := ?_) ?_ ?_ ?_ ?_ ?_ ?_ ?_ ?_
      rotate_left 2
      · simp only [List.getElem?_toArray, List.getElem?_cons_zero]; rfl
      · kernel_rfl
      · kernel_rfl
      · kernel_rfl
      · exact fun _ _ _ h => h
      · exact Or.inl ⟨by kernel_rfl, by intro w hSw; (try dsimp only at hSw); go_simp; try with_reducible rfl⟩
      · assumption
      try go_simp
      refine wpAnyH_take (i := 1) (oi := ?_) (v := ?_) ?_ ?_ ?_ ?_ ?_ ?_ ?_ ?_
      rotate_left 2
      · simp only [List.getElem?_toArray, List.getElem?_cons_succ, List.getElem?_cons_zero]; rfl
      · kernel_rfl
      · kernel_rfl
      · kernel_rfl
      · exact fun _ _ _ h => h
      · exact Or.inl ⟨by kernel_rfl, by intro w hSw; (try dsimp only at hSw); go_simp; try with_reducible rfl⟩
      · assumption
      try go_simp
      refine wpAnyH_take (i := 2) (oi := ?_) (v := ?_) ?_ ?_ ?_ ?_ ?_ ?_ ?_ ?_
      rotate_left 2
      · simp only [List.getElem?_toArray, List.getElem?_cons_succ, List.getElem?_cons_zero]; rfl
      · kernel_rfl
      · kernel_rfl
      · kernel_rfl
      · exact fun _ _ _ h => h
      · exact Or.inl ⟨by kernel_rfl, by intro w hSw; (try dsimp only at hSw); go_simp; try with_reducible rfl⟩
      · assumption
      try go_simp
      refine wpAnyH_take (i := 3) (oi := ?_) (v := ?_) ?_ ?_ ?_ ?_ ?_ ?_ ?_ ?_
      rotate_left 2
      · simp only [List.getElem?_toArray, List.getElem?_cons_succ, List.getElem?_cons_zero]; rfl
      · kernel_rfl
      · kernel_rfl
      · kernel_rfl
      · exact fun _ _ _ h => h
      · exact Or.inl ⟨by kernel_rfl, by intro w hSw; (try dsimp only at hSw); go_simp; try with_reducible rfl⟩
      · assumption
      try go_simp
      refine wpAnyH_take (i := 4) (oi := ?_) (v := ?_) ?_ ?_ ?_ ?_ ?_ ?_ ?_ ?_
      rotate_left 2
      · simp only [List.getElem?_toArray, List.getElem?_cons_succ, List.getElem?_cons_zero]; rfl
      · kernel_rfl
      · kernel_rfl
      · kernel_rfl
      · exact fun _ _ _ h => h
      · exact Or.inl ⟨by kernel_rfl, by intro w hSw; (try dsimp only at hSw); go_simp; try with_reducible rfl⟩
      · assumption
      try go_simp
      refine wpAnyH_take (i := 5) (oi := ?_) (v := ?_) ?_ ?_ ?_ ?_ ?_ ?_ ?_ ?_
      rotate_left 2
      · simp only [List.getElem?_toArray, List.getElem?_cons_succ, List.getElem?_cons_zero]; rfl
      · kernel_rfl
      · kernel_rfl
      · kernel_rfl
      · exact fun _ _ _ h => h
      · exact Or.inl ⟨by kernel_rfl, by intro w hSw; (try dsimp only at hSw); go_simp; try with_reducible rfl⟩
      · assumption
      try go_simp
      refine wpAnyH_take (i := 6) (oi := ?_) (v := ?_) ?_ ?_ ?_ ?_ ?_ ?_ ?_ ?_
      rotate_left 2
      · simp only [List.getElem?_toArray, List.getElem?_cons_succ, List.getElem?_cons_zero]; rfl
      · kernel_rfl
      · kernel_rfl
      · kernel_rfl
      · exact fun _ _ _ h => h
      · exact Or.inl ⟨by kernel_rfl, by intro w hSw; (try dsimp only at hSw); go_simp; try with_reducible rfl⟩
      · assumption
      try go_simp
      refine wpAnyH_take (i := 7) (oi := ?_) (v := ?_) ?_ ?_ ?_ ?_ ?_ ?_ ?_ ?_
      rotate_left 2
      · simp only [List.getElem?_toArray, List.getElem?_cons_succ, List.getElem?_cons_zero]; rfl
      · kernel_rfl
      · kernel_rfl
      · kernel_rfl
      · exact fun _ _ _ h => h
      · exact Or.inl ⟨by kernel_rfl, by intro w hSw; (try dsimp only at hSw); go_simp; try with_reducible rfl⟩
      · assumption
      try go_simp
      refine wpAnyH_take (i := 8) (oi := ?_) (v := ?_) ?_ ?_ ?_ ?_ ?_ ?_ ?_ ?_
      rotate_left 2
      · simp only [List.getElem?_toArray, List.getElem?_cons_succ, List.getElem?_cons_zero]; rfl
      · kernel_rfl
      · kernel_rfl
      · kernel_rfl
      · exact fun _ _ _ h => h
      · exact Or.inl ⟨by kernel_rfl, by intro w hSw; (try dsimp only at hSw); go_simp; try with_reducible rfl⟩
      · assumption
      try go_simp
      refine wpAnyH_take (i := 9) (oi := ?_) (v := ?_) ?_ ?_ ?_ ?_ ?_ ?_ ?_ ?_
      rotate_left 2
      · simp only [List.getElem?_toArray, List.getElem?_cons_succ, List.getElem?_cons_zero]; rfl
      · kernel_rfl
      · kernel_rfl
      · kernel_rfl
      · exact fun _ _ _ h => h
      · exact Or.inl ⟨by kernel_rfl, by intro w hSw; (try dsimp only at hSw); go_simp; try with_reducible rfl⟩
      · assumption
      try go_simp
      refine wpAnyH_take (i := 10) (oi := ?_) (v := ?_) ?_ ?_ ?_ ?_ ?_ ?_ ?_ ?_
      rotate_left 2
      · simp only [List.getElem?_toArray, List.getElem?_cons_succ, List.getElem?_cons_zero]; rfl
      · kernel_rfl
      · kernel_rfl
      · kernel_rfl
      · exact fun _ _ _ h => h
      · exact Or.inl ⟨by kernel_rfl, by intro w hSw; (try dsimp only at hSw); go_simp; try with_reducible rfl⟩
      · assumption
      try go_simp
      refine wpAnyH_ready (rs := [11]) (by kernel_rfl) (by simp) ?_
      refine AllReadyH.cons (o := ?_) ?_ ?_ AllReadyH.nil
      rotate_left 1
      · simp only [List.getElem?_toArray, List.getElem?_cons_succ, List.getElem?_cons_zero]; rfl
      intro K hK
      go_simp
      refine (HAD.out wo.drew HOW.out HBL.out).mono ?_
      rintro e w3 ⟨A3, c3, rfl, h3, hb3⟩
      have f1 : w3.cell? ⟨b, o + i * 2, none⟩ = some (.int .i64 x) := (hb3.cell (p := ⟨b, o + i * 2, none⟩) hbw).trans d1
      have f2 : w3.cell? ⟨b, o + i * 2 + 1, none⟩ = some (.int .u64 (n : Int)) := (hb3.cell (p := ⟨b, o + i * 2 + 1, none⟩) hbw).trans d2
      have HB3 := Lib.hid (nextB (show Below w2.heap.size w2 wo.drew from HBE.out.drew) hb3)
      have HO3 := Lib.hid h3
      clear h3 hb3
      refine hK.out _ _ ?_ (fun hHeld => ?_)
      · exact ⟨f1, f2⟩
      clear hK K
      try go_simp
      refine wpAnyH_take (i := 12) (oi := ?_) (v := ?_) ?_ ?_ ?_ ?_ ?_ ?_ ?_ ?_
      rotate_left 2
      · simp only [List.getElem?_toArray, List.getElem?_cons_succ, List.getElem?_cons_zero]; rfl
      · kernel_rfl
      · kernel_rfl
      · kernel_rfl
      · exact fun _ _ _ h => h
      · exact Or.inl ⟨by kernel_rfl, by intro w hSw; (try dsimp only at hSw); go_simp; try with_reducible rfl⟩
      · assumption
      try go_simp
      refine wpAnyH_take (i := 13) (oi := ?_) (v := ?_) ?_ ?_ ?_ ?_ ?_ ?_ ?_ ?_
      rotate_left 2
      · simp only [List.getElem?_toArray, List.getElem?_cons_succ, List.getElem?_cons_zero]; rfl
      · kernel_rfl
      · kernel_rfl
      · kernel_rfl
      · exact fun _ _ _ h => h
      · exact Or.inl ⟨by kernel_rfl, by intro w hSw; (try dsimp only at hSw); go_simp; try with_reducible rfl⟩
      · assumption
      try go_simp
      refine wpAnyH_take (i := 14) (oi := ?_) (v := ?_) ?_ ?_ ?_ ?_ ?_ ?_ ?_ ?_
      rotate_left 2
      · simp only [List.getElem?_toArray, List.getElem?_cons_succ, List.getElem?_cons_zero]; rfl
      · kernel_rfl
      · kernel_rfl
      · kernel_rfl
      · exact fun _ _ _ h => h
      · exact Or.inl ⟨by kernel_rfl, by intro w hSw; (try dsimp only at hSw); go_simp; try with_reducible rfl⟩
      · assumption
      try go_simp
      refine wpAnyH_take (i := 15) (oi := ?_) (v := ?_) ?_ ?_ ?_ ?_ ?_ ?_ ?_ ?_
      rotate_left 2
      · simp only [List.getElem?_toArray, List.getElem?_cons_succ, List.getElem?_cons_zero]; rfl
      · kernel_rfl
      · kernel_rfl
      · kernel_rfl
      · exact fun _ _ _ h => h
      · exact Or.inl ⟨by kernel_rfl, by intro w hSw; (try dsimp only at hSw); go_simp; try with_reducible rfl⟩
      · assumption
      try go_simp
      refine wpAnyH_take (i := 16) (oi := ?_) (v := ?_) ?_ ?_ ?_ ?_ ?_ ?_ ?_ ?_
      rotate_left 2
      · simp only [List.getElem?_toArray, List.getElem?_cons_succ, List.getElem?_cons_zero]; rfl
      · kernel_rfl
      · kernel_rfl
      · kernel_rfl
      · exact fun _ _ _ h => h
      · exact Or.inl ⟨by kernel_rfl, by intro w hSw; (try dsimp only at hSw); go_simp; try with_reducible rfl⟩
      · assumption
      try go_simp
      refine wpAnyH_done (by kernel_rfl) ?_ _
      refine NoPanic.normal ?_
      by_cases h0 : r2 = 0
      · have HX : Hid (R = ofL (l.drop (i + 1)) r1) := Lib.hid (by rw [HRN.out, if_pos h0])
        subst h0
        go_wp2_with fail
        go_roundw
        case rel => exact ⟨i + 1, r1, _, _, rfl, by go_num, HI.out, by have := HRF.out.2; have := HLL.out; omega, HRF.out.1, HX.out, HO3.out, HB3.out⟩
        case measure => have := HI.out; simp [intOf]; omega
      · have hX : R = ([], r2) := by rw [HRN.out, if_neg h0]
        exfalso
        have := HR0.out
        rw [hX] at this
        exact h0 this
    · have hX : R = (L, 0) := by rw [HRI.out, List.drop_of_length_le (by omega)]; rfl
      have hge : ¬ (i : Int) < (l.length : Int) := by omega
      have hge2 : decide (i < l.length) = false := by simp; omega
      have HX := Lib.hid hX
      have hl100 : L.length ≤ 100 := by have := HLL.out; have := HLN.out; omega
      have HL100 := Lib.hid hl100
      clear hi hlt hX hl100
      go_wp2_with fail
      have hl2 := HLS.out.below HBE.out
      rw [HX.out] at hl2
      refine (pairs_t g A c L wo hl2 HF.out).mono ?_
      rintro e w4 ⟨A4, c4, rfl, h4, hb4⟩
      have HO4 := Lib.hid h4
      have HB4 := Lib.hid hb4
      clear h4 hb4 hl2
      go_wp2_with fail
      refine (same13_t A4 A3 c4 c3 _ _ L w4 (OwnP.reads HO4.out) ((OwnP.reads HOW.out).at_below HB4.out) (by have := HL100.out; unfold maxLen; omega)).mono ?_
      rintro e w5 ⟨rfl, q, rfl⟩
      go_wp2_with fail
      go_ret
      exact ⟨rfl, below_drewN (HB2.out.trans ((nextB HBE.out HB4.out).mono HB2.out.size)) q⟩
set_option maxRecDepth 100000 in
set_option maxHeartbeats 6400000 in
theorem of_bad (w : World) (A0 : Option Addr) (c0 : Nat) (l : List Pr) (hl : l.length ≤ 100) (hb : Pairs w A0 l) (hR : (ofL l []).2 ≠ 0) :
    Calls Try.prog 3 #[.slice A0 l.length c0] w fun e w' => e = .returned (.bool true) ∧ Below w.heap.size w w' := by
  have hd : decide ((100 : Int) < (l.length : Int)) = false := by simp; omega
  have hd2 : (l.length : Int) ≤ 100 := by omega
  have HLN := Lib.hid hl
  have HOF := Lib.hid (fun W (h : Prs W W.heap.size A0 l) => of_t A0 c0 l W h (by omega))
  obtain ⟨R, hRR⟩ : ∃ R, R = ofL l [] := ⟨_, rfl⟩
  have hfR : Fine R.1 := by rw [hRR]; exact ofL_fine l [] Fine.nil (by simp; omega)
  rw [← hRR] at HOF hR
  have HRR := Lib.hid hRR
  have HFR := Lib.hid hfR
  have HPB := Lib.hid hb
  clear hl hb hRR hfR
  go_enter Try.func3, Try.ntmps3
  go_wp2_with fail
  refine (alive_t _).mono ?_
  rintro e w1 ⟨rfl, hb1⟩
  have HB1 := Lib.hid hb1
  clear hb1
  go_wp2_with fail
  refine (HOF.out _ (HPB.out.2.at_below HB1.out)).mono ?_
  rintro e w2 (⟨h0, _⟩ | ⟨_, rfl, hb2⟩)
  case inl => exact absurd h0 hR
  have HB2 := Lib.hid (nextB HB1.out hb2)
  have HR0 := Lib.hid hR
  clear hb2 hR
  go_wp2_with fail
  go_loopw [5, 6] (fun u v wr => ∃ (i : Nat) (L : List Pr) (A3 : Option Addr) (c3 : Nat), u = .slice A3 L.length c3 ∧ v = .int .i64 (i : Int) ∧ i ≤ l.length ∧ L.length ≤ i ∧ Fine L ∧ R = ofL (l.drop i) L ∧ OwnP wr w2.heap.size A3 c3 L ∧ Below w2.heap.size w2 wr) (fun _ v _ => l.length - (intOf v).toNat)
  case atStart => exact ⟨0, [], none, 0, rfl, rfl, Nat.zero_le _, Nat.le_refl _, Fine.nil, HRR.out, Own.nil _ _ _ _, Below.refl _ _⟩
  case round =>
    obtain ⟨i, L, A3, c3, rfl, rfl, hi, hLl, hf, hRi, how, hbel⟩ := hrel
    obtain ⟨wo, rfl⟩ : ∃ wo : World, wo = wr := ⟨_, rfl⟩
    have HOW := Lib.hid how
    have HBE := Lib.hid hbel
    have HF := Lib.hid hf
    have HRI := Lib.hid hRi
    have HLL := Lib.hid hLl
    have HBL : Hid (w2.heap.size ≤ wo.drew.heap.size) := Lib.hid hbel.size
    clear how hbel hf hRi hLl
    by_cases hlt : i < l.length
    · have hii : (i : Int) < (l.length : Int) := by omega
      have hii2 : decide (i < l.length) = true := by simp; omega
      have hi0 : (0 : Int) ≤ (i : Int) := by omega
      obtain ⟨p, hp⟩ : ∃ p, l[i]? = some p := ⟨_, List.getElem?_eq_getElem hlt⟩
      obtain ⟨b, o, rfl, hbb, hc⟩ := (Prs.below HPB.out.2 (HB2.out.trans (HBE.out.mono HB2.out.size))).at_ (by omega)
      obtain ⟨d1, d2⟩ := hc i p hp
      have hpo := HPB.out.1 p (List.mem_of_getElem? hp)
      have hRn : R = if (radd L p.1 p.2 0).2 = 0 then ofL (l.drop (i + 1)) (radd L p.1 p.2 0).1 else ([], (radd L p.1 p.2 0).2) := by
        rw [HRI.out, drop_next hp]
        rfl
      have HI := Lib.hid hlt
      have hrf := radd_fine (k := p.1) (n := p.2) HF.out (by have := HLL.out; have := HLN.out; omega)
      have HAD := Lib.hid (fun W (h : OwnP W w2.heap.size A3 c3 L) (hbs : w2.heap.size ≤ W.heap.size) => add13_t A3 c3 w2.heap.size L p.1 p.2 0 W h (by decide) hpo.2.2 (by have := HLL.out; have := HLN.out; omega) HF.out.tot HF.out.keys hbs)
      have hbw : b < wo.drew.heap.size := Nat.lt_of_lt_of_le hbb (Nat.le_trans HB2.out.size HBE.out.size)
      obtain ⟨x, n⟩ := p
      dsimp only at d1 d2 hRn HAD hrf
      generalize radd L x n 0 = r at *
      obtain ⟨r1, r2⟩ := r
      dsimp only at hRn hrf
      have HRF := Lib.hid hrf
      have HRN := Lib.hid hRn
      clear hc hp hRn hbb hi hlt hrf hpo
      go_wp2_with fail
      refine wp_region_noPanic ?_
      refine wp_region_held_drew (S := (fun W' => W'.cell? ⟨b, o + i * 2, none⟩ = some (.int .i64 x) ∧ W'.cell? ⟨b, o + i * 2 + 1, none⟩ = some (.int .u64 (n : Int)))) (by kernel_rfl) ⟨d1, d2⟩ (fun hHeld => ?_)
      refine wpAnyH_take (i := 0) (oi := ?_) (v := ?_) ?_ ?_ ?_ ?_ ?_ ?_ ?_ ?_
      rotate_left 2
      · simp only [List.getElem?_toArray, List.getElem?_cons_zero]; rfl
      · kernel_rfl
      · kernel_rfl
      · kernel_rfl
      · exact fun _ _ _ h => h
      · exact Or.inl ⟨by kernel_rfl, by intro w hSw; (try dsimp only at hSw); go_simp; try with_reducible rfl⟩
      · assumption
      try go_simp
      refine wpAnyH_take (i := 1) (oi := ?_) (v := ?_) ?_ ?_ ?_ ?_ ?_ ?_ ?_ ?_
      rotate_left 2
      · simp only [List.getElem?_toArray, List.getElem?_cons_succ, List.getElem?_cons_zero]; rfl
      · kernel_rfl
      · kernel_rfl
      · kernel_rfl
      · exact fun _ _ _ h => h
      · exact Or.inl ⟨by kernel_rfl, by intro w hSw; (try dsimp only at hSw); go_simp; try with_reducible rfl⟩
      · assumption
      try go_simp
      refine wpAnyH_take (i := 2) (oi := ?_) (v := ?_) ?_ ?_ ?_ ?_ ?_ ?_ ?_ ?_
      rotate_left 2
      · simp only [List.getElem?_toArray, List.getElem?_cons_succ, List.getElem?_cons_zero]; rfl
      · kernel_rfl
      · kernel_rfl
      · kernel_rfl
      · exact fun _ _ _ h => h
      · exact Or.inl ⟨by kernel_rfl, by intro w hSw; (try dsimp only at hSw); go_simp; try with_reducible rfl⟩
      · assumption
      try go_simp
      refine wpAnyH_take (i := 3) (oi := ?_) (v := ?_) ?_ ?_ ?_ ?_ ?_ ?_ ?_ ?_
      rotate_left 2
      · simp only [List.getElem?_toArray, List.getElem?_cons_succ, List.getElem?_cons_zero]; rfl
      · kernel_rfl
      · kernel_rfl
      · kernel_rfl
      · exact fun _ _ _ h => h
      · exact Or.inl ⟨by kernel_rfl, by intro w hSw; (try dsimp only at hSw); go_simp; try with_reducible rfl⟩
      · assumption
      try go_simp
      refine wpAnyH_take (i := 4) (oi := ?_) (v := ?_) ?_ ?_ ?_ ?_ ?_ ?_ ?_ ?_
      rotate_left 2
      · simp only [List.getElem?_toArray, List.getElem?_cons_succ, List.getElem?_cons_zero]; rfl
      · kernel_rfl
      · kernel_rfl
      · kernel_rfl
      · exact fun _ _ _ h => h
      · exact Or.inl ⟨by kernel_rfl, by intro w hSw; (try dsimp only at hSw); go_simp; try with_reducible rfl⟩
      · assumption
      try go_simp
      refine wpAnyH_take (i := 5) (oi := ?_) (v := ?_) ?_ ?_ ?_ ?_ ?_ ?_ ?_ ?_
      rotate_left 2
      · simp only [List.getElem?_toArray, List.getElem?_cons_succ, List.getElem?_cons_zero]; rfl
      · kernel_rfl
      · kernel_rfl
      · kernel_rfl
      · exact fun _ _ _ h => h
      · exact Or.inl ⟨by kernel_rfl, by intro w hSw; (try dsimp only at hSw); go_simp; try with_reducible rfl⟩
      · assumption
      try go_simp
      refine wpAnyH_take (i := 6) (oi := ?_) (v := ?_) ?_ ?_ ?_ ?_ ?_ ?_ ?_ ?_
      rotate_left 2
      · simp only [List.getElem?_toArray, List.getElem?_cons_succ, List.getElem?_cons_zero]; rfl
      · kernel_rfl
      · kernel_rfl
      · kernel_rfl
      · exact fun _ _ _ h => h
      · exact Or.inl ⟨by kernel_rfl, by intro w hSw; (try dsimp only at hSw); go_simp; try with_reducible rfl⟩
      · assumption
      try go_simp
      refine wpAnyH_take (i := 7) (oi := ?_) (v := ?_) ?_ ?_ ?_ ?_ ?_ ?_ ?_ ?_
      rotate_left 2
      · simp only [List.getElem?_toArray, List.getElem?_cons_succ, List.getElem?_cons_zero]; rfl
      · kernel_rfl
      · kernel_rfl
      · kernel_rfl
      · exact fun _ _ _ h => h
      · exact Or.inl ⟨by kernel_rfl, by intro w hSw; (try dsimp only at hSw); go_simp; try with_reducible rfl⟩
      · assumption
      try go_simp
      refine wpAnyH_take (i := 8) (oi := ?_) (v := ?_) ?_ ?_ ?_ ?_ ?_ ?_ ?_ ?_
      rotate_left 2
      · simp only [List.getElem?_toArray, List.getElem?_cons_succ, List.getElem?_cons_zero]; rfl
      · kernel_rfl
      · kernel_rfl
      · kernel_rfl
      · exact fun _ _ _ h => h
      · exact Or.inl ⟨by kernel_rfl, by intro w hSw; (try dsimp only at hSw); go_simp; try with_reducible rfl⟩
      · assumption
      try go_simp
      refine wpAnyH_take (i := 9) (oi := ?_) (v := ?_) ?_ ?_ ?_ ?_ ?_ ?_ ?_ ?_
      rotate_left 2
      · simp only [List.getElem?_toArray, List.getElem?_cons_succ, List.getElem?_cons_zero]; rfl
      · kernel_rfl
      · kernel_rfl
      · kernel_rfl
      · exact fun _ _ _ h => h
      · exact Or.inl ⟨by kernel_rfl, by intro w hSw; (try dsimp only at hSw); go_simp; try with_reducible rfl⟩
      · assumption
      try go_simp
      refine wpAnyH_take (i := 10) (oi := ?_) (v := ?_) ?_ ?_ ?_ ?_ ?_ ?_ ?_ ?_
      rotate_left 2
      · simp only [List.getElem?_toArray, List.getElem?_cons_succ, List.getElem?_cons_zero]; rfl
      · kernel_rfl
      · kernel_rfl
      · kernel_rfl
      · exact fun _ _ _ h => h
      · exact Or.inl ⟨by kernel_rfl, by intro w hSw; (try dsimp only at hSw); go_simp; try with_reducible rfl⟩
      · assumption
      try go_simp
      refine wpAnyH_ready (rs := [11]) (by kernel_rfl) (by simp) ?_
      refine AllReadyH.cons (o := ?_) ?_ ?_ AllReadyH.nil
      rotate_left 1
      · simp only [List.getElem?_toArray, List.getElem?_cons_succ, List.getElem?_cons_zero]; rfl
      intro K hK
      go_simp
      refine (HAD.out wo.drew HOW.out HBL.out).mono ?_
      rintro e w3 ⟨A3, c3, rfl, h3, hb3⟩
      have f1 : w3.cell? ⟨b, o + i * 2, none⟩ = some (.int .i64 x) := (hb3.cell (p := ⟨b, o + i * 2, none⟩) hbw).trans d1
      have f2 : w3.cell? ⟨b, o + i * 2 + 1, none⟩ = some (.int .u64 (n : Int)) := (hb3.cell (p := ⟨b, o + i * 2 + 1, none⟩) hbw).trans d2
      have HB3 := Lib.hid (nextB (show Below w2.heap.size w2 wo.drew from HBE.out.drew) hb3)
      have HO3 := Lib.hid h3
      clear h3 hb3
      refine hK.out _ _ ?_ (fun hHeld => ?_)
      · exact ⟨f1, f2⟩
      clear hK K
      try go_simp
      refine wpAnyH_take (i := 12) (oi := ?_) (v := ?_) ?_ ?_ ?_ ?_ ?_ ?_ ?_ ?_
      rotate_left 2
      · simp only [List.getElem?_toArray, List.getElem?_cons_succ, List.getElem?_cons_zero]; rfl
      · kernel_rfl
      · kernel_rfl
      · kernel_rfl
      · exact fun _ _ _ h => h
      · exact Or.inl ⟨by kernel_rfl, by intro w hSw; (try dsimp only at hSw); go_simp; try with_reducible rfl⟩
      · assumption
      try go_simp
      refine wpAnyH_take (i := 13) (oi := ?_) (v := ?_) ?_ ?_ ?_ ?_ ?_ ?_ ?_ ?_
      rotate_left 2
      · simp only [List.getElem?_toArray, List.getElem?_cons_succ, List.getElem?_cons_zero]; rfl
      · kernel_rfl
      · kernel_rfl
      · kernel_rfl
      · exact fun _ _ _ h => h
      · exact Or.inl ⟨by kernel_rfl, by intro w hSw; (try dsimp only at hSw); go_simp; try with_reducible rfl⟩
      · assumption
      try go_simp
      refine wpAnyH_take (i := 14) (oi := ?_) (v := ?_) ?_ ?_ ?_ ?_ ?_ ?_ ?_ ?_
      rotate_left 2
      · simp only [List.getElem?_toArray, List.getElem?_cons_succ, List.getElem?_cons_zero]; rfl
      · kernel_rfl
      · kernel_rfl
      · kernel_rfl
      · exact fun _ _ _ h => h
      · exact Or.inl ⟨by kernel_rfl, by intro w hSw; (try dsimp only at hSw); go_simp; try with_reducible rfl⟩
      · assumption
      try go_simp
      refine wpAnyH_take (i := 15) (oi := ?_) (v := ?_) ?_ ?_ ?_ ?_ ?_ ?_ ?_ ?_
      rotate_left 2
      · simp only [List.getElem?_toArray, List.getElem?_cons_succ, List.getElem?_cons_zero]; rfl
      · kernel_rfl
      · kernel_rfl
      · kernel_rfl
      · exact fun _ _ _ h => h
      · exact Or.inl ⟨by kernel_rfl, by intro w hSw; (try dsimp only at hSw); go_simp; try with_reducible rfl⟩
      · assumption
      try go_simp
      refine wpAnyH_take (i := 16) (oi := ?_) (v := ?_) ?_ ?_ ?_ ?_ ?_ ?_ ?_ ?_
      rotate_left 2
      · simp only [List.getElem?_toArray, List.getElem?_cons_succ, List.getElem?_cons_zero]; rfl
      · kernel_rfl
      · kernel_rfl
      · kernel_rfl
      · exact fun _ _ _ h => h
      · exact Or.inl ⟨by kernel_rfl, by intro w hSw; (try dsimp only at hSw); go_simp; try with_reducible rfl⟩
      · assumption
      try go_simp
      refine wpAnyH_done (by kernel_rfl) ?_ _
      refine NoPanic.normal ?_
      by_cases h0 : r2 = 0
      · have HX : Hid (R = ofL (l.drop (i + 1)) r1) := Lib.hid (by rw [HRN.out, if_pos h0])
        subst h0
        go_wp2_with fail
        go_roundw
        case rel => exact ⟨i + 1, r1, _, _, rfl, by go_num, HI.out, by have := HRF.out.2; have := HLL.out; omega, HRF.out.1, HX.out, HO3.out, HB3.out⟩
        case measure => have := HI.out; simp [intOf]; omega
      · have hX : R = ([], r2) := by rw [HRN.out, if_neg h0]
        have e1 : (r2 != 0) = true := by simp; omega
        have e2 : (r2 == 0) = false := by simp; omega
        have hX2 : R.2 = r2 := by rw [hX]
        clear hX h0
        go_wp2_with fail
        go_ret
        exact ⟨by simp, HB2.out.trans (HB3.out.mono HB2.out.size)⟩
    · have hX : R = (L, 0) := by rw [HRI.out, List.drop_of_length_le (by omega)]; rfl
      have hge : ¬ (i : Int) < (l.length : Int) := by omega
      have hge2 : decide (i < l.length) = false := by simp; omega
      exfalso
      have := HR0.out
      rw [hX] at this
      exact this rfl
theorem sparseOf_walk (w : World) (A : Option Addr) (c : Nat) (l : List Pr) (_hl : l.length ≤ maxLen) (hb : Pairs w A l) :
    Calls Try.prog 3 #[.slice A l.length c] w fun e w' => e = .returned (.bool true) ∧ Below w.heap.size w w' := by
  by_cases h : 100 < l.length
  · exact of_no w A c l.length h
  · by_cases hR : (ofL l []).2 = 0
    · exact of_ok w A c l (by omega) hb hR
    · exact of_bad w A c l (by omega) hb hR
end Go.Proofs.Ytfpehefcgfhdmaa
