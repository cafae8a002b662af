/- Dense: Drop walked. -/
import Derived.Test.YtknimekfkkihpaaDenseDropP
namespace Go.Proofs.Ytknimekfkkihpaa
open Go.RowKit
open Ds Pl

set_option maxHeartbeats 400000 in
theorem drop_none (g : Nat) (A : Option Addr) (c base : Nat) (f k : Int) (l : List Nat) (t : Nat) (w : World) (h : Sto w base g A c f l t) (hi : Inv f l t) (hn : cntS f l k = 0) :
    Calls Try.prog 15 #[.pointer (some ⟨g, 0, none⟩), .int .i64 k] w fun e w' => e = .returned (.int .u64 0) ∧ ∃ n, w' = w.drewN n := by
  have HC := fun W h => count_t g A c base f k l t W h hi
  rw [hn] at HC
  replace HC := Lib.hid HC
  have HH := Lib.hid h
  clear h hn
  go_enter Try.func15, Try.ntmps15
  go_wp2_with fail
  refine (HC.out _ HH.out).mono ?_
  rintro e w1 ⟨rfl, n, rfl⟩
  go_wp2_with fail
  go_ret
  exact ⟨rfl, n, rfl⟩
set_option maxHeartbeats 3200000 in
set_option maxRecDepth 100000 in
theorem drop_some (g : Nat) (A : Option Addr) (c base : Nat) (f k : Int) (l : List Nat) (t : Nat) (w : World) (h : Sto w base g A c f l t) (hi : Inv f l t) (hn : cntS f l k ≠ 0) :
    Calls Try.prog 15 #[.pointer (some ⟨g, 0, none⟩), .int .i64 k] w fun e w' => e = .returned (.int .u64 (cntS f l k : Nat)) ∧ StoPostN base g A (dropS (f, l, t) k).1 (dropS (f, l, t) k).2.1 (dropS (f, l, t) k).2.2 w w' := by
  have HC := fun W h => count_t g A c base f k l t W h hi
  obtain ⟨k1, k2, k3⟩ := cnt_in hn
  obtain ⟨q, hq⟩ : ∃ q : Nat, (q : Int) = k - f := ⟨(k - f).toNat, by omega⟩
  have hq2 : (k - f).toNat = q := by omega
  have hds : dropS (f, l, t) k = if nz (l.set q 0) < (l.set q 0).length then (f + nz (l.set q 0), ((l.set q 0).take (tl (l.set q 0))).drop (nz (l.set q 0)), t - cntS f l k) else (0, [], 0) := by
    unfold dropS
    simp only
    rw [if_neg hn, hq2]
  rw [hds]
  clear hds
  have hql : q < l.length := by omega
  have hv : cntS f l k = l.getD q 0 := by rw [k3, hq2]
  obtain ⟨v, hvv⟩ : ∃ v, v = cntS f l k := ⟨_, rfl⟩
  rw [← hvv] at HC hn hv ⊢
  have hvt : v ≤ t := by rw [hv, ← hi.sum]; exact getD_le_sum
  obtain ⟨lo, hi2, len, hsum, cap⟩ := hi
  have hget := u64s_get hql
  rw [← hv] at hget
  obtain ⟨b, o, rfl, hbb, hbl, hmc, hcells, hfree⟩ := h.2.form (by omega)
  have c0 := h.c0
  have c1 := h.c1
  have c2 := h.c2
  have g0 := h.1.free 0
  have g1 := h.1.free 1
  have g2 := h.1.free 2
  have dq : w.cell? ⟨b, o + q, none⟩ = some (.int .u64 (v : Nat)) := hcells q _ hget
  have fq : w.frozen? ⟨b, o + q, none⟩ = false := hfree (o + q)
  have hne : b ≠ g := by
    intro e
    exact h.2.ne_blk h.1 (by decide) (by rw [e]; rfl)
  have hne2 : g ≠ b := fun e => hne e.symm
  have hqm : (q : Int) < (l.length : Int) := by omega
  have hq0 : (0 : Int) ≤ (q : Int) := by omega
  have hcc : (l.length : Int) ≤ (c : Int) := by omega
  have hsub : IntKind.i64.wrap (k - f) = (q : Int) := by rw [hq]; exact IntWalk.i64_in _ ⟨by omega, by omega⟩
  have hlen2 : (l.set q 0).length = l.length := by simp
  have hu : u64s (l.set q 0) = (u64s l).set q (.int .u64 0) := by rw [u64s, u64s, List.map_set]; rfl
  have hbv : ((v : Int) == 0) = false := by simp; omega
  have hvt2 : (v : Int) ≤ (t : Int) := by omega
  have hsl := sum_set hql
  rw [← hv] at hsl
  have HH := Lib.hid h
  replace HC := Lib.hid HC
  have HQL := Lib.hid hql
  have HU := Lib.hid hu
  have HL2 := Lib.hid hlen2
  have HSL := Lib.hid hsl
  have HSU := Lib.hid hsum
  obtain ⟨L1, hL1⟩ : ∃ L1, L1 = l.set q 0 := ⟨_, rfl⟩
  rw [← hL1] at HU HL2 HSL ⊢
  obtain ⟨R, hR⟩ : ∃ R : St, R = if nz L1 < L1.length then (f + nz L1, (L1.take (tl L1)).drop (nz L1), t - v) else (0, [], 0) := ⟨_, rfl⟩
  rw [← hR]
  have HRR := Lib.hid hR
  clear hR
  clear h hv hvv hn hcells hfree hget k1 k2 k3 hq hq2 hql hlen2 hu hmc hbb hsl hsum hL1
  go_enter Try.func15, Try.ntmps15
  go_wp2_with fail
  refine (HC.out _ HH.out).mono ?_
  rintro e w1 ⟨rfl, n0, rfl⟩
  go_wp2_with fail
  refine wp_region_noPanic ?_
  refine wp_region_T (S := fun w' => w'.cell? ⟨g, 0, none⟩ = some (.int .i64 f) ∧ w'.cell? ⟨g, 1, none⟩ = some (.slice (some ⟨b, o, none⟩) l.length c) ∧ w'.cell? ⟨b, o + q, none⟩ = some (.int .u64 (v : Nat)) ∧ w'.frozen? ⟨b, o + q, none⟩ = false) (L := 11) (by kernel_rfl) ⟨by simpa using c0, by simpa using c1, by simpa using dq, fq⟩ (fun hHeld => ?_)
  refine wpAnyT_take (i := 0) (oi := ?_) (v := ?_) ?_ ?_ ?_ ?_ ?_ ?_ ?_ ?_ ?_
  rotate_left 2
  · simp only [List.getElem?_toArray, List.getElem?_cons_zero]; rfl
  · kernel_rfl
  · kernel_rfl
  · kernel_rfl
  · kernel_rfl
  · exact fun _ _ _ h => h
  · exact Or.inl ⟨by kernel_rfl, by intro w hSw; (try dsimp only at hSw); go_simp; try with_reducible rfl⟩
  · assumption
  try go_simp
  refine wpAnyT_take (i := 1) (oi := ?_) (v := ?_) ?_ ?_ ?_ ?_ ?_ ?_ ?_ ?_ ?_
  rotate_left 2
  · simp only [List.getElem?_toArray, List.getElem?_cons_succ, List.getElem?_cons_zero]; rfl
  · kernel_rfl
  · kernel_rfl
  · kernel_rfl
  · kernel_rfl
  · exact fun _ _ _ h => h
  · exact Or.inl ⟨by kernel_rfl, by intro w hSw; (try dsimp only at hSw); go_simp; try with_reducible rfl⟩
  · assumption
  try go_simp
  refine wpAnyT_take (i := 2) (oi := ?_) (v := ?_) ?_ ?_ ?_ ?_ ?_ ?_ ?_ ?_ ?_
  rotate_left 2
  · simp only [List.getElem?_toArray, List.getElem?_cons_succ, List.getElem?_cons_zero]; rfl
  · kernel_rfl
  · kernel_rfl
  · kernel_rfl
  · kernel_rfl
  · exact fun _ _ _ h => h
  · exact Or.inl ⟨by kernel_rfl, by intro w hSw; (try dsimp only at hSw); go_simp; try with_reducible rfl⟩
  · assumption
  try go_simp
  refine wpAnyT_take (i := 3) (oi := ?_) (v := ?_) ?_ ?_ ?_ ?_ ?_ ?_ ?_ ?_ ?_
  rotate_left 2
  · simp only [List.getElem?_toArray, List.getElem?_cons_succ, List.getElem?_cons_zero]; rfl
  · kernel_rfl
  · kernel_rfl
  · kernel_rfl
  · kernel_rfl
  · exact fun _ _ _ h => h
  · exact Or.inl ⟨by kernel_rfl, by intro w hSw; (try dsimp only at hSw); go_simp; try with_reducible rfl⟩
  · assumption
  try go_simp
  refine wpAnyT_take (i := 4) (oi := ?_) (v := ?_) ?_ ?_ ?_ ?_ ?_ ?_ ?_ ?_ ?_
  rotate_left 2
  · simp only [List.getElem?_toArray, List.getElem?_cons_succ, List.getElem?_cons_zero]; rfl
  · kernel_rfl
  · kernel_rfl
  · kernel_rfl
  · kernel_rfl
  · exact fun _ _ _ h => h
  · exact Or.inl ⟨by kernel_rfl, by intro w hSw; (try dsimp only at hSw); go_simp; try with_reducible rfl⟩
  · assumption
  try go_simp
  refine wpAnyT_take (i := 5) (oi := ?_) (v := ?_) ?_ ?_ ?_ ?_ ?_ ?_ ?_ ?_ ?_
  rotate_left 2
  · simp only [List.getElem?_toArray, List.getElem?_cons_succ, List.getElem?_cons_zero]; rfl
  · kernel_rfl
  · kernel_rfl
  · kernel_rfl
  · kernel_rfl
  · exact fun _ _ _ h => h
  · exact Or.inl ⟨by kernel_rfl, by intro w hSw; (try dsimp only at hSw); go_simp; try with_reducible rfl⟩
  · assumption
  try go_simp
  refine wpAnyT_take (i := 6) (oi := ?_) (v := ?_) ?_ ?_ ?_ ?_ ?_ ?_ ?_ ?_ ?_
  rotate_left 2
  · simp only [List.getElem?_toArray, List.getElem?_cons_succ, List.getElem?_cons_zero]; rfl
  · kernel_rfl
  · kernel_rfl
  · kernel_rfl
  · kernel_rfl
  · exact fun _ _ _ h => h
  · exact Or.inl ⟨by kernel_rfl, by intro w hSw; (try dsimp only at hSw); go_simp; try with_reducible rfl⟩
  · assumption
  try go_simp
  refine wpAnyT_take (i := 7) (oi := ?_) (v := ?_) ?_ ?_ ?_ ?_ ?_ ?_ ?_ ?_ ?_
  rotate_left 2
  · simp only [List.getElem?_toArray, List.getElem?_cons_succ, List.getElem?_cons_zero]; rfl
  · kernel_rfl
  · kernel_rfl
  · kernel_rfl
  · kernel_rfl
  · exact fun _ _ _ h => h
  · exact Or.inl ⟨by kernel_rfl, by intro w hSw; (try dsimp only at hSw); go_simp; try with_reducible rfl⟩
  · assumption
  try go_simp
  refine wpAnyT_take (i := 8) (oi := ?_) (v := ?_) ?_ ?_ ?_ ?_ ?_ ?_ ?_ ?_ ?_
  rotate_left 2
  · simp only [List.getElem?_toArray, List.getElem?_cons_succ, List.getElem?_cons_zero]; rfl
  · kernel_rfl
  · kernel_rfl
  · kernel_rfl
  · kernel_rfl
  · exact fun _ _ _ h => h
  · exact Or.inl ⟨by kernel_rfl, by intro w hSw; (try dsimp only at hSw); go_simp; try with_reducible rfl⟩
  · assumption
  try go_simp
  refine wpAnyT_take (i := 9) (oi := ?_) (v := ?_) ?_ ?_ ?_ ?_ ?_ ?_ ?_ ?_ ?_
  rotate_left 2
  · simp only [List.getElem?_toArray, List.getElem?_cons_succ, List.getElem?_cons_zero]; rfl
  · kernel_rfl
  · kernel_rfl
  · kernel_rfl
  · kernel_rfl
  · exact fun _ _ _ h => h
  · exact Or.inl ⟨by kernel_rfl, by intro w hSw; (try dsimp only at hSw); go_simp; try with_reducible rfl⟩
  · assumption
  try go_simp
  refine wpAnyT_take (i := 10) (oi := ?_) (v := ?_) ?_ ?_ ?_ ?_ ?_ ?_ ?_ ?_ ?_
  rotate_left 2
  · simp only [List.getElem?_toArray, List.getElem?_cons_succ, List.getElem?_cons_zero]; rfl
  · kernel_rfl
  · kernel_rfl
  · kernel_rfl
  · kernel_rfl
  · exact fun _ _ _ h => h
  · exact Or.inl ⟨by kernel_rfl, by intro w hSw; (try dsimp only at hSw); go_simp; try with_reducible rfl⟩
  · assumption
  try go_simp
  refine wpAnyT_one (i := 11) (o := ?_) ?_ ?_ ?_
  rotate_left 1
  · simp only [List.getElem?_toArray, List.getElem?_cons_succ, List.getElem?_cons_zero]; rfl
  · kernel_rfl
  intro K hK
  go_simp
  refine hK.out _ _ ?_ (fun hHeld => ?_)
  · exact fun h => absurd rfl h
  clear hK K
  try go_simp
  refine wpAnyT_done (by kernel_rfl) ?_ _
  refine NoPanic.normal ?_
  go_wp2_with fail
  have hsto : Sto (((w.drewN (n0 + 1)).setCell ⟨b, o + q, none⟩ (.int .u64 0)).setCell ⟨g, 2, none⟩ (.int .u64 ((t : Int) - v))) base g (some ⟨b, o, none⟩) c f L1 (t - v) := by
    refine ⟨?_, ?_⟩
    · have h := (Blk.far (p := ⟨b, o + q, none⟩) (show Blk (w.drewN (n0 + 1)) g 28 #[.int .i64 f, .slice (some ⟨b, o, none⟩) l.length c, .int .u64 (t : Int)] from HH.out.1) hne2 (.int .u64 0)).put 2 (.int .u64 ((t : Int) - v))
      rw [HL2.out, show ((t - v : Nat) : Int) = (t : Int) - v by omega]
      exact h
    · have h : OwnO ((w.drewN (n0 + 1)).setCell ⟨b, o + q, none⟩ (.int .u64 0)) base 26 (some ⟨b, o, none⟩) l.length c ((u64s l).set q (.int .u64 0)) := OwnO.stored (show OwnO (w.drewN (n0 + 1)) base 26 (some ⟨b, o, none⟩) l.length c (u64s l) from HH.out.2) q HQL.out _
      rw [HL2.out, HU.out]
      exact h.setOther (p := ⟨g, 2, none⟩) (by intro e; exact hne (by simpa [blockOf] using e)) _
  have honly : Only (fun i => i = g ∨ blockOf (some (⟨b, o, none⟩ : Addr)) = some i) w (((w.drewN (n0 + 1)).setCell ⟨b, o + q, none⟩ (.int .u64 0)).setCell ⟨g, 2, none⟩ (.int .u64 ((t : Int) - v))) :=
    (((Only.refl _ w).drewN _).set (.inl (.inr rfl)) _).set (.inl (.inl rfl)) _
  have hwsz : (((w.drewN (n0 + 1)).setCell ⟨b, o + q, none⟩ (.int .u64 0)).setCell ⟨g, 2, none⟩ (.int .u64 ((t : Int) - v))).heap.size = w.heap.size := by simp [World.setCell]
  have hlc : L1.length = l.length := HL2.out
  rw [← hlc]
  generalize ((w.drewN (n0 + 1)).setCell ⟨b, o + q, none⟩ (.int .u64 0)).setCell ⟨g, 2, none⟩ (.int .u64 ((t : Int) - v)) = W2 at *
  have HS := Lib.hid hsto
  have HO := Lib.hid honly
  have HWZ := Lib.hid hwsz
  have hlm : L1.length ≤ 8192 := by omega
  have HLM := Lib.hid hlm
  have HI := fun W h => index_t (some ⟨b, o, none⟩) c W2.heap.size L1 W h (by omega)
  have d0 := hsto.c0
  have d1 := hsto.c1
  have fr0 := hsto.1.free 0
  have fr1 := hsto.1.free 1
  clear hsto honly hwsz hlm c0 c1 c2 g0 g1 g2 dq fq hqm hq0 hsub hcc hbv hlc
  by_cases hz : nz L1 < L1.length
  · rw [show nzi L1 = ((nz L1 : Nat) : Int) by unfold nzi; rw [if_pos hz]] at HI
    have HRE := Lib.hid (show R = (f + nz L1, (L1.take (tl L1)).drop (nz L1), t - v) by rw [HRR.out, if_pos hz])
    have hz2 : ((nz L1 : Nat) : Int) < (L1.length : Int) := by omega
    have htl := tl_pos hz
    have htle := tl_le L1
    have hlen1 : (L1.length : Int) ≤ 8192 := by have := HLM.out; omega
    have hf2 : f + (L1.length : Int) ≤ 1048577 := by have := HL2.out; omega
    obtain ⟨i, hie⟩ : ∃ i, i = nz L1 := ⟨_, rfl⟩
    rw [← hie] at HI hz2 htl
    have hi0 : (0 : Int) ≤ (i : Int) := by omega
    have hlc : (L1.length : Int) ≤ (c : Int) := by
      rcases HS.out.2.2 with ⟨hA, _⟩ | ⟨_, _, _, _, _, _, hnc, _⟩
      · cases hA
      · omega
    have s1 : IntKind.i64.wrap (f + (i : Int)) = f + i := IntWalk.i64_in _ ⟨by omega, by omega⟩
    replace HI := Lib.hid HI
    have HIE := Lib.hid hie
    have HTL := Lib.hid htl
    have HTE := Lib.hid htle
    have hid : decide ((i : Int) < 0) = false := by simp
    have hic : (i : Int) < (c : Int) := by omega
    have hicn : ¬ c = i := by omega
    have hicn2 : i ≤ L1.length := by omega
    have hicn3 : i ≤ c := by omega
    clear hz hie htl htle
    refine (HI.out _ HS.out.2.reads).mono ?_
    rintro e w1 ⟨rfl, rfl⟩
    go_wp2_with fail
    go_region
    have hs3 : Sto ((w1.setCell ⟨g, 0, none⟩ (.int .i64 (f + i))).setCell ⟨g, 1, none⟩ (.slice (some ⟨b, o + i, none⟩) (L1.length - i) (c - i))).drew base g (some ⟨b, o + i, none⟩) (c - i) (f + i) (L1.drop i) (t - v) := by
      have hbk : blockOf (some (⟨b, o + i, none⟩ : Addr)) ≠ some g := by intro e; exact hne (by simpa [blockOf] using e)
      refine ⟨?_, ?_⟩
      · have h := (HS.out.1.put 0 (.int .i64 (f + i))).put 1 (.slice (some ⟨b, o + i, none⟩) (L1.length - i) (c - i))
        rw [List.length_drop]
        exact h
      · have h := HS.out.2.from i hicn2
        rw [List.length_drop, show u64s (L1.drop i) = (u64s L1).drop i by simp [u64s]]
        exact (h.setOther hbk _).setOther hbk _
    have ho3 : Only (fun i => i = g ∨ blockOf (some (⟨b, o, none⟩ : Addr)) = some i) w ((w1.setCell ⟨g, 0, none⟩ (.int .i64 (f + i))).setCell ⟨g, 1, none⟩ (.slice (some ⟨b, o + i, none⟩) (L1.length - i) (c - i))).drew := ((HO.out.set (.inl (.inl rfl)) _).set (.inl (.inl rfl)) _).drew
    generalize ((w1.setCell ⟨g, 0, none⟩ (.int .i64 (f + i))).setCell ⟨g, 1, none⟩ (.slice (some ⟨b, o + i, none⟩) (L1.length - i) (c - i))).drew = W3 at *
    have HS3 := Lib.hid hs3
    have HO3 := Lib.hid ho3
    have HIC := Lib.hid hicn2
    have HIC3 := Lib.hid hicn3
    have hcm : ((c - i : Nat) : Int) = (c : Int) - i := by omega
    have HCM := Lib.hid hcm
    obtain ⟨cc, hcc⟩ : ∃ cc, cc = c - i := ⟨_, rfl⟩
    have HCC := Lib.hid hcc
    rw [← hcc] at HS3
    clear hs3 ho3 d0 d1 fr0 fr1 s1 hic hicn hicn2 hicn3 hcm hcc
    go_wp2_with fail
    go_loopg [] L1.length (fun gk wr => ∃ m : Nat, m = gk ∧ tl L1 ≤ m ∧ m ≤ L1.length ∧ Sto wr base g (some ⟨b, o + i, none⟩) cc (f + i) ((L1.take m).drop i) (t - v) ∧ Only (fun i => i = g ∨ blockOf (some (⟨b, o, none⟩ : Addr)) = some i) w wr)
    case atStart => exact ⟨L1.length, rfl, HTE.out, Nat.le_refl _, by rw [List.take_length]; exact HS3.out, HO3.out⟩
    case round =>
      obtain ⟨m, rfl, hm1, hm2, hst, hon⟩ := hrel
      have htl := HTL.out
      have hlm : ((L1.take m).drop i).length = m - i := by simp only [List.length_drop, List.length_take]; omega
      have hu1 : ((L1.take m).drop i).getD (m - i - 1) 0 = L1.getD (m - 1) 0 := by rw [getD_drop, getD_take, if_pos (by omega), show i + (m - i - 1) = m - 1 by omega]
      have hgt := u64s_get (l := (L1.take m).drop i) (i := m - i - 1) (by omega)
      rw [hu1] at hgt
      obtain ⟨b2, o2, hA2, _, _, hn2, hcells2, hfree2⟩ := hst.2.form (by omega)
      obtain ⟨rfl, rfl⟩ : b2 = b ∧ o2 = o + i := by
        simp only [Option.some.injEq, Addr.mk.injEq] at hA2
        exact ⟨hA2.1.symm, hA2.2.1.symm⟩
      have dl := hcells2 _ _ hgt
      have e1 := hst.c1
      have fr1 := hst.1.free 1
      rw [hlm] at e1 hn2
      obtain ⟨n, hne3⟩ : ∃ n, n = m - i - 1 := ⟨_, rfl⟩
      rw [show m - i = n + 1 by omega] at e1 hn2
      rw [← hne3] at dl
      have hn0 : (0 : Int) ≤ (n : Int) := by omega
      have hnc : (n : Int) < (cc : Int) := by omega
      have hn8 : (n : Int) ≤ 8192 := by have := HLM.out; omega
      have z1 : IntKind.i64.wrap (((n + 1 : Nat) : Int) - 1) = (n : Int) := by rw [show ((n + 1 : Nat) : Int) - 1 = (n : Int) by omega]; exact IntWalk.i64_in _ ⟨by omega, by omega⟩
      have z2 : IntKind.i64.wrap ((n : Int) + 1 - 1) = (n : Int) := by rw [show (n : Int) + 1 - 1 = (n : Int) by omega]; exact IntWalk.i64_in _ ⟨by omega, by omega⟩
      have hnlt : (n : Int) < (n : Int) + 1 := by omega
      have HST := Lib.hid hst
      have HON := Lib.hid hon
      have HM1 := Lib.hid hm1
      have HM2 := Lib.hid hm2
      have HLMM := Lib.hid hlm
      have HNE := Lib.hid hne3
      have hov : tl L1 < m → L1.getD (m - 1) 0 = 0 := fun h => tl_over (by omega)
      have hat : tl L1 = m → L1.getD (m - 1) 0 ≠ 0 := fun h => by have := tl_at (l := L1) (by omega); rw [h] at this; exact this
      have HOV := Lib.hid hov
      have HAT := Lib.hid hat
      clear hst hon hgt hu1 hcells2 hfree2 hA2 hn2 hne3 hov hat
      generalize L1.getD (m - 1) 0 = y at *
      by_cases hmt : tl L1 < m
      · have hy := HOV.out hmt
        have HY := Lib.hid hy
        have HMT := Lib.hid hmt
        clear hy hmt hm1 hm2 htl hlm
        go_wp2_with fail
        go_quiet ((go_at_call 27; exact Calls.quiet_of_same (some_no y _ HY.out)))
        go_wp2_with fail
        go_region
        have hbk : blockOf (some (⟨b2, o + i, none⟩ : Addr)) ≠ some g := by intro e; exact hne (by simpa [blockOf] using e)
        have hmt := HMT.out
        have htl := HTL.out
        have hm2 := HM2.out
        have hne4 := HNE.out
        have hlist : ((L1.take m).drop i).take n = (L1.take (m - 1)).drop i := by
          rw [List.take_drop, List.take_take, show min (i + n) m = m - 1 by omega]
        have hln : ((L1.take (m - 1)).drop i).length = n := by simp only [List.length_drop, List.length_take]; omega
        have hs4 : Sto ((wr.drewN nq).setCell ⟨g, 1, none⟩ (.slice (some ⟨b2, o + i, none⟩) n cc)).drew base g (some ⟨b2, o + i, none⟩) cc (f + i) ((L1.take (m - 1)).drop i) (t - v) := by
          refine ⟨?_, ?_⟩
          · have h := HST.out.1.put 1 (.slice (some ⟨b2, o + i, none⟩) n cc)
            rw [hln]
            exact h
          · have h := HST.out.2.upto n (by have := HLMM.out; omega)
            rw [hln, ← hlist, show u64s (((L1.take m).drop i).take n) = (u64s ((L1.take m).drop i)).take n by simp [u64s, List.map_take]]
            exact h.setOther hbk _
        have HS4 := Lib.hid hs4
        clear hs4 hbk hlist hln hmt hm2 hne4 htl
        go_wp2_with fail
        go_roundg (m - 1)
        case measure => have h1 := HMT.out; omega
        case rel => exact ⟨m - 1, rfl, by have h1 := HMT.out; omega, by have h1 := HM2.out; omega, HS4.out, ((HON.out.drewN nq).set (.inl (.inl rfl)) _).drew⟩
      · have hmt2 : tl L1 = m := by omega
        have hy := HAT.out hmt2
        have HY := Lib.hid hy
        have HMT := Lib.hid hmt2
        clear hy hmt hmt2 hm1 hm2 htl hlm
        go_wp2_with fail
        go_quiet ((go_at_call 27; exact Calls.quiet_of_same (some_yes y _ HY.out)))
        go_wp2_with fail
        go_ret
        rw [HRE.out]
        refine ⟨rfl, some ⟨b2, o + i, none⟩, cc, ?_, fun b' hb' => .inl hb', HON.out.drewN nq⟩
        simp only
        rw [HMT.out, ← HIE.out]
        exact HST.out
  · rw [show nzi L1 = -1 by unfold nzi; rw [if_neg hz]] at HI
    have HRE := Lib.hid (show R = (0, [], 0) by rw [HRR.out, if_neg hz])
    replace HI := Lib.hid HI
    have HCL := fun W h => clear_t g (some ⟨b, o, none⟩) c base f L1 (t - v) W h
    replace HCL := Lib.hid HCL
    clear hz
    refine (HI.out _ HS.out.2.reads).mono ?_
    rintro e w1 ⟨rfl, rfl⟩
    go_wp2_with fail
    refine (HCL.out _ HS.out).mono ?_
    rintro e w2 ⟨rfl, A2, c2, hs2, hl2, ho2⟩
    have HS2 := Lib.hid hs2
    have HL2 := Lib.hid hl2
    have HO2 := Lib.hid ho2
    clear hs2 hl2 ho2
    go_wp2_with fail
    go_ret
    rw [HRE.out]
    refine ⟨rfl, A2, c2, HS2.out, fun b' hb' => ?_, HO.out.step HO2.out (fun i h => .inl h)⟩
    rcases HL2.out b' hb' with h | h
    · exact .inl h
    · exact .inr (by have := HWZ.out; omega)
end Go.Proofs.Ytknimekfkkihpaa
