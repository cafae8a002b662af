/- Wire: the reference's Put and Same walked; WirePuts walked. -/
import Derived.Test.YtfeoalimkolebaaWireR
import Derived.Test.YtfeoalimkolebaaOpen
namespace Go.Proofs.Ytfeoalimkolebaa
open Go.RowKit
open Wi
theorem one_any {x : Nat} {f : Frm} (hf : frms[fi x]? = some f) (n : Nat) (w : World) (hn : n < 18446744073709551616) :
    Calls Try.prog 20 #[.int .u8 (x : Int), .int .u64 (n : Int)] w (OnePost w (fitsF f n) (encF f n)) := by
  have h1 := frm_letter hf
  have h2 := frm_mem hf
  have h8 : decide (n < 256 ^ 8) = true := decide_eq_true (by omega)
  subst h1
  simp only [frms, List.mem_cons, List.not_mem_nil, or_false] at h2
  rcases h2 with rfl | rfl | rfl | rfl | rfl | rfl | rfl | rfl | rfl | rfl
  · exact one_low 98 n 1 w rfl (by decide) (by decide) hn
  · exact one_low 104 n 2 w rfl (by decide) (by decide) hn
  · exact one_high 72 n 2 w rfl (by decide) (by decide) hn
  · exact one_low 119 n 4 w rfl (by decide) (by decide) hn
  · exact one_high 87 n 4 w rfl (by decide) (by decide) hn
  · have h := one_low 113 n 8 w rfl (by decide) (by decide) hn
    rw [h8] at h
    exact h
  · have h := one_high 81 n 8 w rfl (by decide) (by decide) hn
    rw [h8] at h
    exact h
  · exact one_leb n w hn
  · exact one_zig n w hn
  · exact one_nine n w hn
set_option maxRecDepth 100000 in
set_option maxHeartbeats 3200000 in
theorem rput_t (a : ByteArray) (A0 : Option Addr) (c0 : Nat) (l : List Nat) (w : World) (hb : Us w w.heap.size A0 l) (hl : l.length ≤ 1000000) (ha : a.size ≤ 1000000) (hn : ∀ n ∈ l, n < 18446744073709551616) :
    Calls Try.prog 10 #[.string a, .slice A0 l.length c0] w (PutPost w (putW a.data.toList l)) := by
  have hs : a.data.toList.length = a.size := by simp
  have HRT := Lib.hid (fun W => rright_t a W (by omega))
  by_cases hR : rightB a.data.toList = true
  · rw [hR] at HRT
    by_cases hlen : a.size = l.length
    · have hall : a.data.toList.all okL = true := by
        unfold rightB at hR
        rw [Bool.and_eq_true] at hR
        exact hR.2
      have hai : (a.size : Int) ≤ 1000000 := by omega
      have e1 : ((a.size : Int) != (l.length : Int)) = false := by simp; omega
      have e2 : (a.size != l.length) = false := by simp; omega
      have e3 : ((a.size : Int) == (l.length : Int)) = true := by simp; omega
      have e4 : (a.size == l.length) = true := by simp; omega
      obtain ⟨R, hRe⟩ : ∃ R, R = putW a.data.toList l := ⟨_, rfl⟩
      rw [← hRe]
      have HRE : Hid (R = putL a.data.toList l []) := Lib.hid (by rw [hRe, putW, if_pos ⟨hR, by omega⟩])
      have HA := Lib.hid hall
      have HS := Lib.hid hs
      have HB := Lib.hid hb
      have HN := Lib.hid hn
      have HL := Lib.hid hlen
      have HA6 := Lib.hid ha
      have HLI : Hid ((l.length : Int) ≤ 1000000) := Lib.hid (by omega)
      clear hRe hR hall hs hb hn hlen ha
      go_enter Try.func10, Try.ntmps10
      go_wp2_with fail
      refine (HRT.out _).mono ?_
      rintro e w1 ⟨rfl, rfl⟩
      go_wp2_with fail
      clear e1 e2 e3 e4
      go_loopw [6, 7] (fun b v wr => ∃ (i : Nat) (S : List UInt8) (A : Option Addr) (c : Nat), b = .slice A S.length c ∧ v = .int .i64 (i : Int) ∧ i ≤ l.length ∧ S.length ≤ 10 * i ∧ R = putL (a.data.toList.drop i) (l.drop i) S ∧ OwnB wr w.heap.size A c S ∧ Below w.heap.size w wr) (fun _ v _ => l.length - (intOf v).toNat)
      case atStart => exact ⟨0, [], none, 0, rfl, rfl, Nat.zero_le _, Nat.zero_le _, HRE.out, Own.nil _ _ _ _, Below.refl _ _⟩
      case round =>
        obtain ⟨i, S, A, c, rfl, rfl, hi, hS, hRi, ho, hbel⟩ := hrel
        obtain ⟨wo, rfl⟩ : ∃ wo : World, wo = wr := ⟨_, rfl⟩
        have HO := Lib.hid ho
        have HBE := Lib.hid hbel
        have HRI := Lib.hid hRi
        clear ho hbel hRi
        by_cases hlt : i < l.length
        · have hii : (i : Int) < (l.length : Int) := by omega
          have hii2 : decide (i < l.length) = true := by simp; omega
          have hia : i < a.size := by have := HL.out; omega
          have hia2 : (i : Int) < (a.size : Int) := by omega
          have hi0 : (0 : Int) ≤ (i : Int) := by omega
          obtain ⟨b, o, hA0, hbB, hcl⟩ := Us.at_ (show Us wo w.heap.size A0 l from Reads.keep HB.out fun q hq => HBE.out.cell hq) (by omega)
          subst hA0
          obtain ⟨n, hnn⟩ : ∃ n, l[i]? = some n := ⟨_, List.getElem?_eq_getElem hlt⟩
          have d0 := hcl i n hnn
          have hn64 := HN.out n (List.mem_of_getElem? hnn)
          obtain ⟨f, hf⟩ := ok_at HA.out hia
          have hRn : R = if fitsF f n then putL (a.data.toList.drop (i + 1)) (l.drop (i + 1)) (S ++ encF f n) else (5, []) := by
            obtain ⟨h1, h2⟩ := List.getElem?_eq_some_iff.1 hnn
            rw [HRI.out, drop_str hia, List.drop_eq_getElem_cons h1, h2, putL, hf]
          have HEL := Lib.hid (enc_len hf hn64)
          have HONE := Lib.hid (fun W => one_any hf n W hn64)
          have HRN := Lib.hid hRn
          have HI := Lib.hid hlt
          have hbw : b < wo.drew.heap.size := Nat.lt_of_lt_of_le hbB HBE.out.size
          have hil : (i : Int) < 1000000 := by have := HLI.out; omega
          clear hcl hnn hRn hf hn64 hi
          go_wp2_with fail
          refine wp_region_noPanic ?_
          refine wp_region_held_drew (S := (fun W' => W'.cell? ⟨b, o + i, none⟩ = some (.int .u64 (n : Int)))) (by kernel_rfl) (by simpa using d0) (fun hHeld => ?_)
          refine wpAnyH_take (i := 0) (oi := ?_) (v := ?_) ?_ ?_ ?_ ?_ ?_ ?_ ?_ ?_
          rotate_left 2
          · simp only [List.getElem?_toArray, List.getElem?_cons_zero]; rfl
          · kernel_rfl
          · kernel_rfl
          · kernel_rfl
          · exact fun _ _ _ h => h
          · exact Or.inl ⟨by kernel_rfl, by intro w hSw; (try dsimp only at hSw); go_simp; try with_reducible rfl⟩
          · assumption
          try go_simp
          refine wpAnyH_take (i := 1) (oi := ?_) (v := ?_) ?_ ?_ ?_ ?_ ?_ ?_ ?_ ?_
          rotate_left 2
          · simp only [List.getElem?_toArray, List.getElem?_cons_succ, List.getElem?_cons_zero]; rfl
          · kernel_rfl
          · kernel_rfl
          · kernel_rfl
          · exact fun _ _ _ h => h
          · exact Or.inl ⟨by kernel_rfl, by intro w hSw; (try dsimp only at hSw); go_simp; try with_reducible rfl⟩
          · assumption
          try go_simp
          refine wpAnyH_take (i := 2) (oi := ?_) (v := ?_) ?_ ?_ ?_ ?_ ?_ ?_ ?_ ?_
          rotate_left 2
          · simp only [List.getElem?_toArray, List.getElem?_cons_succ, List.getElem?_cons_zero]; rfl
          · kernel_rfl
          · kernel_rfl
          · kernel_rfl
          · exact fun _ _ _ h => h
          · exact Or.inl ⟨by kernel_rfl, by intro w hSw; (try dsimp only at hSw); go_simp; try with_reducible rfl⟩
          · assumption
          try go_simp
          refine wpAnyH_take (i := 3) (oi := ?_) (v := ?_) ?_ ?_ ?_ ?_ ?_ ?_ ?_ ?_
          rotate_left 2
          · simp only [List.getElem?_toArray, List.getElem?_cons_succ, List.getElem?_cons_zero]; rfl
          · kernel_rfl
          · kernel_rfl
          · kernel_rfl
          · exact fun _ _ _ h => h
          · exact Or.inl ⟨by kernel_rfl, by intro w hSw; (try dsimp only at hSw); go_simp; try with_reducible rfl⟩
          · assumption
          try go_simp
          refine wpAnyH_take (i := 4) (oi := ?_) (v := ?_) ?_ ?_ ?_ ?_ ?_ ?_ ?_ ?_
          rotate_left 2
          · simp only [List.getElem?_toArray, List.getElem?_cons_succ, List.getElem?_cons_zero]; rfl
          · kernel_rfl
          · kernel_rfl
          · kernel_rfl
          · exact fun _ _ _ h => h
          · exact Or.inl ⟨by kernel_rfl, by intro w hSw; (try dsimp only at hSw); go_simp; try with_reducible rfl⟩
          · assumption
          try go_simp
          refine wpAnyH_take (i := 5) (oi := ?_) (v := ?_) ?_ ?_ ?_ ?_ ?_ ?_ ?_ ?_
          rotate_left 2
          · simp only [List.getElem?_toArray, List.getElem?_cons_succ, List.getElem?_cons_zero]; rfl
          · kernel_rfl
          · kernel_rfl
          · kernel_rfl
          · exact fun _ _ _ h => h
          · exact Or.inl ⟨by kernel_rfl, by intro w hSw; (try dsimp only at hSw); go_simp; try with_reducible rfl⟩
          · assumption
          try go_simp
          refine wpAnyH_take (i := 6) (oi := ?_) (v := ?_) ?_ ?_ ?_ ?_ ?_ ?_ ?_ ?_
          rotate_left 2
          · simp only [List.getElem?_toArray, List.getElem?_cons_succ, List.getElem?_cons_zero]; rfl
          · kernel_rfl
          · kernel_rfl
          · kernel_rfl
          · exact fun _ _ _ h => h
          · exact Or.inl ⟨by kernel_rfl, by intro w hSw; (try dsimp only at hSw); go_simp; try with_reducible rfl⟩
          · assumption
          try go_simp
          refine wpAnyH_ready (rs := [7]) (by kernel_rfl) (by simp) ?_
          refine AllReadyH.cons (o := ?_) ?_ ?_ AllReadyH.nil
          rotate_left 1
          · simp only [List.getElem?_toArray, List.getElem?_cons_succ, List.getElem?_cons_zero]; rfl
          intro K hK
          go_simp
          refine (HONE.out wo.drew).mono ?_
          rintro e w3 ⟨A3, c3, rfl, h3, hb3⟩
          have f0 : w3.cell? ⟨b, o + i, none⟩ = some (.int .u64 (n : Int)) := (hb3.cell (p := ⟨b, o + i, none⟩) hbw).trans d0
          have HB3 := Lib.hid (nextB (show Below w.heap.size w wo.drew from below_drewN HBE.out 1) hb3)
          have HO3 := Lib.hid h3
          have hO2 := Own.below (show Own wo.drew w.heap.size 5 1 A S.length c (bvs S) from HO.out) hb3
          have HO2 := Lib.hid hO2
          clear h3 hb3 hO2
          refine hK.out _ _ ?_ (fun hHeld => ?_)
          · exact f0
          clear hK K
          try go_simp
          refine wpAnyH_take (i := 8) (oi := ?_) (v := ?_) ?_ ?_ ?_ ?_ ?_ ?_ ?_ ?_
          rotate_left 2
          · simp only [List.getElem?_toArray, List.getElem?_cons_succ, List.getElem?_cons_zero]; rfl
          · kernel_rfl
          · kernel_rfl
          · kernel_rfl
          · exact fun _ _ _ h => h
          · exact Or.inl ⟨by kernel_rfl, by intro w hSw; (try dsimp only at hSw); go_simp; try with_reducible rfl⟩
          · assumption
          try go_simp
          refine wpAnyH_take (i := 9) (oi := ?_) (v := ?_) ?_ ?_ ?_ ?_ ?_ ?_ ?_ ?_
          rotate_left 2
          · simp only [List.getElem?_toArray, List.getElem?_cons_succ, List.getElem?_cons_zero]; rfl
          · kernel_rfl
          · kernel_rfl
          · kernel_rfl
          · exact fun _ _ _ h => h
          · exact Or.inl ⟨by kernel_rfl, by intro w hSw; (try dsimp only at hSw); go_simp; try with_reducible rfl⟩
          · assumption
          try go_simp
          refine wpAnyH_take (i := 10) (oi := ?_) (v := ?_) ?_ ?_ ?_ ?_ ?_ ?_ ?_ ?_
          rotate_left 2
          · simp only [List.getElem?_toArray, List.getElem?_cons_succ, List.getElem?_cons_zero]; rfl
          · kernel_rfl
          · kernel_rfl
          · kernel_rfl
          · exact fun _ _ _ h => h
          · exact Or.inl ⟨by kernel_rfl, by intro w hSw; (try dsimp only at hSw); go_simp; try with_reducible rfl⟩
          · assumption
          try go_simp
          refine wpAnyH_take (i := 11) (oi := ?_) (v := ?_) ?_ ?_ ?_ ?_ ?_ ?_ ?_ ?_
          rotate_left 2
          · simp only [List.getElem?_toArray, List.getElem?_cons_succ, List.getElem?_cons_zero]; rfl
          · kernel_rfl
          · kernel_rfl
          · kernel_rfl
          · exact fun _ _ _ h => h
          · exact Or.inl ⟨by kernel_rfl, by intro w hSw; (try dsimp only at hSw); go_simp; try with_reducible rfl⟩
          · assumption
          try go_simp
          refine wpAnyH_take (i := 12) (oi := ?_) (v := ?_) ?_ ?_ ?_ ?_ ?_ ?_ ?_ ?_
          rotate_left 2
          · simp only [List.getElem?_toArray, List.getElem?_cons_succ, List.getElem?_cons_zero]; rfl
          · kernel_rfl
          · kernel_rfl
          · kernel_rfl
          · exact fun _ _ _ h => h
          · exact Or.inl ⟨by kernel_rfl, by intro w hSw; (try dsimp only at hSw); go_simp; try with_reducible rfl⟩
          · assumption
          try go_simp
          refine wpAnyH_done (by kernel_rfl) ?_ _
          refine NoPanic.normal ?_
          cases hfit : fitsF f n with
          | false =>
            have HX : Hid (R = (5, [])) := Lib.hid (by rw [HRN.out, hfit]; rfl)
            clear hfit
            go_wp2_with fail
            go_ret2
            rw [HX.out]
            exact ⟨none, 0, rfl, Own.nil _ _ _ _, HB3.out⟩
          | true =>
            have HX : Hid (R = putL (a.data.toList.drop (i + 1)) (l.drop (i + 1)) (S ++ encF f n)) := Lib.hid (by rw [HRN.out, hfit]; rfl)
            have hel : S.length + (encF f n).length ≤ 10000010 := by have := HEL.out; have := HLI.out; omega
            have HEL2 := Lib.hid (HEL.out)
            clear hfit
            generalize encF f n = E at *
            go_wp2_with (at_builtin; refine Hid.out ?_)
            refine wpList_app (xs := bvs S) rfl rfl elem_u8 rfl HO2.out rfl (OwnB.reads HO3.out) (bvs_one _) (S.length + E.length) rfl (bvs (S ++ E)) (bvs_append _ _).symm (by unfold maxLen; omega) (by omega) HB3.out.size ?_
            intro A4 c4 w4 o4 g4 q4
            have HB4 := Lib.hid (appB HB3.out HO2.out g4 (Nat.le_refl _) HB3.out.size)
            have HO4 : Hid (OwnB w4 w.heap.size A4 c4 (S ++ E)) := Lib.hid (by unfold OwnB; rw [List.length_append]; exact o4)
            clear o4 g4 q4
            go_wp2_with fail
            go_roundw
            case rel => exact ⟨i + 1, S ++ E, A4, c4, by simp, by go_num, HI.out, by have := HEL2.out; rw [List.length_append]; omega, HX.out, HO4.out, HB4.out⟩
            case measure => have := HI.out; simp [intOf]; omega
        · have hge : ¬ (i : Int) < (l.length : Int) := by omega
          have hge2 : decide (i < l.length) = false := by simp; omega
          have hX : R = (0, S) := by
            rw [HRI.out, List.drop_of_length_le (by rw [HS.out]; have := HL.out; omega), List.drop_of_length_le (by omega)]
            rfl
          have HX := Lib.hid hX
          clear hi hlt hX
          go_wp2_with fail
          go_ret2
          rw [HX.out]
          exact ⟨A, c, rfl, HO.out, HBE.out⟩
    · have e1 : ((a.size : Int) != (l.length : Int)) = true := by simp; omega
      have e2 : (a.size != l.length) = true := by simp; omega
      have e3 : ((a.size : Int) == (l.length : Int)) = false := by simp; omega
      have e4 : (a.size == l.length) = false := by simp; omega
      have hg : putW a.data.toList l = (22, []) := by unfold putW; rw [if_neg]; omega
      rw [hg]
      clear hR hg hs hb hn hlen ha
      go_enter Try.func10, Try.ntmps10
      go_wp2_with fail
      refine (HRT.out _).mono ?_
      rintro e w1 ⟨rfl, rfl⟩
      go_wp2_with fail
      go_ret2
      exact ⟨none, 0, rfl, Own.nil _ _ _ _, Below.refl _ _⟩
  · have hR2 : rightB a.data.toList = false := by simpa using hR
    have hg : putW a.data.toList l = (22, []) := by unfold putW; rw [if_neg (by rw [hR2]; simp)]
    rw [hg]
    rw [hR2] at HRT
    clear hR hR2 hg hs hb hn ha
    go_enter Try.func10, Try.ntmps10
    go_wp2_with fail
    refine (HRT.out _).mono ?_
    rintro e w1 ⟨rfl, rfl⟩
    go_wp2_with fail
    go_ret2
    exact ⟨none, 0, rfl, Own.nil _ _ _ _, Below.refl _ _⟩
theorem u64_list {zs : List Int} (z : ∀ x ∈ zs, 0 ≤ x ∧ x ≤ 18446744073709551615) : ∃ ns : List Nat, zs = ns.map (fun n : Nat => (n : Int)) ∧ ∀ n ∈ ns, n < 18446744073709551616 := by
  induction zs with
  | nil => exact ⟨[], rfl, by simp⟩
  | cons x zs ih =>
    obtain ⟨ns, h1, h2⟩ := ih (fun y hy => z y (List.mem_cons_of_mem _ hy))
    obtain ⟨hx0, hx1⟩ := z x (by simp)
    refine ⟨x.toNat :: ns, by rw [h1, List.map_cons]; congr 1; omega, fun n hn => ?_⟩
    rcases List.mem_cons.1 hn with rfl | hn
    · omega
    · exact h2 n hn
theorem u64_arg {w : World} {A : Option Addr} {l : List Int} (z : ∀ n ∈ l, (Lit.int .u64 n).wf = true) (s : Reads w w.heap.size 1 A l.length (l.map (intv .u64))) :
    ∃ ns : List Nat, ns.length = l.length ∧ Us w w.heap.size A ns ∧ ∀ n ∈ ns, n < 18446744073709551616 := by
  obtain ⟨ns, rfl, h⟩ := u64_list (zs := l) (fun x hx => WfBounds.u64 (z x hx))
  refine ⟨ns, by simp, ?_, h⟩
  unfold Us uvs uv
  rw [List.length_map, List.map_map] at s
  exact s
set_option maxHeartbeats 1600000 in
theorem puts_no (w : World) (a : ByteArray) (A : Option Addr) (c n : Nat) (h : 200 < a.size ∨ 200 < n) :
    Calls Try.prog 3 #[.string a, .slice A n c] w fun e w' => e = .returned (.bool true) ∧ Below w.heap.size w w' := by
  have hdd : (decide ((200 : Int) < (a.size : Int)) = true) ∨ (decide ((200 : Int) < (a.size : Int)) = false ∧ decide ((200 : Int) < (n : Int)) = true) := by
    by_cases h1 : 200 < a.size
    · exact .inl (by simp; omega)
    · exact .inr ⟨by simp; omega, by simp; omega⟩
  clear h
  rcases hdd with hd | ⟨hd, hd2⟩
  all_goals
    go_enter Try.func3, Try.ntmps3
    go_wp2_with fail
    refine (alive_t _).mono ?_
    rintro e w1 ⟨rfl, hb1⟩
    go_wp2_with fail
    go_ret
    exact ⟨rfl, hb1⟩
set_option maxHeartbeats 1600000 in
theorem wirePuts_walk (w : World) (a : ByteArray) (_h0 : a.size ≤ maxLen) (A : Option Addr) (c : Nat) (l : List Int) (_hl : l.length ≤ maxLen) (_hc : l.length ≤ c) (z : ∀ n ∈ l, (Lit.int .u64 n).wf = true) (s : Reads w w.heap.size 1 A l.length (l.map (intv .u64))) :
    Calls Try.prog 3 #[.string a, .slice A l.length c] w fun e w' => e = .returned (.bool true) ∧ Below w.heap.size w w' := by
  by_cases h : 200 < a.size ∨ 200 < l.length
  · exact puts_no w a A c l.length h
  · obtain ⟨ns, hlen, hu, hn⟩ := u64_arg z s
    rw [← hlen] at h ⊢
    have hd1 : decide ((200 : Int) < (a.size : Int)) = false := by simp; omega
    have hd2 : decide ((200 : Int) < (ns.length : Int)) = false := by simp; omega
    have HU := Lib.hid hu
    have HP := Lib.hid (fun W hb => put_t a A c ns W hb (by omega) hn)
    have HR := Lib.hid (fun W hb => rput_t a A c ns W hb (by omega) (by omega) hn)
    clear h hlen z s hu hn _h0 _hl _hc
    generalize putW a.data.toList ns = r at *
    obtain ⟨re, rb⟩ := r
    go_enter Try.func3, Try.ntmps3
    go_wp2_with fail
    refine (alive_t _).mono ?_
    rintro e w1 ⟨rfl, hb1⟩
    have HB1 := Lib.hid hb1
    clear hb1
    go_wp2_with fail
    refine (HP.out _ (HU.out.at_below HB1.out)).mono ?_
    rintro e w2 ⟨A2, c2, rfl, h2, hb2⟩
    have HB2 := Lib.hid (nextB HB1.out hb2)
    have HO2 := Lib.hid h2
    clear h2 hb2
    dsimp only
    go_wp2_with fail
    refine (HR.out _ (HU.out.at_below HB2.out)).mono ?_
    rintro e w3 ⟨A3, c3, rfl, h3, hb3⟩
    have HB3 := Lib.hid (nextB HB2.out hb3)
    have s1 : (convert 24 9 (.slice A2 rb.length c2)).run Try.prog w3 = .ok (.string (str rb)) w3 := run_str Try.underlying24 Try.underlying5 Try.underlying9 ((OwnB.reads HO2.out).at_below hb3)
    have s2 : (convert 24 9 (.slice A3 rb.length c3)).run Try.prog w3 = .ok (.string (str rb)) w3 := run_str Try.underlying24 Try.underlying5 Try.underlying9 (OwnB.reads h3)
    clear h3 hb3
    dsimp only
    go_wp2_with fail
    go_ret
    exact ⟨rfl, HB3.out⟩
end Go.Proofs.Ytfeoalimkolebaa
