/- MatchFar walked: what stands farther back than 32768 bytes isn't told again. -/
import Derived.Test.YtcfmfhkajngknaaMatchFinds
import Derived.Test.YtcfmfhkajngknaaMatchFarP
namespace Go.Proofs.Ytcfmfhkajngknaa
open Go.RowKit
open Mt
theorem toks_back {b : List UInt8} : ∀ a, a ≤ b.length → ∀ t ∈ toks b a, t.2.2 ≤ 32768 :=
  toks_ind (P := fun a => ∀ t ∈ toks b a, t.2.2 ≤ 32768) (by rw [toks_end (Nat.le_refl _)]; intro t h; cases h) fun a h ih => by
    rw [toks_step h]
    intro t ht
    rcases List.mem_cons.1 ht with rfl | ht
    · rw [mk_back]
      rcases tok_len b a with h1 | h1 <;> omega
    · exact ih t ht
/-- The text with its like far behind. -/
def farT (l : List UInt8) (M : Nat) : List UInt8 := l ++ List.replicate M 7 ++ l
theorem farT_length (l : List UInt8) (M : Nat) : (farT l M).length = l.length + M + l.length := by simp [farT]; omega
theorem farT_1 (l : List UInt8) (M : Nat) : ∀ i : Nat, i < l.length → (farT l M)[i]? = l[i]? := fun i hi => by
  unfold farT
  rw [List.append_assoc, List.getElem?_append_left hi]
theorem farT_2 (l : List UInt8) (M : Nat) : ∀ i : Nat, l.length ≤ i → i < l.length + M → (farT l M)[i]? = some 7 := fun i h1 h2 => by
  unfold farT
  rw [List.append_assoc, List.getElem?_append_right h1, List.getElem?_append_left (by simp; omega), List.getElem?_replicate, if_pos (by omega)]
theorem farT_3 (l : List UInt8) (M : Nat) : ∀ i : Nat, (farT l M)[l.length + M + i]? = l[i]? := fun i => by
  unfold farT
  rw [List.getElem?_append_right (by simp)]
  simp
/-- The last token of it. -/
theorem far_end {l : List UInt8} {M : Nat} (h3 : 3 ≤ l.length) (h40 : l.length ≤ 40) (hM : 32768 ≤ l.length + M) (h7 : ∀ i : Nat, l[i]? ≠ some 7) : ∃ t, (toks (farT l M) 0)[(toks (farT l M) 0).length - 1]? = some t ∧ 1 ≤ (toks (farT l M) 0).length ∧ (l.length + M = 32768 → t = (0, l.length, 32768)) ∧ (32768 < l.length + M → t.2.2 ≤ l.length) := by
  obtain ⟨pre, hpre⟩ := far_pre (b := l) (T := farT l M) (s := l.length + M) h3 h40 hM (farT_length l M) (farT_1 l M) (farT_2 l M) (farT_3 l M) h7 _ 0 (Nat.zero_le _) (Nat.le_refl _)
  have hlt : l.length + M < (farT l M).length := by rw [farT_length]; omega
  have hst := toks_step hlt
  have hne : (toks (farT l M) (l.length + M)) ≠ [] := by rw [hst]; simp
  have hlast : (toks (farT l M) 0).getLast? = (toks (farT l M) (l.length + M)).getLast? := by
    rw [hpre, List.getLast?_append]
    cases h : (toks (farT l M) (l.length + M)).getLast? with
    | none => exact absurd (List.getLast?_eq_none_iff.1 h) hne
    | some t => rfl
  have hne0 : toks (farT l M) 0 ≠ [] := by
    rw [hpre]
    intro e
    exact hne (List.append_eq_nil_iff.1 e).2
  have hpos : 1 ≤ (toks (farT l M) 0).length := List.length_pos_iff.2 hne0
  refine ⟨(toks (farT l M) 0)[(toks (farT l M) 0).length - 1]'(by omega), List.getElem?_eq_getElem (by omega), hpos, fun h0 => ?_, fun h0 => ?_⟩
  · rw [far_at h3 h40 (farT_length l M) (farT_1 l M) (farT_2 l M) (farT_3 l M) h7 h0] at hlast
    rw [List.getLast?_eq_getElem?, List.getElem?_eq_getElem (by omega)] at hlast
    exact Option.some.inj hlast
  · refine far_last (b := l) (T := farT l M) (s := l.length + M) h3 h40 (farT_length l M) (farT_2 l M) (farT_3 l M) h7 h0 (l.length + M) (by omega) (Nat.le_refl _) _ ?_
    rw [← hlast, List.getLast?_eq_getElem?, List.getElem?_eq_getElem (by omega)]
    rfl
theorem far_no (w : World) (A : Option Addr) (c : Nat) (l : List UInt8) (a : Int) (h : l.length < 3 ∨ 40 < l.length) :
    Calls Try.prog 6 #[.slice A l.length c, .int .u16 a] w fun e w' => e = .returned (.bool true) ∧ Below w.heap.size w w' := by
  rcases h with h | h
  · have h0 : decide ((l.length : Int) < 3) = true := by simp; omega
    clear h
    go_enter Try.func6, Try.ntmps6
    go_wp2_with fail
    refine (alive_t _).mono ?_
    rintro e w1 ⟨rfl, hb1⟩
    go_wp2_with fail
    go_ret
    exact ⟨rfl, hb1⟩
  · have h0 : decide ((l.length : Int) < 3) = false := by simp; omega
    have h1 : decide ((40 : Int) < (l.length : Int)) = true := by simp; omega
    clear h
    go_enter Try.func6, Try.ntmps6
    go_wp2_with fail
    refine (alive_t _).mono ?_
    rintro e w1 ⟨rfl, hb1⟩
    go_wp2_with fail
    go_ret
    exact ⟨rfl, hb1⟩
set_option maxHeartbeats 6400000 in
set_option maxRecDepth 100000 in
theorem far_yes (w : World) (A : Option Addr) (c : Nat) (l : List UInt8) (n : Nat) (h1 : 3 ≤ l.length) (h2 : l.length ≤ 40) (s : Bts w w.heap.size A l) (hn : n ≤ 65535) :
    Calls Try.prog 6 #[.slice A l.length c, .int .u16 (n : Int)] w fun e w' => e = .returned (.bool true) ∧ Below w.heap.size w w' := by
  have g0 : ¬ (l.length : Int) < 3 := by omega
  have g1 : ¬ (40 : Int) < (l.length : Int) := by omega
  obtain ⟨k, hk⟩ : ∃ k, k = n % 9 := ⟨_, rfl⟩
  have hk9 : k < 9 := by omega
  have ek : (n : Int) % 9 = (k : Int) := by omega
  obtain ⟨M, hM⟩ : ∃ M : Nat, (M : Int) = 32768 - (l.length : Int) + (k : Int) := ⟨32768 - l.length + k, by omega⟩
  have eM : IntKind.i64.wrap (32768 - (l.length : Int) + (k : Int)) = (M : Int) := by rw [hM]; exact IntWalk.i64_in _ ⟨by omega, by omega⟩
  have HMM : Hid (l.length + M = 32768 + k) := Lib.hid (by omega)
  have hM2 : M ≤ 32800 := by omega
  have HS := Lib.hid s
  clear s hk hM
  go_enter Try.func6, Try.ntmps6
  go_wp2_with fail
  refine (alive_t _).mono ?_
  rintro e w1 ⟨rfl, hb1⟩
  have HB1 := Lib.hid hb1
  clear hb1
  go_wp2_with (at_builtin; refine Hid.out ?_)
  have hO1 : Own (w1.alloc (.cells #[] 5)) w1.heap.size 5 1 (some ⟨w1.heap.size, 0, none⟩) 0 0 [] := Own.made w1 _ _ _ #[] 0 (Nat.le_refl _) (Nat.zero_le _) rfl
  have hW1 : Below w1.heap.size w1 (w1.alloc (.cells #[] 5)) := (Below.refl _ _).alloc (Nat.le_refl _) _
  have hS1 := (HS.out.at_below HB1.out).at_below hW1
  refine wpList_app (xs := []) rfl rfl elem_byte rfl hO1 rfl hS1 (bvs_one _) l.length (Nat.zero_add _) (bvs l) rfl (by unfold maxLen; omega) (by omega) hW1.size ?_
  intro A2 c2 w2 o2 g2 q2
  have HO2 : Hid (OwnB w2 w1.heap.size A2 c2 l) := Lib.hid o2
  have HW2 := Lib.hid (appB hW1 hO1 g2 (Nat.le_refl _) hW1.size)
  clear hO1 hW1 hS1 o2 g2 q2
  go_wp2_with fail
  go_loopw [5, 6] (fun v u wr => ∃ (i : Nat) (A2 : Option Addr) (c2 : Nat) (S : List UInt8), i ≤ M ∧ u = .int .i64 (i : Int) ∧ v = .slice A2 S.length c2 ∧ S = l ++ List.replicate i 7 ∧ S.length = l.length + i ∧ OwnB wr w1.heap.size A2 c2 S ∧ Below w1.heap.size w1 wr) (fun _ u _ => M - (intOf u).toNat)
  case atStart => exact ⟨0, A2, c2, l, Nat.zero_le _, rfl, rfl, by simp, rfl, HO2.out, HW2.out⟩
  case round =>
    obtain ⟨i, A2, c2, S, hi, rfl, rfl, hS, hSl, hown, hbel⟩ := hrel
    obtain ⟨wo, rfl⟩ : ∃ wo : World, wo = wr := ⟨_, rfl⟩
    by_cases hlt : i < M
    · have hii : (i : Int) < (M : Int) := by omega
      have hsl : S.length ≤ 33000 := by omega
      have HO := Lib.hid hown
      have HW := Lib.hid hbel
      have HI := Lib.hid hlt
      have HSS := Lib.hid hS
      have HSL := Lib.hid hSl
      clear hown hbel hlt hi hS hSl
      go_wp2_with (at_builtin; refine Hid.out ?_)
      have hO3 := Own.alloc (show Own wo w1.heap.size 5 1 A2 S.length c2 (bvs S) from HO.out) (.cells #[.int .u8 7] 5)
      have hW3 := newB HW.out (.cells #[.int .u8 7] 5)
      refine wpList_app (xs := bvs S) rfl rfl elem_byte rfl hO3 rfl (byte_new wo 7) (bvs_one _) (S.length + 1) rfl (bvs (S ++ [7])) (bvs_append _ _).symm (by unfold maxLen; omega) (by omega) hW3.size ?_
      intro A4 c4 w4 o4 g4 q4
      have HO4 : Hid (OwnB w4 w1.heap.size A4 c4 (S ++ [7])) := Lib.hid (by unfold OwnB; rw [List.length_append]; exact o4)
      have HW4 := Lib.hid (appB hW3 hO3 g4 (Nat.le_refl _) hW3.size)
      clear hO3 hW3 o4 g4 q4
      go_wp2_with fail
      go_roundw
      case rel => exact ⟨i + 1, A4, c4, S ++ [7], HI.out, by go_num, by simp, by rw [HSS.out, List.replicate_succ']; simp, by have := HSL.out; simp; omega, HO4.out, HW4.out⟩
      case measure => have := HI.out; simp [intOf]; omega
    · obtain rfl : M = i := by omega
      have HO := Lib.hid hown
      have HW := Lib.hid hbel
      have HSS := Lib.hid hS
      have HSL := Lib.hid hSl
      have hsl : S.length ≤ 33000 := by omega
      have hMi : ¬ (M : Int) < (M : Int) := by omega
      clear hown hbel hlt hi hS hSl
      go_wp2_with fail
      go_loop [7] (fun u => ∃ i : Nat, i ≤ l.length ∧ u = .int .i64 (i : Int) ∧ ∀ j, j < i → l[j]? ≠ some 7) (fun u => l.length - (intOf u).toNat)
      case atStart => exact ⟨0, Nat.zero_le _, rfl, fun j h => absurd h (Nat.not_lt_zero _)⟩
      case round =>
        obtain ⟨i, hi, rfl, h7⟩ := hrel
        by_cases hlt : i < l.length
        · obtain ⟨b, o, hA, hbl, hcell⟩ := HS.out.at_ (by omega)
          have hc := hcell i hlt
          have hgd : l[i]? = some l[i] := List.getElem?_eq_getElem hlt
          generalize l[i] = x at *
          subst hA
          have hce := ((HB1.out.trans (HW.out.mono HB1.out.size)).cell (p := ⟨b, o + i, none⟩) hbl).trans hc
          have hii : (i : Int) < (l.length : Int) := by omega
          have HI := Lib.hid hlt
          have H7 := Lib.hid h7
          have HGD := Lib.hid hgd
          by_cases hx : x = 7
          · have ex : ((x.toNat : Int) == 7) = true := by rw [hx]; rfl
            clear hx hlt hi hc hcell h7 hgd
            go_wp2_with fail
            go_ret
            exact ⟨rfl, HB1.out.trans (HW.out.mono HB1.out.size)⟩
          · have ex : ((x.toNat : Int) == 7) = false := by
              have : x.toNat ≠ 7 := fun e => hx (UInt8.toNat_inj.1 e)
              simp
              omega
            have HX := Lib.hid hx
            clear hx hlt hi hc hcell h7 hgd
            go_wp2_with fail
            go_round
            case rel => exact ⟨i + 1, HI.out, by go_num, fun j hj => by
              rcases Nat.lt_or_ge j i with h | h
              · exact H7.out j h
              · obtain rfl : j = i := by omega
                rw [HGD.out]
                intro e
                exact HX.out (Option.some.inj e)⟩
            case measure => have := HI.out; simp [intOf]; omega
        · obtain rfl : l.length = i := by omega
          have h7' : ∀ j : Nat, l[j]? ≠ some 7 := fun j => by
            rcases Nat.lt_or_ge j l.length with h | h
            · exact h7 j h
            · rw [List.getElem?_eq_none h]; simp
          have hTe : S ++ l = farT l M := by rw [HSS.out]; rfl
          have hTl : (farT l M).length = S.length + l.length := by rw [← hTe]; simp
          have HFE := Lib.hid (far_end (M := M) h1 h2 (by have := HMM.out; omega) h7')
          have HTE := Lib.hid hTe
          have HTL := Lib.hid hTl
          clear hi hlt h7 h7' hTe hTl
          go_wp2_with (at_builtin; refine Hid.out ?_)
          have hO3 : Own wo w1.heap.size 5 1 A2 S.length c2 (bvs S) := HO.out
          have hS3 := HS.out.at_below (HB1.out.trans (HW.out.mono HB1.out.size))
          refine wpList_app (xs := bvs S) rfl rfl elem_byte rfl hO3 rfl hS3 (bvs_one _) (S.length + l.length) rfl (bvs (farT l M)) (by rw [← HTE.out, bvs_append]) (by unfold maxLen; omega) (by omega) HW.out.size ?_
          intro A4 c4 w4 o4 g4 q4
          have HW4 := Lib.hid (HB1.out.trans ((appB HW.out hO3 g4 (Nat.le_refl _) HW.out.size).mono HB1.out.size))
          rw [← HTL.out] at o4 ⊢
          have hc4 := own_cap o4
          have hTm : (farT l M).length ≤ 33100 := by rw [HTL.out]; omega
          generalize farT l M = T at *
          have HO4 := Lib.hid (OwnB.reads (show OwnB w4 w1.heap.size A4 c4 T from o4))
          clear hO3 hS3 o4 g4 q4
          go_wp2_with fail
          refine (find_t A4 c4 T _ HO4.out (by omega) hc4).mono ?_
          rintro e w5 ⟨A5, c5, rfl, ho5, hb5⟩
          have hlen := toks_length (b := T) 0 (Nat.zero_le _)
          have hri := toks_right (b := T) (by omega) 0 (Nat.zero_le _)
          have hte := toks_tell (b := T) 0 (Nat.zero_le _)
          have HBK := Lib.hid (toks_back (b := T) 0 (Nat.zero_le _))
          rw [List.take_zero] at hri hte
          generalize toks T 0 = L at *
          have HTEL := Lib.hid (fun W h => tell_t A5 c5 L W h (by omega) hri)
          rw [hte] at HTEL
          have HO5 := Lib.hid (OwnT.reads ho5)
          have HB5 := Lib.hid (nextB HW4.out hb5)
          have HT5 := Lib.hid (HO4.out.at_below hb5)
          clear ho5 hb5 hte hri HO4
          go_wp2_with fail
          refine (HTEL.out _ HO5.out).mono ?_
          rintro e w6 ⟨A6, c6, rfl, ho6, hb6⟩
          have HO6 := Lib.hid (HO5.out.at_below hb6)
          have HQ6 := Lib.hid (OwnB.reads ho6)
          have HB6 := Lib.hid (nextB HB5.out hb6)
          have HT6 := Lib.hid (HT5.out.at_below hb6)
          clear ho6 hb6 HO5 HT5 HTEL
          go_wp2_with fail
          go_loop [11] (fun u => ∃ i : Nat, i ≤ L.length ∧ u = .int .i64 (i : Int)) (fun u => L.length - (intOf u).toNat)
          case atStart => exact ⟨0, Nat.zero_le _, rfl⟩
          case round =>
            obtain ⟨i, hi, rfl⟩ := hrel
            by_cases hlt : i < L.length
            · obtain ⟨t, ht⟩ : ∃ t, L[i]? = some t := ⟨L[i], by simp [hlt]⟩
              obtain ⟨b, o, hA, hbl, hcell⟩ := HO6.out.at_ (by omega)
              obtain ⟨x0, x1, x2⟩ := hcell i _ ht
              have hbk := HBK.out t (List.mem_of_getElem? ht)
              have hbi : ¬ (32768 : Int) < (t.2.2 : Int) := by omega
              subst hA
              have hii : (i : Int) < (L.length : Int) := by omega
              have HI := Lib.hid hlt
              clear hi hlt ht hcell hbk
              go_wp2_with fail
              go_round
              case rel => exact ⟨i + 1, HI.out, by go_num⟩
              case measure => have := HI.out; simp [intOf]; omega
            · obtain rfl : L.length = i := by omega
              obtain ⟨t, ht, hL1, hz, hp⟩ := HFE.out
              obtain ⟨b, o, hA, hbl, hcell⟩ := HO6.out.at_ (by omega)
              obtain ⟨x0, x1, x2⟩ := hcell _ _ ht
              subst hA
              obtain ⟨q, hq⟩ : ∃ q : Nat, (q : Int) = (L.length : Int) - 1 := ⟨L.length - 1, by omega⟩
              have eq1 : IntKind.i64.wrap ((L.length : Int) - 1) = (q : Int) := by rw [hq]; exact IntWalk.i64_in _ ⟨by omega, by omega⟩
              have hqn : L.length - 1 = q := by omega
              rw [hqn] at x0 x1 x2
              have hqL : (q : Int) < (L.length : Int) := by omega
              have HQN : Hid ((q : Int) = (L.length : Int) - 1) := Lib.hid hq
              obtain ⟨t1, t2, t3⟩ := t
              simp only at x0 x1 x2 hz hp
              have HMK := HMM.out
              by_cases hk0 : k = 0
              · have et := hz (by omega)
                injection et with et1 et2
                injection et2 with et2 et3
                subst et1
                subst et2
                subst et3
                have hB7 : Below w6.heap.size w6 (w6.alloc (.cells #[.int .u8 0, .int .i64 (l.length : Int), .int .i64 32768] 28)) := (Below.refl _ _).alloc (Nat.le_refl _) _
                have hs1 : (convert 22 9 (.slice A6 T.length c6)).run Try.prog (w6.alloc (.cells #[.int .u8 0, .int .i64 (l.length : Int), .int .i64 32768] 28)) = .ok (.string (str T)) (w6.alloc (.cells #[.int .u8 0, .int .i64 (l.length : Int), .int .i64 32768] 28)) := text_str rfl (HQ6.out.at_below hB7)
                have hs2 : (convert 22 9 (.slice A4 T.length c4)).run Try.prog (w6.alloc (.cells #[.int .u8 0, .int .i64 (l.length : Int), .int .i64 32768] 28)) = .ok (.string (str T)) (w6.alloc (.cells #[.int .u8 0, .int .i64 (l.length : Int), .int .i64 32768] 28)) := text_str rfl (HT6.out.at_below hB7)
                have b1 : ((k : Int) == 0) = true := by simp; omega
                have b2 : ¬ (0 : Int) < (k : Int) := by omega
                have b3 : decide (0 < k) = false := by simp; omega
                clear hk0 hz hp hq hqn hi hlt ht hcell hL1 hB7 HMK
                go_wp2_with fail
                go_ret
                exact ⟨rfl, newB HB6.out _⟩
              · have et := hp (by omega)
                have hB7 : Below w6.heap.size w6 (w6.alloc (.cells #[.int .u8 (t1.toNat : Int), .int .i64 (t2 : Int), .int .i64 (t3 : Int)] 28)) := (Below.refl _ _).alloc (Nat.le_refl _) _
                have hs1 : (convert 22 9 (.slice A6 T.length c6)).run Try.prog (w6.alloc (.cells #[.int .u8 (t1.toNat : Int), .int .i64 (t2 : Int), .int .i64 (t3 : Int)] 28)) = .ok (.string (str T)) (w6.alloc (.cells #[.int .u8 (t1.toNat : Int), .int .i64 (t2 : Int), .int .i64 (t3 : Int)] 28)) := text_str rfl (HQ6.out.at_below hB7)
                have hs2 : (convert 22 9 (.slice A4 T.length c4)).run Try.prog (w6.alloc (.cells #[.int .u8 (t1.toNat : Int), .int .i64 (t2 : Int), .int .i64 (t3 : Int)] 28)) = .ok (.string (str T)) (w6.alloc (.cells #[.int .u8 (t1.toNat : Int), .int .i64 (t2 : Int), .int .i64 (t3 : Int)] 28)) := text_str rfl (HT6.out.at_below hB7)
                have b1 : ((k : Int) == 0) = false := by simp; omega
                have b2 : (0 : Int) < (k : Int) := by omega
                have b3 : decide (0 < k) = true := by simp; omega
                have b4 : ¬ (l.length : Int) < (t3 : Int) := by omega
                have b5 : decide (l.length < t3) = false := by simp; omega
                clear hk0 hz hp hq hqn hi hlt ht hcell hL1 hB7 HMK et
                go_wp2_with fail
                go_ret
                exact ⟨rfl, newB HB6.out _⟩
theorem matchFar_walk (w : World) (A : Option Addr) (c : Nat) (l : List UInt8) (_m : l.length ≤ maxLen) (_e : l.length ≤ c) (s : Bts w w.heap.size A l) (a : Int) (h0 : 0 ≤ a) (h1 : a ≤ 65535) :
    Calls Try.prog 6 #[.slice A l.length c, .int .u16 a] w fun e w' => e = .returned (.bool true) ∧ Below w.heap.size w w' := by
  by_cases h : l.length < 3 ∨ 40 < l.length
  · exact far_no w A c l a h
  · obtain ⟨n, rfl⟩ := Int.eq_ofNat_of_zero_le h0
    exact far_yes w A c l n (by omega) (by omega) s (by omega)
end Go.Proofs.Ytcfmfhkajngknaa
