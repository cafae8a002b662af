/- Match: the document's Find walked. -/
import Derived.Test.YtcfmfhkajngknaaMatchI
namespace Go.Proofs.Ytcfmfhkajngknaa
open Go.RowKit
open Mt
theorem own_drewN {w : World} {base : Nat} {e : TypeId} {size : Nat} {A : Option Addr} {n c : Nat} {xs : List Value} (h : Own w base e size A n c xs) (q : Nat) : Own (w.drewN q) base e size A n c xs := h
def RFindPost (w : World) (l : List UInt8) (e : Ending) (w' : World) : Prop := ∃ A c, e = .returned (.slice A (toks l 0).length c) ∧ OwnT w' w.heap.size A c (toks l 0) ∧ Below w.heap.size w w'
set_option maxHeartbeats 3200000 in
theorem rfind_t (A : Option Addr) (c : Nat) (l : List UInt8) (w : World) (hb : Bts w w.heap.size A l) (hm : l.length ≤ 1048576) :
    Calls Try.prog 13 #[.slice A l.length c] w (RFindPost w l) := by
  have HB := Lib.hid hb
  clear hb
  go_enter Try.func13, Try.ntmps13
  go_wp2_with fail
  go_loopw [3, 4] (fun v u wr => ∃ (k : Nat) (A2 : Option Addr) (c2 : Nat) (L : List Tk), k ≤ l.length ∧ u = .int .i64 (k : Int) ∧ v = .slice A2 L.length c2 ∧ L ++ toks l k = toks l 0 ∧ L.length ≤ k ∧ OwnT wr w.heap.size A2 c2 L ∧ Below w.heap.size w wr) (fun _ u _ => l.length - (intOf u).toNat)
  case atStart => exact ⟨0, none, 0, [], Nat.zero_le _, rfl, rfl, rfl, Nat.le_refl _, Own.nil _ _ _ _, Below.refl _ _⟩
  case round =>
    obtain ⟨k, A2, c2, L, hk, rfl, rfl, htk, hLk, hown, hbel⟩ := hrel
    obtain ⟨wo, rfl⟩ : ∃ wo : World, wo = wr := ⟨_, rfl⟩
    by_cases hlt : k < l.length
    · have hki : (k : Int) < (l.length : Int) := by omega
      have HBT := Lib.hid (HB.out.at_below hbel)
      have HO := Lib.hid hown
      have HW := Lib.hid hbel
      have HK := Lib.hid hlt
      have HTK := Lib.hid htk
      have HLK := Lib.hid hLk
      clear hown hbel hlt htk hLk hk
      go_wp2_with fail
      go_loopw [5, 6, 7] (fun u5 u6 u7 wr => ∃ (m : Nat) (t : Nat × Nat) (q : Nat), m ≤ k ∧ u5 = .int .i64 (t.1 : Int) ∧ u6 = .int .i64 (t.2 : Int) ∧ u7 = .int .i64 ((m : Int) - 1) ∧ Best l k (fun p => m ≤ p ∧ p < k) t ∧ k ≤ m + 32768 ∧ t.1 ≤ 258 ∧ wr = wo.drewN q) (fun _ _ u7 _ => (intOf u7 + 1).toNat)
      case atStart => exact ⟨k, (0, 0), 0, Nat.le_refl _, rfl, rfl, rfl, best_none l k, by omega, by simp, rfl⟩
      case round =>
        obtain ⟨m, t, q, hmk, rfl, rfl, rfl, hbt, hwin, ht258, rfl⟩ := hrel
        rcases m with _ | j
        · have hbest := best_out hbt hwin (.inl rfl)
          obtain ⟨iv, hiv⟩ : ∃ iv : Int, iv = ((0 : Nat) : Int) - 1 := ⟨_, rfl⟩
          rw [← hiv]
          have hd : decide (0 ≤ iv) = false := by rw [hiv]; rfl
          clear hiv hbt hwin hmk
          have HB2 := Lib.hid hbest
          by_cases h3 : 3 ≤ t.1
          · have htok := HB2.out
            rw [if_pos h3] at htok
            have hmk : mk l k = (0, t.1, t.2) := by
              unfold mk
              rw [htok, if_neg (by omega)]
            have hto := tok_to l HK.out
            rw [htok] at hto
            have h3i : (3 : Int) ≤ (t.1 : Int) := by omega
            have HTK2 : Hid ((L ++ [((0 : UInt8), t.1, t.2)]) ++ toks l (k + t.1) = toks l 0) := Lib.hid (by
              have := HTK.out
              rw [toks_step HK.out, hmk, htok, show max 1 t.1 = t.1 by omega] at this
              rw [← this]
              simp)
            have hkt : k + t.1 ≤ l.length := by omega
            have HS : Hid (L.length + 1 ≤ k + t.1) := Lib.hid (by have := HLK.out; omega)
            clear htok hmk hto h3
            go_wp2_with (at_builtin; refine Hid.out ?_)
            have hO2 := Own.alloc (own_drewN HO.out q) (.cells #[.int .u8 0, .int .i64 (t.1 : Int), .int .i64 (t.2 : Int)] 28)
            have hW2 := newB (below_drewN HW.out q) (.cells #[.int .u8 0, .int .i64 (t.1 : Int), .int .i64 (t.2 : Int)] 28)
            refine wpList_app (xs := tcs L) rfl rfl elem_tok rfl hO2 rfl (tok_new (wo.drewN q) (0, t.1, t.2)) (tcs_one _) (L.length + 1) rfl (tcs (L ++ [((0 : UInt8), t.1, t.2)])) (tcs_append _ _).symm (by have := HLK.out; have := HK.out; unfold maxLen; omega) (by have := HLK.out; have := HK.out; omega) hW2.size ?_
            intro A3 c3 w3 o3 g3 q3
            have HO3 : Hid (OwnT w3 w.heap.size A3 c3 (L ++ [((0 : UInt8), t.1, t.2)])) := Lib.hid (by unfold OwnT; rw [List.length_append]; exact o3)
            have HW3 := Lib.hid (appB hW2 hO2 g3 (Nat.le_refl _) hW2.size)
            clear hO2 hW2 o3 g3 q3
            go_wp2_with fail
            go_roundw
            case rel => exact ⟨k + t.1, A3, c3, _, hkt, by go_num, by simp, HTK2.out, by have := HS.out; simpa using this, HO3.out, HW3.out⟩
            case measure => have := HK.out; simp [intOf]; omega
          · have htok := HB2.out
            rw [if_neg h3] at htok
            have hmk : mk l k = (l.getD k 0, 0, 0) := by
              unfold mk
              rw [htok, if_pos rfl]
            have h3i : ¬ (3 : Int) ≤ (t.1 : Int) := by omega
            obtain ⟨b, o, hA, hbl, hcell⟩ := HB.out.at_ (by have := HK.out; omega)
            have hc := hcell k HK.out
            have hce := (HW.out.cell (p := ⟨b, o + k, none⟩) hbl).trans hc
            have hgd : l.getD k 0 = l[k]'HK.out := by
              have := HK.out
              simp [List.getD, this]
            rw [← hgd] at hce
            have HTK2 : Hid ((L ++ [(l.getD k 0, 0, 0)]) ++ toks l (k + 1) = toks l 0) := Lib.hid (by
              have := HTK.out
              rw [toks_step HK.out, hmk, htok, show k + max 1 (0, 0).1 = k + 1 by rfl] at this
              rw [← this]
              simp)
            have HS : Hid (L.length + 1 ≤ k + 1) := Lib.hid (by have := HLK.out; omega)
            generalize l.getD k 0 = x at *
            subst hA
            clear htok hmk h3 hc hcell hgd
            go_wp2_with (at_builtin; refine Hid.out ?_)
            have hO2 := Own.alloc (own_drewN HO.out q) (.cells #[.int .u8 (x.toNat : Int), .int .i64 0, .int .i64 0] 28)
            have hW2 := newB (below_drewN HW.out q) (.cells #[.int .u8 (x.toNat : Int), .int .i64 0, .int .i64 0] 28)
            refine wpList_app (xs := tcs L) rfl rfl elem_tok rfl hO2 rfl (tok_new (wo.drewN q) (x, 0, 0)) (tcs_one _) (L.length + 1) rfl (tcs (L ++ [(x, 0, 0)])) (tcs_append _ _).symm (by have := HLK.out; have := HK.out; unfold maxLen; omega) (by have := HLK.out; have := HK.out; omega) hW2.size ?_
            intro A3 c3 w3 o3 g3 q3
            have HO3 : Hid (OwnT w3 w.heap.size A3 c3 (L ++ [(x, 0, 0)])) := Lib.hid (by unfold OwnT; rw [List.length_append]; exact o3)
            have HW3 := Lib.hid (appB hW2 hO2 g3 (Nat.le_refl _) hW2.size)
            clear hO2 hW2 o3 g3 q3
            go_wp2_with fail
            go_roundw
            case rel => exact ⟨k + 1, A3, c3, _, HK.out, by go_num, by simp, HTK2.out, by have := HS.out; simpa using this, HO3.out, HW3.out⟩
            case measure => have := HK.out; simp [intOf]; omega
        · rw [show ((j + 1 : Nat) : Int) - 1 = (j : Int) by omega]
          have hd : decide (0 ≤ (j : Int)) = true := by simp
          have j0 : (0 : Int) ≤ (j : Int) := by omega
          obtain ⟨qq, hqq⟩ : ∃ qq : Nat, (qq : Int) = (k : Int) - (j : Int) := ⟨k - j, by omega⟩
          have e2 : IntKind.i64.wrap ((k : Int) - (j : Int)) = (qq : Int) := by rw [hqq]; exact IntWalk.i64_in _ ⟨by omega, by omega⟩
          have hjk : (j : Int) < (k : Int) := by omega
          by_cases h32 : 32768 < qq
          · have hbest := best_out hbt hwin (.inr (by omega))
            have h32d : decide (qq ≤ 32768) = false := by simp; omega
            have h32i : ¬ (qq : Int) ≤ 32768 := by omega
            clear hqq h32 hbt hwin hmk
            have HB2 := Lib.hid hbest
            by_cases h3 : 3 ≤ t.1
            · have htok := HB2.out
              rw [if_pos h3] at htok
              have hmk : mk l k = (0, t.1, t.2) := by
                unfold mk
                rw [htok, if_neg (by omega)]
              have hto := tok_to l HK.out
              rw [htok] at hto
              have h3i : (3 : Int) ≤ (t.1 : Int) := by omega
              have HTK2 : Hid ((L ++ [((0 : UInt8), t.1, t.2)]) ++ toks l (k + t.1) = toks l 0) := Lib.hid (by
                have := HTK.out
                rw [toks_step HK.out, hmk, htok, show max 1 t.1 = t.1 by omega] at this
                rw [← this]
                simp)
              have hkt : k + t.1 ≤ l.length := by omega
              have HS : Hid (L.length + 1 ≤ k + t.1) := Lib.hid (by have := HLK.out; omega)
              clear htok hmk hto h3
              go_wp2_with (at_builtin; refine Hid.out ?_)
              have hO2 := Own.alloc (own_drewN HO.out q) (.cells #[.int .u8 0, .int .i64 (t.1 : Int), .int .i64 (t.2 : Int)] 28)
              have hW2 := newB (below_drewN HW.out q) (.cells #[.int .u8 0, .int .i64 (t.1 : Int), .int .i64 (t.2 : Int)] 28)
              refine wpList_app (xs := tcs L) rfl rfl elem_tok rfl hO2 rfl (tok_new (wo.drewN q) (0, t.1, t.2)) (tcs_one _) (L.length + 1) rfl (tcs (L ++ [((0 : UInt8), t.1, t.2)])) (tcs_append _ _).symm (by have := HLK.out; have := HK.out; unfold maxLen; omega) (by have := HLK.out; have := HK.out; omega) hW2.size ?_
              intro A3 c3 w3 o3 g3 q3
              have HO3 : Hid (OwnT w3 w.heap.size A3 c3 (L ++ [((0 : UInt8), t.1, t.2)])) := Lib.hid (by unfold OwnT; rw [List.length_append]; exact o3)
              have HW3 := Lib.hid (appB hW2 hO2 g3 (Nat.le_refl _) hW2.size)
              clear hO2 hW2 o3 g3 q3
              go_wp2_with fail
              go_roundw
              case rel => exact ⟨k + t.1, A3, c3, _, hkt, by go_num, by simp, HTK2.out, by have := HS.out; simpa using this, HO3.out, HW3.out⟩
              case measure => have := HK.out; simp [intOf]; omega
            · have htok := HB2.out
              rw [if_neg h3] at htok
              have hmk : mk l k = (l.getD k 0, 0, 0) := by
                unfold mk
                rw [htok, if_pos rfl]
              have h3i : ¬ (3 : Int) ≤ (t.1 : Int) := by omega
              obtain ⟨b, o, hA, hbl, hcell⟩ := HB.out.at_ (by have := HK.out; omega)
              have hc := hcell k HK.out
              have hce := (HW.out.cell (p := ⟨b, o + k, none⟩) hbl).trans hc
              have hgd : l.getD k 0 = l[k]'HK.out := by
                have := HK.out
                simp [List.getD, this]
              rw [← hgd] at hce
              have HTK2 : Hid ((L ++ [(l.getD k 0, 0, 0)]) ++ toks l (k + 1) = toks l 0) := Lib.hid (by
                have := HTK.out
                rw [toks_step HK.out, hmk, htok, show k + max 1 (0, 0).1 = k + 1 by rfl] at this
                rw [← this]
                simp)
              have HS : Hid (L.length + 1 ≤ k + 1) := Lib.hid (by have := HLK.out; omega)
              generalize l.getD k 0 = x at *
              subst hA
              clear htok hmk h3 hc hcell hgd
              go_wp2_with (at_builtin; refine Hid.out ?_)
              have hO2 := Own.alloc (own_drewN HO.out q) (.cells #[.int .u8 (x.toNat : Int), .int .i64 0, .int .i64 0] 28)
              have hW2 := newB (below_drewN HW.out q) (.cells #[.int .u8 (x.toNat : Int), .int .i64 0, .int .i64 0] 28)
              refine wpList_app (xs := tcs L) rfl rfl elem_tok rfl hO2 rfl (tok_new (wo.drewN q) (x, 0, 0)) (tcs_one _) (L.length + 1) rfl (tcs (L ++ [(x, 0, 0)])) (tcs_append _ _).symm (by have := HLK.out; have := HK.out; unfold maxLen; omega) (by have := HLK.out; have := HK.out; omega) hW2.size ?_
              intro A3 c3 w3 o3 g3 q3
              have HO3 : Hid (OwnT w3 w.heap.size A3 c3 (L ++ [(x, 0, 0)])) := Lib.hid (by unfold OwnT; rw [List.length_append]; exact o3)
              have HW3 := Lib.hid (appB hW2 hO2 g3 (Nat.le_refl _) hW2.size)
              clear hO2 hW2 o3 g3 q3
              go_wp2_with fail
              go_roundw
              case rel => exact ⟨k + 1, A3, c3, _, HK.out, by go_num, by simp, HTK2.out, by have := HS.out; simpa using this, HO3.out, HW3.out⟩
              case measure => have := HK.out; simp [intOf]; omega
          · have h32d : decide (qq ≤ 32768) = true := by simp; omega
            have h32i : (qq : Int) ≤ 32768 := by omega
            have hnb := best_down hbt (by omega)
            have hkq : k - j = qq := by omega
            have h258 := sm_le l 258 j k
            have HSM := rsame_t A c l j k (wo.drewN q) HBT.out (by omega) (by omega) HK.out
            rw [hkq] at hnb
            have HMK : Hid (k ≤ j + 32768 ∧ j ≤ k) := Lib.hid (by omega)
            generalize sm l j k 258 = n at *
            have HS := Lib.hid HSM
            have HNB := Lib.hid hnb
            clear HSM hnb hkq h32 hqq hbt hwin hmk
            by_cases hgt : t.1 < n
            · have HNB2 := HNB.out
              rw [if_pos hgt] at HNB2
              replace HNB2 := Lib.hid HNB2
              go_wp2_with fail
              refine HS.out.mono ?_
              rintro e w2 ⟨rfl, nq, rfl⟩
              go_wp2_with fail
              go_roundw
              case rel => exact ⟨j, (n, qq), q + nq, HMK.out.2, rfl, rfl, rfl, HNB2.out, HMK.out.1, h258, rfl⟩
              case measure => simp [intOf]
            · have HNB2 := HNB.out
              rw [if_neg hgt] at HNB2
              replace HNB2 := Lib.hid HNB2
              go_wp2_with fail
              refine HS.out.mono ?_
              rintro e w2 ⟨rfl, nq, rfl⟩
              go_wp2_with fail
              go_roundw
              case rel => exact ⟨j, t, q + nq, HMK.out.2, rfl, rfl, rfl, HNB2.out, HMK.out.1, ht258, rfl⟩
              case measure => simp [intOf]
    · obtain rfl : l.length = k := by omega
      rw [toks_end (Nat.le_refl _), List.append_nil] at htk
      subst htk
      clear hLk hk hlt
      go_wp2_with fail
      go_ret
      exact ⟨A2, c2, rfl, hown, hbel⟩
end Go.Proofs.Ytcfmfhkajngknaa
