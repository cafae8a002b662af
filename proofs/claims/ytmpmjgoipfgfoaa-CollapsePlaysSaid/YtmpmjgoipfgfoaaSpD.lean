/- Sparse: Len, Below, Upto, Cut walked. -/
import Derived.Test.YtmpmjgoipfgfoaaSpC
namespace Go.Proofs.Ytmpmjgoipfgfoaa
open Go.RowKit
open Pl
theorem len_t (g : Nat) (A : Option Addr) (c : Nat) (L : List Pr) (w : World) (h : Lst w g A c L) :
    Calls Try.prog 51 #[.pointer (some ⟨g, 0, none⟩)] w fun e w' => e = .returned (.int .i64 (L.length : Int)) ∧ w = w' := by
  have c0 : w.cell? ⟨g, 0, none⟩ = some (.slice A L.length c) := by rw [h.1.cell]; rfl
  clear h
  go_enter Try.func51, Try.ntmps51
  go_wp2_with fail
  go_ret
  exact ⟨rfl, rfl⟩
set_option maxHeartbeats 1600000 in
theorem below_t (g : Nat) (A : Option Addr) (c : Nat) (L : List Pr) (k : Int) (w : World) (h : Lst w g A c L) (hf : Fine L) :
    Calls Try.prog 52 #[.pointer (some ⟨g, 0, none⟩), .int .i64 k] w fun e w' => e = .returned (.int .u64 (below L k : Nat)) ∧ Below w.heap.size w w' := by
  have HP := Lib.hid (fun kk h0 h1 => place_t g A c L kk w h hf h0 h1)
  have HLO := Lib.hid (fun kk h => lo_clamp hf.keys (k := k) (kk := kk) h)
  have HS := Lib.hid (fun W (hl : Lst W g A c L) => sum_t g A c L (lo L k) W hl hf (lo_le L k))
  have H := Lib.hid h
  rw [below_take hf.srt]
  obtain ⟨S, hS⟩ : ∃ S, S = tot (L.take (lo L k)) := ⟨_, rfl⟩
  rw [← hS] at HS ⊢
  obtain ⟨m, hm⟩ : ∃ m, m = lo L k := ⟨_, rfl⟩
  rw [← hm] at HS HLO
  clear h hf hS hm
  by_cases k1 : 1048577 < k
  · have HP1 := Lib.hid (HP.out 1048577 (by decide) (by decide))
    rw [HLO.out 1048577 (.inr (.inl ⟨by decide, by omega⟩))] at HP1
    have k2 : ¬ k < 1048577 := by omega
    have k3 : ¬ k ≤ 1048577 := by omega
    clear HP HLO
    go_enter Try.func52, Try.ntmps52
    go_wp2_with fail
    refine HP1.out.mono ?_
    rintro e w1 ⟨rfl, hb1⟩
    have HB1 := Lib.hid hb1
    clear hb1
    go_wp2_with fail
    refine (HS.out _ (H.out.below HB1.out)).mono ?_
    rintro e w2 ⟨rfl, hb2⟩
    have HB2 := Lib.hid (nextB HB1.out hb2)
    clear hb2
    go_wp2_with fail
    go_ret
    exact ⟨rfl, HB2.out⟩
  · by_cases k2 : k < -1048576
    · have HP1 := Lib.hid (HP.out (-1048576) (by decide) (by decide))
      rw [HLO.out (-1048576) (.inr (.inr ⟨by decide, by omega⟩))] at HP1
      have k3 : k ≤ 1048577 := by omega
      have k4 : ¬ -1048576 < k := by omega
      have k5 : ¬ -1048576 ≤ k := by omega
      have k6 : k < 1048577 := by omega
      have k7 : k ≤ -1048576 := by omega
      clear HP HLO
      go_enter Try.func52, Try.ntmps52
      go_wp2_with fail
      refine HP1.out.mono ?_
      rintro e w1 ⟨rfl, hb1⟩
      have HB1 := Lib.hid hb1
      clear hb1
      go_wp2_with fail
      refine (HS.out _ (H.out.below HB1.out)).mono ?_
      rintro e w2 ⟨rfl, hb2⟩
      have HB2 := Lib.hid (nextB HB1.out hb2)
      clear hb2
      go_wp2_with fail
      go_ret
      exact ⟨rfl, HB2.out⟩
    · have HP1 := Lib.hid (HP.out k (by omega) (by omega))
      rw [HLO.out k (.inl rfl)] at HP1
      have k3 : k ≤ 1048577 := by omega
      have k5 : -1048576 ≤ k := by omega
      have hmin : min k 1048577 = k := by omega
      have hmax : max k (-1048576) = k := by omega
      clear HP HLO
      go_enter Try.func52, Try.ntmps52
      go_wp2_with fail
      refine HP1.out.mono ?_
      rintro e w1 ⟨rfl, hb1⟩
      have HB1 := Lib.hid hb1
      clear hb1
      go_wp2_with fail
      refine (HS.out _ (H.out.below HB1.out)).mono ?_
      rintro e w2 ⟨rfl, hb2⟩
      have HB2 := Lib.hid (nextB HB1.out hb2)
      clear hb2
      go_wp2_with fail
      go_ret
      exact ⟨rfl, HB2.out⟩
set_option maxHeartbeats 1600000 in
theorem upto_t (g : Nat) (A : Option Addr) (c : Nat) (L : List Pr) (k : Int) (w : World) (h : Lst w g A c L) (hf : Fine L) :
    Calls Try.prog 53 #[.pointer (some ⟨g, 0, none⟩), .int .i64 k] w fun e w' => e = .returned (.int .u64 (below L (k + 1) : Nat)) ∧ Below w.heap.size w w' := by
  have HP := Lib.hid (fun kk h0 h1 => place_t g A c L kk w h hf h0 h1)
  have HLO := Lib.hid (fun kk h => (lo_succ hf.srt kk).symm.trans (lo_clamp hf.keys (k := k + 1) (kk := kk + 1) h))
  have HS := Lib.hid (fun W (hl : Lst W g A c L) => sum_t g A c L (lo L (k + 1)) W hl hf (lo_le L (k + 1)))
  have H := Lib.hid h
  have hle := fun kk => Nat.le_trans (lo_le L kk) hf.len
  have HLE := Lib.hid hle
  rw [below_take hf.srt]
  obtain ⟨S, hS⟩ : ∃ S, S = tot (L.take (lo L (k + 1))) := ⟨_, rfl⟩
  rw [← hS] at HS ⊢
  obtain ⟨m, hm⟩ : ∃ m, m = lo L (k + 1) := ⟨_, rfl⟩
  rw [← hm] at HS HLO
  clear h hf hS hm hle
  by_cases k1 : 1048576 < k
  · have HP1 := Lib.hid (HP.out 1048576 (by decide) (by decide))
    have hq := HLO.out 1048576 (.inr (.inl ⟨by decide, by omega⟩))
    have k2 : ¬ k < 1048576 := by omega
    have k3 : ¬ k ≤ 1048576 := by omega
    have hl1 : (lo L 1048576 : Int) ≤ 100000 := by have := HLE.out (1048576); omega
    clear HP HLO HLE
    generalize lo L (1048576) = q at *
    generalize hasK L (1048576) = b at *
    have HQ := Lib.hid hq
    clear hq
    cases b
    all_goals
      go_enter Try.func53, Try.ntmps53
      go_wp2_with fail
      refine HP1.out.mono ?_
      rintro e w1 ⟨rfl, hb1⟩
      have HB1 := Lib.hid hb1
      clear hb1
      go_wp2_with fail
      have HSM := HS.out _ (H.out.below HB1.out)
      have hqm := HQ.out
      simp at hqm
      rw [← hqm] at HSM
      have HSM2 := Lib.hid HSM
      clear HSM hqm
      refine HSM2.out.mono ?_
      rintro e w2 ⟨rfl, hb2⟩
      have HB2 := Lib.hid (nextB HB1.out hb2)
      clear hb2
      go_wp2_with fail
      go_ret
      exact ⟨rfl, HB2.out⟩
  · by_cases k2 : k < -1048577
    · have HP1 := Lib.hid (HP.out (-1048577) (by decide) (by decide))
      have hq := HLO.out (-1048577) (.inr (.inr ⟨by decide, by omega⟩))
      have k3 : k ≤ 1048576 := by omega
      have k4 : ¬ -1048577 < k := by omega
      have k5 : ¬ -1048577 ≤ k := by omega
      have k6 : k < 1048576 := by omega
      have k7 : k ≤ -1048577 := by omega
      have hl1 : (lo L (-1048577) : Int) ≤ 100000 := by have := HLE.out (-1048577); omega
      clear HP HLO HLE
      generalize lo L (-1048577) = q at *
      generalize hasK L (-1048577) = b at *
      have HQ := Lib.hid hq
      clear hq
      cases b
      all_goals
        go_enter Try.func53, Try.ntmps53
        go_wp2_with fail
        refine HP1.out.mono ?_
        rintro e w1 ⟨rfl, hb1⟩
        have HB1 := Lib.hid hb1
        clear hb1
        go_wp2_with fail
        have HSM := HS.out _ (H.out.below HB1.out)
        have hqm := HQ.out
        simp at hqm
        rw [← hqm] at HSM
        have HSM2 := Lib.hid HSM
        clear HSM hqm
        refine HSM2.out.mono ?_
        rintro e w2 ⟨rfl, hb2⟩
        have HB2 := Lib.hid (nextB HB1.out hb2)
        clear hb2
        go_wp2_with fail
        go_ret
        exact ⟨rfl, HB2.out⟩
    · have HP1 := Lib.hid (HP.out k (by omega) (by omega))
      have hq := HLO.out k (.inl rfl)
      have k3 : k ≤ 1048576 := by omega
      have k5 : -1048577 ≤ k := by omega
      have hmin : min k 1048576 = k := by omega
      have hmax : max k (-1048577) = k := by omega
      have hl1 : (lo L k : Int) ≤ 100000 := by have := HLE.out (k); omega
      clear HP HLO HLE
      generalize lo L (k) = q at *
      generalize hasK L (k) = b at *
      have HQ := Lib.hid hq
      clear hq
      cases b
      all_goals
        go_enter Try.func53, Try.ntmps53
        go_wp2_with fail
        refine HP1.out.mono ?_
        rintro e w1 ⟨rfl, hb1⟩
        have HB1 := Lib.hid hb1
        clear hb1
        go_wp2_with fail
        have HSM := HS.out _ (H.out.below HB1.out)
        have hqm := HQ.out
        simp at hqm
        rw [← hqm] at HSM
        have HSM2 := Lib.hid HSM
        clear HSM hqm
        refine HSM2.out.mono ?_
        rintro e w2 ⟨rfl, hb2⟩
        have HB2 := Lib.hid (nextB HB1.out hb2)
        clear hb2
        go_wp2_with fail
        go_ret
        exact ⟨rfl, HB2.out⟩
end Go.Proofs.Ytmpmjgoipfgfoaa
