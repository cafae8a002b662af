/- Sparse: what a list tells; Cut; walked. -/
import Derived.Test.YtmpmjgoipfgfoaaSpB
namespace Go.Proofs.Ytmpmjgoipfgfoaa
open Go.RowKit
open Pl
theorem clonep_t (A : Option Addr) (c : Nat) (L : List Pr) (w : World) (hb : Prs w w.heap.size A L) (hl : L.length ≤ 1000000) :
    Calls Try.prog 48 #[.slice A L.length c] w (NewPairs L w) := by
  rcases A with _ | a
  · have hl0 : L = [] := by
      rcases Nat.eq_zero_or_pos L.length with h0 | h0
      · exact List.length_eq_zero_iff.1 h0
      · obtain ⟨b, o, e, _⟩ := hb.at_ h0
        cases e
    subst hl0
    have hk : ∀ W : World, (binOp .eql 23 (.slice none 0 c) (.slice none 0 0)).run Try.prog W = .ok (.bool true) W := fun W => Lib.run_eql_slice_nil W 23 38 none 0 c 0 0 Try.underlying23
    simp only [List.length_nil]
    clear hb
    go_enter Try.func48, Try.ntmps48
    go_wp2_with fail
    go_ret
    exact ⟨none, 0, rfl, Own.nil _ _ _ _, Below.refl _ _⟩
  · have hk : ∀ W : World, (binOp .eql 23 (.slice (some a) L.length c) (.slice none 0 0)).run Try.prog W = .ok (.bool false) W := fun W => Lib.run_eql_slice_nil W 23 38 (some a) L.length c 0 0 Try.underlying23
    have HB := Lib.hid hb
    clear hb
    go_enter Try.func48, Try.ntmps48
    go_wp2_with (at_builtin; refine Hid.out ?_)
    have hO1 : Own (w.alloc (.cells #[] 38)) w.heap.size 38 2 (some ⟨w.heap.size, 0, none⟩) 0 0 [] := Own.made w _ _ _ #[] 0 (Nat.le_refl _) (Nat.zero_le _) rfl
    have hW1 : Below w.heap.size w (w.alloc (.cells #[] 38)) := (Below.refl _ _).alloc (Nat.le_refl _) _
    have hS1 := HB.out.at_below hW1
    refine wpList_app (xs := []) rfl rfl elem_pair rfl hO1 rfl hS1 (pcs_one _) L.length (Nat.zero_add _) (pcs L) rfl (by unfold maxLen; omega) (by omega) hW1.size ?_
    intro A2 c2 w2 o2 g2 q2
    have HO2 : Hid (OwnP w2 w.heap.size A2 c2 L) := Lib.hid o2
    have HW2 := Lib.hid (appB hW1 hO1 g2 (Nat.le_refl _) hW1.size)
    clear hO1 hW1 hS1 o2 g2 q2
    go_wp2_with fail
    go_ret
    exact ⟨A2, c2, rfl, HO2.out, HW2.out⟩
theorem pairs_t (g : Nat) (A : Option Addr) (c : Nat) (L : List Pr) (w : World) (h : Lst w g A c L) (hf : Fine L) :
    Calls Try.prog 35 #[.pointer (some ⟨g, 0, none⟩)] w (NewPairs L w) := by
  have c0 : w.cell? ⟨g, 0, none⟩ = some (.slice A L.length c) := by rw [h.1.cell]; rfl
  have HC := Lib.hid (clonep_t A c L w (OwnP.reads h.2) (by have := hf.len; omega))
  clear h hf
  go_enter Try.func35, Try.ntmps35
  go_wp2_with fail
  refine HC.out.mono ?_
  rintro e w1 ⟨A1, c1, rfl, h1, h2⟩
  have H1 := Lib.hid h1
  have H2 := Lib.hid h2
  clear h1 h2
  go_wp2_with fail
  go_ret
  exact ⟨A1, c1, rfl, H1.out, H2.out⟩
theorem total_t (g : Nat) (A : Option Addr) (c : Nat) (L : List Pr) (w : World) (h : Lst w g A c L) :
    Calls Try.prog 26 #[.pointer (some ⟨g, 0, none⟩)] w fun e w' => e = .returned (.int .u64 (tot L : Nat)) ∧ w = w' := by
  have c1 : w.cell? ⟨g, 1, none⟩ = some (.int .u64 (tot L : Nat)) := by rw [h.1.cell]; rfl
  clear h
  go_enter Try.func26, Try.ntmps26
  go_wp2_with fail
  go_ret
  exact ⟨rfl, rfl⟩
set_option maxHeartbeats 1600000 in
theorem key_no (g : Nat) (A : Option Addr) (c : Nat) (L : List Pr) (r : Nat) (w : World) (h : Lst w g A c L) (h0 : tot L = 0) :
    Calls Try.prog 27 #[.pointer (some ⟨g, 0, none⟩), .int .u64 (r : Int)] w fun e w' => e = .returned (.tuple #[.int .i64 0, .int .i64 8]) ∧ w = w' := by
  have c1 : w.cell? ⟨g, 1, none⟩ = some (.int .u64 0) := by rw [h.1.cell, h0]; rfl
  clear h h0
  go_enter Try.func27, Try.ntmps27
  go_wp2_with fail
  go_ret2
  exact ⟨rfl, rfl⟩
set_option maxHeartbeats 1600000 in
theorem key_bad (g : Nat) (A : Option Addr) (c : Nat) (L : List Pr) (r : Nat) (w : World) (h : Lst w g A c L) (h0 : tot L ≠ 0) (hr : r < 1 ∨ tot L < r) :
    Calls Try.prog 27 #[.pointer (some ⟨g, 0, none⟩), .int .u64 (r : Int)] w fun e w' => e = .returned (.tuple #[.int .i64 0, .int .i64 1]) ∧ w = w' := by
  have c1 : w.cell? ⟨g, 1, none⟩ = some (.int .u64 (tot L : Nat)) := by rw [h.1.cell]; rfl
  have e0 : (((tot L : Nat) : Int) == 0) = false := by simp; omega
  have hc : (decide ((r : Int) < 1) = true) ∨ (decide ((r : Int) < 1) = false ∧ decide (((tot L : Nat) : Int) < (r : Int)) = true ∧ decide (tot L < r) = true) := by
    by_cases h1 : r < 1
    · exact .inl (by simp; omega)
    · exact .inr ⟨by simp; omega, by simp; omega, by simp; omega⟩
  clear h h0 hr
  rcases hc with e1 | ⟨e1, e2, e3⟩
  all_goals
    go_enter Try.func27, Try.ntmps27
    go_wp2_with fail
    go_ret2
    exact ⟨rfl, rfl⟩
set_option maxHeartbeats 3200000 in
theorem key_ok (g : Nat) (A : Option Addr) (c : Nat) (L : List Pr) (r : Nat) (w : World) (h : Lst w g A c L) (hf : Fine L) (h1 : 1 ≤ r) (h2 : r ≤ tot L) :
    Calls Try.prog 27 #[.pointer (some ⟨g, 0, none⟩), .int .u64 (r : Int)] w fun e w' => e = .returned (.tuple #[.int .i64 (rank L r), .int .i64 0]) ∧ Below w.heap.size w w' := by
  have c0 : w.cell? ⟨g, 0, none⟩ = some (.slice A L.length c) := by rw [h.1.cell]; rfl
  have c1 : w.cell? ⟨g, 1, none⟩ = some (.int .u64 (tot L : Nat)) := by rw [h.1.cell]; rfl
  have e0 : (((tot L : Nat) : Int) == 0) = false := by simp; omega
  have e1 : decide ((r : Int) < 1) = false := by simp; omega
  have e2 : decide (((tot L : Nat) : Int) < (r : Int)) = false := by simp; omega
  have e3 : decide (tot L < r) = false := by simp; omega
  have HR := Lib.hid (OwnP.reads h.2)
  have ht := hf.tot
  have hll : (L.length : Int) ≤ 100000 := by have := hf.len; omega
  have HR1 := Lib.hid (And.intro h1 h2)
  have HT := Lib.hid ht
  obtain ⟨K, hK⟩ : ∃ K, K = rank L r := ⟨_, rfl⟩
  rw [← hK]
  have HK := Lib.hid hK
  clear h hf h1 h2 ht hK
  go_enter Try.func27, Try.ntmps27
  go_wp2_with fail
  clear e0 e1 e2 e3
  go_loopw [1, 28] (fun u v wr => ∃ (i q : Nat), u = .int .u64 (q : Int) ∧ v = .int .i64 (i : Int) ∧ i ≤ L.length ∧ 1 ≤ q ∧ tot (L.take i) + q = r ∧ Below w.heap.size w wr) (fun _ v _ => L.length - (intOf v).toNat)
  case atStart => exact ⟨0, r, rfl, rfl, Nat.zero_le _, HR1.out.1, by simp [tot], Below.refl _ _⟩
  case round =>
    obtain ⟨i, q, rfl, rfl, hi, hq1, hq, hbel⟩ := hrel
    obtain ⟨wo, rfl⟩ : ∃ wo : World, wo = wr := ⟨_, rfl⟩
    by_cases hlt : i < L.length
    · have hii : (i : Int) < (L.length : Int) := by omega
      have hii2 : decide (i < L.length) = true := by simp; omega
      have hi0 : (0 : Int) ≤ (i : Int) := by omega
      obtain ⟨p, hp⟩ : ∃ p, L[i]? = some p := ⟨_, List.getElem?_eq_getElem hlt⟩
      obtain ⟨b, o, rfl, hbb, hc⟩ := (HR.out.below hbel).at_ (by omega)
      obtain ⟨d1, d2⟩ := hc i p hp
      have htn := tot_take_next hp
      have hq62 : (q : Int) ≤ 4611686018427387904 := by have := HR1.out; have := HT.out; omega
      have HI := Lib.hid hlt
      have HW := Lib.hid hbel
      by_cases hle : q ≤ p.2
      · have hr := rank_at (r := r) hp (by omega) (by omega)
        have HX := Lib.hid (HK.out.trans hr)
        have e5 : decide ((q : Int) ≤ (p.2 : Int)) = true := by simp; omega
        have e6 : decide (q ≤ p.2) = true := by simp; omega
        obtain ⟨x, n⟩ := p
        dsimp only at d1 d2 e5 e6
        clear hc hp hbel hbb htn hr hle hi hq hq1 hlt
        go_wp2_with fail
        go_ret2
        exact ⟨by rw [HX.out]; rfl, newB HW.out _⟩
      · have e5 : decide ((q : Int) ≤ (p.2 : Int)) = false := by simp; omega
        have e6 : decide (q ≤ p.2) = false := by simp; omega
        have HQ := Lib.hid (show 1 ≤ q - p.2 ∧ tot (L.take (i + 1)) + (q - p.2) = r by omega)
        have hsub : (p.2 : Int) ≤ (q : Int) := by omega
        have HSUB := Lib.hid (show (q : Int) - (p.2 : Int) = ((q - p.2 : Nat) : Int) by omega)
        obtain ⟨x, n⟩ := p
        dsimp only at d1 d2 e5 e6 hsub HQ HSUB
        clear hc hp hbel hbb htn hle hi hq hq1 hlt
        go_wp2_with fail
        go_roundw
        case rel => exact ⟨i + 1, q - n, by rw [HSUB.out], by go_num, HI.out, HQ.out.1, HQ.out.2, newB HW.out _⟩
        case measure => have := HI.out; simp [intOf]; omega
    · exfalso
      obtain rfl : i = L.length := by omega
      rw [List.take_length] at hq
      have := HR1.out
      omega
end Go.Proofs.Ytmpmjgoipfgfoaa
