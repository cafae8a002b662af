/- HdrHistogram's cells: the document's Shape; a law's shape. -/
import Derived.Test.YtclnjhcfoggeaaaHdrF
namespace Go.Proofs.Ytclnjhcfoggeaaa
open Go.RowKit

set_option maxHeartbeats 800000 in
theorem rshape_bad (lo hi d : Int) (w : World) (h0 : -9223372036854775808 ≤ hi) (hmax : hi ≤ 9223372036854775807) (hbad : ¬ (1 ≤ d ∧ d ≤ 5 ∧ 1 ≤ lo ∧ 2 * lo ≤ hi)) :
    Calls Try.prog 10 #[.agg #[.int .i64 lo, .int .i64 hi, .int .i64 d]] w fun e w' => e = .returned (.tuple #[.int .i64 0, .int .i64 0, .bool false]) ∧ Below w.heap.size w w' := by
  have HBAD := Lib.hid hbad
  clear hbad
  go_enter Try.func10, Try.ntmps10
  go_wp2_with fail
  all_goals first
    | (go_ret3; exact ⟨rfl, (Below.refl _ _).alloc (Nat.le_refl _) _⟩)
    | (exfalso; have h2 := HBAD.out; first | omega | (simp only [wrap64] at *; omega))
theorem m_last {D : Nat} (h1 : 1 ≤ D) (h5 : D ≤ 5) : 2 * p10 D ≤ pw (mOf D) := by
  have hT := p10_le h5
  have hT1 := p10_pos D
  have := (Hd.bl_le (mOf D) (2 * p10 D - 1) (by omega)).1 (Nat.le_refl _)
  have h1 := mOf_range h1 h5
  unfold pw
  omega
theorem m_more {D j : Nat} (h1 : 1 ≤ D) (h5 : D ≤ 5) (hj : j < mOf D) : pw j < 2 * p10 D := by
  have hT := p10_le h5
  have hT1 := p10_pos D
  have := (Hd.bl_ge j (2 * p10 D - 1) (by omega)).1 hj
  have h1 := mOf_range h1 h5
  unfold pw
  omega
theorem u_more {L k : Nat} (hL : L < 2 ^ 63) (h : k < uOf L) : 1 < L / pw k := by
  have h1 : 2 ^ (k + 1) ≤ L := (Hd.bl_ge (k + 1) L (by omega)).1 (by unfold uOf at h; omega)
  have : 2 ≤ L / pw k := (Nat.le_div_iff_mul_le (pw_pos k)).2 (by unfold pw; rw [Nat.pow_succ] at h1; omega)
  omega
theorem u_last {L : Nat} (hL : L < 2 ^ 63) : L / pw (uOf L) ≤ 1 := by
  have h1 : L < 2 ^ Hd.bl L := (Hd.bl_le _ L (by omega)).1 (Nat.le_refl _)
  have h2 : L < 2 ^ (uOf L + 1) := Nat.lt_of_lt_of_le h1 (Nat.pow_le_pow_right (by omega) (by unfold uOf; omega))
  have : L / pw (uOf L) < 2 := (Nat.div_lt_iff_lt_mul (pw_pos _)).2 (by unfold pw; rw [Nat.pow_succ] at h2; omega)
  omega
set_option maxHeartbeats 800000 in
theorem rshape_t (L D : Nat) (hi : Int) (w : World) (h1 : 1 ≤ D) (h5 : D ≤ 5) (hL : 1 ≤ L) (hhi : 2 * (L : Int) ≤ hi) (hmax : hi ≤ 9223372036854775807) :
    Calls Try.prog 10 #[.agg #[.int .i64 (L : Int), .int .i64 hi, .int .i64 (D : Int)]] w fun e w' => e = .returned (.tuple #[.int .i64 (uOf L : Nat), .int .i64 (mOf D : Nat), .bool (decide ((uOf L : Int) + (mOf D : Int) ≤ 62))]) ∧ Below w.heap.size w w' := by
  have e1 : decide ((D : Int) < 1) = false := by simp; omega
  have e2 : decide (5 < (D : Int)) = false := by simp; omega
  have e3 : decide ((L : Int) < 1) = false := by simp; omega
  have e4 : decide (hi < (L : Int)) = false := by simp; omega
  have e5 : decide (hi - (L : Int) < (L : Int)) = false := by simp; omega
  have hl2 : (L : Int) ≤ 4611686018427387903 := by omega
  go_enter Try.func10, Try.ntmps10
  go_wp2_with fail
  have hbel : Below w.heap.size w (w.alloc (.cells #[.int .i64 (L : Int), .int .i64 hi, .int .i64 (D : Int)] 23)) := (Below.refl _ _).alloc (Nat.le_refl _) _
  have hblk := Blk.new w 23 #[.int .i64 (L : Int), .int .i64 hi, .int .i64 (D : Int)]
  generalize w.alloc (.cells #[.int .i64 (L : Int), .int .i64 hi, .int .i64 (D : Int)] 23) = W0 at *
  generalize hH : w.heap.size = H at hblk ⊢
  have k2 : W0.cell? ⟨H, 2, none⟩ = some (.int .i64 (D : Int)) := by rw [hblk.cell]; rfl
  have HB := Lib.hid hbel
  clear hbel hblk
  go_loop [5, 6] (fun uv nv => ∃ k : Nat, k ≤ uOf L ∧ uv = .int .i64 k ∧ nv = .int .i64 ((L / pw k : Nat) : Int)) (fun uv _ => uOf L - (intOf uv).toNat)
  case atStart => exact ⟨0, Nat.zero_le _, rfl, by simp [pw]⟩
  case round =>
    obtain ⟨k, hk, rfl, rfl⟩ := hrel
    have hU := uOf_le (L := L) (by omega)
    have hq : L / pw k / 2 = L / pw (k + 1) := by rw [Nat.div_div_eq_div_mul]; congr 1
    have hqle : L / pw k ≤ L := Nat.div_le_self _ _
    by_cases hlt : k < uOf L
    · have hbig : 1 < L / pw k := u_more (by omega) hlt
      have ht : decide ((1 : Int) < ((L / pw k : Nat) : Int)) = true := by simp; omega
      have hq2 : ((L / pw k : Nat) : Int) / 2 = ((L / pw (k + 1) : Nat) : Int) := by omega
      have hqi : ((L / pw k : Nat) : Int) ≤ 4611686018427387903 := by omega
      have hk2 : (k : Int) ≤ 62 := by omega
      obtain ⟨R, hR⟩ : ∃ R, R = L / pw (k + 1) := ⟨_, rfl⟩
      rw [← hR] at hq2
      have HR := Lib.hid hR
      have HL := Lib.hid hlt
      clear hR hq hqle hbig hlt
      generalize L / pw k = Q at *
      go_wp2
      go_round
      case rel => exact ⟨k + 1, HL.out, by go_num, by rw [HR.out]⟩
      case measure => have hlt := HL.out; simp [intOf]; omega
    · obtain rfl : k = uOf L := by omega
      have hsm : L / pw (uOf L) ≤ 1 := u_last (by omega)
      have ht : decide ((1 : Int) < ((L / pw (uOf L) : Nat) : Int)) = false := by simp; omega
      have HB1 := Lib.hid hU
      generalize L / pw (uOf L) = Q at *
      clear hq hqle hsm
      have hU2 : ((uOf L : Nat) : Int) ≤ 62 := by omega
      generalize hUe : uOf L = U at *
      have HUE := Lib.hid hUe
      clear hUe
      go_wp2_with fail
      go_loop [7, 8] (fun nv iv => ∃ k : Nat, k ≤ D ∧ iv = .int .i64 k ∧ nv = .int .u64 (2 * p10 k : Nat)) (fun _ iv => D - (intOf iv).toNat)
      case atStart => exact ⟨0, Nat.zero_le _, rfl, rfl⟩
      case round =>
        obtain ⟨k, hk, rfl, rfl⟩ := hrel
        have hs := p10_succ k
        have hT := p10_le (show k ≤ 5 by omega)
        by_cases hlt : k < D
        · have ht2 : decide ((k : Int) < (D : Int)) = true := by simp; omega
          have hT2 := p10_le (show k + 1 ≤ 5 by omega)
          have hn : (10 : Int) * ((2 * p10 k : Nat) : Int) = ((2 * p10 (k + 1) : Nat) : Int) := by omega
          have hn2 : ((2 * p10 (k + 1) : Nat) : Int) ≤ 200000 := by omega
          obtain ⟨R, hR⟩ : ∃ R, R = 2 * p10 (k + 1) := ⟨_, rfl⟩
          rw [← hR] at hn hn2
          have HR := Lib.hid hR
          have HL := Lib.hid hlt
          clear hR hs hT hT2 hlt
          generalize 2 * p10 k = T at *
          go_wp2
          go_round
          case rel => exact ⟨k + 1, HL.out, by go_num, by rw [HR.out]⟩
          case measure => have hlt := HL.out; simp [intOf]; omega
        · obtain rfl : k = D := by omega
          have hM := m_last h1 h5
          have hMl : ∀ j, j < mOf k → pw j < 2 * p10 k := fun j hj => m_more h1 h5 hj
          have hM18 := (mOf_range h1 h5).2
          have hT1 : 2 * p10 k ≤ 200000 := by omega
          clear hs hT
          generalize 2 * p10 k = T at *
          generalize hMe : mOf k = M at *
          have HME := Lib.hid hMe
          clear hMe
          have hT2 : (T : Int) ≤ 200000 := by omega
          have HT := Lib.hid hT1
          clear hT1
          go_wp2_with fail
          go_loop [9, 10] (fun mv pv => ∃ j : Nat, j ≤ M ∧ mv = .int .i64 j ∧ pv = .int .u64 (pw j : Nat)) (fun mv _ => M - (intOf mv).toNat)
          case atStart => exact ⟨0, Nat.zero_le _, rfl, rfl⟩
          case round =>
            obtain ⟨j, hj, rfl, rfl⟩ := hrel
            have hj2 : (j : Int) ≤ 18 := by omega
            by_cases hlt2 : j < M
            · have hp := hMl j hlt2
              have ht3 : decide (((pw j : Nat) : Int) < (T : Int)) = true := by simp; omega
              have hn := pw_succ j
              have hT1 := HT.out
              have hn2 : ((pw (j + 1) : Nat) : Int) ≤ 400000 := by omega
              obtain ⟨R, hR⟩ : ∃ R, R = pw (j + 1) := ⟨_, rfl⟩
              rw [← hR] at hn hn2
              have HR := Lib.hid hR
              have HL := Lib.hid hlt2
              clear hR hlt2 hT1
              generalize pw j = P at *
              go_wp2
              go_round
              case rel => exact ⟨j + 1, HL.out, by go_num, by rw [HR.out]⟩
              case measure => have hlt := HL.out; simp [intOf]; omega
            · obtain rfl : j = M := by omega
              have ht3 : decide (((pw j : Nat) : Int) < (T : Int)) = false := by simp; omega
              have hp : ((pw j : Nat) : Int) ≤ 262144 := by
                have h := pw_le hM18
                have : pw 18 = 262144 := by decide
                omega
              have hnp : ¬ pw j < T := by omega
              clear hM hMl
              generalize pw j = P at *
              go_wp2
              go_ret3
              rw [HUE.out, HME.out]
              exact ⟨rfl, by rw [← hH]; exact HB.out⟩

set_option maxHeartbeats 400000 in
theorem same_t (g : Nat) (lo hi d : Int) (u m v v2 : Nat) (w : World) (h : Mp w g lo hi d u m) (hm1 : 1 ≤ m) (hm : m ≤ 18) (hum : u + m ≤ 62) (hv : v < 2 ^ 63) (hv2 : v2 < 2 ^ 63) :
    Calls Try.prog 18 #[.pointer (some ⟨g, 0, none⟩), .int .i64 (v : Int), .int .i64 (v2 : Int)] w fun e w' => e = .returned (.bool (((Hd.idx u m v : Nat) : Int) == ((Hd.idx u m v2 : Nat) : Int))) ∧ ∃ n, w' = w.drewN n := by
  have HM := Lib.hid h
  clear h
  go_enter Try.func18, Try.ntmps18
  go_wp2_with fail
  refine (index_t g lo hi d u m v _ HM.out hm1 hm hum hv).mono ?_
  rintro e w1 ⟨rfl, n, rfl⟩
  go_wp2_with fail
  refine (index_t g lo hi d u m v2 _ (HM.out.drewN _) hm1 hm hum hv2).mono ?_
  rintro e w1 ⟨rfl, n2, rfl⟩
  go_wp2_with fail
  go_ret
  exact ⟨rfl, n + n2, rfl⟩
set_option maxHeartbeats 400000 in
theorem same_neg (g : Nat) (v v2 : Int) (w : World) (hv : v < 0) (hv2 : v2 < 0) :
    Calls Try.prog 18 #[.pointer (some ⟨g, 0, none⟩), .int .i64 v, .int .i64 v2] w fun e w' => e = .returned (.bool false) ∧ ∃ n, w' = w.drewN n := by
  go_enter Try.func18, Try.ntmps18
  go_wp2_with fail
  refine (index_neg g v _ hv).mono ?_
  rintro e w1 ⟨rfl, n, rfl⟩
  go_wp2_with fail
  refine (index_neg g v2 _ hv2).mono ?_
  rintro e w1 ⟨rfl, n2, rfl⟩
  go_wp2_with fail
  go_ret
  exact ⟨rfl, n + n2, rfl⟩

set_option maxHeartbeats 800000 in
/-- A law's shape. -/
theorem lshape_t (lw D : Nat) (wide : Nat) (w : World) (h1 : lw ≤ 18446744073709551615) (h2 : D ≤ 255) (h3 : wide ≤ 18446744073709551615) :
    Calls Try.prog 14 #[.int .u64 (lw : Int), .int .u8 (D : Int), .int .u64 (wide : Int)] w fun e w' => e = .returned (.agg #[.int .i64 ((1 + lw % 100000 : Nat) : Int), .int .i64 ((2 * (1 + lw % 100000) + wide % 4611686018427387904 : Nat) : Int), .int .i64 ((1 + D % 5 : Nat) : Int)]) ∧ Below w.heap.size w w' := by
  go_enter Try.func14, Try.ntmps14
  go_wp2_with fail
  generalize hhv : 2 * (1 + (lw : Int) % 100000) + (wide : Int) % 4611686018427387904 = hv
  generalize hlo : 1 + (lw : Int) % 100000 = lo at *
  generalize hdv : 1 + (D : Int) % 5 = dv
  refine bodyPost_ret (v := .agg #[.int .i64 lo, .int .i64 hv, .int .i64 dv]) ?_ rfl ⟨?_, ?_⟩
  · simp [results, Try.results14, go_sem]
  · have a1 : ((1 + lw % 100000 : Nat) : Int) = lo := by omega
    have a2 : ((2 * (1 + lw % 100000) + wide % 4611686018427387904 : Nat) : Int) = hv := by omega
    have a3 : ((1 + D % 5 : Nat) : Int) = dv := by omega
    rw [a1, a2, a3]
  · exact ((Below.refl _ _).alloc (Nat.le_refl _) _).alloc (by simp) _
end Go.Proofs.Ytclnjhcfoggeaaa
