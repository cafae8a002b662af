/- HdrHistogram's cells: where an index begins. -/
import Derived.Test.YtclnjhcfoggeaaaHdrA
namespace Go.Proofs.Ytclnjhcfoggeaaa
open Go.RowKit

theorem shl_eq {a h n : Nat} (hs : (a + h) * 2 ^ n < 2 ^ 63) : wrap64 (((a : Int) + (h : Int)) * 2 ^ n) = (((a + h) * 2 ^ n : Nat) : Int) := by
  have e : ((a : Int) + (h : Int)) * 2 ^ n = (((a + h) * 2 ^ n : Nat) : Int) := by push_cast; rfl
  rw [e]
  unfold wrap64
  omega
set_option maxHeartbeats 800000 in
theorem value_low (g : Nat) (lo hi d : Int) (u m i q r : Nat) (w : World) (h : Mp w g lo hi d u m) (hm1 : 1 ≤ m) (hm : m ≤ 18) (hum : u + m ≤ 62) (hi2 : (i : Int) ≤ 9223372036854775807)
    (hq : (i : Int) / (Hd.half m : Int) = (q : Int)) (hr : (i : Int) % (Hd.half m : Int) = (r : Int)) (hrlt : r < Hd.half m) (hq0 : q = 0) (hil : i < Hd.half m) :
    Calls Try.prog 24 #[.pointer (some ⟨g, 0, none⟩), .int .i64 (i : Int)] w fun e w' => e = .returned (.tuple #[.int .i64 ((i * 2 ^ u : Nat) : Int), .int .i64 0]) ∧ ∃ n, w' = w.drewN n := by
  have c3 := h.c3
  have hh := Hd.half_le hm
  have hp := Hd.half_pos m
  have hz : ((Hd.half m : Int) == 0) = false := by simp; omega
  have hz2 : ¬ (Hd.half m : Int) = 0 := by omega
  have hu2 : (u : Int) ≤ 61 := by omega
  have hrp : (r : Int) ≤ 131072 := by omega
  have hhp : (Hd.half m : Int) ≤ 131072 := by omega
  have HM := Lib.hid h
  clear h
  subst hq0
  have hbm : Hd.bl i ≤ m - 1 := (Hd.bl_le (m - 1) i (by omega)).2 hil
  have ht : decide ((63 : Int) < IntKind.i64.wrap (IntKind.i64.wrap (Hd.bl i : Int) + (u : Int))) = false := by
    rw [IntWalk.i64_in (Hd.bl i : Int) (by omega), IntWalk.i64_in _ (by omega)]; simp; omega
  have hi3 : (i : Int) ≤ 131072 := by omega
  have hval : wrap64 ((i : Int) * 2 ^ u) = ((i * 2 ^ u : Nat) : Int) := by
    have h1 : i * 2 ^ u < 2 ^ (m - 1) * 2 ^ u := (Nat.mul_lt_mul_right (Nat.two_pow_pos _)).2 hil
    rw [← Nat.pow_add] at h1
    have h2 : 2 ^ (m - 1 + u) ≤ 2 ^ 62 := Nat.pow_le_pow_right (by omega) (by omega)
    have e : (i : Int) * 2 ^ u = ((i * 2 ^ u : Nat) : Int) := by push_cast; rfl
    rw [e]
    unfold wrap64
    omega
  have HV := Lib.hid hval
  clear hval
  go_enter Try.func24, Try.ntmps24
  go_wp2_with fail
  go_quiet ((go_at_call 35; refine Calls.quiet_of_same (half_t g lo hi d u m _ (HM.out.drewN _) hm1 (by omega))))
  go_wp2_with fail
  obtain ⟨W1, hW⟩ : ∃ W1, w.drewN nq = W1 := ⟨_, rfl⟩
  have c31 : W1.cell? ⟨g, 3, none⟩ = some (.int .i64 (u : Int)) := by rw [← hW]; exact c3
  rw [hW]
  go_quiet ((go_at_call 31; refine Calls.quiet_of_same (len64w_t _ i _ (IntWalk.u64_in _ (by omega)) (by omega))))
  go_wp2_with fail
  go_ret2
  exact ⟨congrArg (fun z => Ending.returned (.tuple #[.int .i64 z, .int .i64 0])) HV.out, _, by rw [← hW, World.drewN_drewN]⟩

set_option maxHeartbeats 800000 in
theorem value_far (g : Nat) (lo hi d : Int) (u m i q r : Nat) (w : World) (h : Mp w g lo hi d u m) (hm1 : 1 ≤ m) (hm : m ≤ 18) (hum : u + m ≤ 62) (hi2 : (i : Int) ≤ 9223372036854775807)
    (hq : (i : Int) / (Hd.half m : Int) = (q : Int)) (hr : (i : Int) % (Hd.half m : Int) = (r : Int)) (hrlt : r < Hd.half m) (hqle : q ≤ i) (h64 : 65 < q) :
    Calls Try.prog 24 #[.pointer (some ⟨g, 0, none⟩), .int .i64 (i : Int)] w fun e w' => e = .returned (.tuple #[.int .i64 0, .int .i64 5]) ∧ ∃ n, w' = w.drewN n := by
  have c3 := h.c3
  have hh := Hd.half_le hm
  have hp := Hd.half_pos m
  have hz : ((Hd.half m : Int) == 0) = false := by simp; omega
  have hz2 : ¬ (Hd.half m : Int) = 0 := by omega
  have hu2 : (u : Int) ≤ 61 := by omega
  have hrp : (r : Int) ≤ 131072 := by omega
  have hhp : (Hd.half m : Int) ≤ 131072 := by omega
  have HM := Lib.hid h
  clear h
  have hq1 : decide ((q : Int) - 1 < 0) = false := by simp; omega
  have hqi : (q : Int) ≤ 9223372036854775807 := by omega
  have hqp : (1 : Int) ≤ (q : Int) := by omega
  have hd : decide ((64 : Int) < (q : Int) - 1) = true := by simp; omega
  go_enter Try.func24, Try.ntmps24
  go_wp2_with fail
  go_quiet ((go_at_call 35; refine Calls.quiet_of_same (half_t g lo hi d u m _ (HM.out.drewN _) hm1 (by omega))))
  go_wp2_with fail
  obtain ⟨W1, hW⟩ : ∃ W1, w.drewN nq = W1 := ⟨_, rfl⟩
  have c31 : W1.cell? ⟨g, 3, none⟩ = some (.int .i64 (u : Int)) := by rw [← hW]; exact c3
  rw [hW]
  go_quiet (fail)
  go_wp2_with fail
  go_ret2
  exact ⟨rfl, _, by rw [← hW, World.drewN_drewN]⟩

set_option maxHeartbeats 800000 in
theorem value_wide (g : Nat) (lo hi d : Int) (u m i q r : Nat) (w : World) (h : Mp w g lo hi d u m) (hm1 : 1 ≤ m) (hm : m ≤ 18) (hum : u + m ≤ 62) (hi2 : (i : Int) ≤ 9223372036854775807)
    (hq : (i : Int) / (Hd.half m : Int) = (q : Int)) (hr : (i : Int) % (Hd.half m : Int) = (r : Int)) (hrlt : r < Hd.half m) (hq1 : 1 ≤ q) (h64 : q ≤ 65) (h63 : 63 < Hd.bl (r + Hd.half m) + (q - 1) + u) :
    Calls Try.prog 24 #[.pointer (some ⟨g, 0, none⟩), .int .i64 (i : Int)] w fun e w' => e = .returned (.tuple #[.int .i64 0, .int .i64 5]) ∧ ∃ n, w' = w.drewN n := by
  have c3 := h.c3
  have hh := Hd.half_le hm
  have hp := Hd.half_pos m
  have hz : ((Hd.half m : Int) == 0) = false := by simp; omega
  have hz2 : ¬ (Hd.half m : Int) = 0 := by omega
  have hu2 : (u : Int) ≤ 61 := by omega
  have hrp : (r : Int) ≤ 131072 := by omega
  have hhp : (Hd.half m : Int) ≤ 131072 := by omega
  have HM := Lib.hid h
  clear h
  have hqd : decide ((q : Int) - 1 < 0) = false := by simp; omega
  have hqi : (q : Int) ≤ 9223372036854775807 := by omega
  have hqp : (1 : Int) ≤ (q : Int) := by omega
  have hqs : (q : Int) ≤ 65 := by omega
  have hd : decide ((64 : Int) < (q : Int) - 1) = false := by simp; omega
  have hcall : ∀ (x : Int) (W : World), x = (r : Int) + (Hd.half m : Int) → Calls Try.prog 31 #[.int .u64 x] W fun e w' => e = .returned (.int .i64 (Hd.bl (r + Hd.half m) : Nat)) ∧ w' = W := fun x W hx =>
    len64w_t _ (r + Hd.half m) W (by rw [hx, Int.natCast_add]) (by omega)
  have hL : Hd.bl (r + Hd.half m) ≤ 64 := Hd.bl_le64 _ (by omega)
  have ht : decide ((63 : Int) < IntKind.i64.wrap (IntKind.i64.wrap ((Hd.bl (r + Hd.half m) : Int) + ((q : Int) - 1)) + (u : Int))) = true := by
    rw [IntWalk.i64_in ((Hd.bl (r + Hd.half m) : Int) + ((q : Int) - 1)) (by omega), IntWalk.i64_in _ (by omega)]; simp; omega
  clear h63
  generalize Hd.bl (r + Hd.half m) = L at *
  go_enter Try.func24, Try.ntmps24
  go_wp2_with fail
  go_quiet ((go_at_call 35; refine Calls.quiet_of_same (half_t g lo hi d u m _ (HM.out.drewN _) hm1 (by omega))))
  go_wp2_with fail
  obtain ⟨W1, hW⟩ : ∃ W1, w.drewN nq = W1 := ⟨_, rfl⟩
  have c31 : W1.cell? ⟨g, 3, none⟩ = some (.int .i64 (u : Int)) := by rw [← hW]; exact c3
  rw [hW]
  go_quiet ((go_at_call 31; refine Calls.quiet_of_same (hcall _ _ (by first | exact IntWalk.u64_in _ (by omega)))))
  go_wp2_with fail
  go_ret2
  exact ⟨rfl, _, by rw [← hW, World.drewN_drewN]⟩

set_option maxHeartbeats 800000 in
theorem value_in (g : Nat) (lo hi d : Int) (u m i q r : Nat) (w : World) (h : Mp w g lo hi d u m) (hm1 : 1 ≤ m) (hm : m ≤ 18) (hum : u + m ≤ 62) (hi2 : (i : Int) ≤ 9223372036854775807)
    (hq : (i : Int) / (Hd.half m : Int) = (q : Int) + 1) (hr : (i : Int) % (Hd.half m : Int) = (r : Int)) (hrlt : r < Hd.half m) (h64 : q ≤ 64) (h63 : Hd.bl (r + Hd.half m) + q + u ≤ 63) :
    Calls Try.prog 24 #[.pointer (some ⟨g, 0, none⟩), .int .i64 (i : Int)] w fun e w' => e = .returned (.tuple #[.int .i64 (((r + Hd.half m) * 2 ^ (q + u) : Nat) : Int), .int .i64 0]) ∧ ∃ n, w' = w.drewN n := by
  have c3 := h.c3
  have hh := Hd.half_le hm
  have hp := Hd.half_pos m
  have hz : ((Hd.half m : Int) == 0) = false := by simp; omega
  have hz2 : ¬ (Hd.half m : Int) = 0 := by omega
  have hu2 : (u : Int) ≤ 61 := by omega
  have hrp : (r : Int) ≤ 131072 := by omega
  have hhp : (Hd.half m : Int) ≤ 131072 := by omega
  have HM := Lib.hid h
  clear h
  have hqd : decide ((q : Int) < 0) = false := by simp
  have hqi : (q : Int) ≤ 9223372036854775807 := by omega
  have hqs : (q : Int) ≤ 64 := by omega
  have hd : decide ((64 : Int) < (q : Int)) = false := by simp; omega
  have hcall : ∀ (x : Int) (W : World), x = (r : Int) + (Hd.half m : Int) → Calls Try.prog 31 #[.int .u64 x] W fun e w' => e = .returned (.int .i64 (Hd.bl (r + Hd.half m) : Nat)) ∧ w' = W := fun x W hx =>
    len64w_t _ (r + Hd.half m) W (by rw [hx, Int.natCast_add]) (by omega)
  have hL : Hd.bl (r + Hd.half m) ≤ 64 := Hd.bl_le64 _ (by omega)
  have ht : decide ((63 : Int) < IntKind.i64.wrap (IntKind.i64.wrap ((Hd.bl (r + Hd.half m) : Int) + (q : Int)) + (u : Int))) = false := by
    rw [IntWalk.i64_in ((Hd.bl (r + Hd.half m) : Int) + (q : Int)) (by omega), IntWalk.i64_in _ (by omega)]; simp; omega
  have hkl : r + Hd.half m < 2 ^ Hd.bl (r + Hd.half m) := (Hd.bl_le _ _ (by omega)).1 (Nat.le_refl _)
  have hsh : (r + Hd.half m) * 2 ^ (q + u) < 2 ^ 63 := by
    refine Nat.lt_of_lt_of_le ((Nat.mul_lt_mul_right (Nat.two_pow_pos _)).2 hkl) ?_
    rw [← Nat.pow_add]
    exact Nat.pow_le_pow_right (by omega) (by omega)
  have hqu : (q : Int) + (u : Int) ≤ 63 := by omega
  have HS := Lib.hid hsh
  clear h63 hkl hsh
  generalize Hd.bl (r + Hd.half m) = L at *
  go_enter Try.func24, Try.ntmps24
  go_wp2_with fail
  go_quiet ((go_at_call 35; refine Calls.quiet_of_same (half_t g lo hi d u m _ (HM.out.drewN _) hm1 (by omega))))
  go_wp2_with fail
  obtain ⟨W1, hW⟩ : ∃ W1, w.drewN nq = W1 := ⟨_, rfl⟩
  have c31 : W1.cell? ⟨g, 3, none⟩ = some (.int .i64 (u : Int)) := by rw [← hW]; exact c3
  rw [hW]
  go_quiet ((go_at_call 31; refine Calls.quiet_of_same (hcall _ _ (by first | exact IntWalk.u64_in _ (by omega)))))
  go_wp2_with fail
  go_ret2
  exact ⟨congrArg (fun z => Ending.returned (.tuple #[.int .i64 z, .int .i64 0])) (shl_eq HS.out), _, by rw [← hW, World.drewN_drewN]⟩

/-- What Value answers at an index from 0 on. -/
def valBad (u m i : Nat) : Bool := decide (64 < vb m i) || decide (63 < Hd.bl (vk m i) + vb m i + u)
def valAt (u m i : Nat) : Nat := if valBad u m i then 0 else vk m i * 2 ^ (vb m i + u)
def valErr (u m i : Nat) : Int := if valBad u m i then 5 else 0
theorem value_t (g : Nat) (lo hi d : Int) (u m i : Nat) (w : World) (h : Mp w g lo hi d u m) (hm1 : 1 ≤ m) (hm : m ≤ 18) (hum : u + m ≤ 62) (hi2 : i < 2 ^ 63) :
    Calls Try.prog 24 #[.pointer (some ⟨g, 0, none⟩), .int .i64 (i : Int)] w fun e w' => e = .returned (.tuple #[.int .i64 (valAt u m i : Nat), .int .i64 (valErr u m i)]) ∧ ∃ n, w' = w.drewN n := by
  have hp := Hd.half_pos m
  have hrlt : i % Hd.half m < Hd.half m := Nat.mod_lt _ hp
  have hqle : i / Hd.half m ≤ i := Nat.div_le_self _ _
  have hq : (i : Int) / (Hd.half m : Int) = ((i / Hd.half m : Nat) : Int) := by push_cast; rfl
  have hr : (i : Int) % (Hd.half m : Int) = ((i % Hd.half m : Nat) : Int) := by push_cast; rfl
  by_cases hq0 : i / Hd.half m = 0
  · have hil : i < Hd.half m := by
      rcases Nat.div_eq_zero_iff.1 hq0 with h1 | h1
      · omega
      · exact h1
    have hbm : Hd.bl i ≤ m - 1 := (Hd.bl_le (m - 1) i (by omega)).2 hil
    have e : valBad u m i = false := by simp [valBad, vb, vk, hq0]; omega
    have e1 : valAt u m i = i * 2 ^ u := by simp [valAt, e, vb, vk, hq0]
    have e2 : valErr u m i = 0 := by simp [valErr, e]
    rw [e1, e2]
    exact value_low g lo hi d u m i _ _ w h hm1 hm hum (by omega) hq hr hrlt hq0 hil
  · have hvb : vb m i = i / Hd.half m - 1 := rfl
    have hvk : vk m i = i % Hd.half m + Hd.half m := by simp [vk, hq0]
    by_cases h64 : 65 < i / Hd.half m
    · have e : valBad u m i = true := by simp only [valBad, hvb, Bool.or_eq_true, decide_eq_true_eq]; omega
      have e1 : valAt u m i = 0 := by simp [valAt, e]
      have e2 : valErr u m i = 5 := by simp [valErr, e]
      rw [e1, e2]
      exact value_far g lo hi d u m i _ _ w h hm1 hm hum (by omega) hq hr hrlt hqle h64
    · by_cases h63 : 63 < Hd.bl (i % Hd.half m + Hd.half m) + (i / Hd.half m - 1) + u
      · have e : valBad u m i = true := by simp only [valBad, hvb, hvk, Bool.or_eq_true, decide_eq_true_eq]; omega
        have e1 : valAt u m i = 0 := by simp [valAt, e]
        have e2 : valErr u m i = 5 := by simp [valErr, e]
        rw [e1, e2]
        exact value_wide g lo hi d u m i _ _ w h hm1 hm hum (by omega) hq hr hrlt (Nat.pos_of_ne_zero hq0) (Nat.le_of_not_lt h64) h63
      · have e : valBad u m i = false := by simp only [valBad, hvb, hvk, Bool.or_eq_false_iff, decide_eq_false_iff_not]; omega
        have e1 : valAt u m i = (i % Hd.half m + Hd.half m) * 2 ^ (i / Hd.half m - 1 + u) := by simp [valAt, e, hvb, hvk]
        have e2 : valErr u m i = 0 := by simp [valErr, e]
        rw [e1, e2]
        have hq2 : i / Hd.half m = (i / Hd.half m - 1) + 1 := by have := Nat.pos_of_ne_zero hq0; omega
        exact value_in g lo hi d u m i (i / Hd.half m - 1) _ w h hm1 hm hum (by omega) (by rw [hq]; exact_mod_cast hq2) hr hrlt (by have := Nat.le_of_not_lt h64; omega) (Nat.le_of_not_lt h63)
set_option maxHeartbeats 400000 in
theorem value_neg (g : Nat) (i : Int) (w : World) (hi : i < 0) :
    Calls Try.prog 24 #[.pointer (some ⟨g, 0, none⟩), .int .i64 i] w fun e w' => e = .returned (.tuple #[.int .i64 0, .int .i64 5]) ∧ ∃ n, w' = w.drewN n := by
  have hd : decide (i < 0) = true := by simpa using hi
  go_enter Try.func24, Try.ntmps24
  go_wp2_with fail
  go_ret2
  exact ⟨rfl, 0, rfl⟩
end Go.Proofs.Ytclnjhcfoggeaaa
