/- HdrHistogram's cells: each function walked once. -/
import Derived.Test.YtclnjhcfoggeaaaChecked
import Derived.Test.YtclnjhcfoggeaaaBase
import Derived.Test.YtclnjhcfoggeaaaHdrPlain
import Derived.Test.YtclnjhcfoggeaaaLen64
import Derived.Lib.Slices
import Derived.Lib.Small
import Derived.Lib.Walk
import Derived.RegionTactic
import Derived.BigRegion
import Derived.Deep.QuietTactic
import Derived.BigQuiet
import Derived.Deep.LoopGhost
namespace Go.Proofs.Ytclnjhcfoggeaaa
open Go.RowKit

/-- A map in memory: its shape, its unit and magnitude. -/
def Mp (w : World) (g : Nat) (lo hi d : Int) (u m : Nat) : Prop := Blk w g 60 #[.int .i64 lo, .int .i64 hi, .int .i64 d, .int .i64 (u : Int), .int .i64 (m : Int)]
section
variable {w w' : World} {g : Nat} {lo hi d : Int} {u m : Nat}
theorem Mp.c0 (h : Mp w g lo hi d u m) : w.cell? ⟨g, 0, none⟩ = some (.int .i64 lo) := by rw [Blk.cell h]; rfl
theorem Mp.c1 (h : Mp w g lo hi d u m) : w.cell? ⟨g, 1, none⟩ = some (.int .i64 hi) := by rw [Blk.cell h]; rfl
theorem Mp.c2 (h : Mp w g lo hi d u m) : w.cell? ⟨g, 2, none⟩ = some (.int .i64 d) := by rw [Blk.cell h]; rfl
theorem Mp.c3 (h : Mp w g lo hi d u m) : w.cell? ⟨g, 3, none⟩ = some (.int .i64 (u : Int)) := by rw [Blk.cell h]; rfl
theorem Mp.c4 (h : Mp w g lo hi d u m) : w.cell? ⟨g, 4, none⟩ = some (.int .i64 (m : Int)) := by rw [Blk.cell h]; rfl
theorem Mp.drewN (h : Mp w g lo hi d u m) (n : Nat) : Mp (w.drewN n) g lo hi d u m := h
theorem Mp.below {B : Nat} (h : Mp w g lo hi d u m) (hb : Below B w w') (hg : g < B) : Mp w' g lo hi d u m := Blk.below h hb hg
end
theorem wrap_half (m : Nat) (hm : m ≤ 62) : wrap64 ((2 : Int) ^ (m - 1)) = ((Hd.half m : Nat) : Int) := by
  have h : Hd.half m < 2 ^ 62 := Nat.pow_lt_pow_right (by omega) (by omega)
  have e : (2 : Int) ^ (m - 1) = ((Hd.half m : Nat) : Int) := by unfold Hd.half; push_cast; rfl
  rw [e]
  unfold wrap64
  omega
set_option maxHeartbeats 400000 in
theorem half_t (g : Nat) (lo hi d : Int) (u m : Nat) (w : World) (h : Mp w g lo hi d u m) (hm1 : 1 ≤ m) (hm : m ≤ 62) :
    Calls Try.prog 35 #[.pointer (some ⟨g, 0, none⟩)] w fun e w' => e = .returned (.int .i64 (Hd.half m : Nat)) ∧ w' = w := by
  have c4 := h.c4
  clear h
  go_enter Try.func35, Try.ntmps35
  go_wp2
  go_ret
  exact ⟨ret_int (wrap_half m hm), rfl⟩

theorem len64n_t (v : Nat) (w : World) (hv : v < 2 ^ 64) :
    Calls Try.prog 31 #[.int .u64 (v : Int)] w fun e w' => e = .returned (.int .i64 (Hd.bl v : Nat)) ∧ w' = w := by
  have h := len64_t (v : Int) w (by omega) (by omega)
  simpa using h
theorem len64w_t (x : Int) (v : Nat) (w : World) (hx : x = (v : Int)) (hv : v < 2 ^ 64) :
    Calls Try.prog 31 #[.int .u64 x] w fun e w' => e = .returned (.int .i64 (Hd.bl v : Nat)) ∧ w' = w := by
  rw [hx]
  exact len64n_t v w hv
set_option maxHeartbeats 400000 in
theorem bucket_t (g : Nat) (lo hi d : Int) (u m v : Nat) (w : World) (h : Mp w g lo hi d u m) (hum : u + m ≤ 62) (hv : v < 2 ^ 63) :
    Calls Try.prog 36 #[.pointer (some ⟨g, 0, none⟩), .int .i64 (v : Int)] w fun e w' => e = .returned (.int .i64 (Hd.bk u m v : Nat)) ∧ ∃ n, w' = w.drewN n := by
  have c3 := h.c3
  have c4 := h.c4
  clear h
  have hv2 : (v : Int) ≤ 9223372036854775807 := by omega
  have hb := Hd.bl_le64 v (by omega)
  have e : ((Hd.bk u m v : Nat) : Int) = max 0 ((Hd.bl v : Int) - u - m) := by unfold Hd.bk; omega
  rw [e]
  clear e
  go_enter Try.func36, Try.ntmps36
  go_wp2
  go_quiet ((go_at_call 31; refine Calls.quiet_of_same (len64n_t v _ (by omega))))
  go_wp2
  all_goals (go_ret; exact ⟨ret_int (by omega), _, rfl⟩)

set_option maxHeartbeats 400000 in
theorem cell_t (g : Nat) (lo hi d : Int) (u m v : Nat) (w : World) (h : Mp w g lo hi d u m) (hm1 : 1 ≤ m) (hum : u + m ≤ 62) (hv : v < 2 ^ 63) :
    Calls Try.prog 34 #[.pointer (some ⟨g, 0, none⟩), .int .i64 (v : Int)] w fun e w' => e = .returned (.tuple #[.int .i64 (Hd.bk u m v : Nat), .int .i64 (Hd.ck u m v : Nat)]) ∧ ∃ n, w' = w.drewN n := by
  have c3 := h.c3
  have hv2 : (v : Int) ≤ 9223372036854775807 := by omega
  have hb := Hd.bk_fit (u := u) (m := m) hv (by omega)
  have HM := Lib.hid h
  clear h
  go_enter Try.func34, Try.ntmps34
  go_wp2_with fail
  refine (bucket_t g lo hi d u m v _ HM.out hum hv).mono ?_
  rintro e w1 ⟨rfl, n, rfl⟩
  go_wp2
  go_quiet (fail)
  go_wp2
  go_ret2
  exact ⟨by rw [Hd.ck]; push_cast; rfl, n + nq, by rw [World.drewN_drewN]⟩

def vb (m i : Nat) : Nat := i / Hd.half m - 1
def vk (m i : Nat) : Nat := if i / Hd.half m = 0 then i else i % Hd.half m + Hd.half m

set_option maxHeartbeats 400000 in
theorem index_t (g : Nat) (lo hi d : Int) (u m v : Nat) (w : World) (h : Mp w g lo hi d u m) (hm1 : 1 ≤ m) (hm : m ≤ 18) (hum : u + m ≤ 62) (hv : v < 2 ^ 63) :
    Calls Try.prog 16 #[.pointer (some ⟨g, 0, none⟩), .int .i64 (v : Int)] w fun e w' => e = .returned (.tuple #[.int .i64 (Hd.idx u m v : Nat), .int .i64 0]) ∧ ∃ n, w' = w.drewN n := by
  have hv2 : (v : Int) ≤ 9223372036854775807 := by omega
  have hb := Hd.bk_fit (u := u) (m := m) hv (by omega)
  have hh := Hd.half_le hm
  have hc := Hd.ck_lt (u := u) (m := m) hv
  have h2 := Hd.half_two m hm1
  have hi := Hd.idx_le (u := u) hv hm1 hm
  have hp : ((Hd.bk u m v : Int) + 1) * (Hd.half m : Int) = ((Hd.bk u m v * Hd.half m : Nat) : Int) + (Hd.half m : Int) := by push_cast; rw [Int.add_mul, Int.one_mul]
  have HE := Lib.hid (show ((Hd.idx u m v : Nat) : Int) = ((Hd.bk u m v * Hd.half m : Nat) : Int) + (Hd.ck u m v : Int) by unfold Hd.idx; push_cast; rfl)
  have hx : Hd.bk u m v * Hd.half m ≤ 16777216 := by unfold Hd.idx at hi; omega
  generalize Hd.bk u m v * Hd.half m = X at *
  have HM := Lib.hid h
  have hc2 : (Hd.ck u m v : Int) ≤ 262144 := by omega
  have hx2 : (X : Int) ≤ 16777216 := by omega
  have hh2 : (Hd.half m : Int) ≤ 131072 := by omega
  clear h h2 hi
  rw [HE.out]
  clear HE
  go_enter Try.func16, Try.ntmps16
  go_wp2_with fail
  refine (cell_t g lo hi d u m v _ HM.out hm1 hum hv).mono ?_
  rintro e w1 ⟨rfl, n, rfl⟩
  go_wp2_with fail
  refine (half_t g lo hi d u m _ (HM.out.drewN _) hm1 (by omega)).mono ?_
  rintro e w1 ⟨rfl, rfl⟩
  go_wp2_with fail
  refine (half_t g lo hi d u m _ (HM.out.drewN _) hm1 (by omega)).mono ?_
  rintro e w1 ⟨rfl, rfl⟩
  go_wp2_with fail
  go_ret2
  exact ⟨congrArg (fun z => Ending.returned (.tuple #[.int .i64 z, .int .i64 0])) (show (X : Int) + Hd.half m + Hd.ck u m v - Hd.half m = X + Hd.ck u m v by omega), n, rfl⟩

set_option maxHeartbeats 400000 in
theorem index_neg (g : Nat) (v : Int) (w : World) (hv : v < 0) :
    Calls Try.prog 16 #[.pointer (some ⟨g, 0, none⟩), .int .i64 v] w fun e w' => e = .returned (.tuple #[.int .i64 0, .int .i64 5]) ∧ ∃ n, w' = w.drewN n := by
  have hd : decide (v < 0) = true := by simpa using hv
  go_enter Try.func16, Try.ntmps16
  go_wp2_with fail
  go_ret2
  exact ⟨rfl, 0, rfl⟩

theorem ends_eq {u m v : Nat} (hv : v < 2 ^ 63) (hm1 : 1 ≤ m) (hum : u + m ≤ 62) :
    Ending.returned (.tuple #[.int .i64 (wrap64 ((Hd.ck u m v : Int) * 2 ^ (Hd.bk u m v + u))), .int .i64 (wrap64 (wrap64 ((Hd.ck u m v : Int) * 2 ^ (Hd.bk u m v + u)) + wrap64 (wrap64 ((2 : Int) ^ (Hd.bk u m v + u)) - 1)))]) = Ending.returned (.tuple #[.int .i64 (Hd.low u m v : Nat), .int .i64 ((Hd.low u m v + (Hd.size u m v - 1) : Nat) : Int)]) := by
  have hb := Hd.bk_fit (u := u) (m := m) hv (by omega)
  have h1 := Hd.high_le (u := u) (m := m) hv (by omega)
  have h2 := Hd.size_pos (u := u) (m := m) (v := v)
  have h3 : Hd.size u m v ≤ 2 ^ 62 := Nat.pow_le_pow_right (by omega) (by omega)
  have e1 : (Hd.ck u m v : Int) * 2 ^ (Hd.bk u m v + u) = ((Hd.low u m v : Nat) : Int) := by unfold Hd.low; push_cast; rfl
  have e2 : (2 : Int) ^ (Hd.bk u m v + u) = ((Hd.size u m v : Nat) : Int) := by unfold Hd.size; push_cast; rfl
  rw [e1, e2]
  have f1 : wrap64 ((Hd.low u m v : Nat) : Int) = ((Hd.low u m v : Nat) : Int) := by unfold wrap64; omega
  have f2 : wrap64 ((Hd.size u m v : Nat) : Int) = ((Hd.size u m v : Nat) : Int) := by unfold wrap64; omega
  have f3 : wrap64 (((Hd.size u m v : Nat) : Int) - 1) = ((Hd.size u m v : Nat) : Int) - 1 := by unfold wrap64; omega
  have f4 : wrap64 (((Hd.low u m v : Nat) : Int) + (((Hd.size u m v : Nat) : Int) - 1)) = ((Hd.low u m v + (Hd.size u m v - 1) : Nat) : Int) := by unfold wrap64; omega
  rw [f1, f2, f3, f4]
set_option maxHeartbeats 400000 in
theorem ends_t (g : Nat) (lo hi d : Int) (u m v : Nat) (w : World) (h : Mp w g lo hi d u m) (hm1 : 1 ≤ m) (hum : u + m ≤ 62) (hv : v < 2 ^ 63) :
    Calls Try.prog 39 #[.pointer (some ⟨g, 0, none⟩), .int .i64 (v : Int)] w fun e w' => e = .returned (.tuple #[.int .i64 (Hd.low u m v : Nat), .int .i64 ((Hd.low u m v + (Hd.size u m v - 1) : Nat) : Int)]) ∧ ∃ n, w' = w.drewN n := by
  have c3 := h.c3
  have hv2 : (v : Int) ≤ 9223372036854775807 := by omega
  have hb := Hd.bk_fit (u := u) (m := m) hv (by omega)
  have HM := Lib.hid h
  clear h
  go_enter Try.func39, Try.ntmps39
  go_wp2_with fail
  refine (cell_t g lo hi d u m v _ HM.out hm1 hum hv).mono ?_
  rintro e w1 ⟨rfl, n, rfl⟩
  go_wp2
  go_quiet (fail)
  go_wp2
  go_ret2
  exact ⟨ends_eq hv hm1 hum, n + nq, by rw [World.drewN_drewN]⟩

end Go.Proofs.Ytclnjhcfoggeaaa
