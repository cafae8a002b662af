/- Adler-32: each function walked once. -/
import Derived.Test.YtnhfhadfnmeecaaChecked
import Derived.Test.YtnhfhadfnmeecaaBase
import Derived.Test.YtnhfhadfnmeecaaAdlerPlain
import Derived.RegionTactic
import Derived.BigRegion
import Derived.Deep.QuietTactic
import Derived.BigQuiet
import Derived.Deep.LoopGhost
namespace Go.Proofs.Ytnhfhadfnmeecaa
open Go.RowKit

set_option maxHeartbeats 400000 in
theorem add_t (g : Nat) (a b x : Int) (w : World) (hb : Blk w g 35 #[.int .u64 a, .int .u64 b])
   (ha0 : 0 ≤ a) (ha1 : a ≤ 65520) (hb0 : 0 ≤ b) (hb1 : b ≤ 65520) (hx0 : 0 ≤ x) (hx1 : x ≤ 255) :
    Calls Try.prog 17 #[.pointer (some ⟨g, 0, none⟩), .int .u8 x] w fun e w' => e = .returned (.tuple #[]) ∧ Blk w' g 35 #[.int .u64 (Ad.st (a, b) x).1, .int .u64 (Ad.st (a, b) x).2] ∧ w.grownBy w' (some g) := by
  have c0 : w.cell? ⟨g, 0, none⟩ = some (.int .u64 a) := by rw [hb.cell]; rfl
  have c1 : w.cell? ⟨g, 1, none⟩ = some (.int .u64 b) := by rw [hb.cell]; rfl
  have f0 := hb.free 0
  have f1 := hb.free 1
  have hg := hb.lt
  have HB := Lib.hid hb
  clear hb
  go_enter Try.func17, Try.ntmps17
  go_wp2
  go_region
  go_end0
  refine ⟨rfl, ?_, ?_⟩
  · rw [Ad.st_eq]; exact ((HB.out.put 0 _).put 1 _)
  · exact ⟨rfl, rfl, rfl, by simp [World.setCell], fun k hk hne => by
      show (World.setCell (World.setCell w _ _) _ _).heap[k]? = _
      have : k ≠ g := fun e => hne (by rw [e])
      rw [Below.heap_setCell _ _ _ _ this, Below.heap_setCell _ _ _ _ this]⟩

theorem and_low (s : Int) (h0 : 0 ≤ s) (h1 : s ≤ 4294967295) : bits .and .u32 s 65535 = s % 65536 := by
  rw [u32_and s 65535 h0 (by omega) (by omega) (by omega)]
  rw [show (65535 : Int).toNat = 65535 from rfl, nat_mask16]
  omega
theorem or_join (a b : Int) (ha0 : 0 ≤ a) (ha1 : a ≤ 65520) (hb0 : 0 ≤ b) (hb1 : b ≤ 65520) : bits .or .u64 (b * 65536) a = b * 65536 + a := by
  rw [u64_or _ _ (by omega) (by omega) (by omega) (by omega), nat_join 16 _ _ (by omega) (by omega)]
  omega

theorem of_t (s : Int) (w : World) (h0 : 0 ≤ s) (h1 : s ≤ 4294967295) :
    Calls Try.prog 15 #[.int .u32 s] w fun e w' => e = .returned (.agg #[.int .u64 (Ad.of s).1, .int .u64 (Ad.of s).2]) ∧ Below w.heap.size w w' := by
  have hand := and_low s h0 h1
  have k0 : 0 ≤ s % 65536 := by omega
  have k1 : s % 65536 ≤ 65535 := by omega
  go_enter Try.func15, Try.ntmps15
  go_wp2
  exact bodyPost_ret (v := .agg #[.int .u64 (s % 65536 % 65521), .int .u64 (s / 65536 % 65521)]) (by simp [results, Try.results15, go_sem]) rfl ⟨rfl, (Below.refl _ _).alloc (Nat.le_refl _) _⟩

theorem sum_t (a b : Int) (w : World) (ha0 : 0 ≤ a) (ha1 : a ≤ 65520) (hb0 : 0 ≤ b) (hb1 : b ≤ 65520) :
    Calls Try.prog 16 #[.agg #[.int .u64 a, .int .u64 b]] w fun e w' => e = .returned (.int .u32 (Ad.sum (a, b))) ∧ Below w.heap.size w w' := by
  have hor := or_join a b ha0 ha1 hb0 hb1
  have e : b * 65536 + a = Ad.sum (a, b) := by unfold Ad.sum; simp only; omega
  go_enter Try.func16, Try.ntmps16
  go_wp2
  go_ret
  exact ⟨rfl, (Below.refl _ _).alloc (Nat.le_refl _) _⟩

set_option maxHeartbeats 400000 in
theorem more_t (s : Int) (A : Option Addr) (c : Nat) (l : List UInt8) (w : World) (h0 : 0 ≤ s) (h1 : s ≤ 4294967295) (hl : l.length ≤ maxLen) (hr : Bts w w.heap.size A l) :
    Calls Try.prog 10 #[.int .u32 s, .slice A l.length c] w fun e w' => e = .returned (.int .u32 (Ad.more s l)) ∧ Below w.heap.size w w' := by
  unfold maxLen at hl
  have HR := Lib.hid hr
  clear hr
  go_enter Try.func10, Try.ntmps10
  go_wp2_with fail
  refine (of_t _ _ h0 h1).mono ?_
  rintro e w1 ⟨rfl, hb1⟩
  go_wp2_with fail
  obtain ⟨G, hG⟩ : ∃ G, G = w1.heap.size := ⟨_, rfl⟩
  rw [← hG]
  have hbase : w.heap.size ≤ G := by have := hb1.size; omega
  have hblk : Blk (w1.alloc (.cells #[.int .u64 (Ad.of s).1, .int .u64 (Ad.of s).2] 35)) G 35 #[.int .u64 (Ad.of s).1, .int .u64 (Ad.of s).2] := by rw [hG]; exact Blk.new _ _ _
  have hbel : Below w.heap.size w (w1.alloc (.cells #[.int .u64 (Ad.of s).1, .int .u64 (Ad.of s).2] 35)) := hb1.alloc hb1.size _
  clear hG hb1
  generalize w1.alloc (.cells #[.int .u64 (Ad.of s).1, .int .u64 (Ad.of s).2] 35) = W at *
  have HB := Lib.hid hblk
  clear hblk
  go_loopw [14] (fun i wr => ∃ k : Nat, k ≤ l.length ∧ i = .int .i64 k ∧ Blk wr G 35 #[.int .u64 (Ad.run (Ad.of s) (l.take k)).1, .int .u64 (Ad.run (Ad.of s) (l.take k)).2] ∧ Below w.heap.size w wr) (fun i _ => l.length - (intOf i).toNat)
  case atStart => exact ⟨0, Nat.zero_le _, rfl, by simpa [Ad.run, Ad.bs] using HB.out, hbel⟩
  case round =>
    obtain ⟨k, hk, rfl, hblk, hbel⟩ := hrel
    have okp := Ad.ok_run (Ad.of s) (l.take k) (Ad.ok_of s)
    unfold Ad.ok at okp
    obtain ⟨p0, p1, p2, p3⟩ := okp
    by_cases hlt : k < l.length
    · obtain ⟨b, o, rfl, hbb, hcell⟩ := HR.out.at_ (by omega)
      have hc := (hbel.cell (p := ⟨b, o + k, none⟩) hbb).trans (hcell k hlt)
      have hx := l[k].toNat_lt
      have HS := Lib.hid (Ad.run_snoc (Ad.of s) l k hlt)
      clear hcell
      have hlt' : (k : Int) < (l.length : Int) := by omega
      go_wp2_with fail
      refine (add_t G _ _ (l[k].toNat : Int) _ hblk p0 p1 p2 p3 (by omega) (by omega)).mono ?_
      rintro e w2 ⟨rfl, hblk2, hg2⟩
      have hbel2 : Below w.heap.size w w2 := hbel.grown hg2 hbel.size (fun k e => by injection e with e; omega)
      go_wp2
      go_roundw
      case rel => exact ⟨k + 1, by omega, by go_num, by rw [HS.out]; exact hblk2, hbel2⟩
      case measure => simp [intOf]; omega
    · have c0 : wr.cell? ⟨G, 0, none⟩ = some (.int .u64 (Ad.run (Ad.of s) (l.take k)).1) := by rw [hblk.cell]; rfl
      have c1 : wr.cell? ⟨G, 1, none⟩ = some (.int .u64 (Ad.run (Ad.of s) (l.take k)).2) := by rw [hblk.cell]; rfl
      have hk' : l.take k = l := List.take_of_length_le (by omega)
      have HK := Lib.hid hk'
      clear hk' hblk
      go_wp2_with fail
      refine (sum_t _ _ _ p0 p1 p2 p3).mono ?_
      rintro e w2 ⟨rfl, hb2⟩
      go_wp2
      go_ret
      exact ⟨by rw [HK.out]; rfl, hbel.trans (hb2.mono hbel.size)⟩

theorem asum_t (A : Option Addr) (c : Nat) (l : List UInt8) (w : World) (hl : l.length ≤ maxLen) (hr : Bts w w.heap.size A l) :
    Calls Try.prog 8 #[.slice A l.length c] w fun e w' => e = .returned (.int .u32 (Ad.more 1 l)) ∧ Below w.heap.size w w' := by
  have HR := Lib.hid hr
  clear hr
  go_enter Try.func8, Try.ntmps8
  go_wp2_with fail
  refine (more_t 1 A c l _ (by omega) (by omega) hl HR.out).mono ?_
  rintro e w1 ⟨rfl, hb1⟩
  go_wp2
  go_ret
  exact ⟨rfl, hb1⟩

theorem prod_small (m a : Int) (m0 : 0 ≤ m) (m1 : m ≤ 65520) (a0 : 0 ≤ a) (a1 : a ≤ 65520) : 0 ≤ m * a ∧ m * a ≤ 4292870400 :=
  ⟨Int.mul_nonneg m0 a0, Int.le_trans (Int.mul_le_mul m1 a1 a0 (by omega)) (by decide)⟩
set_option maxHeartbeats 400000 in
theorem join_t (s t n : Int) (w : World) (s0 : 0 ≤ s) (s1 : s ≤ 4294967295) (t0 : 0 ≤ t) (t1 : t ≤ 4294967295) (n0 : -9223372036854775808 ≤ n) (n1 : n ≤ 9223372036854775807) :
    Calls Try.prog 9 #[.int .u32 s, .int .u32 t, .int .i64 n] w fun e w' => e = .returned (.int .u32 (Ad.join s t (max n 0))) ∧ Below w.heap.size w w' := by
  go_enter Try.func9, Try.ntmps9
  go_wp2_with fail
  refine (of_t s _ s0 s1).mono ?_
  rintro e w1 ⟨rfl, hb1⟩
  go_wp2_with fail
  refine (of_t t _ t0 t1).mono ?_
  rintro e w2 ⟨rfl, hb2⟩
  have os := Ad.ok_of s
  have ot := Ad.ok_of t
  unfold Ad.ok at os ot
  obtain ⟨p0, p1, p2, p3⟩ := os
  obtain ⟨q0, q1, q2, q3⟩ := ot
  have w0 : IntKind.u64.wrap 0 = 0 := rfl
  have pr := prod_small (n % 65521) (((Ad.of s).1 + 65521 - 1) % 65521) (by omega) (by omega) (by omega) (by omega)
  obtain ⟨r0, r1⟩ := pr
  have hz := hb1.size
  by_cases hn : n < 0
  · go_wp2_with fail
    refine (sum_t _ _ _ (by omega) (by omega) (by omega) (by omega)).mono ?_
    rintro e w3 ⟨rfl, hb3⟩
    go_wp2
    go_ret
    refine ⟨ret_int ?_, nextB (newB (newB (nextB hb1 hb2) _) _) hb3⟩
    have e : max n 0 = 0 := by omega
    simp only [e, Ad.join, Ad.sum]
    simp
    omega
  · go_wp2_with fail
    refine (sum_t _ _ _ (by omega) (by omega) (by omega) (by omega)).mono ?_
    rintro e w3 ⟨rfl, hb3⟩
    go_wp2
    go_ret
    refine ⟨ret_int ?_, nextB (newB (newB (nextB hb1 hb2) _) _) hb3⟩
    have e : max n 0 = n := by omega
    have e2 : (Ad.of s).1 + 65521 - 1 = (Ad.of s).1 + 65520 := by omega
    rw [e2] at r0 r1
    simp only [e, Ad.join, Ad.sum, e2]
    omega

set_option maxHeartbeats 400000 in
theorem rmore_t (s : Int) (A : Option Addr) (c : Nat) (l : List UInt8) (w : World) (h0 : 0 ≤ s) (h1 : s ≤ 4294967295) (hl : l.length ≤ maxLen) (hr : Bts w w.heap.size A l) :
    Calls Try.prog 13 #[.int .u32 s, .slice A l.length c] w fun e w' => e = .returned (.int .u32 (Ad.more s l)) ∧ w = w' := by
  unfold maxLen at hl
  have HR := Lib.hid hr
  clear hr
  go_enter Try.func13, Try.ntmps13
  go_wp2_with fail
  go_loop [5, 6, 7] (fun a b i => ∃ k : Nat, k ≤ l.length ∧ i = .int .i64 k ∧ a = .int .u32 (Ad.run (Ad.of s) (l.take k)).1 ∧ b = .int .u32 (Ad.run (Ad.of s) (l.take k)).2) (fun _ _ i => l.length - (intOf i).toNat)
  case atStart => exact ⟨0, Nat.zero_le _, rfl, by simp [Ad.run, Ad.bs, Ad.of], by simp [Ad.run, Ad.bs, Ad.of]⟩
  case round =>
    obtain ⟨k, hk, rfl, rfl, rfl⟩ := hrel
    have okp := Ad.ok_run (Ad.of s) (l.take k) (Ad.ok_of s)
    unfold Ad.ok at okp
    obtain ⟨p0, p1, p2, p3⟩ := okp
    by_cases hlt : k < l.length
    · obtain ⟨b, o, rfl, hbb, hcell⟩ := HR.out.at_ (by omega)
      have hc := hcell k hlt
      have hx := l[k].toNat_lt
      have HS := Lib.hid (Ad.run_snoc (Ad.of s) l k hlt)
      clear hcell
      have hlt' : (k : Int) < (l.length : Int) := by omega
      generalize Ad.run (Ad.of s) (l.take k) = p at *
      go_wp2
      go_round
      case rel => exact ⟨k + 1, by omega, by go_num, by rw [HS.out]; rfl, by rw [HS.out, Int.add_comm]; rfl⟩
      case measure => simp [intOf]; omega
    · have hk' : l.take k = l := List.take_of_length_le (by omega)
      have HK := Lib.hid hk'
      clear hk'
      go_wp2
      go_ret
      exact ⟨ret_int (by rw [HK.out]; unfold Ad.more Ad.sum; omega), rfl⟩

theorem rsum_t (A : Option Addr) (c : Nat) (l : List UInt8) (w : World) (hl : l.length ≤ maxLen) (hr : Bts w w.heap.size A l) :
    Calls Try.prog 12 #[.slice A l.length c] w fun e w' => e = .returned (.int .u32 (Ad.more 1 l)) ∧ w = w' := by
  have HR := Lib.hid hr
  clear hr
  go_enter Try.func12, Try.ntmps12
  go_wp2_with fail
  refine (rmore_t 1 A c l _ (by omega) (by omega) hl HR.out).mono ?_
  rintro e w1 ⟨rfl, rfl⟩
  go_wp2
  go_ret
  exact ⟨rfl, rfl⟩

def rightB (s : Int) : Bool := decide (s % 65536 < 65521) && decide (s / 65536 < 65521)
theorem right_t (s : Int) (w : World) (h0 : 0 ≤ s) (h1 : s ≤ 4294967295) :
    Calls Try.prog 14 #[.int .u32 s] w fun e w' => e = .returned (.bool (rightB s)) ∧ w = w' := by
  have hand := and_low s h0 h1
  unfold rightB
  go_enter Try.func14, Try.ntmps14
  by_cases h3 : s % 65536 < 65521
  · have d3 : decide (s % 65536 < 65521) = true := by simpa using h3
    go_wp2
    go_ret
    exact ⟨by simp [h3], rfl⟩
  · have d3 : decide (s % 65536 < 65521) = false := by simpa using h3
    go_wp2
    go_ret
    exact ⟨by simp, rfl⟩

def rjoin (s t n : Int) : Int :=
  let a := s % 65536 % 65521
  let b := s / 65536 % 65521
  let c := t % 65536 % 65521
  let d := t / 65536 % 65521
  65536 * ((b + d + n % 65521 * ((a + 65520) % 65521)) % 65521) + (a + c + 65520) % 65521
theorem rjoin_eq (s t n : Int) : rjoin s t n = Ad.join s t n := by
  unfold rjoin Ad.join Ad.sum Ad.of
  simp only
  omega
set_option maxHeartbeats 400000 in
theorem rjoin_t (s t n : Int) (w : World) (s0 : 0 ≤ s) (s1 : s ≤ 4294967295) (t0 : 0 ≤ t) (t1 : t ≤ 4294967295) (n0 : -9223372036854775808 ≤ n) (n1 : n ≤ 9223372036854775807) :
    Calls Try.prog 11 #[.int .u32 s, .int .u32 t, .int .i64 n] w fun e w' => e = .returned (.int .u32 (Ad.join s t (max n 0))) ∧ w = w' := by
  rw [← rjoin_eq]
  unfold rjoin
  simp only [Int.emod_add_emod]
  have p0 : 0 ≤ s % 65536 % 65521 := by omega
  have p1 : s % 65536 % 65521 ≤ 65520 := by omega
  have p2 : 0 ≤ s / 65536 % 65521 := by omega
  have p3 : s / 65536 % 65521 ≤ 65520 := by omega
  have q0 : 0 ≤ t % 65536 % 65521 := by omega
  have q1 : t % 65536 % 65521 ≤ 65520 := by omega
  have q2 : 0 ≤ t / 65536 % 65521 := by omega
  have q3 : t / 65536 % 65521 ≤ 65520 := by omega
  have w0 : IntKind.u64.wrap 0 = 0 := rfl
  obtain ⟨r0, r1⟩ := prod_small (n % 65521) ((s % 65536 + 65520) % 65521) (by omega) (by omega) (by omega) (by omega)
  by_cases hn : n < 0
  · have e : max n 0 = 0 := by omega
    rw [e]
    clear e r0 r1
    go_enter Try.func11, Try.ntmps11
    go_wp2
    go_ret
    refine ⟨ret_int ?_, rfl⟩
    simp
  · have e : max n 0 = n := by omega
    rw [e]
    clear e
    go_enter Try.func11, Try.ntmps11
    go_wp2
    go_ret
    refine ⟨ret_int ?_, rfl⟩
    omega
end Go.Proofs.Ytnhfhadfnmeecaa
