/- The document's numbers of 128 bits, by digits of 16 bits: walked. -/
import Derived.Test.YtbfhiegbgkkgiaaGreatChecked
import Derived.Test.YtbfhiegbgkkgiaaGreatC27
import Derived.Lib.Hide
import Derived.Deep.QuietTactic
import Derived.BigQuiet
import Derived.OwnWalk
import Derived.IntWalk
import Derived.Outline
namespace Go.Proofs.YtbfhiegbgkkgiaaGreat
open Go.RowKit
open Tn
def ub (l : List Nat) : Array Value := (l.map (fun n => Value.int .u64 ((n : Nat) : Int))).toArray
theorem ub_get {l : List Nat} {i x : Nat} (h : l[i]? = some x) : (ub l)[i]? = some (.int .u64 ((x : Nat) : Int)) := by simp [ub, h]
theorem ub_set (l : List Nat) (i x : Nat) : (ub l).setIfInBounds i (.int .u64 ((x : Nat) : Int)) = ub (l.set i x) := by
  apply Array.ext'
  simp [ub, List.map_set]
theorem ub_cell {w : World} {g : Nat} {t : TypeId} {l : List Nat} (h : Blk w g t (ub l)) {i x : Nat} (hx : l[i]? = some x) : w.cell? ⟨g, i, none⟩ = some (.int .u64 ((x : Nat) : Int)) := by
  rw [h.cell]; exact ub_get hx
/-- A slice of numbers that a call has made. -/
def NewU (w : World) (l : List Nat) (e : Ending) (w' : World) : Prop := ∃ g, e = .returned (.slice (some ⟨g, 0, none⟩) l.length l.length) ∧ w.heap.size ≤ g ∧ Blk w' g 39 (ub l) ∧ Below w.heap.size w w'
theorem digits_t (n : Nat) (hn : n < 18446744073709551616) (w : World) : Calls Tryz.prog 129 #[.int .u64 (n : Int)] w (NewU w (dg n 4)) := by
  obtain ⟨d1, hd1⟩ : ∃ d1, d1 = n / 65536 := ⟨_, rfl⟩
  obtain ⟨d2, hd2⟩ : ∃ d2, d2 = n / 4294967296 := ⟨_, rfl⟩
  obtain ⟨d3, hd3⟩ : ∃ d3, d3 = n / 281474976710656 := ⟨_, rfl⟩
  have w1 : IntKind.u64.wrap ((n : Int) / 65536) = (d1 : Int) := by rw [IntWalk.u64_in _ ⟨by omega, by omega⟩]; omega
  have w2 : IntKind.u64.wrap ((n : Int) / 4294967296) = (d2 : Int) := by rw [IntWalk.u64_in _ ⟨by omega, by omega⟩]; omega
  have w3 : IntKind.u64.wrap ((n : Int) / 281474976710656) = (d3 : Int) := by rw [IntWalk.u64_in _ ⟨by omega, by omega⟩]; omega
  have e : #[Value.int .u64 ((n : Int) % 65536), .int .u64 ((d1 : Int) % 65536), .int .u64 ((d2 : Int) % 65536), .int .u64 (d3 : Int)] = ub (dg n 4) := by
    have e1 : dg n 4 = [n % 65536, d1 % 65536, d2 % 65536, d3] := by
      show [n / 65536 ^ 0 % 65536, n / 65536 ^ 1 % 65536, n / 65536 ^ 2 % 65536, n / 65536 ^ 3 % 65536] = _
      simp only [Nat.pow_zero, Nat.div_one, Nat.pow_one, show (65536 : Nat) ^ 2 = 4294967296 from rfl, show (65536 : Nat) ^ 3 = 281474976710656 from rfl]
      rw [Nat.mod_eq_of_lt (show n / 281474976710656 < 65536 by omega), hd1, hd2, hd3]
    rw [e1]
    rfl
  have HE := Lib.hid e
  clear e hn hd1 hd2 hd3
  have HL : Hid ((dg n 4).length = 4) := Lib.hid rfl
  go_enter Tryz.func129, Tryz.ntmps129
  go_wp2_with fail
  go_ret
  rw [HE.out]
  exact ⟨w.heap.size, rfl, Nat.le_refl _, Blk.new _ _ _, (Below.refl _ _).alloc (Nat.le_refl _) _⟩
theorem num_step (V f r : Nat) (hr : r < 4) : 65536 * (V / 65536 ^ (f + 4 - r) % 65536 ^ r) + V / 65536 ^ (f + 3 - r) % 65536 = V / 65536 ^ (f + 4 - (r + 1)) % 65536 ^ (r + 1) := by
  rw [show f + 4 - r = f + 3 - r + 1 by omega, show f + 4 - (r + 1) = f + 3 - r by omega, Nat.pow_succ, ← Nat.div_div_eq_div_mul]
  generalize V / 65536 ^ (f + 3 - r) = U
  rw [Nat.pow_succ, Nat.mul_comm (65536 ^ r), Nat.mod_mul]
  omega
set_option maxHeartbeats 800000 in
theorem number_t (g V f : Nat) (hf : f ≤ 4) (w : World) (h : Blk w g 39 (ub (dg V 8))) :
    Calls Tryz.prog 123 #[.slice (some ⟨g, 0, none⟩) 8 8, .int .i64 (f : Int)] w fun e w' => e = .returned (.int .u64 ((V / 65536 ^ f % 18446744073709551616 : Nat) : Int)) ∧ w = w' := by
  have H := Lib.hid h
  have hfi : (f : Int) ≤ 4 := by omega
  have HR : Hid (V / 65536 ^ f % 18446744073709551616 = V / 65536 ^ (f + 4 - 4) % 65536 ^ 4) := Lib.hid rfl
  generalize V / 65536 ^ f % 18446744073709551616 = R at *
  clear h
  go_enter Tryz.func123, Tryz.ntmps123
  go_wp2_with fail
  go_loop [5, 6] (fun u v => ∃ (r n : Nat), v = .int .i64 ((f : Int) + 3 - (r : Int)) ∧ u = .int .u64 (n : Int) ∧ r ≤ 4 ∧ n = V / 65536 ^ (f + 4 - r) % 65536 ^ r) (fun _ v => (intOf v + 1).toNat)
  case atStart => exact ⟨0, 0, by simp, rfl, by omega, by simp [Nat.mod_one]⟩
  case round =>
    obtain ⟨r, n, rfl, rfl, hr, hn⟩ := hrel
    by_cases hlt : r < 4
    · have hri : (r : Int) < 4 := by omega
      have hnb : n < 65536 ^ r := by rw [hn]; exact Nat.mod_lt _ (Nat.pow_pos (by decide))
      have hpb : 65536 ^ r ≤ 65536 ^ 3 := Nat.pow_le_pow_right (by decide) (by omega)
      have hp3 : (65536 : Nat) ^ 3 = 281474976710656 := rfl
      obtain ⟨j, hj⟩ : ∃ j, j = f + 3 - r := ⟨_, rfl⟩
      have hij : (f : Int) + 3 - (r : Int) = (j : Int) := by omega
      have hx := ub_cell H.out (dg_at (V := V) (n := 8) (j := j) (by omega))
      have hs := num_step V f r hlt
      rw [← hj, ← hn] at hs
      have hdb : V / 65536 ^ j % 65536 < 65536 := Nat.mod_lt _ (by decide)
      have hj8 : (j : Int) < 8 := by omega
      have hfj : (f : Int) ≤ (j : Int) := by omega
      have hnb2 : (n : Int) < 281474976710656 := by omega
      generalize V / 65536 ^ j % 65536 = D at *
      have hdb2 : (D : Int) < 65536 := by omega
      obtain ⟨N, hN⟩ : ∃ N, N = 65536 * n + D := ⟨_, rfl⟩
      rw [← hN] at hs
      have HS := Lib.hid hs
      have HN2 := Lib.hid (show 65536 * (n : Int) + (D : Int) = (N : Int) by omega)
      have HIJ := Lib.hid hij
      have HJ := Lib.hid (show (j : Int) - 1 = (f : Int) + 3 - ((r + 1 : Nat) : Int) by omega)
      have HL := Lib.hid hlt
      have HM := Lib.hid (show (((j : Int) - 1) + 1).toNat < ((j : Int) + 1).toNat by omega)
      clear hn hs hN hij hj hpb hp3 hnb hdb hlt hr hri
      rw [HIJ.out]
      go_wp2_with fail
      go_round
      case rel => exact ⟨r + 1, N, by rw [← HJ.out], by rw [HN2.out], HL.out, HS.out⟩
      case measure => exact HM.out
    · obtain rfl : r = 4 := by omega
      have hge : ¬ (f : Int) ≤ (f : Int) + 3 - 4 := by omega
      have HN := Lib.hid hn
      clear hn hr
      go_wp2_with fail
      go_ret
      rw [HR.out, ← HN.out]
      exact ⟨rfl, rfl⟩
set_option maxRecDepth 100000 in
set_option maxHeartbeats 1600000 in
theorem mul10_t (a b : Nat) (ha : a < 18446744073709551616) (hb : b < 18446744073709551616) (w : World) : Calls Tryz.prog 122 #[.int .u64 (a : Int), .int .u64 (b : Int)] w (NewU w (dg (a * b) 8)) := by
  have HDA := Lib.hid (fun W => digits_t a ha W)
  have HDB := Lib.hid (fun W => digits_t b hb W)
  have HA := Lib.hid ha
  have HBB := Lib.hid hb
  clear ha hb
  obtain ⟨R, hR⟩ : ∃ R, R = dg (a * b) 8 := ⟨_, rfl⟩
  rw [← hR]
  have HR := Lib.hid hR
  clear hR
  go_enter Tryz.func122, Tryz.ntmps122
  go_wp2_with fail
  refine (HDA.out w).mono ?_
  rintro e w1 ⟨gx, rfl, hgx, hx, b1⟩
  have HX := Lib.hid hx
  have B1 := Lib.hid b1
  clear hx b1
  go_wp2_with fail
  refine (HDB.out w1).mono ?_
  rintro e w2 ⟨gy, rfl, hgy, hy, b2⟩
  have HX2 := Lib.hid (HX.out.below b2 HX.out.lt)
  have HY := Lib.hid hy
  have B2 := Lib.hid (nextB B1.out b2)
  clear hy b2 HX
  have hmk : ∀ W, (Instr.makeSlice 62 (.int .i64 8) (.int .i64 8)).run Tryz.prog W = .ok (.slice (some ⟨W.heap.size, 0, none⟩) 8 8) (W.alloc (.cells #[.int .u64 0, .int .u64 0, .int .u64 0, .int .u64 0, .int .u64 0, .int .u64 0, .int .u64 0, .int .u64 0] 39)) := fun W => by kernel_rfl
  rw [show (dg a 4).length = 4 from rfl, show (dg b 4).length = 4 from rfl]
  go_wp2_with fail
  clear hmk
  obtain ⟨g, hg⟩ : ∃ g, g = w2.heap.size := ⟨_, rfl⟩
  have hz := Blk.new w2 39 #[.int .u64 0, .int .u64 0, .int .u64 0, .int .u64 0, .int .u64 0, .int .u64 0, .int .u64 0, .int .u64 0]
  rw [← hg] at hz ⊢
  have HG1 := Lib.hid (show gx ≠ g by have := HX2.out.lt; omega)
  have HG2 := Lib.hid (show gy ≠ g by have := HY.out.lt; omega)
  have HG3 := Lib.hid (show w.heap.size ≤ g by have := B2.out.size; omega)
  have HZ := Lib.hid hz
  have HX3 := Lib.hid (HX2.out.alloc (.cells #[.int .u64 0, .int .u64 0, .int .u64 0, .int .u64 0, .int .u64 0, .int .u64 0, .int .u64 0, .int .u64 0] 39))
  have HY3 := Lib.hid (HY.out.alloc (.cells #[.int .u64 0, .int .u64 0, .int .u64 0, .int .u64 0, .int .u64 0, .int .u64 0, .int .u64 0, .int .u64 0] 39))
  have B3 := Lib.hid (newB B2.out (.cells #[.int .u64 0, .int .u64 0, .int .u64 0, .int .u64 0, .int .u64 0, .int .u64 0, .int .u64 0, .int .u64 0] 39))
  clear hz hg hgx hgy HX2 HY B2 B1
  generalize w2.alloc (.cells #[.int .u64 0, .int .u64 0, .int .u64 0, .int .u64 0, .int .u64 0, .int .u64 0, .int .u64 0, .int .u64 0] 39) = w3 at *
  go_loopw [8] (fun v wr => ∃ (i : Nat) (out : List Nat), v = .int .i64 (i : Int) ∧ i ≤ 4 ∧ MulAt a b i 0 0 out ∧ Blk wr g 39 (ub out) ∧ Blk wr gx 39 (ub (dg a 4)) ∧ Blk wr gy 39 (ub (dg b 4)) ∧ Below w.heap.size w wr) (fun v _ => 4 - (intOf v).toNat)
  case atStart => exact ⟨0, _, rfl, by omega, MulAt.start a b, HZ.out, HX3.out, HY3.out, B3.out⟩
  case round =>
    obtain ⟨i, out, rfl, hi, hat, h1, h2, h3, hb⟩ := hrel
    obtain ⟨wo, rfl⟩ : ∃ wo : World, wo = wr := ⟨_, rfl⟩
    have HAT := Lib.hid hat
    have H1 := Lib.hid h1
    have H2 := Lib.hid h2
    have H3 := Lib.hid h3
    have HB := Lib.hid hb
    clear hat h1 h2 h3 hb
    by_cases hlt : i < 4
    · have hii : (i : Int) < 4 := by omega
      have HI := Lib.hid hlt
      clear hlt hi
      go_wp2_with fail
      go_loopw [9, 10] (fun u v wr => ∃ (k carry : Nat) (out : List Nat), v = .int .i64 (k : Int) ∧ u = .int .u64 (carry : Int) ∧ k ≤ 4 ∧ MulAt a b i k carry out ∧ Blk wr g 39 (ub out) ∧ Blk wr gx 39 (ub (dg a 4)) ∧ Blk wr gy 39 (ub (dg b 4)) ∧ Below w.heap.size w wr) (fun _ v _ => 4 - (intOf v).toNat)
      case atStart => exact ⟨0, 0, out, rfl, rfl, by omega, HAT.out, H1.out, H2.out, H3.out, HB.out⟩
      case round =>
        obtain ⟨k, carry, out, rfl, rfl, hk, hat, h1, h2, h3, hb⟩ := hrel
        obtain ⟨wi, rfl⟩ : ∃ wi : World, wi = wr := ⟨_, rfl⟩
        have hi4 := HI.out
        by_cases hlt : k < 4
        · have hkk : (k : Int) < 4 := by omega
          obtain ⟨o, ho⟩ : ∃ o, out[i + k]? = some o := ⟨_, List.getElem?_eq_getElem (by rw [hat.len]; omega)⟩
          have c1 := ub_cell h1 ho
          have c2 := ub_cell h2 (dg_at (V := a) (n := 4) (j := i) hi4)
          have c3 := ub_cell h3 (dg_at (V := b) (n := 4) (j := k) hlt)
          obtain ⟨n, hn⟩ : ∃ n, n = o + a / 65536 ^ i % 65536 * (b / 65536 ^ k % 65536) + carry := ⟨_, rfl⟩
          obtain ⟨n1, n2⟩ := hat.step hi4 hlt ho hn
          have hob := hat.small o (List.mem_of_getElem? ho)
          have hcb := hat.car
          have hX : a / 65536 ^ i % 65536 < 65536 := Nat.mod_lt _ (by decide)
          have hY : b / 65536 ^ k % 65536 < 65536 := Nat.mod_lt _ (by decide)
          have hXY : a / 65536 ^ i % 65536 * (b / 65536 ^ k % 65536) ≤ 65535 * 65535 := Nat.mul_le_mul (by omega) (by omega)
          generalize a / 65536 ^ i % 65536 = x at *
          generalize b / 65536 ^ k % 65536 = y at *
          obtain ⟨xy, hxy⟩ : ∃ xy, xy = x * y := ⟨_, rfl⟩
          rw [← hxy] at hXY hn
          have e1 : IntKind.u64.wrap ((x : Int) * (y : Int)) = (xy : Int) := by rw [← Int.natCast_mul, ← hxy]; exact IntWalk.u64_in _ ⟨by omega, by omega⟩
          have e2 : IntKind.u64.wrap ((o : Int) + (xy : Int)) = (((o + xy : Nat)) : Int) := by rw [← Int.natCast_add]; exact IntWalk.u64_in _ ⟨by omega, by omega⟩
          obtain ⟨s, hs⟩ : ∃ s, s = o + xy := ⟨_, rfl⟩
          rw [← hs] at e2
          have e3 : IntKind.u64.wrap ((s : Int) + (carry : Int)) = (n : Int) := by rw [← Int.natCast_add, hs, ← hn]; exact IntWalk.u64_in _ ⟨by omega, by omega⟩
          have e4 : IntKind.i64.wrap ((i : Int) + (k : Int)) = ((i + k : Nat) : Int) := by rw [← Int.natCast_add]; exact IntWalk.i64_in _ ⟨by omega, by omega⟩
          obtain ⟨ik, hik⟩ : ∃ ik, ik = i + k := ⟨_, rfl⟩
          rw [← hik] at e4 c1 n2
          have e5 : (ik : Int) < 8 := by omega
          have e6 : (n : Int) < 4294967296 := by omega
          have e7 := h1.free ik
          have HAT2 := Lib.hid n2
          have HI1 := Lib.hid h1
          have HI2 := Lib.hid h2
          have HI3 := Lib.hid h3
          have HIB := Lib.hid hb
          have HK := Lib.hid hlt
          clear h1 h2 h3 hb n2 hat ho hob hcb hX hY hXY hn hs hxy hlt hk n1 hik hi4
          go_wp2_with fail
          go_quiet (fail)
          go_wp2_with fail
          go_roundw
          case rel =>
            have hbb := HI1.out.lt
            refine ⟨k + 1, n / 65536, out.set ik (n % 65536), rfl, rfl, HK.out, HAT2.out, ?_, ?_, ?_, ?_⟩
            · have := (HI1.out.drewN nq).put ik (.int .u64 ((n % 65536 : Nat) : Int))
              rw [ub_set] at this
              exact this
            · exact (HI2.out.drewN nq).far (p := ⟨g, ik, none⟩) HG1.out _
            · exact (HI3.out.drewN nq).far (p := ⟨g, ik, none⟩) HG2.out _
            · exact (below_drewN HIB.out nq).setCell HG3.out _
          case measure => have := HK.out; simp [intOf]; omega
        · obtain rfl : k = 4 := by omega
          have hz := hat.zero (i + 4) (Nat.le_refl _) (by omega)
          have c1 := ub_cell h1 hz
          have hcb := hat.car
          have hcb2 : (carry : Int) < 65536 := by omega
          have HAT2 := Lib.hid (hat.next HBB.out hi4)
          have HI1 := Lib.hid h1
          have HI2 := Lib.hid h2
          have HI3 := Lib.hid h3
          have HIB := Lib.hid hb
          obtain ⟨i4, hi4e⟩ : ∃ i4, i4 = i + 4 := ⟨_, rfl⟩
          rw [← hi4e] at c1 HAT2
          have e4 : IntKind.i64.wrap ((i : Int) + 4) = (i4 : Int) := by rw [IntWalk.i64_in _ ⟨by omega, by omega⟩]; omega
          have e5 : (i4 : Int) < 8 := by omega
          have e7 := h1.free i4
          clear hat h1 h2 h3 hb hz hcb hi4 hk hlt hi4e
          go_wp2_with fail
          go_roundw
          case rel =>
            have hi4 := HI.out
            refine ⟨i + 1, out.set i4 (0 + carry), rfl, hi4, HAT2.out, ?_, ?_, ?_, ?_⟩
            · have := HI1.out.put i4 (.int .u64 ((carry : Nat) : Int))
              rw [ub_set] at this
              rw [Nat.zero_add]
              exact this
            · exact HI2.out.far (p := ⟨g, i4, none⟩) HG1.out _
            · exact HI3.out.far (p := ⟨g, i4, none⟩) HG2.out _
            · exact HIB.out.setCell HG3.out _
          case measure => have := HI.out; simp [intOf]; omega
    · obtain rfl : i = 4 := by omega
      go_wp2_with fail
      go_ret
      have hd := HAT.out.done HA.out
      rw [← HR.out] at hd
      subst hd
      exact ⟨g, by rw [HAT.out.len]; rfl, HG3.out, H1.out, HB.out⟩
theorem div_start (V d : Nat) (hV : V < 2 ^ 128) : dg (V / 2 ^ 128 / d * 2 ^ 128) 8 = List.replicate 8 0 ∧ V / 2 ^ 128 % d = 0 := by
  rw [Nat.div_eq_of_lt hV, Nat.zero_div, Nat.zero_mul, Nat.zero_mod]
  exact ⟨by decide, rfl⟩
set_option maxRecDepth 100000 in
set_option maxHeartbeats 1600000 in
theorem div10_t (g V d : Nat) (hV : V < 2 ^ 128) (hd : 1 ≤ d) (hd2 : d ≤ 10000) (w : World) (h : Blk w g 39 (ub (dg V 8))) :
    Calls Tryz.prog 121 #[.slice (some ⟨g, 0, none⟩) 8 8, .int .u64 (d : Int)] w fun e w' => ∃ q, e = .returned (.tuple #[.slice (some ⟨q, 0, none⟩) 8 8, .int .u64 ((V % d : Nat) : Int)]) ∧ w.heap.size ≤ q ∧ Blk w' q 39 (ub (dg (V / d) 8)) ∧ Below w.heap.size w w' := by
  have H := Lib.hid h
  have hlt := h.lt
  obtain ⟨s1, s2⟩ := div_start V d hV
  have HS := Lib.hid (And.intro s1 s2)
  have HD := Lib.hid hd
  have hdi : (d : Int) ≤ 10000 := by omega
  have hdi1 : 1 ≤ (d : Int) := by omega
  obtain ⟨Q, hQ⟩ : ∃ Q, Q = dg (V / d) 8 := ⟨_, rfl⟩
  obtain ⟨M, hM⟩ : ∃ M, M = V % d := ⟨_, rfl⟩
  have HQ := Lib.hid (And.intro hQ hM)
  rw [← hQ, ← hM]
  have hmk : ∀ W, (Instr.makeSlice 62 (.int .i64 8) (.int .i64 8)).run Tryz.prog W = .ok (.slice (some ⟨W.heap.size, 0, none⟩) 8 8) (W.alloc (.cells #[.int .u64 0, .int .u64 0, .int .u64 0, .int .u64 0, .int .u64 0, .int .u64 0, .int .u64 0, .int .u64 0] 39)) := fun W => by kernel_rfl
  have hz := Blk.new w 39 #[.int .u64 0, .int .u64 0, .int .u64 0, .int .u64 0, .int .u64 0, .int .u64 0, .int .u64 0, .int .u64 0]
  have HH := Lib.hid (h.alloc (.cells #[.int .u64 0, .int .u64 0, .int .u64 0, .int .u64 0, .int .u64 0, .int .u64 0, .int .u64 0, .int .u64 0] 39))
  have HB := Lib.hid ((Below.refl w.heap.size w).alloc (Nat.le_refl _) (.cells #[.int .u64 0, .int .u64 0, .int .u64 0, .int .u64 0, .int .u64 0, .int .u64 0, .int .u64 0, .int .u64 0] 39))
  have HZ := Lib.hid hz
  obtain ⟨q, hq⟩ : ∃ q, q = w.heap.size := ⟨_, rfl⟩
  rw [← hq] at HZ
  have HNE := Lib.hid (show g ≠ q by omega)
  have HQ2 := Lib.hid (show w.heap.size ≤ q by omega)
  clear h hlt s1 s2 hd hd2 hV hQ hM hz
  go_enter Tryz.func121, Tryz.ntmps121
  go_wp2_with fail
  clear hmk
  rw [← hq]
  clear hq
  generalize w.alloc (.cells #[.int .u64 0, .int .u64 0, .int .u64 0, .int .u64 0, .int .u64 0, .int .u64 0, .int .u64 0, .int .u64 0] 39) = w3 at *
  go_loopw [7, 8] (fun u v wr => ∃ (r left : Nat), v = .int .i64 ((r : Int) - 1) ∧ u = .int .u64 (left : Int) ∧ r ≤ 128 ∧ left = V / 2 ^ r % d ∧ Blk wr q 39 (ub (dg (V / 2 ^ r / d * 2 ^ r) 8)) ∧ Blk wr g 39 (ub (dg V 8)) ∧ Below w.heap.size w wr) (fun _ v _ => (intOf v + 1).toNat)
  case atStart => exact ⟨128, 0, by simp, rfl, by omega, HS.out.2.symm, by rw [HS.out.1]; exact HZ.out, HH.out, HB.out⟩
  case round =>
    obtain ⟨r, left, rfl, rfl, hr, hl, h1, h2, hb⟩ := hrel
    obtain ⟨wo, rfl⟩ : ∃ wo : World, wo = wr := ⟨_, rfl⟩
    rcases Nat.eq_zero_or_pos r with h0 | h0
    · subst h0
      have HL := Lib.hid hl
      have H1 := Lib.hid h1
      have HB3 := Lib.hid hb
      clear hl h1 h2 hb hr
      go_wp2_with fail
      go_ret2
      refine ⟨q, ?_, HQ2.out, ?_, HB3.out⟩
      · rw [HQ.out.2, show V % d = V / 2 ^ 0 % d by rw [Nat.pow_zero, Nat.div_one], ← HL.out]; rfl
      · rw [HQ.out.1]
        have := H1.out
        rwa [Nat.pow_zero, Nat.div_one, Nat.mul_one] at this
    · obtain ⟨i, rfl⟩ : ∃ i, r = i + 1 := ⟨r - 1, by omega⟩
      have hi : i < 128 := by omega
      obtain ⟨t1, t2⟩ := div_bit V d i HD.out
      obtain ⟨u1, u2⟩ := dg_bit (q := V / 2 ^ (i + 1) / d) hi
      have c2 := ub_cell h2 (dg_at (V := V) (n := 8) (j := i / 16) (by omega))
      have c1 := ub_cell h1 (dg_at (V := V / 2 ^ (i + 1) / d * 2 ^ (i + 1)) (n := 8) (j := i / 16) (by omega))
      have hbit := bit_at V i
      have hlb : left < d := by rw [hl]; exact Nat.mod_lt _ HD.out
      rw [← hl] at t1 t2
      have hb2 : V / 2 ^ i % 2 < 2 := Nat.mod_lt _ (by decide)
      generalize V / 2 ^ i % 2 = bt at *
      have hx : V / 65536 ^ (i / 16) % 65536 < 65536 := Nat.mod_lt _ (by decide)
      generalize V / 65536 ^ (i / 16) % 65536 = x at *
      generalize V / 2 ^ (i + 1) / d * 2 ^ (i + 1) / 65536 ^ (i / 16) % 65536 = y at *
      have e0 : (((i + 1 : Nat) : Int) - 1) = (i : Int) := by omega
      rw [e0]
      have e1 : decide ((9223372036854775808 : Int) ≤ (left : Int)) = false := by simp; omega
      have hlb2 : (left : Int) ≤ 10000 := by omega
      have hi2 : (i : Int) < 128 := by omega
      have T1 := Lib.hid t1
      have T2 := Lib.hid t2
      have U1 := Lib.hid (And.intro u1 u2)
      have HBIT := Lib.hid hbit
      have HL := Lib.hid hl
      have HX := Lib.hid hx
      have H1 := Lib.hid h1
      have H2 := Lib.hid h2
      have HB3 := Lib.hid hb
      have HI := Lib.hid hi
      have HLB := Lib.hid hlb
      have HBT := Lib.hid hb2
      have i0 : (i : Int) / 16 = ((i / 16 : Nat) : Int) := by omega
      have i1 : (i : Int) % 16 = ((i % 16 : Nat) : Int) := by omega
      obtain ⟨j, hj⟩ : ∃ j, j = i / 16 := ⟨_, rfl⟩
      obtain ⟨s, hs⟩ : ∃ s, s = i % 16 := ⟨_, rfl⟩
      rw [← hj] at i0 c1 c2 U1
      rw [← hs] at i1 HBIT U1 hbit
      have j8 : (j : Int) < 8 := by omega
      have s16 : (s : Int) < 16 := by omega
      have HJS := Lib.hid (show j < 8 ∧ s < 16 by omega)
      have f1 : ((x : Int) / 2 ^ s).tmod 2 = (bt : Int) := by
        rw [show ((2 : Int) ^ s) = ((2 ^ s : Nat) : Int) by rw [Int.natCast_pow]; rfl, ← Int.natCast_ediv, Int.tmod_eq_emod_of_nonneg (Int.natCast_nonneg _), ← hbit]
        rfl
      obtain ⟨nl, hnl⟩ : ∃ nl, nl = 2 * left + bt := ⟨_, rfl⟩
      have f2 : IntKind.u64.wrap (2 * (left : Int) + (bt : Int)) = (nl : Int) := by rw [IntWalk.u64_in _ ⟨by omega, by omega⟩]; omega
      have hfree := h1.free j
      have hnlb : (nl : Int) ≤ 20001 := by omega
      rw [← hnl] at T1 T2
      have hyb := U1.out.2
      obtain ⟨p, hp⟩ : ∃ p, p = 2 ^ s := ⟨_, rfl⟩
      have f4 : IntKind.u64.wrap ((2 : Int) ^ s) = (p : Int) := by
        rw [show ((2 : Int) ^ s) = ((2 ^ s : Nat) : Int) by rw [Int.natCast_pow]; rfl, ← hp]; exact IntWalk.u64_in _ ⟨by omega, by omega⟩
      rw [← hp] at hyb U1
      obtain ⟨yn, hyn⟩ : ∃ yn, yn = y + p := ⟨_, rfl⟩
      have f5 : IntKind.u64.wrap ((y : Int) + (p : Int)) = (yn : Int) := by rw [IntWalk.u64_in _ ⟨by omega, by omega⟩]; omega
      rw [← hyn] at U1
      clear t1 t2 u1 u2 hbit hl hx h1 h2 hb hi hlb hb2 hr h0 hj hs hyb hp hyn hnl
      have HM := Lib.hid (show ((i : Int) - 1 + 1).toNat < ((i : Int) + 1).toNat by omega)
      have HII : Hid (((i : Int) - 1 = ((i : Nat) : Int) - 1)) := Lib.hid rfl
      by_cases hc : nl < d
      · have g1 : decide ((d : Int) ≤ (nl : Int)) = false := by simp; omega
        have g1b : decide (d ≤ nl) = false := by simp; omega
        have HT := Lib.hid (T1.out hc)
        clear T1 T2 hc U1
        go_wp2_with fail
        go_roundw
        case rel => exact ⟨i, nl, rfl, rfl, by have := HI.out; omega, HT.out.2.symm, by rw [HT.out.1]; exact H1.out, H2.out, HB3.out⟩
        case measure => exact HM.out
      · have g1 : decide ((d : Int) ≤ (nl : Int)) = true := by simp; omega
        have g1b : decide (d ≤ nl) = true := by simp; omega
        obtain ⟨nd, hnd⟩ : ∃ nd, nd = nl - d := ⟨_, rfl⟩
        have f3 : IntKind.u64.wrap ((nl : Int) - (d : Int)) = (nd : Int) := by rw [IntWalk.u64_in _ ⟨by omega, by omega⟩]; omega
        have HT := Lib.hid (T2.out (by omega))
        rw [← hnd] at HT
        clear T1 T2 hc hnd
        go_wp2_with fail
        go_roundw
        case rel =>
          refine ⟨i, nd, rfl, rfl, by have := HI.out; omega, HT.out.2.symm, ?_, H2.out.far (p := ⟨q, j, none⟩) HNE.out _, HB3.out.setCell HQ2.out _⟩
          have := H1.out.put j (.int .u64 ((yn : Nat) : Int))
          rw [ub_set] at this
          rw [HT.out.1, U1.out.1]
          exact this
        case measure => exact HM.out
set_option maxRecDepth 100000 in
theorem muldiv10_t (a b d : Nat) (ha : a < 18446744073709551616) (hb : b < 18446744073709551616) (hd : 1 ≤ d) (hd2 : d ≤ 10000) (w : World) :
    Calls Tryz.prog 102 #[.int .u64 (a : Int), .int .u64 (b : Int), .int .u64 (d : Int)] w fun e w' => e = .returned (.tuple (if a * b / d < 18446744073709551616 then #[.int .u64 ((a * b / d : Nat) : Int), .int .u64 ((a * b % d : Nat) : Int), .bool true] else #[.int .u64 0, .int .u64 0, .bool false])) ∧ Below w.heap.size w w' := by
  have HM := Lib.hid (mul10_t a b ha hb w)
  have hV : a * b < 2 ^ 128 := by
    have : a * b < 18446744073709551616 * 18446744073709551616 := Nat.mul_lt_mul_of_lt_of_lt ha hb
    exact Nat.lt_of_lt_of_le this (by decide)
  generalize a * b = V at *
  have HD := Lib.hid (fun g W h => div10_t g V d hV hd hd2 W h)
  have HN := Lib.hid (fun g (f : Nat) W h hf => number_t g (V / d) f hf W h)
  have hQb : V / d < 340282366920938463463374607431768211456 := Nat.lt_of_le_of_lt (Nat.div_le_self _ _) hV
  have e1 : ((d : Int) == 0) = false := by simp; omega
  have e1b : (d == 0) = false := by simp; omega
  generalize V / d = Q at *
  generalize V % d = M at *
  obtain ⟨q4, hq4⟩ : ∃ q4, q4 = Q / 65536 ^ 4 % 18446744073709551616 := ⟨_, rfl⟩
  obtain ⟨q0, hq0⟩ : ∃ q0, q0 = Q / 65536 ^ 0 % 18446744073709551616 := ⟨_, rfl⟩
  have HK := Lib.hid (And.intro hq0.symm hq4.symm)
  have k1 : q4 = Q / 18446744073709551616 := by
    rw [hq4, show (65536 : Nat) ^ 4 = 18446744073709551616 from rfl]; exact Nat.mod_eq_of_lt (by omega)
  have k0 : q0 = Q % 18446744073709551616 := by rw [hq0, Nat.pow_zero, Nat.div_one]
  clear hV hd hd2 ha hb hq4 hq0
  have hcase : (Q < 18446744073709551616 ∧ q4 = 0 ∧ q0 = Q) ∨ (¬ Q < 18446744073709551616 ∧ 0 < q4) := by omega
  clear k0 k1 hQb
  rcases hcase with ⟨h1, rfl, h2⟩ | ⟨h1, h2⟩
  · rw [if_pos h1]
    subst h2
    clear h1
    go_enter Tryz.func102, Tryz.ntmps102
    go_wp2_with fail
    refine HM.out.mono ?_
    rintro e w1 ⟨g, rfl, hg, h1, b1⟩
    have H1 := Lib.hid h1
    have B1 := Lib.hid b1
    clear h1 b1 hg
    rw [dg_length]
    go_wp2_with fail
    refine (HD.out g w1 H1.out).mono ?_
    rintro e w2 ⟨q, rfl, hq, h2, b2⟩
    have H2 := Lib.hid h2
    have B2 := Lib.hid (nextB B1.out b2)
    clear h2 b2 hq
    go_wp2_with fail
    refine (show Calls Tryz.prog 123 #[.slice (some ⟨q, 0, none⟩) 8 8, .int .i64 4] w2 (fun e w' => e = .returned (.int .u64 0) ∧ w2 = w') from (HN.out q 4 w2 H2.out (by decide)).mono (fun e w' he => by rw [HK.out.2] at he; exact he)).mono ?_
    rintro e w3 ⟨rfl, rfl⟩
    go_wp2_with fail
    refine (show Calls Tryz.prog 123 #[.slice (some ⟨q, 0, none⟩) 8 8, .int .i64 0] w2 (fun e w' => e = .returned (.int .u64 (q0 : Nat)) ∧ w2 = w') from (HN.out q 0 w2 H2.out (by decide)).mono (fun e w' he => by rw [HK.out.1] at he; exact he)).mono ?_
    rintro e w3 ⟨rfl, rfl⟩
    go_wp2_with fail
    go_ret3
    exact ⟨rfl, B2.out⟩
  · rw [if_neg h1]
    have e2 : decide ((0 : Int) < (q4 : Int)) = true := by simp; omega
    have e2b : decide (0 < q4) = true := by simp; omega
    clear h1 h2
    go_enter Tryz.func102, Tryz.ntmps102
    go_wp2_with fail
    refine HM.out.mono ?_
    rintro e w1 ⟨g, rfl, hg, h1, b1⟩
    have H1 := Lib.hid h1
    have B1 := Lib.hid b1
    clear h1 b1 hg
    rw [dg_length]
    go_wp2_with fail
    refine (HD.out g w1 H1.out).mono ?_
    rintro e w2 ⟨q, rfl, hq, h2, b2⟩
    have H2 := Lib.hid h2
    have B2 := Lib.hid (nextB B1.out b2)
    clear h2 b2 hq
    go_wp2_with fail
    refine (show Calls Tryz.prog 123 #[.slice (some ⟨q, 0, none⟩) 8 8, .int .i64 4] w2 (fun e w' => e = .returned (.int .u64 (q4 : Nat)) ∧ w2 = w') from (HN.out q 4 w2 H2.out (by decide)).mono (fun e w' he => by rw [HK.out.2] at he; exact he)).mono ?_
    rintro e w3 ⟨rfl, rfl⟩
    go_wp2_with fail
    go_ret3
    exact ⟨rfl, B2.out⟩
end Go.Proofs.YtbfhiegbgkkgiaaGreat
