/- The law's example of bytes of a sketch, walked. -/
import Derived.Test.YtbfhiegbgkkgiaaGreatC26
import Derived.Test.YtbfhiegbgkkgiaaGreatC01
namespace Go.Proofs.YtbfhiegbgkkgiaaGreat
open Go.RowKit
open Pl
open Sc
open Wi
theorem str_own21 {w : World} {B : Nat} {A : Option Addr} {c n : Nat} {S : List UInt8} (h : OwnB w B A c S) (hn : n = S.length) : (convert 24 9 (.slice A n c)).run Tryz.prog w = .ok (.string (str S)) w := by
  subst hn
  exact run_str Tryz.underlying24 Tryz.underlying5 Tryz.underlying9 (OwnB.reads h)
theorem dadd_lit {p q cs a g gl c : Nat} {As A : Option Addr} {m : Int} {all all' : List Pr} {w : World} (h : Skt w p q As cs a g gl A c m all) (v n : Nat) (ha0 : 100 ≤ a) (ha : a ≤ 5000) (hf : Fine all) (hl : all.length < 100000) (hm0 : 2 ≤ m) (hm1 : m ≤ 4097) (hv0 : 1 ≤ v) (hv1 : v ≤ 9223372036854775807) (hn : 1 ≤ n) (hr : radd all (keyOf a v) n 0 = (all', 0)) (W0 : World) (hb : Below W0.heap.size W0 w) (hp : W0.heap.size ≤ g) (hgl : W0.heap.size ≤ gl) (hA : ∀ i, blockOf A = some i → W0.heap.size ≤ i) :
    Calls Tryz.prog 22 #[.pointer (some ⟨p, 0, none⟩), .int .i64 (v : Int), .int .u64 (n : Int)] w fun e w' => e = .returned (.int .i64 0) ∧ (∃ A' c', Skt w' p q As cs a g gl A' c' m all' ∧ ∀ i, blockOf A' = some i → W0.heap.size ≤ i) ∧ Below W0.heap.size W0 w' := by
  refine (dadd_t h v n ha0 ha hf hl hm0 hm1 hv0 hv1 hn).mono ?_
  rintro e w' ⟨rfl, A', c', s, k⟩
  rw [hr] at s k ⊢
  refine ⟨rfl, ⟨A', c', s, fun i hi => ?_⟩, hb.trans (k.only.below hb.size (fun i hi => ?_))⟩
  · rcases k.new i hi with h1 | h1
    · exact hA i h1
    · exact Nat.le_trans hb.size h1
  · rcases hi with rfl | rfl | hi
    · exact hp
    · exact hgl
    · exact hA i hi
def aliveW : List UInt8 := [136, 39, 2, 2, 0, 2, 1, 0, 1]
theorem aliveW_doc : docW 5000 2 [(1, 1), (2, 1)] 0 = aliveW := by decide +kernel
theorem alive_keeps : Keeps 5000 2 [(1, 1), (2, 1)] 0 := by
  have h : 2 ≤ (spans 5000).length := by decide +kernel
  refine ⟨fun p hp => ?_, by decide, .inl rfl⟩
  simp only [List.mem_cons, List.not_mem_nil, or_false] at hp
  rcases hp with rfl | rfl
  · dsimp only; omega
  · dsimp only; omega
theorem alive_srt : Srt [((1 : Int), 1), (2, 1)] := by unfold Srt; decide
theorem alive_pos : Pos [((1 : Int), 1), (2, 1)] := by unfold Pos; decide
theorem alive_fine : Fine [((1 : Int), 1), (2, 1)] := ⟨alive_srt, alive_pos, by unfold KeysIn; decide, by decide, by decide⟩
theorem alive_fine1 : Fine [((2 : Int), 1)] := ⟨by unfold Srt; decide, by unfold Pos; decide, by unfold KeysIn; decide, by decide, by decide⟩
theorem alive_r1 : radd [] (keyOf 5000 8) 1 0 = ([(2, 1)], 0) := by decide +kernel
theorem alive_r2 : radd [(2, 1)] (keyOf 5000 1) 1 0 = ([(1, 1), (2, 1)], 0) := by decide +kernel
theorem alive_read : readF aliveW = some (5000, 2, [(1, 1), (2, 1)], 0) := by
  have h := readF_docW alive_keeps alive_srt alive_pos (by decide) (by decide) (by decide) (by decide) (by decide)
  rwa [aliveW_doc] at h
theorem alive_len : (docW 5000 2 [(1, 1), (2, 1)] 0).length = 9 := by rw [aliveW_doc]; rfl
set_option maxRecDepth 100000 in
set_option maxHeartbeats 1600000 in
theorem alive21_t (w : World) : Calls Tryz.prog 6 #[] w fun e w' => e = .returned (.bool true) ∧ Below w.heap.size w w' := by
  go_enter Tryz.func6, Tryz.ntmps6
  go_wp2_with fail
  refine (show Calls Tryz.prog 21 #[.int .i64 5000, .int .i64 2] w _ from dnew_t 5000 2 w (by decide) (by decide) (by decide) (by decide)).mono ?_
  rintro e w1 ⟨p, q, As, cs, g, gl, rfl, _, hg, hgl, s1, b1⟩
  have S1 := Lib.hid s1
  have B1 := Lib.hid b1
  have HG := Lib.hid (And.intro hg hgl)
  clear s1 b1 hg hgl
  go_wp2_with fail
  refine (show Calls Tryz.prog 22 #[.pointer (some ⟨p, 0, none⟩), .int .i64 8, .int .u64 1] w1 _ from dadd_lit S1.out 8 1 (by decide) (by decide) Fine.nil (by decide) (by decide) (by decide) (by decide) (by decide) (by decide) alive_r1 w B1.out HG.out.1 HG.out.2 (fun i hi => by simp [blockOf] at hi)).mono ?_
  rintro e w2 ⟨rfl, ⟨A2, c2, s2, hA2⟩, b2⟩
  have S2 := Lib.hid s2
  have B2 := Lib.hid b2
  have HA2 := Lib.hid hA2
  clear s2 b2 hA2
  go_wp2_with fail
  refine (show Calls Tryz.prog 22 #[.pointer (some ⟨p, 0, none⟩), .int .i64 1, .int .u64 1] w2 _ from dadd_lit S2.out 1 1 (by decide) (by decide) alive_fine1 (by decide) (by decide) (by decide) (by decide) (by decide) (by decide) alive_r2 w B2.out HG.out.1 HG.out.2 HA2.out).mono ?_
  rintro e w3 ⟨rfl, ⟨A3, c3, s3, hA3⟩, b3⟩
  have S3 := Lib.hid s3
  have B3 := Lib.hid b3
  clear s3 b3 hA3
  go_wp2_with fail
  refine (write_sk (L := [(1, 1), (2, 1)]) (f := 0) (m := 2) S3.out (by decide) (by decide) (by decide) alive_keeps alive_srt alive_pos (by decide)).mono ?_
  rintro e w4 ⟨A4, c4, rfl, o4, b4⟩
  rw [aliveW_doc] at o4 ⊢
  have O4 := Lib.hid o4
  have B4 := Lib.hid (nextB B3.out b4)
  clear o4 b4
  have HRD := Lib.hid (read_t A4 c4 aliveW w4 (OwnB.reads O4.out) (by decide))
  rw [alive_read] at HRD
  have e9 : aliveW.length = 9 := rfl
  go_wp2_with fail
  refine (show Calls Tryz.prog 9 #[.slice A4 9 c4] w4 _ from HRD.out).mono ?_
  rintro e w5 ⟨p5, q5, As5, cs5, g5, gl5, A5, c5, rfl, s5, b5⟩
  have S5 := Lib.hid s5
  have B5 := Lib.hid (nextB B4.out b5)
  have hs := str_own21 (n := 9) (Own.below (show Own w4 w3.heap.size 5 1 A4 aliveW.length c4 (bvs aliveW) from O4.out) b5) rfl
  clear s5 b5 e9
  have hs1 : ((str aliveW).toList == [136, 39, 2, 2, 0, 2, 1, 0, 1]) = true := by rw [str_toList]; rfl
  go_wp2_with fail
  refine (show Calls Tryz.prog 23 #[.pointer (some ⟨p5, 0, none⟩)] w5 (fun e w' => e = .returned (.int .u64 2) ∧ w5 = w') from dtotal_t S5.out alive_fine).mono ?_
  rintro e w6 ⟨rfl, rfl⟩
  go_wp2_with fail
  go_ret
  exact ⟨rfl, B5.out⟩
theorem pairs_cut {w : World} {p q cs a g gl c : Nat} {As A : Option Addr} {m : Nat} {L : List Pr} {f : Nat} (h : Skt w p q As cs a g gl A c (m : Int) (allOf L f)) (hk : Keeps a m L f) (hs : Srt L) (hp : Pos L) (hm : 2 ≤ m) (hm1 : m ≤ 4096) (hl : L.length ≤ m) :
    Calls Tryz.prog 13 #[.pointer (some ⟨p, 0, none⟩)] w (NewPairs L w) := by
  have h1 := dpairs_t h (allOf_fine hk hs hp (by omega))
  rwa [allOf_cut hk hm hl] at h1
theorem folded_cut {w : World} {p q cs a g gl c : Nat} {As A : Option Addr} {m : Nat} {L : List Pr} {f : Nat} (h : Skt w p q As cs a g gl A c (m : Int) (allOf L f)) (hk : Keeps a m L f) (hm : 2 ≤ m) (hl : L.length ≤ m) :
    Calls Tryz.prog 14 #[.pointer (some ⟨p, 0, none⟩)] w fun e w' => e = .returned (.int .u64 (f : Nat)) ∧ w = w' := by
  have h1 := dfolded_t h
  rwa [allOf_cut hk hm hl] at h1
theorem keeps_fold {a m f : Nat} {L : List Pr} (hk : Keeps a m L f) : f ≤ 4611686018427387904 := by
  rcases hk.fold with h0 | ⟨_, x, R, hx, h2⟩
  · omega
  · have := hk.tot
    rw [hx, tot_cons] at this
    omega
theorem keeps_fine {a m f : Nat} {L : List Pr} (hk : Keeps a m L f) (hs : Srt L) (hp : Pos L) (hm1 : m ≤ 4096) (hl : L.length ≤ m) : Fine L :=
  ⟨hs, hp, fun q hq => by have := hk.keys q hq; have := spans_len' a; omega, hk.tot, by omega⟩
end Go.Proofs.YtbfhiegbgkkgiaaGreat
/- Numbers as digits of 16 bits, plain. -/

namespace Go.Proofs.YtbfhiegbgkkgiaaGreat
namespace Tn
def val : List Nat → Nat
  | [] => 0
  | x :: l => x + 65536 * val l
/-- The lowest n digits. -/
def dg (V n : Nat) : List Nat := (List.range n).map (fun j => V / 65536 ^ j % 65536)
theorem dg_length (V n : Nat) : (dg V n).length = n := by simp [dg]
theorem dg_at {V n j : Nat} (h : j < n) : (dg V n)[j]? = some (V / 65536 ^ j % 65536) := by simp [dg, h]
def Small (l : List Nat) : Prop := ∀ x ∈ l, x < 65536
theorem val_set : ∀ (l : List Nat) (i y x : Nat), l[i]? = some x → val (l.set i y) + x * 65536 ^ i = val l + y * 65536 ^ i
  | [], i, y, x, h => by simp at h
  | p :: l, 0, y, x, h => by
    simp at h
    subst h
    simp only [List.set_cons_zero, val, Nat.pow_zero, Nat.mul_one]
    omega
  | p :: l, i + 1, y, x, h => by
    have ih := val_set l i y x (by simpa using h)
    simp only [List.set_cons_succ, val, Nat.pow_succ]
    rw [← Nat.mul_assoc, ← Nat.mul_assoc]
    omega
theorem val_digit : ∀ (l : List Nat) (j x : Nat), Small l → l[j]? = some x → x = val l / 65536 ^ j % 65536
  | [], j, x, _, h => by simp at h
  | p :: l, 0, x, hs, h => by
    simp at h
    subst h
    have := hs p (by simp)
    simp only [val, Nat.pow_zero, Nat.div_one]
    omega
  | p :: l, j + 1, x, hs, h => by
    have ih := val_digit l j x (fun y hy => hs y (by simp [hy])) (by simpa using h)
    have hp := hs p (by simp)
    rw [ih]
    have e : val (p :: l) / 65536 ^ (j + 1) = val l / 65536 ^ j := by
      rw [Nat.pow_succ, Nat.mul_comm, ← Nat.div_div_eq_div_mul]
      congr 1
      simp only [val]
      omega
    rw [e]
theorem dg_val {l : List Nat} {n : Nat} (hs : Small l) (hn : l.length = n) : l = dg (val l) n := by
  apply List.ext_getElem?
  intro j
  by_cases h : j < n
  · obtain ⟨x, hx⟩ : ∃ x, l[j]? = some x := ⟨_, List.getElem?_eq_getElem (by omega)⟩
    rw [dg_at h, hx, val_digit l j x hs hx]
  · rw [List.getElem?_eq_none (by omega), List.getElem?_eq_none (by rw [dg_length]; omega)]
/-- While digit i of a is multiplied, up to digit k of b. -/
structure MulAt (a b i k carry : Nat) (out : List Nat) : Prop where
  len : out.length = 8
  small : Small out
  zero : ∀ j, i + 4 ≤ j → j < 8 → out[j]? = some 0
  car : carry < 65536
  sum : val out + carry * 65536 ^ (i + k) = a % 65536 ^ i * b + a / 65536 ^ i % 65536 * (b % 65536 ^ k) * 65536 ^ i
theorem MulAt.start (a b : Nat) : MulAt a b 0 0 0 (List.replicate 8 0) := by
  refine ⟨rfl, fun x hx => ?_, fun j _ h => by rw [List.getElem?_replicate, if_pos h], by decide, ?_⟩
  · rw [List.eq_of_mem_replicate hx]; decide
  · simp only [Nat.pow_zero, Nat.mod_one, Nat.zero_mul, Nat.mul_zero, Nat.add_zero, Nat.zero_mul]
    rfl
theorem small_set {l : List Nat} (hs : Small l) (i : Nat) {y : Nat} (hy : y < 65536) : Small (l.set i y) := fun x hx => by
  rcases List.mem_or_eq_of_mem_set hx with h | h
  · exact hs x h
  · omega
theorem MulAt.step {a b i k carry : Nat} {out : List Nat} (h : MulAt a b i k carry out) (hi : i < 4) (hk : k < 4) {o : Nat} (ho : out[i + k]? = some o) {n : Nat} (hn : n = o + a / 65536 ^ i % 65536 * (b / 65536 ^ k % 65536) + carry) :
    n < 4294967296 ∧ MulAt a b i (k + 1) (n / 65536) (out.set (i + k) (n % 65536)) := by
  have hob := h.small o (List.mem_of_getElem? ho)
  have hcb := h.car
  have hx : a / 65536 ^ i % 65536 < 65536 := Nat.mod_lt _ (by decide)
  have hy : b / 65536 ^ k % 65536 < 65536 := Nat.mod_lt _ (by decide)
  have hv := val_set out (i + k) (n % 65536) o ho
  have hsum := h.sum
  have hm : b % 65536 ^ (k + 1) = b % 65536 ^ k + 65536 ^ k * (b / 65536 ^ k % 65536) := Nat.mod_pow_succ
  have hxy : a / 65536 ^ i % 65536 * (b / 65536 ^ k % 65536) ≤ 65535 * 65535 := Nat.mul_le_mul (by omega) (by omega)
  have hnb : n < 4294967296 := by omega
  refine ⟨hnb, by simp [h.len], small_set h.small _ (Nat.mod_lt _ (by decide)), fun j h1 h2 => ?_, by omega, ?_⟩
  · rw [List.getElem?_set_ne (by omega)]
    exact h.zero j h1 h2
  · rw [hm]
    generalize a / 65536 ^ i % 65536 = x at *
    generalize b / 65536 ^ k % 65536 = y at *
    generalize b % 65536 ^ k = bm at *
    generalize a % 65536 ^ i * b = A at *
    have hP : 65536 ^ (i + k) = 65536 ^ i * 65536 ^ k := Nat.pow_add _ _ _
    have hQ : 65536 ^ (i + (k + 1)) = 65536 ^ i * 65536 ^ k * 65536 := by rw [← Nat.add_assoc, Nat.pow_succ, hP]
    rw [hP] at hv hsum
    rw [hQ]
    generalize 65536 ^ i = I at *
    generalize 65536 ^ k = K at *
    obtain ⟨J, hJ⟩ : ∃ J, J = I * K := ⟨_, rfl⟩
    have e1 : n * J = n % 65536 * J + n / 65536 * (J * 65536) := by
      rw [Nat.mul_comm J 65536, ← Nat.mul_assoc, ← Nat.add_mul]
      congr 1
      omega
    have e2 : n * J = o * J + x * y * J + carry * J := by rw [hn, Nat.add_mul, Nat.add_mul]
    have e3 : x * (bm + K * y) * I = x * bm * I + x * y * J := by
      rw [hJ, Nat.mul_add, Nat.add_mul]
      congr 1
      simp only [Nat.mul_comm, Nat.mul_left_comm]
    rw [← hJ] at hv hsum ⊢
    rw [e3]
    omega
theorem MulAt.next {a b i carry : Nat} {out : List Nat} (h : MulAt a b i 4 carry out) (hb : b < 18446744073709551616) (hi : i < 4) : MulAt a b (i + 1) 0 0 (out.set (i + 4) (0 + carry)) := by
  have hz := h.zero (i + 4) (Nat.le_refl _) (by omega)
  have hv := val_set out (i + 4) (0 + carry) 0 hz
  have hsum := h.sum
  have hbm : b % 65536 ^ 4 = b := Nat.mod_eq_of_lt hb
  rw [hbm] at hsum
  refine ⟨by simp [h.len], small_set h.small _ (by have := h.car; omega), fun j h1 h2 => ?_, by decide, ?_⟩
  · rw [List.getElem?_set_ne (by omega)]
    exact h.zero j (by omega) h2
  · have hm : a % 65536 ^ (i + 1) = a % 65536 ^ i + 65536 ^ i * (a / 65536 ^ i % 65536) := Nat.mod_pow_succ
    rw [hm, Nat.add_mul]
    simp only [Nat.pow_zero, Nat.mod_one, Nat.mul_zero, Nat.zero_mul, Nat.add_zero, Nat.zero_add] at hv ⊢
    have e : 65536 ^ i * (a / 65536 ^ i % 65536) * b = a / 65536 ^ i % 65536 * b * 65536 ^ i := by rw [Nat.mul_comm (65536 ^ i), Nat.mul_assoc, Nat.mul_comm (65536 ^ i), ← Nat.mul_assoc]
    rw [e]
    omega
theorem MulAt.done {a b : Nat} {out : List Nat} (h : MulAt a b 4 0 0 out) (ha : a < 18446744073709551616) : out = dg (a * b) 8 := by
  have hsum := h.sum
  simp only [Nat.pow_zero, Nat.mod_one, Nat.mul_zero, Nat.zero_mul, Nat.add_zero] at hsum
  rw [show a % 65536 ^ 4 = a from Nat.mod_eq_of_lt ha] at hsum
  rw [← hsum]
  exact dg_val h.small h.len
/-- One more bit of the quotient, below all that are there. -/
theorem dg_bit {q i : Nat} (hi : i < 128) : dg (q * 2 ^ (i + 1) + 2 ^ i) 8 = (dg (q * 2 ^ (i + 1)) 8).set (i / 16) (q * 2 ^ (i + 1) / 65536 ^ (i / 16) % 65536 + 2 ^ (i % 16)) ∧ q * 2 ^ (i + 1) / 65536 ^ (i / 16) % 65536 + 2 ^ (i % 16) < 65536 := by
  obtain ⟨t, s, ht, hs, rfl⟩ : ∃ t s, t < 8 ∧ s < 16 ∧ i = 16 * t + s := ⟨i / 16, i % 16, by omega, by omega, by omega⟩
  have e1 : (16 * t + s) / 16 = t := by omega
  have e2 : (16 * t + s) % 16 = s := by omega
  rw [e1, e2]
  have p1 : 2 ^ (16 * t + s) = 65536 ^ t * 2 ^ s := by rw [Nat.pow_add, Nat.pow_mul]
  have p2 : 2 ^ (16 * t + s + 1) = 65536 ^ t * (2 ^ s * 2) := by rw [Nat.pow_succ, p1, Nat.mul_assoc]
  rw [p2, p1]
  have e3 : q * (65536 ^ t * (2 ^ s * 2)) = 65536 ^ t * (q * (2 ^ s * 2)) := by rw [Nat.mul_left_comm]
  rw [e3, ← Nat.mul_add]
  have hT : 0 < 65536 ^ t := Nat.pow_pos (by decide)
  have h2s : 2 ^ s * 2 * 2 ^ (15 - s) = 65536 := by
    rw [Nat.mul_right_comm, ← Nat.pow_add, show s + (15 - s) = 15 by omega]
  have hlow : ∃ u, q * (2 ^ s * 2) % 65536 = u * (2 ^ s * 2) ∧ u * (2 ^ s * 2) + 2 ^ s < 65536 ∧ (q * (2 ^ s * 2) + 2 ^ s) % 65536 = u * (2 ^ s * 2) + 2 ^ s ∧ (q * (2 ^ s * 2) + 2 ^ s) / 65536 = q * (2 ^ s * 2) / 65536 := by
    generalize hU : 2 ^ (15 - s) = U at *
    generalize hM : 2 ^ s = M at *
    have hM0 : 0 < M := by rw [← hM]; exact Nat.pow_pos (by decide)
    have hU0 : 0 < U := by rw [← hU]; exact Nat.pow_pos (by decide)
    have hr : q % U < U := Nat.mod_lt _ hU0
    have hq : q * (M * 2) = q / U * 65536 + q % U * (M * 2) := by
      have h3 := Nat.div_add_mod q U
      have h4 : q / U * 65536 = U * (q / U) * (M * 2) := by rw [← h2s, Nat.mul_comm (M * 2) U, ← Nat.mul_assoc, Nat.mul_comm (q / U) U]
      rw [h4, ← Nat.add_mul, h3]
    have hb : q % U * (M * 2) + M * 2 ≤ 65536 := by
      have h1 : (q % U + 1) * (M * 2) ≤ U * (M * 2) := Nat.mul_le_mul_right _ hr
      rw [Nat.add_mul, Nat.one_mul] at h1
      rw [Nat.mul_comm] at h2s
      omega
    exact ⟨q % U, by omega, by omega, by omega, by omega⟩
  obtain ⟨u, hu1, hu2, hu3, hu4⟩ := hlow
  have hmul : ∀ V, 65536 ^ t * V / 65536 ^ t = V := fun V => Nat.mul_div_cancel_left _ hT
  refine ⟨?_, by rw [hmul, hu1]; exact hu2⟩
  apply List.ext_getElem?
  intro j
  by_cases hj : j < 8
  · rcases Nat.lt_trichotomy j t with h | h | h
    · rw [List.getElem?_set_ne (by omega), dg_at hj, dg_at hj]
      have : ∀ V, 65536 ^ t * V / 65536 ^ j % 65536 = 0 := fun V => by
        obtain ⟨r, rfl⟩ : ∃ r, t = j + 1 + r := ⟨t - (j + 1), by omega⟩
        rw [Nat.pow_add, Nat.pow_succ, Nat.mul_assoc, Nat.mul_assoc, Nat.mul_div_cancel_left _ (Nat.pow_pos (by decide)), Nat.mul_mod_right]
      rw [this, this]
    · subst h
      rw [List.getElem?_set_self (by rw [dg_length]; exact hj), dg_at hj, hmul, hmul, hu3, hu1]
    · rw [List.getElem?_set_ne (by omega), dg_at hj, dg_at hj]
      obtain ⟨r, rfl⟩ : ∃ r, j = t + (1 + r) := ⟨j - t - 1, by omega⟩
      rw [Nat.pow_add, ← Nat.div_div_eq_div_mul, ← Nat.div_div_eq_div_mul, hmul, hmul, Nat.pow_add, Nat.pow_one, ← Nat.div_div_eq_div_mul, ← Nat.div_div_eq_div_mul, hu4]
  · rw [List.getElem?_eq_none (by rw [dg_length]; omega), List.getElem?_eq_none (by rw [List.length_set, dg_length]; omega)]
/-- A bit of a number, by its digit. -/
theorem bit_at (V i : Nat) : V / 65536 ^ (i / 16) % 65536 / 2 ^ (i % 16) % 2 = V / 2 ^ i % 2 := by
  obtain ⟨t, s, hs, rfl⟩ : ∃ t s, s < 16 ∧ i = 16 * t + s := ⟨i / 16, i % 16, by omega, by omega⟩
  rw [show (16 * t + s) / 16 = t by omega, show (16 * t + s) % 16 = s by omega, Nat.pow_add, Nat.pow_mul, show (2 : Nat) ^ 16 = 65536 from rfl, ← Nat.div_div_eq_div_mul]
  generalize V / 65536 ^ t = U
  have h2s : 65536 = 2 ^ s * (2 ^ (15 - s) * 2) := by rw [← Nat.pow_succ, ← Nat.pow_add, show s + (15 - s + 1) = 16 by omega]
  rw [h2s, Nat.mod_mul_right_div_self, Nat.mul_comm, Nat.mod_mul_right_mod]
/-- The bits of a quotient from the highest one down to i. -/
theorem div_bit (V d i : Nat) (hd : 0 < d) : (2 * (V / 2 ^ (i + 1) % d) + V / 2 ^ i % 2 < d → V / 2 ^ i / d * 2 ^ i = V / 2 ^ (i + 1) / d * 2 ^ (i + 1) ∧ V / 2 ^ i % d = 2 * (V / 2 ^ (i + 1) % d) + V / 2 ^ i % 2) ∧
    (d ≤ 2 * (V / 2 ^ (i + 1) % d) + V / 2 ^ i % 2 → V / 2 ^ i / d * 2 ^ i = V / 2 ^ (i + 1) / d * 2 ^ (i + 1) + 2 ^ i ∧ V / 2 ^ i % d = 2 * (V / 2 ^ (i + 1) % d) + V / 2 ^ i % 2 - d) := by
  have e1 : V / 2 ^ (i + 1) = V / 2 ^ i / 2 := by rw [Nat.pow_succ, Nat.div_div_eq_div_mul]
  rw [e1, Nat.pow_succ]
  generalize V / 2 ^ i = U
  generalize 2 ^ i = P
  have hU := Nat.div_add_mod U 2
  have hD := Nat.div_add_mod (U / 2) d
  have hr := Nat.mod_lt (U / 2) hd
  have hb : U % 2 < 2 := Nat.mod_lt _ (by decide)
  generalize U / 2 % d = r at *
  generalize U / 2 / d = q at *
  generalize U % 2 = b at *
  generalize U / 2 = H at *
  have hq : U = d * (q * 2) + (2 * r + b) := by rw [← Nat.mul_assoc]; omega
  constructor
  · intro h
    have h1 : U / d = q * 2 := by
      rw [hq, Nat.mul_add_div hd, Nat.div_eq_of_lt h, Nat.add_zero]
    have h2 : U % d = 2 * r + b := by rw [hq, Nat.mul_add_mod, Nat.mod_eq_of_lt h]
    rw [h1, h2]
    exact ⟨by rw [Nat.mul_assoc, Nat.mul_comm 2 P], rfl⟩
  · intro h
    have hq2 : U = d * (q * 2 + 1) + (2 * r + b - d) := by rw [Nat.mul_add, Nat.mul_one]; omega
    have hlt : 2 * r + b - d < d := by omega
    have h1 : U / d = q * 2 + 1 := by
      rw [hq2, Nat.mul_add_div hd, Nat.div_eq_of_lt hlt, Nat.add_zero]
    have h2 : U % d = 2 * r + b - d := by rw [hq2, Nat.mul_add_mod, Nat.mod_eq_of_lt hlt]
    rw [h1, h2]
    exact ⟨by rw [Nat.add_mul, Nat.one_mul, Nat.mul_assoc, Nat.mul_comm 2 P], rfl⟩
theorem number4 (V : Nat) : V / 65536 ^ 3 % 65536 * 65536 ^ 3 + V / 65536 ^ 2 % 65536 * 65536 ^ 2 + V / 65536 % 65536 * 65536 + V % 65536 = V % 18446744073709551616 := by
  simp only [show (65536 : Nat) ^ 3 = 281474976710656 from rfl, show (65536 : Nat) ^ 2 = 4294967296 from rfl]
  omega
end Tn
end Go.Proofs.YtbfhiegbgkkgiaaGreat
