/- Wire: the reader high walked. -/
import Derived.Test.YtbfhiegbgkkgiaaM13
namespace Go.Proofs.Ytbfhiegbgkkgiaa
open Go.RowKit
open Wi
namespace Wi
/-- The number that bytes are, the highest first. -/
def hov (l : List UInt8) : Nat := lov l.reverse
theorem hov_snoc (l : List UInt8) (x : UInt8) : hov (l ++ [x]) = x.toNat + 256 * hov l := by
  unfold hov
  rw [List.reverse_append]
  rfl
end Wi
theorem hov_next {l : List UInt8} {p i : Nat} {x : UInt8} (hx : l[p + i]? = some x) (hi : i < 8) : bits .or .u64 (IntKind.u64.wrap (((hov ((l.drop p).take i) : Nat) : Int) * 256)) (IntKind.u64.wrap (x.toNat : Int)) = ((hov ((l.drop p).take (i + 1)) : Nat) : Int) := by
  have hl : p + i < l.length := (List.getElem?_eq_some_iff.1 hx).1
  have hlen : ((l.drop p).take i).reverse.length = i := by rw [List.length_reverse, List.length_take, List.length_drop]; omega
  have h1 : hov ((l.drop p).take i) < 256 ^ i := by
    have := lov_lt ((l.drop p).take i).reverse
    rw [hlen] at this
    exact this
  have h2 := x.toNat_lt
  have e2 : (256 : Nat) ^ i ≤ 256 ^ 7 := Nat.pow_le_pow_right (by decide) (by omega)
  rw [take_next hx, hov_snoc]
  generalize hov ((l.drop p).take i) = n0 at *
  rw [show (n0 : Int) * 256 = ((n0 * 256 : Nat) : Int) by omega, IntWalk.u64_in _ ⟨by omega, by omega⟩, IntWalk.u64_in (x.toNat : Int) ⟨by omega, by omega⟩, u64_or_nat _ _ (by omega) (by omega), Nat.or_comm]
  have h3 := or_256 (a := x.toNat) (b := n0) (i := 1) (by omega)
  rw [Nat.pow_one] at h3
  rw [h3]
  omega
set_option maxRecDepth 100000 in
theorem rhigh_end (base g : Nat) (A : Option Addr) (c : Nat) (l : List UInt8) (p k : Nat) (w : World) (h : Rdr w base g A c l p) (hp : p ≤ l.length) (hk : l.length < p + k) (hl : l.length ≤ 100000000) :
    Calls Try.prog 76 #[.pointer (some ⟨g, 0, none⟩), .int .i64 (k : Int)] w fun e w' => e = .returned (.tuple #[.int .u64 0, .int .i64 20]) ∧ ∃ q, w' = w.drewN q := by
  obtain ⟨m, hm⟩ : ∃ m, p + m = l.length := ⟨l.length - p, by omega⟩
  have HL := Lib.hid (left_t base g A c l p m w h hm hl)
  have hd : decide ((m : Int) < (k : Int)) = true := by simp; omega
  have hd2 : decide (m < k) = true := by simp; omega
  clear h hp hk hm
  go_enter Try.func76, Try.ntmps76
  go_wp2_with fail
  refine HL.out.mono ?_
  rintro e w1 ⟨rfl, q, rfl⟩
  go_wp2_with fail
  go_ret2
  exact ⟨rfl, q, rfl⟩
set_option maxRecDepth 100000 in
set_option maxHeartbeats 1600000 in
theorem rhigh_t (base g : Nat) (A : Option Addr) (c : Nat) (l : List UInt8) (p k : Nat) (w : World) (h : Rdr w base g A c l p) (hp : p + k ≤ l.length) (hk : k ≤ 8) (hl : l.length ≤ 100000000) :
    Calls Try.prog 76 #[.pointer (some ⟨g, 0, none⟩), .int .i64 (k : Int)] w fun e w' => e = .returned (.tuple #[.int .u64 (hov ((l.drop p).take k) : Nat), .int .i64 0]) ∧ Rdr w' base g A c l (p + k) ∧ Only (RK g) w w' := by
  obtain ⟨m, hm⟩ : ∃ m, p + m = l.length := ⟨l.length - p, by omega⟩
  have HL := Lib.hid (left_t base g A c l p m w h hm hl)
  have hd : decide ((m : Int) < (k : Int)) = false := by simp; omega
  have hd2 : decide (m < k) = false := by simp; omega
  have hkk : (k : Int) ≤ 8 := by omega
  have H := Lib.hid h
  have HP := Lib.hid hp
  clear h hm
  go_enter Try.func76, Try.ntmps76
  go_wp2_with fail
  refine HL.out.mono ?_
  rintro e w1 ⟨rfl, q0, rfl⟩
  go_wp2_with fail
  go_loopw [6, 13] (fun u v wr => ∃ (i q : Nat), v = .int .i64 (i : Int) ∧ u = .int .u64 (hov ((l.drop p).take i) : Nat) ∧ i ≤ k ∧ wr = w.drewN q) (fun _ v _ => k - (intOf v).toNat)
  case atStart => exact ⟨0, q0, rfl, rfl, Nat.zero_le _, rfl⟩
  case round =>
    obtain ⟨i, q, rfl, rfl, hi, rfl⟩ := hrel
    obtain ⟨wo, hwo⟩ : ∃ wo : World, wo = w.drewN q := ⟨_, rfl⟩
    have hR : Rdr wo base g A c l p := by rw [hwo]; exact ⟨H.out.1.drewN q, H.out.2⟩
    rw [← hwo]
    have HWO := Lib.hid hwo
    clear hwo
    have c0 : wo.cell? ⟨g, 0, none⟩ = some (.slice A l.length c) := by rw [hR.1.cell]; rfl
    have c1 : wo.cell? ⟨g, 1, none⟩ = some (.int .i64 (p : Int)) := by rw [hR.1.cell]; rfl
    have fr := hR.1.free
    by_cases hlt : i < k
    · have hii : (i : Int) < (k : Int) := by omega
      have hpi : p + i < l.length := by have := HP.out; omega
      obtain ⟨gb, hA, _, _, _, hcl, _⟩ := Own.form (show Own wo base 5 1 A l.length c (bvs l) from hR.2) (by omega)
      subst hA
      obtain ⟨x, hx⟩ : ∃ x, l[p + i]? = some x := ⟨_, List.getElem?_eq_getElem hpi⟩
      have d0 := hcl (p + i) (.int .u8 (x.toNat : Int)) (by simp only [bvs, List.getElem?_map, hx, bv, Option.map_some])
      obtain ⟨j, hj⟩ : ∃ j, j = p + i := ⟨_, rfl⟩
      have ej : IntKind.i64.wrap ((p : Int) + (i : Int)) = (j : Int) := by rw [IntWalk.i64_in _ ⟨by omega, by omega⟩]; omega
      have ej2 : (p : Int) + (i : Int) = (j : Int) := by omega
      rw [← hj] at d0
      have hjl : (j : Int) < (l.length : Int) := by omega
      have hj0 : (0 : Int) ≤ (j : Int) := by omega
      have hor := hov_next hx (show i < 8 by omega)
      have HOR := Lib.hid hor
      have HI := Lib.hid hlt
      generalize hov ((l.drop p).take i) = n0 at *
      clear hR hlt hi hcl hx hj hpi hp hor
      go_wp2_with fail
      go_quiet (fail)
      go_wp2_with fail
      go_roundw
      case rel => exact ⟨i + 1, q + nq, by go_num, by rw [HOR.out], HI.out, by rw [HWO.out, World.drewN_drewN]⟩
      case measure => have := HI.out; simp [intOf]; omega
    · obtain rfl : k = i := by omega
      have hpi : (p : Int) + (k : Int) ≤ 100000000 := by omega
      have HR := Lib.hid hR
      clear hlt hi hp hR
      go_wp2_with fail
      have hon : Only (RK g) w wo := by rw [HWO.out]; exact (Only.refl _ _).drewN q
      go_ret2
      refine ⟨rfl, HR.out.moved ?_ ((Only.refl (RK g) _).set (p := ⟨g, 1, none⟩) (.inl rfl) _), hon.set (p := ⟨g, 1, none⟩) (.inl rfl) _⟩
      have h1 := HR.out.1.put 1 (.int .i64 ((p : Int) + (k : Int)))
      simpa using h1
end Go.Proofs.Ytbfhiegbgkkgiaa
/- Wire: the reader leb walked. -/

namespace Go.Proofs.Ytbfhiegbgkkgiaa
open Go.RowKit
open Wi
namespace Wi
/-- What a number in groups of seven bits is read as, from its byte i on: an error's number, the number, how many bytes. -/
def dleb (i n : Nat) : List UInt8 → Nat × Nat × Nat
  | [] => (20, 0, 0)
  | x :: l => if i = 9 ∧ 1 < x.toNat then (21, 0, 0) else if 127 < x.toNat then dleb (i + 1) (n + x.toNat % 128 * 128 ^ i) l else if x.toNat = 0 ∧ 0 < i then (21, 0, 0) else (0, n + x.toNat % 128 * 128 ^ i, i + 1)
theorem or_128 {a b i : Nat} (ha : a < 128 ^ i) : a ||| b * 128 ^ i = a + b * 128 ^ i := by
  have e : (128 : Nat) ^ i = 2 ^ (7 * i) := by rw [show (128 : Nat) = 2 ^ 7 from rfl, ← Nat.pow_mul]
  rw [e] at ha ⊢
  have h := Nat.two_pow_add_eq_or_of_lt ha b
  rw [Nat.mul_comm, Nat.or_comm] at h
  rw [Nat.add_comm, Nat.mul_comm b, ← Nat.mul_comm b, h, Nat.or_comm]
end Wi
theorem leb_lt {n x i : Nat} (hn : n < 128 ^ i) : n + x % 128 * 128 ^ i < 128 ^ (i + 1) := by
  have h : x % 128 * 128 ^ i ≤ 127 * 128 ^ i := Nat.mul_le_mul_right _ (by omega)
  rw [Nat.pow_succ]
  omega
theorem and127 {y : Nat} (hy : y < 256) : bits .and .u8 (y : Int) 127 = ((y % 128 : Nat) : Int) := by
  rw [show (127 : Int) = ((127 : Nat) : Int) from rfl, u8_and_nat _ _ hy (by omega)]
  congr 1
  exact Nat.and_two_pow_sub_one_eq_mod y 7
theorem leb_or {n y i : Nat} (hn : n < 128 ^ i) (hy : y < 256) (hi : i ≤ 9) (h9 : i = 9 → y ≤ 1) : bits .or .u64 (n : Int) (IntKind.u64.wrap (IntKind.u64.wrap (bits .and .u8 (y : Int) 127) * 2 ^ (7 * i))) = ((n + y % 128 * 128 ^ i : Nat) : Int) := by
  have e3 : y % 128 * 128 ^ i < 18446744073709551616 ∧ n < 18446744073709551616 := by
    rcases Nat.lt_or_ge i 9 with h | h
    · have e2 : (128 : Nat) ^ i ≤ 128 ^ 8 := Nat.pow_le_pow_right (by decide) (by omega)
      have e4 : y % 128 * 128 ^ i ≤ 127 * 128 ^ 8 := Nat.mul_le_mul (by omega) e2
      exact ⟨by omega, by omega⟩
    · obtain rfl : i = 9 := by omega
      have := h9 rfl
      have e4 : y % 128 * 128 ^ 9 ≤ 1 * 128 ^ 9 := Nat.mul_le_mul (by omega) (Nat.le_refl _)
      exact ⟨by omega, by omega⟩
  have e4 : ((y % 128 : Nat) : Int) * 2 ^ (7 * i) = ((y % 128 * 128 ^ i : Nat) : Int) := by
    rw [show (128 : Nat) ^ i = 2 ^ (7 * i) by rw [show (128 : Nat) = 2 ^ 7 from rfl, ← Nat.pow_mul], Int.natCast_mul, Int.natCast_pow]
    rfl
  rw [and127 hy, IntWalk.u64_in ((y % 128 : Nat) : Int) ⟨by omega, by omega⟩, e4, IntWalk.u64_in _ ⟨by omega, by omega⟩, u64_or_nat _ _ e3.2 e3.1, or_128 hn]
/-- A reader that has gone on by k bytes. -/
theorem rdr_end {w wo : World} {base g c q m p : Nat} {A : Option Addr} {l : List UInt8} (h : Rdr wo base g A c l p) (hw : wo = w.drewN q) (k : Nat) {v : Int} (hv : v = ((p + k : Nat) : Int)) :
    Rdr ((wo.drewN m).setCell ⟨g, 1, none⟩ (.int .i64 v)) base g A c l (p + k) ∧ Only (RK g) w ((wo.drewN m).setCell ⟨g, 1, none⟩ (.int .i64 v)) := by
  subst hv
  have hr : Rdr (wo.drewN m) base g A c l p := ⟨h.1.drewN m, h.2⟩
  have hon : Only (RK g) w (wo.drewN m) := by rw [hw]; exact ((Only.refl _ _).drewN q).drewN m
  refine ⟨hr.moved ?_ ((Only.refl (RK g) _).set (p := ⟨g, 1, none⟩) (.inl rfl) _), hon.set (p := ⟨g, 1, none⟩) (.inl rfl) _⟩
  have h1 := hr.1.put 1 (.int .i64 ((p + k : Nat) : Int))
  simpa using h1
def LebPost (base g : Nat) (A : Option Addr) (c : Nat) (l : List UInt8) (p : Nat) (r : Nat × Nat × Nat) (w : World) (e : Ending) (w' : World) : Prop :=
  e = .returned (.tuple #[.int .u64 (r.2.1 : Nat), .int .i64 (r.1 : Nat)]) ∧ Rdr w' base g A c l (p + r.2.2) ∧ Only (RK g) w w'
set_option maxRecDepth 100000 in
set_option maxHeartbeats 1600000 in
theorem rleb_t (base g : Nat) (A : Option Addr) (c : Nat) (l : List UInt8) (p : Nat) (k : Int) (w : World) (h : Rdr w base g A c l p) (hp : p ≤ l.length) (hl : l.length ≤ 100000000) :
    Calls Try.prog 78 #[.pointer (some ⟨g, 0, none⟩), .int .i64 k] w (LebPost base g A c l p (dleb 0 0 (l.drop p)) w) := by
  have H := Lib.hid h
  have HP := Lib.hid hp
  obtain ⟨R, hR⟩ : ∃ R, R = dleb 0 0 (l.drop p) := ⟨_, rfl⟩
  rw [← hR]
  have HR0 := Lib.hid hR
  clear h hR
  go_enter Try.func78, Try.ntmps78
  go_wp2_with fail
  go_loopw [6, 7] (fun u v wr => ∃ (i n q : Nat), v = .int .i64 (i : Int) ∧ u = .int .u64 (n : Int) ∧ i ≤ 9 ∧ n < 128 ^ i ∧ p + i ≤ l.length ∧ R = dleb i n (l.drop (p + i)) ∧ wr = w.drewN q) (fun _ v _ => 10 - (intOf v).toNat)
  case atStart => exact ⟨0, 0, 0, rfl, rfl, by omega, by decide, HP.out, HR0.out, rfl⟩
  case round =>
    obtain ⟨i, n, q, rfl, rfl, hi, hn, hpi, hR, rfl⟩ := hrel
    obtain ⟨wo, hwo⟩ : ∃ wo : World, wo = w.drewN q := ⟨_, rfl⟩
    have hRd : Rdr wo base g A c l p := by rw [hwo]; exact ⟨H.out.1.drewN q, H.out.2⟩
    rw [← hwo]
    have HWO := Lib.hid hwo
    clear hwo
    have c0 : wo.cell? ⟨g, 0, none⟩ = some (.slice A l.length c) := by rw [hRd.1.cell]; rfl
    have c1 : wo.cell? ⟨g, 1, none⟩ = some (.int .i64 (p : Int)) := by rw [hRd.1.cell]; rfl
    have fr := hRd.1.free
    obtain ⟨j, hj⟩ : ∃ j, j = p + i := ⟨_, rfl⟩
    have ej : IntKind.i64.wrap ((p : Int) + (i : Int)) = (j : Int) := by rw [IntWalk.i64_in _ ⟨by omega, by omega⟩]; omega
    have ej2 : (p : Int) + (i : Int) = (j : Int) := by omega
    have hj0 : (0 : Int) ≤ (j : Int) := by omega
    have hi9 : (i : Int) ≤ 9 := by omega
    rw [← hj] at hR hpi
    have hjb : (j : Int) ≤ 100000000 := by omega
    by_cases hlt : j < l.length
    · have hlt0 : (j : Int) < (l.length : Int) := by omega
      obtain ⟨gb, hA, _, _, _, hcl, _⟩ := Own.form (show Own wo base 5 1 A l.length c (bvs l) from hRd.2) (by omega)
      subst hA
      obtain ⟨x, hx⟩ : ∃ x, l[j]? = some x := ⟨_, List.getElem?_eq_getElem hlt⟩
      have d0 := hcl j (.int .u8 (x.toNat : Int)) (by simp only [bvs, List.getElem?_map, hx, bv, Option.map_some])
      have hR2 : R = if i = 9 ∧ 1 < x.toNat then (21, 0, 0) else if 127 < x.toNat then dleb (i + 1) (n + x.toNat % 128 * 128 ^ i) (l.drop (j + 1)) else if x.toNat = 0 ∧ 0 < i then (21, 0, 0) else (0, n + x.toNat % 128 * 128 ^ i, i + 1) := by
        obtain ⟨hl2, e⟩ := List.getElem?_eq_some_iff.1 hx
        rw [hR, List.drop_eq_getElem_cons hl2, e]
        rfl
      have hx256 := x.toNat_lt
      generalize x.toNat = y at *
      have HRD := Lib.hid hRd
      clear hR hcl hx hRd hp
      by_cases h9 : i = 9 ∧ 1 < y
      · rw [if_pos h9] at hR2
        have e9 : ((i : Int) == 9) = true := by simp; omega
        have e1 : decide ((1 : Int) < (y : Int)) = true := by simp; omega
        have HRE := Lib.hid hR2
        clear hR2 h9 hn hi hlt hj hpi
        go_wp2_with fail
        go_quiet (fail)
        go_wp2_with fail
        go_quiet (fail)
        go_wp2_with fail
        go_ret2
        rw [HRE.out]
        exact ⟨rfl, ⟨HRD.out.1.drewN _, HRD.out.2⟩, by rw [HWO.out]; exact ((Only.refl _ w).drewN q).drewN _⟩
      · rw [if_neg h9] at hR2
        have hn18 : (n : Int) < 9223372036854775808 := by
          have e : n < 128 ^ 9 := Nat.lt_of_lt_of_le hn (Nat.pow_le_pow_right (by decide) hi)
          have e2 : (128 : Nat) ^ 9 = 9223372036854775808 := by decide
          omega
        have e9 : ((i : Int) == 9) = false ∨ (((i : Int) == 9) = true ∧ decide ((1 : Int) < (y : Int)) = false) := by
          by_cases h9i : i = 9
          · exact .inr ⟨by simp; omega, by simp; omega⟩
          · exact .inl (by simp; omega)
        have hor := leb_or hn hx256 hi (by omega)
        have HOR := Lib.hid hor
        by_cases hy : 127 < y
        · rw [if_pos hy] at hR2
          have e1 : decide ((127 : Int) < (y : Int)) = true := by simp; omega
          have hi9b : i < 9 := by
            rcases Nat.lt_or_ge i 9 with h | h
            · exact h
            · exact absurd ⟨by omega, by omega⟩ h9
          have e9 : ((i : Int) == 9) = false := by simp; omega
          have HI := Lib.hid hi9b
          have HRE := Lib.hid hR2
          have HN := Lib.hid (leb_lt (x := y) hn)
          have HJ := Lib.hid hj
          have HL := Lib.hid hlt
          clear hR2 h9 hn hi hj hpi hy hlt hn18 hor hx256 hi9b
          go_wp2_with fail
          go_quiet (fail)
          go_wp2_with fail
          go_quiet (fail)
          go_wp2_with fail
          go_roundw
          case rel => exact ⟨i + 1, n + y % 128 * 128 ^ i, q + _, by go_num, by rw [HOR.out], HI.out, HN.out, by have := HJ.out; have := HL.out; omega, by rw [HRE.out, HJ.out]; rfl, by rw [HWO.out, World.drewN_drewN]⟩
          case measure => have := HI.out; simp [intOf]; omega
        · rw [if_neg hy] at hR2
          have e1 : decide ((127 : Int) < (y : Int)) = false := by simp; omega
          by_cases hz : y = 0 ∧ 0 < i
          · rw [if_pos hz] at hR2
            have e3 : ((y : Int) == 0) = true := by simp; omega
            have e4 : decide ((0 : Int) < (i : Int)) = true := by simp; omega
            have e5 : decide (0 < i) = true := by simp; omega
            have HRE := Lib.hid hR2
            clear hR2 h9 hn hi hlt hj hpi hy hz hn18 hor hx256
            rcases e9 with e9 | ⟨e9, e9b⟩
            all_goals
              go_wp2_with fail
              go_quiet (fail)
              go_wp2_with fail
              go_quiet (fail)
              go_wp2_with fail
              go_ret2
              rw [HRE.out]
              exact ⟨rfl, ⟨HRD.out.1.drewN _, HRD.out.2⟩, by rw [HWO.out]; exact ((Only.refl _ w).drewN q).drewN _⟩
          · rw [if_neg hz] at hR2
            have e3 : ((y : Int) == 0) = false ∨ (((y : Int) == 0) = true ∧ decide ((0 : Int) < (i : Int)) = false ∧ decide (0 < i) = false) := by
              by_cases hy0 : y = 0
              · exact .inr ⟨by simp; omega, by simp; omega, by simp; omega⟩
              · exact .inl (by simp; omega)
            have hpb : (p : Int) ≤ 100000000 := by omega
            have HRE := Lib.hid hR2
            clear hR2 h9 hn hi hlt hj hpi hy hz hn18 hor hx256
            rcases e9 with e9 | ⟨e9, e9b⟩ <;> rcases e3 with e3 | ⟨e3, e3b, e3c⟩
            all_goals
              go_wp2_with fail
              go_quiet (fail)
              go_wp2_with fail
              go_quiet (fail)
              go_wp2_with fail
              go_ret2
              rw [HRE.out]
              exact ⟨by rw [HOR.out]; rfl, rdr_end HRD.out HWO.out (i + 1) (by omega)⟩
    · have hge : decide ((l.length : Int) ≤ (j : Int)) = true := by simp; omega
      have hge2 : decide (l.length ≤ j) = true := by simp; omega
      have hRe : R = (20, 0, 0) := by rw [hR, List.drop_of_length_le (by omega)]; rfl
      have HRE := Lib.hid hRe
      have HRD := Lib.hid hRd
      clear hR hlt hi hn hpi hj hRe hRd hp
      go_wp2_with fail
      go_quiet (fail)
      go_wp2_with fail
      go_ret2
      rw [HRE.out]
      exact ⟨rfl, ⟨HRD.out.1.drewN nq, HRD.out.2⟩, by rw [HWO.out]; exact ((Only.refl _ w).drewN q).drewN nq⟩
end Go.Proofs.Ytbfhiegbgkkgiaa
/- Wire: the readers zig and nine walked. -/

namespace Go.Proofs.Ytbfhiegbgkkgiaa
open Go.RowKit
open Wi
namespace Wi
theorem dleb_lt : ∀ (l : List UInt8) (i n : Nat), i ≤ 9 → n < 128 ^ i → (dleb i n l).2.1 < 18446744073709551616
  | [], _, _, _, _ => by simp [dleb]
  | x :: l, i, n, hi, hn => by
    have hx := x.toNat_lt
    unfold dleb
    split
    · decide
    · rename_i h9
      split
      · rename_i h127
        exact dleb_lt l (i + 1) _ (by
          rcases Nat.lt_or_ge i 9 with h | h
          · omega
          · exact absurd ⟨by omega, by omega⟩ h9) (leb_lt hn)
      · split
        · decide
        · show n + x.toNat % 128 * 128 ^ i < 18446744073709551616
          rcases Nat.lt_or_ge i 9 with h | h
          · have e2 : (128 : Nat) ^ i ≤ 128 ^ 8 := Nat.pow_le_pow_right (by decide) (by omega)
            have e4 : x.toNat % 128 * 128 ^ i ≤ 127 * 128 ^ 8 := Nat.mul_le_mul (by omega) e2
            omega
          · obtain rfl : i = 9 := by omega
            have e4 : x.toNat % 128 * 128 ^ 9 ≤ 1 * 128 ^ 9 := Nat.mul_le_mul (by omega) (Nat.le_refl _)
            omega
/-- The same for numbers with a sign. -/
def dzig (l : List UInt8) : Nat × Nat × Nat := ((dleb 0 0 l).1, unsign (dleb 0 0 l).2.1, (dleb 0 0 l).2.2)
/-- What the letter n is read as, from its byte i on. -/
def dnine (i n : Nat) : List UInt8 → Nat × Nat × Nat
  | [] => (20, 0, 0)
  | x :: l => if i = 8 then (if x.toNat = 0 then (21, 0, 0) else (0, unsign (n + x.toNat * 128 ^ 8), i + 1)) else if 127 < x.toNat then dnine (i + 1) (n + x.toNat % 128 * 128 ^ i) l else if x.toNat = 0 ∧ 0 < i then (21, 0, 0) else (0, unsign (n + x.toNat % 128 * 128 ^ i), i + 1)
end Wi
theorem u64_sg {n : Nat} (hn : n < 18446744073709551616) : IntKind.u64.wrap (sg n) = (n : Int) := by
  rw [IntKind.wrap_u64]
  unfold sg
  split <;> omega
set_option maxRecDepth 100000 in
theorem rzig_t (base g : Nat) (A : Option Addr) (c : Nat) (l : List UInt8) (p : Nat) (k : Int) (w : World) (h : Rdr w base g A c l p) (hp : p ≤ l.length) (hl : l.length ≤ 100000000) :
    Calls Try.prog 80 #[.pointer (some ⟨g, 0, none⟩), .int .i64 k] w (LebPost base g A c l p (dzig (l.drop p)) w) := by
  have HL := Lib.hid (rleb_t base g A c l p k w h hp hl)
  have hlt := dleb_lt (l.drop p) 0 0 (by decide) (by decide)
  unfold dzig
  generalize dleb 0 0 (l.drop p) = r at *
  have hsg := u64_sg (unsign_lt hlt)
  have HU := Lib.hid (fun W => unsign_t r.2.1 W hlt)
  clear h hp hlt
  obtain ⟨re, rn, ru⟩ := r
  dsimp only at hsg
  go_enter Try.func80, Try.ntmps80
  go_wp2_with fail
  refine HL.out.mono ?_
  rintro e w1 ⟨rfl, h1⟩
  have H1 := Lib.hid h1
  clear h1
  dsimp only
  go_wp2_with fail
  refine (HU.out _).mono ?_
  rintro e w2 ⟨rfl, rfl⟩
  dsimp only
  go_wp2_with fail
  go_ret2
  exact ⟨rfl, H1.out⟩
theorem nine_or {n y : Nat} (hn : n < 128 ^ 8) (hy : y < 256) : bits .or .u64 (n : Int) (IntKind.u64.wrap (IntKind.u64.wrap (y : Int) * 72057594037927936)) = ((n + y * 128 ^ 8 : Nat) : Int) := by
  have e4 : (y : Int) * 72057594037927936 = ((y * 128 ^ 8 : Nat) : Int) := by rw [Int.natCast_mul]; rfl
  rw [IntWalk.u64_in (y : Int) ⟨by omega, by omega⟩, e4, IntWalk.u64_in _ ⟨by omega, by omega⟩, u64_or_nat _ _ (by omega) (by omega), or_128 hn]
set_option maxRecDepth 100000 in
set_option maxHeartbeats 3200000 in
theorem rnine_t (base g : Nat) (A : Option Addr) (c : Nat) (l : List UInt8) (p : Nat) (k : Int) (w : World) (h : Rdr w base g A c l p) (hp : p ≤ l.length) (hl : l.length ≤ 100000000) :
    Calls Try.prog 82 #[.pointer (some ⟨g, 0, none⟩), .int .i64 k] w (LebPost base g A c l p (dnine 0 0 (l.drop p)) w) := by
  have H := Lib.hid h
  have HP := Lib.hid hp
  obtain ⟨R, hR⟩ : ∃ R, R = dnine 0 0 (l.drop p) := ⟨_, rfl⟩
  rw [← hR]
  have HR0 := Lib.hid hR
  clear h hR
  go_enter Try.func82, Try.ntmps82
  go_wp2_with fail
  go_loopw [6, 9] (fun u v wr => ∃ (i n q : Nat), v = .int .i64 (i : Int) ∧ u = .int .u64 (n : Int) ∧ i ≤ 8 ∧ n < 128 ^ i ∧ p + i ≤ l.length ∧ R = dnine i n (l.drop (p + i)) ∧ wr = w.drewN q) (fun _ v _ => 9 - (intOf v).toNat)
  case atStart => exact ⟨0, 0, 0, rfl, rfl, by omega, by decide, HP.out, HR0.out, rfl⟩
  case round =>
    obtain ⟨i, n, q, rfl, rfl, hi, hn, hpi, hR, rfl⟩ := hrel
    obtain ⟨wo, hwo⟩ : ∃ wo : World, wo = w.drewN q := ⟨_, rfl⟩
    have hRd : Rdr wo base g A c l p := by rw [hwo]; exact ⟨H.out.1.drewN q, H.out.2⟩
    rw [← hwo]
    have HWO := Lib.hid hwo
    clear hwo
    have c0 : wo.cell? ⟨g, 0, none⟩ = some (.slice A l.length c) := by rw [hRd.1.cell]; rfl
    have c1 : wo.cell? ⟨g, 1, none⟩ = some (.int .i64 (p : Int)) := by rw [hRd.1.cell]; rfl
    have fr := hRd.1.free
    obtain ⟨j, hj⟩ : ∃ j, j = p + i := ⟨_, rfl⟩
    have ej : IntKind.i64.wrap ((p : Int) + (i : Int)) = (j : Int) := by rw [IntWalk.i64_in _ ⟨by omega, by omega⟩]; omega
    have ej2 : (p : Int) + (i : Int) = (j : Int) := by omega
    have hj0 : (0 : Int) ≤ (j : Int) := by omega
    have hi9 : (i : Int) < 9 := by omega
    rw [← hj] at hR hpi
    have hjb : (j : Int) ≤ 100000000 := by omega
    by_cases hlt : j < l.length
    · have hlt0 : (j : Int) < (l.length : Int) := by omega
      obtain ⟨gb, hA, _, _, _, hcl, _⟩ := Own.form (show Own wo base 5 1 A l.length c (bvs l) from hRd.2) (by omega)
      subst hA
      obtain ⟨x, hx⟩ : ∃ x, l[j]? = some x := ⟨_, List.getElem?_eq_getElem hlt⟩
      have d0 := hcl j (.int .u8 (x.toNat : Int)) (by simp only [bvs, List.getElem?_map, hx, bv, Option.map_some])
      have hR2 : R = if i = 8 then (if x.toNat = 0 then (21, 0, 0) else (0, unsign (n + x.toNat * 128 ^ 8), i + 1)) else if 127 < x.toNat then dnine (i + 1) (n + x.toNat % 128 * 128 ^ i) (l.drop (j + 1)) else if x.toNat = 0 ∧ 0 < i then (21, 0, 0) else (0, unsign (n + x.toNat % 128 * 128 ^ i), i + 1) := by
        obtain ⟨hl2, e⟩ := List.getElem?_eq_some_iff.1 hx
        rw [hR, List.drop_eq_getElem_cons hl2, e]
        rfl
      have hx256 := x.toNat_lt
      generalize x.toNat = y at *
      have HRD := Lib.hid hRd
      have hpb : (p : Int) ≤ 100000000 := by omega
      clear hR hcl hx hRd hp
      by_cases h8 : i = 8
      · rw [if_pos h8] at hR2
        have e8 : ((i : Int) == 8) = true := by simp; omega
        have e8b : decide ((i : Int) < 8) = false := by simp; omega
        have e4 : decide ((0 : Int) < (i : Int)) = true := by simp; omega
        have e5 : decide (0 < i) = true := by simp; omega
        have hn8 : n < 128 ^ 8 := by rw [h8] at hn; exact hn
        have hlt64 : n + y * 128 ^ 8 < 18446744073709551616 := by omega
        have HOR := Lib.hid (nine_or hn8 hx256)
        by_cases hz : y = 0
        · rw [if_pos hz] at hR2
          have e3 : ((y : Int) == 0) = true := by simp; omega
          have HRE := Lib.hid hR2
          clear hR2 h8 hn hi hlt hj hpi hz hx256 hn8 hlt64
          go_wp2_with fail
          go_quiet (fail)
          go_wp2_with fail
          go_quiet (fail)
          go_wp2_with fail
          go_ret2
          rw [HRE.out]
          exact ⟨rfl, ⟨HRD.out.1.drewN _, HRD.out.2⟩, by rw [HWO.out]; exact ((Only.refl _ w).drewN q).drewN _⟩
        · rw [if_neg hz] at hR2
          have e3 : ((y : Int) == 0) = false := by simp; omega
          have HRE := Lib.hid hR2
          have HU := Lib.hid (fun W => unsign_t _ W hlt64)
          have HSG := Lib.hid (u64_sg (unsign_lt hlt64))
          clear hR2 h8 hn hi hlt hj hpi hz hx256 hn8 hlt64
          go_wp2_with fail
          go_quiet (fail)
          go_wp2_with fail
          go_quiet (fail)
          go_wp2_with fail
          rw [HOR.out]
          refine (HU.out _).mono ?_
          rintro e w2 ⟨rfl, rfl⟩
          go_wp2_with fail
          go_ret2
          rw [HRE.out]
          exact ⟨by rw [HSG.out]; rfl, rdr_end HRD.out HWO.out (i + 1) (by omega)⟩
      · rw [if_neg h8] at hR2
        have e8 : ((i : Int) == 8) = false := by simp; omega
        have e8b : decide ((i : Int) < 8) = true := by simp; omega
        have HOR := Lib.hid (leb_or hn hx256 (by omega) (fun h => by omega))
        have hlt64 : n + y % 128 * 128 ^ i < 18446744073709551616 := by
          have e2 : (128 : Nat) ^ i ≤ 128 ^ 8 := Nat.pow_le_pow_right (by decide) (by omega)
          have e4 : y % 128 * 128 ^ i ≤ 127 * 128 ^ 8 := Nat.mul_le_mul (by omega) e2
          omega
        by_cases hy : 127 < y
        · rw [if_pos hy] at hR2
          have e1 : decide ((127 : Int) < (y : Int)) = true := by simp; omega
          have HI := Lib.hid (show i < 8 by omega)
          have HRE := Lib.hid hR2
          have HN := Lib.hid (leb_lt (x := y) hn)
          have HJ := Lib.hid hj
          have HL := Lib.hid hlt
          clear hR2 h8 hn hi hj hpi hy hlt hx256 hlt64
          go_wp2_with fail
          go_quiet (fail)
          go_wp2_with fail
          go_quiet (fail)
          go_wp2_with fail
          go_roundw
          case rel => exact ⟨i + 1, n + y % 128 * 128 ^ i, q + _, by go_num, by rw [HOR.out], HI.out, HN.out, by have := HJ.out; have := HL.out; omega, by rw [HRE.out, HJ.out]; rfl, by rw [HWO.out, World.drewN_drewN]⟩
          case measure => have := HI.out; simp [intOf]; omega
        · rw [if_neg hy] at hR2
          have e1 : decide ((127 : Int) < (y : Int)) = false := by simp; omega
          by_cases hz : y = 0 ∧ 0 < i
          · rw [if_pos hz] at hR2
            have e3 : ((y : Int) == 0) = true := by simp; omega
            have e4 : decide ((0 : Int) < (i : Int)) = true := by simp; omega
            have e5 : decide (0 < i) = true := by simp; omega
            have HRE := Lib.hid hR2
            clear hR2 h8 hn hi hlt hj hpi hy hz hx256 hlt64
            go_wp2_with fail
            go_quiet (fail)
            go_wp2_with fail
            go_quiet (fail)
            go_wp2_with fail
            go_ret2
            rw [HRE.out]
            exact ⟨rfl, ⟨HRD.out.1.drewN _, HRD.out.2⟩, by rw [HWO.out]; exact ((Only.refl _ w).drewN q).drewN _⟩
          · rw [if_neg hz] at hR2
            have e3 : ((y : Int) == 0) = false ∨ (((y : Int) == 0) = true ∧ decide ((0 : Int) < (i : Int)) = false ∧ decide (0 < i) = false) := by
              by_cases hy0 : y = 0
              · exact .inr ⟨by simp; omega, by simp; omega, by simp; omega⟩
              · exact .inl (by simp; omega)
            have HRE := Lib.hid hR2
            have HU := Lib.hid (fun W => unsign_t _ W hlt64)
            have HSG := Lib.hid (u64_sg (unsign_lt hlt64))
            clear hR2 h8 hn hi hlt hj hpi hy hz hx256 hlt64
            rcases e3 with e3 | ⟨e3, e3b, e3c⟩
            all_goals
              go_wp2_with fail
              go_quiet (fail)
              go_wp2_with fail
              go_quiet (fail)
              go_wp2_with fail
              rw [HOR.out]
              refine (HU.out _).mono ?_
              rintro e w2 ⟨rfl, rfl⟩
              go_wp2_with fail
              go_ret2
              rw [HRE.out]
              exact ⟨by rw [HSG.out]; rfl, rdr_end HRD.out HWO.out (i + 1) (by omega)⟩
    · have hge : decide ((l.length : Int) ≤ (j : Int)) = true := by simp; omega
      have hge2 : decide (l.length ≤ j) = true := by simp; omega
      have hRe : R = (20, 0, 0) := by rw [hR, List.drop_of_length_le (by omega)]; rfl
      have HRE := Lib.hid hRe
      have HRD := Lib.hid hRd
      clear hR hlt hi hn hpi hj hRe hRd hp
      go_wp2_with fail
      go_quiet (fail)
      go_wp2_with fail
      go_ret2
      rw [HRE.out]
      exact ⟨rfl, ⟨HRD.out.1.drewN nq, HRD.out.2⟩, by rw [HWO.out]; exact ((Only.refl _ w).drewN q).drewN nq⟩
end Go.Proofs.Ytbfhiegbgkkgiaa
/- Wire: what every letter's reader reads; Next walked. -/

namespace Go.Proofs.Ytbfhiegbgkkgiaa
open Go.RowKit
open Wi
/-- What bytes are read as by a form: an error's number, the number, how many bytes. -/
def decF (f : Frm) (l : List UInt8) : Nat × Nat × Nat :=
  if f.2.2.2 = 74 then (if l.length < f.2.1 then (20, 0, 0) else (0, lov (l.take f.2.1), f.2.1))
  else if f.2.2.2 = 76 then (if l.length < f.2.1 then (20, 0, 0) else (0, hov (l.take f.2.1), f.2.1))
  else if f.2.2.2 = 78 then dleb 0 0 l
  else if f.2.2.2 = 80 then dzig l
  else dnine 0 0 l
set_option maxRecDepth 100000 in
theorem glow (base g : Nat) (A : Option Addr) (c : Nat) (l : List UInt8) (p k : Nat) (w : World) (h : Rdr w base g A c l p) (hp : p ≤ l.length) (hk : k ≤ 8) (hl : l.length ≤ 100000000) :
    Calls Try.prog 74 #[.pointer (some ⟨g, 0, none⟩), .int .i64 (k : Int)] w (LebPost base g A c l p (if (l.drop p).length < k then (20, 0, 0) else (0, lov ((l.drop p).take k), k)) w) := by
  have hd : (l.drop p).length = l.length - p := List.length_drop
  split
  · refine (rlow_end base g A c l p k w h hp (by omega) hl).mono ?_
    rintro e w' ⟨rfl, q, rfl⟩
    exact ⟨rfl, ⟨h.1.drewN q, h.2⟩, (Only.refl _ _).drewN q⟩
  · exact rlow_t base g A c l p k w h (by omega) hk hl
set_option maxRecDepth 100000 in
theorem ghigh (base g : Nat) (A : Option Addr) (c : Nat) (l : List UInt8) (p k : Nat) (w : World) (h : Rdr w base g A c l p) (hp : p ≤ l.length) (hk : k ≤ 8) (hl : l.length ≤ 100000000) :
    Calls Try.prog 76 #[.pointer (some ⟨g, 0, none⟩), .int .i64 (k : Int)] w (LebPost base g A c l p (if (l.drop p).length < k then (20, 0, 0) else (0, hov ((l.drop p).take k), k)) w) := by
  have hd : (l.drop p).length = l.length - p := List.length_drop
  split
  · refine (rhigh_end base g A c l p k w h hp (by omega) hl).mono ?_
    rintro e w' ⟨rfl, q, rfl⟩
    exact ⟨rfl, ⟨h.1.drewN q, h.2⟩, (Only.refl _ _).drewN q⟩
  · exact rhigh_t base g A c l p k w h (by omega) hk hl
set_option maxRecDepth 100000 in
theorem get_any {k : Nat} {f : Frm} (hf : frms[k]? = some f) (base g : Nat) (A : Option Addr) (c : Nat) (l : List UInt8) (p : Nat) (w : World) (h : Rdr w base g A c l p) (hp : p ≤ l.length) (hl : l.length ≤ 100000000) :
    Calls Try.prog f.2.2.2 #[.pointer (some ⟨g, 0, none⟩), .int .i64 (f.2.1 : Int)] w (LebPost base g A c l p (decF f (l.drop p)) w) := by
  have hk : k < 10 := (List.getElem?_eq_some_iff.1 hf).1
  rcases k with _ | _ | _ | _ | _ | _ | _ | _ | _ | _ | k
  · injection hf with hf; subst hf; exact glow base g A c l p 1 w h hp (by omega) hl
  · injection hf with hf; subst hf; exact glow base g A c l p 2 w h hp (by omega) hl
  · injection hf with hf; subst hf; exact ghigh base g A c l p 2 w h hp (by omega) hl
  · injection hf with hf; subst hf; exact glow base g A c l p 4 w h hp (by omega) hl
  · injection hf with hf; subst hf; exact ghigh base g A c l p 4 w h hp (by omega) hl
  · injection hf with hf; subst hf; exact glow base g A c l p 8 w h hp (by omega) hl
  · injection hf with hf; subst hf; exact ghigh base g A c l p 8 w h hp (by omega) hl
  · injection hf with hf; subst hf; exact rleb_t base g A c l p _ w h hp hl
  · injection hf with hf; subst hf; exact rzig_t base g A c l p _ w h hp hl
  · injection hf with hf; subst hf; exact rnine_t base g A c l p _ w h hp hl
  · omega
/-- The cells of a form that was stored in a new block. -/
theorem row_new {w w' : World} {cs0 cs : Array Value} {t : TypeId} (h : w' = (w.alloc (.cells cs0 t)).setRow w.heap.size cs) : Blk w' w.heap.size t cs := by
  rw [h]
  exact setRow_heap _ _ _ _ t _ (heap_alloc_new _ _)
theorem row_below {B : Nat} {a w : World} (h : Below B a w) (hB : B ≤ w.heap.size) (o : Obj) (cs : Array Value) : Below B a ((w.alloc o).setRow w.heap.size cs) :=
  below_setRow (h.alloc hB _) hB _
set_option maxRecDepth 100000 in
/-- What the table names is entered. -/
theorem enter_get {k : Nat} {f : Frm} (hf : frms[k]? = some f) : ∀ (args : Array Value) (w : World), (callFunc f.2.2.2 args).run Try.prog w = .ok (.enter f.2.2.2 args) w := by
  have hk : k < 10 := (List.getElem?_eq_some_iff.1 hf).1
  intro args w
  rcases k with _ | _ | _ | _ | _ | _ | _ | _ | _ | _ | k <;> first | omega | (injection hf with hf; subst hf; kernel_rfl)
set_option maxRecDepth 100000 in
theorem enter_put {k : Nat} {f : Frm} (hf : frms[k]? = some f) : ∀ (args : Array Value) (w : World), (callFunc f.2.2.1 args).run Try.prog w = .ok (.enter f.2.2.1 args) w := by
  have hk : k < 10 := (List.getElem?_eq_some_iff.1 hf).1
  intro args w
  rcases k with _ | _ | _ | _ | _ | _ | _ | _ | _ | _ | k <;> first | omega | (injection hf with hf; subst hf; kernel_rfl)
set_option maxRecDepth 100000 in
set_option maxHeartbeats 1600000 in
theorem next_t (base g : Nat) (A : Option Addr) (c : Nat) (l : List UInt8) (p : Nat) (x : Nat) (w : World) (h : Rdr w base g A c l p) (hp : p ≤ l.length) (hl : l.length ≤ 100000000) {f : Frm} (hf : frms[fi x]? = some f) :
    Calls Try.prog 22 #[.pointer (some ⟨g, 0, none⟩), .int .u8 (x : Int)] w (LebPost base g A c l p (decF f (l.drop p)) w) := by
  have H := Lib.hid h
  have HF := Lib.hid hf
  have HP := Lib.hid hp
  clear h hf hp
  go_enter Try.func22, Try.ntmps22
  go_wp2_with fail
  refine (formOf_t x w).mono ?_
  rintro e w1 ⟨hc, hb1⟩
  have HB1 := Lib.hid hb1
  clear hb1
  rcases hc with ⟨f', hf', rfl⟩ | ⟨h10, rfl⟩
  · obtain rfl : f' = f := by
      have := HF.out
      rw [hf'] at this
      injection this
    clear hf'
    obtain ⟨W2, hW2⟩ : ∃ W2, W2 = (w1.alloc (.cells zeroC.toArray 86)).setRow w1.heap.size (frmC f').toArray := ⟨_, rfl⟩
    have B2 := row_new hW2
    have c1 : W2.cell? ⟨w1.heap.size, 1, none⟩ = some (.int .i64 (f'.2.1 : Int)) := by rw [B2.cell]; rfl
    have c3 : W2.cell? ⟨w1.heap.size, 3, none⟩ = some (fn0 f'.2.2.2) := by rw [B2.cell]; rfl
    have hbw : Below w.heap.size w W2 := by rw [hW2]; exact row_below HB1.out HB1.out.size _ _
    have HG := Lib.hid (get_any HF.out base g A c l p W2 (H.out.below hbw) HP.out hl)
    have HON := Lib.hid (Only.of_below (K := RK g) hbw)
    rw [hW2] at c1 c3 HG HON
    unfold zeroC at c1 c3 HG HON
    unfold fn0 at c3
    have hent := enter_get HF.out
    clear B2 hbw hW2 W2
    unfold frmV
    go_wp2_with (first | (refine wpList_store_row rfl 86 _ _ rfl w1.heap.size (frmC f').toArray rfl rfl 86 _ (heap_alloc_new _ _) frm_info rfl (frmC_one _) ?_) | fail)
    refine HG.out.mono ?_
    rintro e w3 ⟨rfl, h3, h4⟩
    have H3 := Lib.hid h3
    have H4 := Lib.hid h4
    clear h3 h4 c1 c3
    go_wp2_with fail
    go_ret2
    exact ⟨rfl, H3.out, HON.out.trans H4.out⟩
  · exfalso
    have := (List.getElem?_eq_some_iff.1 HF.out).1
    have e : frms.length = 10 := rfl
    omega
end Go.Proofs.Ytbfhiegbgkkgiaa
/- Wire: Get walked. -/

namespace Go.Proofs.Ytbfhiegbgkkgiaa
open Go.RowKit
open Wi
theorem Own.ne_own {w : World} {base base' : Nat} {e e' : TypeId} {size size' n n' c c' : Nat} {A A' : Option Addr} {xs xs' : List Value} (h : Own w base e size A n c xs) (h' : Own w base' e' size' A' n' c' xs') (hne : e ≠ e') (g : Nat) (hg : blockOf A = some g) : blockOf A' ≠ some g := by
  rcases h.2 with ⟨hv, _⟩ | ⟨g1, cap, cur, hv, _, hh, _⟩
  · injection hv with hA _ _
    subst hA
    cases hg
  · injection hv with hA _ _
    subst hA
    have hg1 : g1 = g := by simpa [blockOf] using hg
    subst hg1
    exact Own.ne_blk h' (show Blk w g1 e cur from hh) (fun h => hne h.symm)
/-- Numbers without a sign, as values. -/
def uv (n : Nat) : Value := .int .u64 (n : Int)
def uvs (l : List Nat) : List Value := l.map uv
theorem uvs_append (l m : List Nat) : uvs (l ++ m) = uvs l ++ uvs m := by simp [uvs]
theorem uvs_length (l : List Nat) : (uvs l).length = l.length := by simp [uvs]
theorem uvs_one (l : List Nat) : ∀ u ∈ uvs l, u.oneCell' = true := by
  intro u hu
  obtain ⟨_, _, rfl⟩ := List.mem_map.1 hu
  rfl
set_option maxRecDepth 100000 in
theorem elem_u64 : Elem Try.prog 72 36 1 8 := elem_of Try.underlying72 (z := .int .u64 0) (by kernel_rfl) (by decide) (by decide)
theorem u64_new (w : World) (n : Nat) : Reads (w.alloc (.cells #[.int .u64 (n : Int)] 36)) (w.alloc (.cells #[.int .u64 (n : Int)] 36)).heap.size 1 (some ⟨w.heap.size, 0, none⟩) 1 (uvs [n]) :=
  Reads.lit (newest _ _) rfl rfl
/-- The slice '.slice A l.length c', the call's own, holds the numbers l. -/
def OwnU (w : World) (base : Nat) (A : Option Addr) (c : Nat) (l : List Nat) : Prop := Own w base 36 1 A l.length c (uvs l)
/-- A slice '.slice A l.length _' that holds the numbers l. -/
def Us (w : World) (B : Nat) (A : Option Addr) (l : List Nat) : Prop := Reads w B 1 A l.length (uvs l)
namespace Wi
theorem dleb_used : ∀ (l : List UInt8) (i n : Nat), (dleb i n l).1 = 0 → (dleb i n l).2.2 ≤ i + l.length ∧ i < (dleb i n l).2.2
  | [], i, n => by simp [dleb]
  | x :: l, i, n => by
    unfold dleb
    split
    · simp
    · split
      · intro h
        have := dleb_used l (i + 1) _ h
        rw [List.length_cons]
        omega
      · split
        · simp
        · intro _
          rw [List.length_cons]
          exact ⟨by dsimp only; omega, by dsimp only; omega⟩
theorem dleb_err : ∀ (l : List UInt8) (i n : Nat), (dleb i n l).1 ≠ 0 → (dleb i n l).2.2 = 0
  | [], i, n => by simp [dleb]
  | x :: l, i, n => by
    unfold dleb
    split
    · simp
    · split
      · exact dleb_err l (i + 1) _
      · split <;> simp
theorem dnine_used : ∀ (l : List UInt8) (i n : Nat), (dnine i n l).1 = 0 → (dnine i n l).2.2 ≤ i + l.length
  | [], i, n => by simp [dnine]
  | x :: l, i, n => by
    unfold dnine
    split
    · split
      · simp
      · intro _; rw [List.length_cons]; dsimp only; omega
    · split
      · intro h
        have := dnine_used l (i + 1) _ h
        rw [List.length_cons]
        omega
      · split
        · simp
        · intro _
          rw [List.length_cons]
          dsimp only; omega
theorem dnine_err : ∀ (l : List UInt8) (i n : Nat), (dnine i n l).1 ≠ 0 → (dnine i n l).2.2 = 0
  | [], i, n => by simp [dnine]
  | x :: l, i, n => by
    unfold dnine
    split
    · split <;> simp
    · split
      · exact dnine_err l (i + 1) _
      · split <;> simp
theorem dnine_lt : ∀ (l : List UInt8) (i n : Nat), i ≤ 8 → n < 128 ^ i → (dnine i n l).2.1 < 18446744073709551616
  | [], _, _, _, _ => by simp [dnine]
  | x :: l, i, n, hi, hn => by
    have hx := x.toNat_lt
    unfold dnine
    split
    · rename_i h8
      subst h8
      split
      · decide
      · exact unsign_lt (by omega)
    · split
      · exact dnine_lt l (i + 1) _ (by omega) (leb_lt hn)
      · split
        · decide
        · refine unsign_lt ?_
          have e2 : (128 : Nat) ^ i ≤ 128 ^ 7 := Nat.pow_le_pow_right (by decide) (by omega)
          have e4 : x.toNat % 128 * 128 ^ i ≤ 127 * 128 ^ 7 := Nat.mul_le_mul (by omega) e2
          omega
theorem lov_small8 {l : List UInt8} (h : l.length ≤ 8) : lov l < 18446744073709551616 := by
  have h1 := lov_lt l
  have e2 : (256 : Nat) ^ l.length ≤ 256 ^ 8 := Nat.pow_le_pow_right (by decide) h
  omega
end Wi
theorem frm_size {k : Nat} {f : Frm} (hf : frms[k]? = some f) : f.2.1 ≤ 8 := by
  have hk : k < 10 := (List.getElem?_eq_some_iff.1 hf).1
  rcases k with _ | _ | _ | _ | _ | _ | _ | _ | _ | _ | k <;> first | omega | (injection hf with hf; subst hf; decide)
theorem dec_lt (f : Frm) (l : List UInt8) (hs : f.2.1 ≤ 8) : (decF f l).2.1 < 18446744073709551616 := by
  unfold decF
  split
  · split
    · show 0 < _; decide
    · exact lov_small8 (by rw [List.length_take]; omega)
  split
  · split
    · show 0 < _; decide
    · exact lov_small8 (by rw [List.length_reverse, List.length_take]; omega)
  split
  · exact dleb_lt l 0 0 (by decide) (by decide)
  split
  · exact unsign_lt (dleb_lt l 0 0 (by decide) (by decide))
  · exact dnine_lt l 0 0 (by decide) (by decide)
theorem dec_used (f : Frm) (l : List UInt8) : (decF f l).2.2 ≤ l.length := by
  unfold decF
  split
  · split
    · exact Nat.zero_le _
    · show f.2.1 ≤ _; omega
  split
  · split
    · exact Nat.zero_le _
    · show f.2.1 ≤ _; omega
  split
  · rcases Nat.eq_zero_or_pos (dleb 0 0 l).1 with h | h
    · have := (dleb_used l 0 0 h).1; omega
    · rw [dleb_err l 0 0 (by omega)]; exact Nat.zero_le _
  split
  · show (dleb 0 0 l).2.2 ≤ _
    rcases Nat.eq_zero_or_pos (dleb 0 0 l).1 with h | h
    · have := (dleb_used l 0 0 h).1; omega
    · rw [dleb_err l 0 0 (by omega)]; exact Nat.zero_le _
  · rcases Nat.eq_zero_or_pos (dnine 0 0 l).1 with h | h
    · have := dnine_used l 0 0 h; omega
    · rw [dnine_err l 0 0 (by omega)]; exact Nat.zero_le _
/-- By a letter. -/
def decX (x : UInt8) (l : List UInt8) : Nat × Nat × Nat := match frms[fi x.toNat]? with
  | some f => decF f l
  | none => (22, 0, 0)
theorem decX_of {x : UInt8} {f : Frm} (h : frms[fi x.toNat]? = some f) (l : List UInt8) : decX x l = decF f l := by unfold decX; rw [h]
/-- By a pattern: behind the numbers ns and p bytes. -/
def goL : List UInt8 → List UInt8 → List Nat → Nat → Nat × List Nat × Nat
  | [], _, ns, p => (0, ns, p)
  | x :: pt, l, ns, p => if (decX x l).1 = 0 then goL pt (l.drop (decX x l).2.2) (ns ++ [(decX x l).2.1]) (p + (decX x l).2.2) else ((decX x l).1, [], 0)
def getW (pt l : List UInt8) : Nat × List Nat × Nat := if rightB pt then goL pt l [] 0 else (22, [], 0)
def GetPost (w : World) (r : Nat × List Nat × Nat) (e : Ending) (w' : World) : Prop := ∃ A c, e = .returned (.tuple #[.slice A r.2.1.length c, .int .i64 (r.2.2 : Nat), .int .i64 (r.1 : Nat)]) ∧ OwnU w' w.heap.size A c r.2.1 ∧ Below w.heap.size w w'
theorem ok_at {a : ByteArray} (h : a.data.toList.all okL = true) {i : Nat} (hi : i < a.size) : ∃ f, frms[fi a[i].toNat]? = some f := by
  rw [List.all_eq_true] at h
  have h1 := h a[i] (List.mem_of_getElem? (str_at a i hi))
  have h2 : fi a[i].toNat < 10 := of_decide_eq_true h1
  exact ⟨_, List.getElem?_eq_getElem h2⟩
theorem drop_str {a : ByteArray} {i : Nat} (hi : i < a.size) : a.data.toList.drop i = a[i] :: a.data.toList.drop (i + 1) := by
  have h := str_at a i hi
  obtain ⟨h1, h2⟩ := List.getElem?_eq_some_iff.1 h
  rw [List.drop_eq_getElem_cons h1, h2]
/-- Behind a step of the reader: the numbers are as they were. -/
theorem get_mid {w wo w1 : World} {base gr cr : Nat} {Ar : Option Addr} {l : List UInt8} {p p' c : Nat} {A : Option Addr} {ns : List Nat} (hr : Rdr wo base gr Ar cr l p) (hu : OwnU wo w.heap.size A c ns) (hbel : Below w.heap.size w wo) (hgr : w.heap.size ≤ gr)
    (_h1 : Rdr w1 base gr Ar cr l p') (h2 : Only (RK gr) wo w1) : OwnU w1 w.heap.size A c ns ∧ Below w.heap.size w w1 :=
  ⟨Own.only hu h2 (fun g hg e => Own.ne_blk hu hr.1 (by decide) (by rw [hg, e])), hbel.trans (h2.below hbel.size (fun i hi => by rw [hi]; exact hgr))⟩
/-- Behind the append: the reader is as it was. -/
theorem get_app {w1 w3 : World} {base base' gr cr : Nat} {Ar : Option Addr} {l : List UInt8} {p c : Nat} {A : Option Addr} {ns : List Nat} {cs : Array Value} (hr : Rdr w1 base gr Ar cr l p) (hu : OwnU w1 base' A c ns)
    (g3 : (w1.alloc (.cells cs 36)).grownBy w3 (blockOf A)) : Rdr w3 base gr Ar cr l p := by
  have hu2 := Own.alloc (show Own w1 base' 36 1 A ns.length c (uvs ns) from hu) (.cells cs 36)
  have hb2 := hr.1.alloc (.cells cs 36)
  have ho2 := Own.alloc (show Own w1 base 5 1 Ar l.length cr (bvs l) from hr.2) (.cells cs 36)
  refine ⟨hb2.grown g3 (fun e => Own.ne_blk hu2 hb2 (by decide) e.symm), Own.kept ho2 g3 ?_⟩
  cases hA : blockOf Ar with
  | none => exact .inl rfl
  | some g => exact .inr (fun e => Own.ne_own ho2 hu2 (by decide) g hA e.symm)
end Go.Proofs.Ytbfhiegbgkkgiaa
