/- Wire: the reader leb walked. -/
import Derived.Test.YtfeoalimkolebaaWireK
namespace Go.Proofs.Ytfeoalimkolebaa
open Go.RowKit
open Wi
namespace Wi
/-- What a number in groups of seven bits is read as, from its byte i on: an error's number, the number, how many bytes. -/
def dleb (i n : Nat) : List UInt8 → Nat × Nat × Nat
  | [] => (20, 0, 0)
  | x :: l => if i = 9 ∧ 1 < x.toNat then (21, 0, 0) else if 127 < x.toNat then dleb (i + 1) (n + x.toNat % 128 * 128 ^ i) l else if x.toNat = 0 ∧ 0 < i then (21, 0, 0) else (0, n + x.toNat % 128 * 128 ^ i, i + 1)
theorem or_128 {a b i : Nat} (ha : a < 128 ^ i) : a ||| b * 128 ^ i = a + b * 128 ^ i := by
  have e : (128 : Nat) ^ i = 2 ^ (7 * i) := by rw [show (128 : Nat) = 2 ^ 7 from rfl, ← Nat.pow_mul]
  rw [e] at ha ⊢
  have h := Nat.two_pow_add_eq_or_of_lt ha b
  rw [Nat.mul_comm, Nat.or_comm] at h
  rw [Nat.add_comm, Nat.mul_comm b, ← Nat.mul_comm b, h, Nat.or_comm]
end Wi
theorem leb_lt {n x i : Nat} (hn : n < 128 ^ i) : n + x % 128 * 128 ^ i < 128 ^ (i + 1) := by
  have h : x % 128 * 128 ^ i ≤ 127 * 128 ^ i := Nat.mul_le_mul_right _ (by omega)
  rw [Nat.pow_succ]
  omega
theorem and127 {y : Nat} (hy : y < 256) : bits .and .u8 (y : Int) 127 = ((y % 128 : Nat) : Int) := by
  rw [show (127 : Int) = ((127 : Nat) : Int) from rfl, u8_and_nat _ _ hy (by omega)]
  congr 1
  exact Nat.and_two_pow_sub_one_eq_mod y 7
theorem leb_or {n y i : Nat} (hn : n < 128 ^ i) (hy : y < 256) (hi : i ≤ 9) (h9 : i = 9 → y ≤ 1) : bits .or .u64 (n : Int) (IntKind.u64.wrap (IntKind.u64.wrap (bits .and .u8 (y : Int) 127) * 2 ^ (7 * i))) = ((n + y % 128 * 128 ^ i : Nat) : Int) := by
  have e3 : y % 128 * 128 ^ i < 18446744073709551616 ∧ n < 18446744073709551616 := by
    rcases Nat.lt_or_ge i 9 with h | h
    · have e2 : (128 : Nat) ^ i ≤ 128 ^ 8 := Nat.pow_le_pow_right (by decide) (by omega)
      have e4 : y % 128 * 128 ^ i ≤ 127 * 128 ^ 8 := Nat.mul_le_mul (by omega) e2
      exact ⟨by omega, by omega⟩
    · obtain rfl : i = 9 := by omega
      have := h9 rfl
      have e4 : y % 128 * 128 ^ 9 ≤ 1 * 128 ^ 9 := Nat.mul_le_mul (by omega) (Nat.le_refl _)
      exact ⟨by omega, by omega⟩
  have e4 : ((y % 128 : Nat) : Int) * 2 ^ (7 * i) = ((y % 128 * 128 ^ i : Nat) : Int) := by
    rw [show (128 : Nat) ^ i = 2 ^ (7 * i) by rw [show (128 : Nat) = 2 ^ 7 from rfl, ← Nat.pow_mul], Int.natCast_mul, Int.natCast_pow]
    rfl
  rw [and127 hy, IntWalk.u64_in ((y % 128 : Nat) : Int) ⟨by omega, by omega⟩, e4, IntWalk.u64_in _ ⟨by omega, by omega⟩, u64_or_nat _ _ e3.2 e3.1, or_128 hn]
/-- A reader that has gone on by k bytes. -/
theorem rdr_end {w wo : World} {base g c q m p : Nat} {A : Option Addr} {l : List UInt8} (h : Rdr wo base g A c l p) (hw : wo = w.drewN q) (k : Nat) {v : Int} (hv : v = ((p + k : Nat) : Int)) :
    Rdr ((wo.drewN m).setCell ⟨g, 1, none⟩ (.int .i64 v)) base g A c l (p + k) ∧ Only (RK g) w ((wo.drewN m).setCell ⟨g, 1, none⟩ (.int .i64 v)) := by
  subst hv
  have hr : Rdr (wo.drewN m) base g A c l p := ⟨h.1.drewN m, h.2⟩
  have hon : Only (RK g) w (wo.drewN m) := by rw [hw]; exact ((Only.refl _ _).drewN q).drewN m
  refine ⟨hr.moved ?_ ((Only.refl (RK g) _).set (p := ⟨g, 1, none⟩) (.inl rfl) _), hon.set (p := ⟨g, 1, none⟩) (.inl rfl) _⟩
  have h1 := hr.1.put 1 (.int .i64 ((p + k : Nat) : Int))
  simpa using h1
def LebPost (base g : Nat) (A : Option Addr) (c : Nat) (l : List UInt8) (p : Nat) (r : Nat × Nat × Nat) (w : World) (e : Ending) (w' : World) : Prop :=
  e = .returned (.tuple #[.int .u64 (r.2.1 : Nat), .int .i64 (r.1 : Nat)]) ∧ Rdr w' base g A c l (p + r.2.2) ∧ Only (RK g) w w'
set_option maxRecDepth 100000 in
set_option maxHeartbeats 1600000 in
theorem rleb_t (base g : Nat) (A : Option Addr) (c : Nat) (l : List UInt8) (p : Nat) (k : Int) (w : World) (h : Rdr w base g A c l p) (hp : p ≤ l.length) (hl : l.length ≤ 100000000) :
    Calls Try.prog 34 #[.pointer (some ⟨g, 0, none⟩), .int .i64 k] w (LebPost base g A c l p (dleb 0 0 (l.drop p)) w) := by
  have H := Lib.hid h
  have HP := Lib.hid hp
  obtain ⟨R, hR⟩ : ∃ R, R = dleb 0 0 (l.drop p) := ⟨_, rfl⟩
  rw [← hR]
  have HR0 := Lib.hid hR
  clear h hR
  go_enter Try.func34, Try.ntmps34
  go_wp2_with fail
  go_loopw [6, 7] (fun u v wr => ∃ (i n q : Nat), v = .int .i64 (i : Int) ∧ u = .int .u64 (n : Int) ∧ i ≤ 9 ∧ n < 128 ^ i ∧ p + i ≤ l.length ∧ R = dleb i n (l.drop (p + i)) ∧ wr = w.drewN q) (fun _ v _ => 10 - (intOf v).toNat)
  case atStart => exact ⟨0, 0, 0, rfl, rfl, by omega, by decide, HP.out, HR0.out, rfl⟩
  case round =>
    obtain ⟨i, n, q, rfl, rfl, hi, hn, hpi, hR, rfl⟩ := hrel
    obtain ⟨wo, hwo⟩ : ∃ wo : World, wo = w.drewN q := ⟨_, rfl⟩
    have hRd : Rdr wo base g A c l p := by rw [hwo]; exact ⟨H.out.1.drewN q, H.out.2⟩
    rw [← hwo]
    have HWO := Lib.hid hwo
    clear hwo
    have c0 : wo.cell? ⟨g, 0, none⟩ = some (.slice A l.length c) := by rw [hRd.1.cell]; rfl
    have c1 : wo.cell? ⟨g, 1, none⟩ = some (.int .i64 (p : Int)) := by rw [hRd.1.cell]; rfl
    have fr := hRd.1.free
    obtain ⟨j, hj⟩ : ∃ j, j = p + i := ⟨_, rfl⟩
    have ej : IntKind.i64.wrap ((p : Int) + (i : Int)) = (j : Int) := by rw [IntWalk.i64_in _ ⟨by omega, by omega⟩]; omega
    have ej2 : (p : Int) + (i : Int) = (j : Int) := by omega
    have hj0 : (0 : Int) ≤ (j : Int) := by omega
    have hi9 : (i : Int) ≤ 9 := by omega
    rw [← hj] at hR hpi
    have hjb : (j : Int) ≤ 100000000 := by omega
    by_cases hlt : j < l.length
    · have hlt0 : (j : Int) < (l.length : Int) := by omega
      obtain ⟨gb, hA, _, _, _, hcl, _⟩ := Own.form (show Own wo base 5 1 A l.length c (bvs l) from hRd.2) (by omega)
      subst hA
      obtain ⟨x, hx⟩ : ∃ x, l[j]? = some x := ⟨_, List.getElem?_eq_getElem hlt⟩
      have d0 := hcl j (.int .u8 (x.toNat : Int)) (by simp only [bvs, List.getElem?_map, hx, bv, Option.map_some])
      have hR2 : R = if i = 9 ∧ 1 < x.toNat then (21, 0, 0) else if 127 < x.toNat then dleb (i + 1) (n + x.toNat % 128 * 128 ^ i) (l.drop (j + 1)) else if x.toNat = 0 ∧ 0 < i then (21, 0, 0) else (0, n + x.toNat % 128 * 128 ^ i, i + 1) := by
        obtain ⟨hl2, e⟩ := List.getElem?_eq_some_iff.1 hx
        rw [hR, List.drop_eq_getElem_cons hl2, e]
        rfl
      have hx256 := x.toNat_lt
      generalize x.toNat = y at *
      have HRD := Lib.hid hRd
      clear hR hcl hx hRd hp
      by_cases h9 : i = 9 ∧ 1 < y
      · rw [if_pos h9] at hR2
        have e9 : ((i : Int) == 9) = true := by simp; omega
        have e1 : decide ((1 : Int) < (y : Int)) = true := by simp; omega
        have HRE := Lib.hid hR2
        clear hR2 h9 hn hi hlt hj hpi
        go_wp2_with fail
        go_quiet (fail)
        go_wp2_with fail
        go_quiet (fail)
        go_wp2_with fail
        go_ret2
        rw [HRE.out]
        exact ⟨rfl, ⟨HRD.out.1.drewN _, HRD.out.2⟩, by rw [HWO.out]; exact ((Only.refl _ w).drewN q).drewN _⟩
      · rw [if_neg h9] at hR2
        have hn18 : (n : Int) < 9223372036854775808 := by
          have e : n < 128 ^ 9 := Nat.lt_of_lt_of_le hn (Nat.pow_le_pow_right (by decide) hi)
          have e2 : (128 : Nat) ^ 9 = 9223372036854775808 := by decide
          omega
        have e9 : ((i : Int) == 9) = false ∨ (((i : Int) == 9) = true ∧ decide ((1 : Int) < (y : Int)) = false) := by
          by_cases h9i : i = 9
          · exact .inr ⟨by simp; omega, by simp; omega⟩
          · exact .inl (by simp; omega)
        have hor := leb_or hn hx256 hi (by omega)
        have HOR := Lib.hid hor
        by_cases hy : 127 < y
        · rw [if_pos hy] at hR2
          have e1 : decide ((127 : Int) < (y : Int)) = true := by simp; omega
          have hi9b : i < 9 := by
            rcases Nat.lt_or_ge i 9 with h | h
            · exact h
            · exact absurd ⟨by omega, by omega⟩ h9
          have e9 : ((i : Int) == 9) = false := by simp; omega
          have HI := Lib.hid hi9b
          have HRE := Lib.hid hR2
          have HN := Lib.hid (leb_lt (x := y) hn)
          have HJ := Lib.hid hj
          have HL := Lib.hid hlt
          clear hR2 h9 hn hi hj hpi hy hlt hn18 hor hx256 hi9b
          go_wp2_with fail
          go_quiet (fail)
          go_wp2_with fail
          go_quiet (fail)
          go_wp2_with fail
          go_roundw
          case rel => exact ⟨i + 1, n + y % 128 * 128 ^ i, q + _, by go_num, by rw [HOR.out], HI.out, HN.out, by have := HJ.out; have := HL.out; omega, by rw [HRE.out, HJ.out]; rfl, by rw [HWO.out, World.drewN_drewN]⟩
          case measure => have := HI.out; simp [intOf]; omega
        · rw [if_neg hy] at hR2
          have e1 : decide ((127 : Int) < (y : Int)) = false := by simp; omega
          by_cases hz : y = 0 ∧ 0 < i
          · rw [if_pos hz] at hR2
            have e3 : ((y : Int) == 0) = true := by simp; omega
            have e4 : decide ((0 : Int) < (i : Int)) = true := by simp; omega
            have e5 : decide (0 < i) = true := by simp; omega
            have HRE := Lib.hid hR2
            clear hR2 h9 hn hi hlt hj hpi hy hz hn18 hor hx256
            rcases e9 with e9 | ⟨e9, e9b⟩
            all_goals
              go_wp2_with fail
              go_quiet (fail)
              go_wp2_with fail
              go_quiet (fail)
              go_wp2_with fail
              go_ret2
              rw [HRE.out]
              exact ⟨rfl, ⟨HRD.out.1.drewN _, HRD.out.2⟩, by rw [HWO.out]; exact ((Only.refl _ w).drewN q).drewN _⟩
          · rw [if_neg hz] at hR2
            have e3 : ((y : Int) == 0) = false ∨ (((y : Int) == 0) = true ∧ decide ((0 : Int) < (i : Int)) = false ∧ decide (0 < i) = false) := by
              by_cases hy0 : y = 0
              · exact .inr ⟨by simp; omega, by simp; omega, by simp; omega⟩
              · exact .inl (by simp; omega)
            have hpb : (p : Int) ≤ 100000000 := by omega
            have HRE := Lib.hid hR2
            clear hR2 h9 hn hi hlt hj hpi hy hz hn18 hor hx256
            rcases e9 with e9 | ⟨e9, e9b⟩ <;> rcases e3 with e3 | ⟨e3, e3b, e3c⟩
            all_goals
              go_wp2_with fail
              go_quiet (fail)
              go_wp2_with fail
              go_quiet (fail)
              go_wp2_with fail
              go_ret2
              rw [HRE.out]
              exact ⟨by rw [HOR.out]; rfl, rdr_end HRD.out HWO.out (i + 1) (by omega)⟩
    · have hge : decide ((l.length : Int) ≤ (j : Int)) = true := by simp; omega
      have hge2 : decide (l.length ≤ j) = true := by simp; omega
      have hRe : R = (20, 0, 0) := by rw [hR, List.drop_of_length_le (by omega)]; rfl
      have HRE := Lib.hid hRe
      have HRD := Lib.hid hRd
      clear hR hlt hi hn hpi hj hRe hRd hp
      go_wp2_with fail
      go_quiet (fail)
      go_wp2_with fail
      go_ret2
      rw [HRE.out]
      exact ⟨rfl, ⟨HRD.out.1.drewN nq, HRD.out.2⟩, by rw [HWO.out]; exact ((Only.refl _ w).drewN q).drewN nq⟩
end Go.Proofs.Ytfeoalimkolebaa
