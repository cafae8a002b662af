/- Wire: the readers zig and nine walked. -/
import Derived.Test.YtfeoalimkolebaaWireL
namespace Go.Proofs.Ytfeoalimkolebaa
open Go.RowKit
open Wi
namespace Wi
theorem dleb_lt : ∀ (l : List UInt8) (i n : Nat), i ≤ 9 → n < 128 ^ i → (dleb i n l).2.1 < 18446744073709551616
  | [], _, _, _, _ => by simp [dleb]
  | x :: l, i, n, hi, hn => by
    have hx := x.toNat_lt
    unfold dleb
    split
    · decide
    · rename_i h9
      split
      · rename_i h127
        exact dleb_lt l (i + 1) _ (by
          rcases Nat.lt_or_ge i 9 with h | h
          · omega
          · exact absurd ⟨by omega, by omega⟩ h9) (leb_lt hn)
      · split
        · decide
        · show n + x.toNat % 128 * 128 ^ i < 18446744073709551616
          rcases Nat.lt_or_ge i 9 with h | h
          · have e2 : (128 : Nat) ^ i ≤ 128 ^ 8 := Nat.pow_le_pow_right (by decide) (by omega)
            have e4 : x.toNat % 128 * 128 ^ i ≤ 127 * 128 ^ 8 := Nat.mul_le_mul (by omega) e2
            omega
          · obtain rfl : i = 9 := by omega
            have e4 : x.toNat % 128 * 128 ^ 9 ≤ 1 * 128 ^ 9 := Nat.mul_le_mul (by omega) (Nat.le_refl _)
            omega
/-- The same for numbers with a sign. -/
def dzig (l : List UInt8) : Nat × Nat × Nat := ((dleb 0 0 l).1, unsign (dleb 0 0 l).2.1, (dleb 0 0 l).2.2)
/-- What the letter n is read as, from its byte i on. -/
def dnine (i n : Nat) : List UInt8 → Nat × Nat × Nat
  | [] => (20, 0, 0)
  | x :: l => if i = 8 then (if x.toNat = 0 then (21, 0, 0) else (0, unsign (n + x.toNat * 128 ^ 8), i + 1)) else if 127 < x.toNat then dnine (i + 1) (n + x.toNat % 128 * 128 ^ i) l else if x.toNat = 0 ∧ 0 < i then (21, 0, 0) else (0, unsign (n + x.toNat % 128 * 128 ^ i), i + 1)
end Wi
theorem u64_sg {n : Nat} (hn : n < 18446744073709551616) : IntKind.u64.wrap (sg n) = (n : Int) := by
  rw [IntKind.wrap_u64]
  unfold sg
  split <;> omega
theorem rzig_t (base g : Nat) (A : Option Addr) (c : Nat) (l : List UInt8) (p : Nat) (k : Int) (w : World) (h : Rdr w base g A c l p) (hp : p ≤ l.length) (hl : l.length ≤ 100000000) :
    Calls Try.prog 36 #[.pointer (some ⟨g, 0, none⟩), .int .i64 k] w (LebPost base g A c l p (dzig (l.drop p)) w) := by
  have HL := Lib.hid (rleb_t base g A c l p k w h hp hl)
  have hlt := dleb_lt (l.drop p) 0 0 (by decide) (by decide)
  unfold dzig
  generalize dleb 0 0 (l.drop p) = r at *
  have hsg := u64_sg (unsign_lt hlt)
  have HU := Lib.hid (fun W => unsign_t r.2.1 W hlt)
  clear h hp hlt
  obtain ⟨re, rn, ru⟩ := r
  dsimp only at hsg
  go_enter Try.func36, Try.ntmps36
  go_wp2_with fail
  refine HL.out.mono ?_
  rintro e w1 ⟨rfl, h1⟩
  have H1 := Lib.hid h1
  clear h1
  dsimp only
  go_wp2_with fail
  refine (HU.out _).mono ?_
  rintro e w2 ⟨rfl, rfl⟩
  dsimp only
  go_wp2_with fail
  go_ret2
  exact ⟨rfl, H1.out⟩
theorem nine_or {n y : Nat} (hn : n < 128 ^ 8) (hy : y < 256) : bits .or .u64 (n : Int) (IntKind.u64.wrap (IntKind.u64.wrap (y : Int) * 72057594037927936)) = ((n + y * 128 ^ 8 : Nat) : Int) := by
  have e4 : (y : Int) * 72057594037927936 = ((y * 128 ^ 8 : Nat) : Int) := by rw [Int.natCast_mul]; rfl
  rw [IntWalk.u64_in (y : Int) ⟨by omega, by omega⟩, e4, IntWalk.u64_in _ ⟨by omega, by omega⟩, u64_or_nat _ _ (by omega) (by omega), or_128 hn]
set_option maxRecDepth 100000 in
set_option maxHeartbeats 3200000 in
theorem rnine_t (base g : Nat) (A : Option Addr) (c : Nat) (l : List UInt8) (p : Nat) (k : Int) (w : World) (h : Rdr w base g A c l p) (hp : p ≤ l.length) (hl : l.length ≤ 100000000) :
    Calls Try.prog 38 #[.pointer (some ⟨g, 0, none⟩), .int .i64 k] w (LebPost base g A c l p (dnine 0 0 (l.drop p)) w) := by
  have H := Lib.hid h
  have HP := Lib.hid hp
  obtain ⟨R, hR⟩ : ∃ R, R = dnine 0 0 (l.drop p) := ⟨_, rfl⟩
  rw [← hR]
  have HR0 := Lib.hid hR
  clear h hR
  go_enter Try.func38, Try.ntmps38
  go_wp2_with fail
  go_loopw [6, 9] (fun u v wr => ∃ (i n q : Nat), v = .int .i64 (i : Int) ∧ u = .int .u64 (n : Int) ∧ i ≤ 8 ∧ n < 128 ^ i ∧ p + i ≤ l.length ∧ R = dnine i n (l.drop (p + i)) ∧ wr = w.drewN q) (fun _ v _ => 9 - (intOf v).toNat)
  case atStart => exact ⟨0, 0, 0, rfl, rfl, by omega, by decide, HP.out, HR0.out, rfl⟩
  case round =>
    obtain ⟨i, n, q, rfl, rfl, hi, hn, hpi, hR, rfl⟩ := hrel
    obtain ⟨wo, hwo⟩ : ∃ wo : World, wo = w.drewN q := ⟨_, rfl⟩
    have hRd : Rdr wo base g A c l p := by rw [hwo]; exact ⟨H.out.1.drewN q, H.out.2⟩
    rw [← hwo]
    have HWO := Lib.hid hwo
    clear hwo
    have c0 : wo.cell? ⟨g, 0, none⟩ = some (.slice A l.length c) := by rw [hRd.1.cell]; rfl
    have c1 : wo.cell? ⟨g, 1, none⟩ = some (.int .i64 (p : Int)) := by rw [hRd.1.cell]; rfl
    have fr := hRd.1.free
    obtain ⟨j, hj⟩ : ∃ j, j = p + i := ⟨_, rfl⟩
    have ej : IntKind.i64.wrap ((p : Int) + (i : Int)) = (j : Int) := by rw [IntWalk.i64_in _ ⟨by omega, by omega⟩]; omega
    have ej2 : (p : Int) + (i : Int) = (j : Int) := by omega
    have hj0 : (0 : Int) ≤ (j : Int) := by omega
    have hi9 : (i : Int) < 9 := by omega
    rw [← hj] at hR hpi
    have hjb : (j : Int) ≤ 100000000 := by omega
    by_cases hlt : j < l.length
    · have hlt0 : (j : Int) < (l.length : Int) := by omega
      obtain ⟨gb, hA, _, _, _, hcl, _⟩ := Own.form (show Own wo base 5 1 A l.length c (bvs l) from hRd.2) (by omega)
      subst hA
      obtain ⟨x, hx⟩ : ∃ x, l[j]? = some x := ⟨_, List.getElem?_eq_getElem hlt⟩
      have d0 := hcl j (.int .u8 (x.toNat : Int)) (by simp only [bvs, List.getElem?_map, hx, bv, Option.map_some])
      have hR2 : R = if i = 8 then (if x.toNat = 0 then (21, 0, 0) else (0, unsign (n + x.toNat * 128 ^ 8), i + 1)) else if 127 < x.toNat then dnine (i + 1) (n + x.toNat % 128 * 128 ^ i) (l.drop (j + 1)) else if x.toNat = 0 ∧ 0 < i then (21, 0, 0) else (0, unsign (n + x.toNat % 128 * 128 ^ i), i + 1) := by
        obtain ⟨hl2, e⟩ := List.getElem?_eq_some_iff.1 hx
        rw [hR, List.drop_eq_getElem_cons hl2, e]
        rfl
      have hx256 := x.toNat_lt
      generalize x.toNat = y at *
      have HRD := Lib.hid hRd
      have hpb : (p : Int) ≤ 100000000 := by omega
      clear hR hcl hx hRd hp
      by_cases h8 : i = 8
      · rw [if_pos h8] at hR2
        have e8 : ((i : Int) == 8) = true := by simp; omega
        have e8b : decide ((i : Int) < 8) = false := by simp; omega
        have e4 : decide ((0 : Int) < (i : Int)) = true := by simp; omega
        have e5 : decide (0 < i) = true := by simp; omega
        have hn8 : n < 128 ^ 8 := by rw [h8] at hn; exact hn
        have hlt64 : n + y * 128 ^ 8 < 18446744073709551616 := by omega
        have HOR := Lib.hid (nine_or hn8 hx256)
        by_cases hz : y = 0
        · rw [if_pos hz] at hR2
          have e3 : ((y : Int) == 0) = true := by simp; omega
          have HRE := Lib.hid hR2
          clear hR2 h8 hn hi hlt hj hpi hz hx256 hn8 hlt64
          go_wp2_with fail
          go_quiet (fail)
          go_wp2_with fail
          go_quiet (fail)
          go_wp2_with fail
          go_ret2
          rw [HRE.out]
          exact ⟨rfl, ⟨HRD.out.1.drewN _, HRD.out.2⟩, by rw [HWO.out]; exact ((Only.refl _ w).drewN q).drewN _⟩
        · rw [if_neg hz] at hR2
          have e3 : ((y : Int) == 0) = false := by simp; omega
          have HRE := Lib.hid hR2
          have HU := Lib.hid (fun W => unsign_t _ W hlt64)
          have HSG := Lib.hid (u64_sg (unsign_lt hlt64))
          clear hR2 h8 hn hi hlt hj hpi hz hx256 hn8 hlt64
          go_wp2_with fail
          go_quiet (fail)
          go_wp2_with fail
          go_quiet (fail)
          go_wp2_with fail
          rw [HOR.out]
          refine (HU.out _).mono ?_
          rintro e w2 ⟨rfl, rfl⟩
          go_wp2_with fail
          go_ret2
          rw [HRE.out]
          exact ⟨by rw [HSG.out]; rfl, rdr_end HRD.out HWO.out (i + 1) (by omega)⟩
      · rw [if_neg h8] at hR2
        have e8 : ((i : Int) == 8) = false := by simp; omega
        have e8b : decide ((i : Int) < 8) = true := by simp; omega
        have HOR := Lib.hid (leb_or hn hx256 (by omega) (fun h => by omega))
        have hlt64 : n + y % 128 * 128 ^ i < 18446744073709551616 := by
          have e2 : (128 : Nat) ^ i ≤ 128 ^ 8 := Nat.pow_le_pow_right (by decide) (by omega)
          have e4 : y % 128 * 128 ^ i ≤ 127 * 128 ^ 8 := Nat.mul_le_mul (by omega) e2
          omega
        by_cases hy : 127 < y
        · rw [if_pos hy] at hR2
          have e1 : decide ((127 : Int) < (y : Int)) = true := by simp; omega
          have HI := Lib.hid (show i < 8 by omega)
          have HRE := Lib.hid hR2
          have HN := Lib.hid (leb_lt (x := y) hn)
          have HJ := Lib.hid hj
          have HL := Lib.hid hlt
          clear hR2 h8 hn hi hj hpi hy hlt hx256 hlt64
          go_wp2_with fail
          go_quiet (fail)
          go_wp2_with fail
          go_quiet (fail)
          go_wp2_with fail
          go_roundw
          case rel => exact ⟨i + 1, n + y % 128 * 128 ^ i, q + _, by go_num, by rw [HOR.out], HI.out, HN.out, by have := HJ.out; have := HL.out; omega, by rw [HRE.out, HJ.out]; rfl, by rw [HWO.out, World.drewN_drewN]⟩
          case measure => have := HI.out; simp [intOf]; omega
        · rw [if_neg hy] at hR2
          have e1 : decide ((127 : Int) < (y : Int)) = false := by simp; omega
          by_cases hz : y = 0 ∧ 0 < i
          · rw [if_pos hz] at hR2
            have e3 : ((y : Int) == 0) = true := by simp; omega
            have e4 : decide ((0 : Int) < (i : Int)) = true := by simp; omega
            have e5 : decide (0 < i) = true := by simp; omega
            have HRE := Lib.hid hR2
            clear hR2 h8 hn hi hlt hj hpi hy hz hx256 hlt64
            go_wp2_with fail
            go_quiet (fail)
            go_wp2_with fail
            go_quiet (fail)
            go_wp2_with fail
            go_ret2
            rw [HRE.out]
            exact ⟨rfl, ⟨HRD.out.1.drewN _, HRD.out.2⟩, by rw [HWO.out]; exact ((Only.refl _ w).drewN q).drewN _⟩
          · rw [if_neg hz] at hR2
            have e3 : ((y : Int) == 0) = false ∨ (((y : Int) == 0) = true ∧ decide ((0 : Int) < (i : Int)) = false ∧ decide (0 < i) = false) := by
              by_cases hy0 : y = 0
              · exact .inr ⟨by simp; omega, by simp; omega, by simp; omega⟩
              · exact .inl (by simp; omega)
            have HRE := Lib.hid hR2
            have HU := Lib.hid (fun W => unsign_t _ W hlt64)
            have HSG := Lib.hid (u64_sg (unsign_lt hlt64))
            clear hR2 h8 hn hi hlt hj hpi hy hz hx256 hlt64
            rcases e3 with e3 | ⟨e3, e3b, e3c⟩
            all_goals
              go_wp2_with fail
              go_quiet (fail)
              go_wp2_with fail
              go_quiet (fail)
              go_wp2_with fail
              rw [HOR.out]
              refine (HU.out _).mono ?_
              rintro e w2 ⟨rfl, rfl⟩
              go_wp2_with fail
              go_ret2
              rw [HRE.out]
              exact ⟨by rw [HSG.out]; rfl, rdr_end HRD.out HWO.out (i + 1) (by omega)⟩
    · have hge : decide ((l.length : Int) ≤ (j : Int)) = true := by simp; omega
      have hge2 : decide (l.length ≤ j) = true := by simp; omega
      have hRe : R = (20, 0, 0) := by rw [hR, List.drop_of_length_le (by omega)]; rfl
      have HRE := Lib.hid hRe
      have HRD := Lib.hid hRd
      clear hR hlt hi hn hpi hj hRe hRd hp
      go_wp2_with fail
      go_quiet (fail)
      go_wp2_with fail
      go_ret2
      rw [HRE.out]
      exact ⟨rfl, ⟨HRD.out.1.drewN nq, HRD.out.2⟩, by rw [HWO.out]; exact ((Only.refl _ w).drewN q).drewN nq⟩
end Go.Proofs.Ytfeoalimkolebaa
