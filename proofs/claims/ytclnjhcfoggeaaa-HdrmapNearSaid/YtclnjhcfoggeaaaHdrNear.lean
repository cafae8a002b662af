/- HdrmapNear walked. -/
import Derived.Test.YtclnjhcfoggeaaaHdrCells
import Derived.Test.YtclnjhcfoggeaaaHdrNearP
import Derived.Outline
namespace Go.Proofs.Ytclnjhcfoggeaaa
open Go.RowKit

set_option maxHeartbeats 1600000 in
set_option maxRecDepth 100000 in
theorem near_pos (w : World) (lw dg v x : Nat) (h1 : lw ≤ 18446744073709551615) (h2 : dg ≤ 255) (hv : v < 2 ^ 63) (hx : x < 2 ^ 63) :
    Calls Try.prog 4 #[.int .u64 (lw : Int), .int .u8 (dg : Int), .int .i64 (v : Int), .int .i64 (x : Int)] w fun e w' => e = .returned (.bool true) ∧ Below w.heap.size w w' := by
  obtain ⟨L, D, hi, u, m, ⟨HS, HN, HR⟩, hL1, hD1, hD5, hu, hm5, hm18, hpm⟩ := says_shape lw dg h1 h2
  have hum : u + m ≤ 62 := by omega
  have hv2 : (v : Int) ≤ 9223372036854775807 := by omega
  have hx2 : (x : Int) ≤ 9223372036854775807 := by omega
  have hile := Hd.idx_le (u := u) hv (by omega) hm18
  have hile2 := Hd.idx_le (u := u) hx (by omega) hm18
  have hm1 := fun h => Hd.idx_mono (u := u) (m := m) (v := v) (w := x) (by omega) h hx
  have hm2 := fun h => Hd.idx_mono (u := u) (m := m) (v := x) (w := v) (by omega) h hv
  have HI := fun g W hm => index_t g L hi D u m v W hm (by omega) hm18 hum hv
  have HJ := fun g W hm => index_t g L hi D u m x W hm (by omega) hm18 hum hx
  have HHi := fun g W hm => high_t g L hi D u m v W hm (by omega) hum hv
  have HE := fun g W hm => same_t g L hi D u m v x W hm (by omega) hm18 hum hv hx
  have HP := fun W => rpow_t u W (by omega)
  have hsz := Hd.size_pos (u := u) (m := m) (v := v)
  have hhi := Hd.high_le (u := u) (m := m) hv (by omega)
  have hlow := Hd.v_low (u := u) (m := m) (v := v)
  have hnear := fun h => Hd.near (u := u) (m := m) hv (by omega) (T := p10 D) hpm h
  have hp5 := p10_le hD5
  have hp1 := p10_pos D
  obtain ⟨hh, hhe⟩ : ∃ hh, hh = Hd.low u m v + (Hd.size u m v - 1) := ⟨_, rfl⟩
  rw [← hhe] at HHi hnear
  have hge : v ≤ hh := by omega
  have hh2 : (hh : Int) ≤ 9223372036854775807 := by omega
  have hpw : pw u ≤ 65536 := pw_le (n := 16) hu
  have hnear2 : pw u ≤ hh - v → 1 ≤ v ∧ (hh : Int) - v ≤ ((v : Int) - 1) / (p10 D : Int) := by
    intro h
    obtain ⟨a1, a2⟩ := hnear h
    refine ⟨a1, ?_⟩
    have a3 := (Nat.le_div_iff_mul_le (show 0 < p10 D by omega)).2 a2
    have e : (v : Int) - 1 = ((v - 1 : Nat) : Int) := by omega
    rw [e, ← Int.natCast_ediv]
    omega
  clear hhe hnear hsz hhi hlow
  generalize Hd.idx u m v = ix at *
  generalize Hd.idx u m x = kx at *
  have hcase : hh = v ∨ (v < hh ∧ (hh : Int) - v < (pw u : Int)) ∨ (v < hh ∧ ¬ (hh : Int) - v < (pw u : Int) ∧ 1 ≤ v ∧ (hh : Int) - v ≤ ((v : Int) - 1) / (p10 D : Int)) := by
    by_cases c1 : hh = v
    · exact .inl c1
    · by_cases c2 : (hh : Int) - v < (pw u : Int)
      · exact .inr (.inl ⟨by omega, c2⟩)
      · exact .inr (.inr ⟨by omega, c2, hnear2 (by omega)⟩)
  clear hnear2
  have hord : (v < x ∧ ix ≤ kx) ∨ v = x ∨ (x < v ∧ kx ≤ ix) := by
    rcases Nat.lt_trichotomy v x with h | h | h
    · exact .inl ⟨h, hm1 (by omega)⟩
    · exact .inr (.inl h)
    · exact .inr (.inr ⟨h, hm2 (by omega)⟩)
  have heq : v = x → ix = kx := by
    intro h
    have a1 := hm1 (by omega)
    have a2 := hm2 (by omega)
    omega
  clear hm1 hm2
  have hix : (ix : Int) ≤ 16777216 := by omega
  have hkx : (kx : Int) ≤ 16777216 := by omega
  clear hile hile2
  have HA := alive_t
  replace HS := Lib.hid HS
  replace HN := Lib.hid HN
  replace HR := Lib.hid HR
  replace HI := Lib.hid HI
  replace HJ := Lib.hid HJ
  replace HHi := Lib.hid HHi
  replace HE := Lib.hid HE
  replace HP := Lib.hid HP
  have hT2 := p10_succ
  clear h1 h2 hL1 hpm hT2
  have HQ := Lib.hid heq
  clear heq
  go_enter Try.func4, Try.ntmps4
  go_wp2_with fail
  refine (HA _).mono ?_
  rintro e w1 ⟨rfl, hb1⟩
  have HB1 := Lib.hid hb1
  clear hb1
  go_wp2_with fail
  refine (HS.out _).mono ?_
  rintro e w2 ⟨rfl, hb2⟩
  have HB2 := Lib.hid hb2
  clear hb2
  go_wp2_with fail
  have hbel : Below w2.heap.size w2 (w2.alloc (.cells #[.int .i64 (L : Int), .int .i64 hi, .int .i64 (D : Int)] 23)) := (Below.refl _ _).alloc (Nat.le_refl _) _
  have hblk := Blk.new w2 23 #[.int .i64 (L : Int), .int .i64 hi, .int .i64 (D : Int)]
  have HB0 := Lib.hid hbel
  clear hbel
  generalize w2.alloc (.cells #[.int .i64 (L : Int), .int .i64 hi, .int .i64 (D : Int)] 23) = W0 at *
  have hbelow := nextB (nextB HB1.out HB2.out) HB0.out
  generalize w2.heap.size = H at hblk ⊢
  clear HB1 HB2 HB0
  have HB := Lib.hid hbelow
  clear hbelow
  refine (HN.out _).mono ?_
  rintro e w3 ⟨g, rfl, hg, hgl, hmp, hb3⟩
  have hblk1 := hblk.below hb3 hblk.lt
  have k0 : w3.cell? ⟨H, 0, none⟩ = some (.int .i64 (L : Int)) := by rw [hblk1.cell]; rfl
  have k1 : w3.cell? ⟨H, 1, none⟩ = some (.int .i64 hi) := by rw [hblk1.cell]; rfl
  have k2 : w3.cell? ⟨H, 2, none⟩ = some (.int .i64 (D : Int)) := by rw [hblk1.cell]; rfl
  have HM := Lib.hid hmp
  have HB3 := Lib.hid (nextB HB.out hb3)
  clear HB
  clear hb3 hg hmp hblk k0 k1 k2
  have HBL := Lib.hid hblk1
  clear hblk1
  go_wp2_with fail
  refine (HHi.out g _ HM.out).mono ?_
  rintro e w5 ⟨rfl, n, rfl⟩
  go_wp2_with fail
  refine (HI.out g _ (HM.out.drewN _)).mono ?_
  rintro e w5 ⟨rfl, n, rfl⟩
  go_wp2_with fail
  refine (HJ.out g _ (HM.out.drewN _)).mono ?_
  rintro e w5 ⟨rfl, n, rfl⟩
  have k0 : w3.cell? ⟨H, 0, none⟩ = some (.int .i64 (L : Int)) := by rw [HBL.out.cell]; rfl
  have k1 : w3.cell? ⟨H, 1, none⟩ = some (.int .i64 hi) := by rw [HBL.out.cell]; rfl
  have k2 : w3.cell? ⟨H, 2, none⟩ = some (.int .i64 (D : Int)) := by rw [HBL.out.cell]; rfl
  go_wp2_with fail
  refine (HR.out _).mono ?_
  rintro e w4 ⟨rfl, hb4⟩
  clear k0 k1 k2
  have HM2 := Lib.hid ((HM.out.drewN _).below hb4 hgl)
  have k2 : w4.cell? ⟨H, 2, none⟩ = some (.int .i64 (D : Int)) := by rw [((HBL.out.drewN _).below hb4 HBL.out.lt).cell]; rfl
  have HB := Lib.hid (nextB (below_drewN HB3.out _) hb4)
  clear HM hb4 HBL HB3
  go_wp2_with fail
  have HPP := HP.out
  go_loop [21, 22] (fun t n => ∃ k : Nat, k ≤ D ∧ n = .int .i64 k ∧ t = .int .u64 (p10 k : Nat)) (fun _ n => D - (intOf n).toNat)
  case atStart => exact ⟨0, Nat.zero_le _, rfl, rfl⟩
  case round =>
    obtain ⟨k, hk, rfl, rfl⟩ := hrel
    by_cases hlt : k < D
    · have hn : (10 : Int) * ((p10 k : Nat) : Int) = ((p10 (k + 1) : Nat) : Int) := by have := p10_succ k; omega
      have hn2 : ((p10 (k + 1) : Nat) : Int) ≤ 100000 := by have := p10_le (show k + 1 ≤ 5 by omega); omega
      have ht2 : decide ((k : Int) < (D : Int)) = true := by simp; omega
      obtain ⟨R, hR⟩ : ∃ R, R = p10 (k + 1) := ⟨_, rfl⟩
      rw [← hR] at hn hn2
      have HR := Lib.hid hR
      have HL := Lib.hid hlt
      clear hR hlt
      generalize p10 k = T at *
      go_wp2
      go_round
      case rel => exact ⟨k + 1, HL.out, by go_num, by rw [HR.out]⟩
      case measure => have hlt := HL.out; simp [intOf]; omega
    · obtain rfl : k = D := by omega
      have HE2 := fun W hm => HE.out g W hm
      replace HE2 := Lib.hid HE2
      clear HPP
      have htest : ∀ j : Int, ((ix : Int) == (kx : Int)) = ((ix : Int) == (kx : Int)) := fun _ => rfl
      clear htest
      rcases hcase with hc | ⟨hc, hc2⟩ | ⟨hc, hc2, hc3, hc4⟩
      · obtain rfl := hc
        clear hge
        rcases hord with ⟨ho, ho2⟩ | ho | ⟨ho, ho2⟩
        rotate_left 1
        · have hq := HQ.out ho
          subst ho
          subst hq
          go_wp2_with fail
          refine (HE2.out _ HM2.out).mono ?_
          rintro e w5 ⟨rfl, n, rfl⟩
          go_wp2_with fail
          go_ret
          exact ⟨rfl, below_drewN HB.out _⟩
        all_goals
          go_wp2_with fail
          refine (HE2.out _ HM2.out).mono ?_
          rintro e w5 ⟨rfl, n, rfl⟩
          go_wp2_with fail
          go_ret
          exact ⟨rfl, below_drewN HB.out _⟩
      · rcases hord with ⟨ho, ho2⟩ | ho | ⟨ho, ho2⟩
        rotate_left 1
        · have hq := HQ.out ho
          subst ho
          subst hq
          go_wp2_with fail
          refine (HP.out _).mono ?_
          rintro e w5 ⟨rfl, rfl⟩
          go_wp2_with fail
          refine (HE2.out _ HM2.out).mono ?_
          rintro e w5 ⟨rfl, n, rfl⟩
          go_wp2_with fail
          go_ret
          exact ⟨rfl, below_drewN HB.out _⟩
        all_goals
          go_wp2_with fail
          refine (HP.out _).mono ?_
          rintro e w5 ⟨rfl, rfl⟩
          go_wp2_with fail
          refine (HE2.out _ HM2.out).mono ?_
          rintro e w5 ⟨rfl, n, rfl⟩
          go_wp2_with fail
          go_ret
          exact ⟨rfl, below_drewN HB.out _⟩
      · rcases hord with ⟨ho, ho2⟩ | ho | ⟨ho, ho2⟩
        rotate_left 1
        · have hq := HQ.out ho
          subst ho
          subst hq
          go_wp2_with fail
          refine (HP.out _).mono ?_
          rintro e w5 ⟨rfl, rfl⟩
          go_wp2_with fail
          refine (HE2.out _ HM2.out).mono ?_
          rintro e w5 ⟨rfl, n, rfl⟩
          go_wp2_with fail
          go_ret
          exact ⟨rfl, below_drewN HB.out _⟩
        all_goals
          go_wp2_with fail
          refine (HP.out _).mono ?_
          rintro e w5 ⟨rfl, rfl⟩
          go_wp2_with fail
          refine (HE2.out _ HM2.out).mono ?_
          rintro e w5 ⟨rfl, n, rfl⟩
          go_wp2_with fail
          go_ret
          exact ⟨rfl, below_drewN HB.out _⟩
set_option maxHeartbeats 1600000 in
set_option maxRecDepth 100000 in
theorem near_neg (w : World) (lw dg : Nat) (v x : Int) (h1 : lw ≤ 18446744073709551615) (h2 : dg ≤ 255) (d1 d2 : Bool) (e1 : decide (v < 0) = d1) (e2 : decide (x < 0) = d2) (e3 : (d1 || d2) = true) :
    Calls Try.prog 4 #[.int .u64 (lw : Int), .int .u8 (dg : Int), .int .i64 v, .int .i64 x] w fun e w' => e = .returned (.bool true) ∧ Below w.heap.size w w' := by
  obtain ⟨L, D, hi, u, m, ⟨HS, HN, HR⟩, hL1, hD1, hD5, hu, hm5, hm18, hpm⟩ := says_shape lw dg h1 h2
  have hum : u + m ≤ 62 := by omega
  have HA := alive_t
  replace HS := Lib.hid HS
  replace HN := Lib.hid HN
  replace HR := Lib.hid HR
  clear h1 h2 hL1 hD1 hD5 hpm
  cases d1
  · cases d2
    · cases e3
    · have ex : x < 0 := by simpa using e2
      have ev : ¬ v < 0 := by simpa using e1
      clear e3
      go_enter Try.func4, Try.ntmps4
      go_wp2_with fail
      refine (HA _).mono ?_
      rintro e w1 ⟨rfl, hb1⟩
      have HB1 := Lib.hid hb1
      clear hb1
      go_wp2_with fail
      refine (HS.out _).mono ?_
      rintro e w2 ⟨rfl, hb2⟩
      have HB2 := Lib.hid hb2
      clear hb2
      go_wp2_with fail
      have hbel : Below w2.heap.size w2 (w2.alloc (.cells #[.int .i64 (L : Int), .int .i64 hi, .int .i64 (D : Int)] 23)) := (Below.refl _ _).alloc (Nat.le_refl _) _
      have hblk := Blk.new w2 23 #[.int .i64 (L : Int), .int .i64 hi, .int .i64 (D : Int)]
      have HB0 := Lib.hid hbel
      clear hbel
      generalize w2.alloc (.cells #[.int .i64 (L : Int), .int .i64 hi, .int .i64 (D : Int)] 23) = W0 at *
      have hbelow := nextB (nextB HB1.out HB2.out) HB0.out
      generalize w2.heap.size = H at hblk ⊢
      clear HB1 HB2 HB0
      have HB := Lib.hid hbelow
      clear hbelow
      refine (HN.out _).mono ?_
      rintro e w3 ⟨g, rfl, hg, hgl, hmp, hb3⟩
      have hblk1 := hblk.below hb3 hblk.lt
      have k0 : w3.cell? ⟨H, 0, none⟩ = some (.int .i64 (L : Int)) := by rw [hblk1.cell]; rfl
      have k1 : w3.cell? ⟨H, 1, none⟩ = some (.int .i64 hi) := by rw [hblk1.cell]; rfl
      have k2 : w3.cell? ⟨H, 2, none⟩ = some (.int .i64 (D : Int)) := by rw [hblk1.cell]; rfl
      have HB3 := Lib.hid (nextB HB.out hb3)
      clear hb3 hg hmp hblk hblk1
      go_wp2_with fail
      go_ret
      exact ⟨rfl, HB3.out⟩
  · have ev : v < 0 := by simpa using e1
    clear e2 e3
    go_enter Try.func4, Try.ntmps4
    go_wp2_with fail
    refine (HA _).mono ?_
    rintro e w1 ⟨rfl, hb1⟩
    have HB1 := Lib.hid hb1
    clear hb1
    go_wp2_with fail
    refine (HS.out _).mono ?_
    rintro e w2 ⟨rfl, hb2⟩
    have HB2 := Lib.hid hb2
    clear hb2
    go_wp2_with fail
    have hbel : Below w2.heap.size w2 (w2.alloc (.cells #[.int .i64 (L : Int), .int .i64 hi, .int .i64 (D : Int)] 23)) := (Below.refl _ _).alloc (Nat.le_refl _) _
    have hblk := Blk.new w2 23 #[.int .i64 (L : Int), .int .i64 hi, .int .i64 (D : Int)]
    have HB0 := Lib.hid hbel
    clear hbel
    generalize w2.alloc (.cells #[.int .i64 (L : Int), .int .i64 hi, .int .i64 (D : Int)] 23) = W0 at *
    have hbelow := nextB (nextB HB1.out HB2.out) HB0.out
    generalize w2.heap.size = H at hblk ⊢
    clear HB1 HB2 HB0
    have HB := Lib.hid hbelow
    clear hbelow
    refine (HN.out _).mono ?_
    rintro e w3 ⟨g, rfl, hg, hgl, hmp, hb3⟩
    have hblk1 := hblk.below hb3 hblk.lt
    have k0 : w3.cell? ⟨H, 0, none⟩ = some (.int .i64 (L : Int)) := by rw [hblk1.cell]; rfl
    have k1 : w3.cell? ⟨H, 1, none⟩ = some (.int .i64 hi) := by rw [hblk1.cell]; rfl
    have k2 : w3.cell? ⟨H, 2, none⟩ = some (.int .i64 (D : Int)) := by rw [hblk1.cell]; rfl
    have HB3 := Lib.hid (nextB HB.out hb3)
    clear hb3 hg hmp hblk hblk1
    go_wp2_with fail
    go_ret
    exact ⟨rfl, HB3.out⟩
theorem hdrmapNear_walk (w : World) (lw : Int) (a0 : 0 ≤ lw) (a1 : lw ≤ 18446744073709551615) (dg : Int) (b0 : 0 ≤ dg) (b1 : dg ≤ 255) (v : Int) (c0 : -9223372036854775808 ≤ v) (c1 : v ≤ 9223372036854775807) (x : Int) (d0 : -9223372036854775808 ≤ x) (d1 : x ≤ 9223372036854775807) :
    Calls Try.prog 4 #[.int .u64 lw, .int .u8 dg, .int .i64 v, .int .i64 x] w fun e w' => e = .returned (.bool true) ∧ Below w.heap.size w w' := by
  obtain ⟨lw, rfl⟩ := Int.eq_ofNat_of_zero_le a0
  obtain ⟨dg, rfl⟩ := Int.eq_ofNat_of_zero_le b0
  by_cases hv : v < 0 ∨ x < 0
  · exact near_neg w lw dg v x (by omega) (by omega) _ _ rfl rfl (by simpa using hv)
  · obtain ⟨v, rfl⟩ := Int.eq_ofNat_of_zero_le (by omega : 0 ≤ v)
    obtain ⟨x, rfl⟩ := Int.eq_ofNat_of_zero_le (by omega : 0 ≤ x)
    exact near_pos w lw dg v x (by omega) (by omega) (by omega) (by omega)
end Go.Proofs.Ytclnjhcfoggeaaa
