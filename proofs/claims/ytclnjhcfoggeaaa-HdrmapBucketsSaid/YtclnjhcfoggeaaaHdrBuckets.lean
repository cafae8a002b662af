/- HdrmapBuckets walked. -/
import Derived.Test.YtclnjhcfoggeaaaHdrCells
import Derived.Test.YtclnjhcfoggeaaaHdrNearP
import Derived.Outline
namespace Go.Proofs.Ytclnjhcfoggeaaa
open Go.RowKit

/-- The top of N buckets (1 to 64). -/
def topN (u m k : Nat) : Nat := if 63 ≤ k + u + m then 2 ^ 63 - 1 else Hd.top u m k
theorem topN_le {u m k : Nat} : topN u m k ≤ 2 ^ 63 - 1 := by
  unfold topN
  by_cases h : 63 ≤ k + u + m
  · rw [if_pos h]; omega
  · rw [if_neg h]
    have : 2 ^ (k + u + m) ≤ 2 ^ 63 := Nat.pow_le_pow_right (by omega) (by omega)
    unfold Hd.top; omega
theorem topN_eq {u m k : Nat} (h : k + u + m ≤ 63) : topN u m k = Hd.top u m k := by
  unfold topN
  by_cases h2 : 63 ≤ k + u + m
  · rw [if_pos h2]; unfold Hd.top; rw [show k + u + m = 63 by omega]
  · rw [if_neg h2]
theorem top_t (g : Nat) (lo hi d : Int) (u m k : Nat) (n : Int) (w : World) (h : Mp w g lo hi d u m) (hum : u + m ≤ 62) (hk : k ≤ 63) (hmin : min (max n 1) 64 = (k : Int) + 1) :
    Calls Try.prog 21 #[.pointer (some ⟨g, 0, none⟩), .int .i64 n] w fun e w' => e = .returned (.int .i64 (topN u m k : Nat)) ∧ ∃ n, w' = w.drewN n := by
  by_cases h2 : 63 ≤ k + u + m
  · have := top_big g lo hi d u m k n w h hum hk hmin h2
    rw [topN, if_pos h2]; exact this
  · have := top_small g lo hi d u m k n w h hum hk hmin (by omega)
    rw [topN, if_neg h2]; exact this
theorem rtop_t (u m k : Nat) (n : Int) (w : World) (hum : u + m ≤ 62) (hk : k ≤ 63) (hmin : min (max n 1) 64 = (k : Int) + 1) :
    Calls Try.prog 22 #[.int .i64 (u : Int), .int .i64 (m : Int), .int .i64 n] w fun e w' => e = .returned (.int .i64 (topN u m k : Nat)) ∧ w' = w := by
  by_cases h2 : 63 ≤ k + u + m
  · have := rtop_big u m k n w hum hk hmin h2
    rw [topN, if_pos h2]; exact this
  · have := rtop_small u m k n w hum hk hmin (by omega)
    rw [topN, if_neg h2]; exact this
theorem clamp (n : Int) : ∃ k : Nat, k ≤ 63 ∧ min (max n 1) 64 = (k : Int) + 1 := ⟨(min (max n 1) 64 - 1).toNat, by omega, by omega⟩
set_option maxHeartbeats 1600000 in
set_option maxRecDepth 100000 in
theorem buckets_pos (w : World) (lw dg V : Nat) (v n : Int) (h1 : lw ≤ 18446744073709551615) (h2 : dg ≤ 255) (hV : V < 2 ^ 63) (hmax : max v 0 = (V : Int)) (hv : v = (V : Int)) :
    Calls Try.prog 5 #[.int .u64 (lw : Int), .int .u8 (dg : Int), .int .i64 v, .int .i64 n] w fun e w' => e = .returned (.bool true) ∧ Below w.heap.size w w' := by
  obtain ⟨L, D, hi, u, m, ⟨HS, HN, HR⟩, hL1, hD1, hD5, hu, hm5, hm18, hpm⟩ := says_shape lw dg h1 h2
  have hum : u + m ≤ 62 := by omega
  subst hv
  obtain ⟨k, hk, hcl⟩ := clamp n
  have hv2 : (V : Int) ≤ 9223372036854775807 := by omega
  have HP := fun W => rpow2_t ((m : Int) - 1) (m - 1) W (by omega) (by omega)
  rw [half_pw] at HP
  have HB := fun W => rbucket_t u m V W hum hV
  have HBu := fun g W hm => buckets_t g L hi D u m V V W hm hum hV hmax
  have hbf := Hd.bk_fit (u := u) (m := m) hV (by omega)
  have htop := Hd.top_idx (u := u) (m := m) (b := Hd.bk u m V) (by omega) (by omega)
  have htof := Hd.top_of (u := u) (m := m) hV (by omega) hum
  have HI := fun g W hm => index_t g L hi D u m V W hm (by omega) hm18 hum hV
  have HJ := fun g W hm => index_t g L hi D u m (Hd.top u m (Hd.bk u m V)) W hm (by omega) hm18 hum htop.1
  have HT := fun g W hm => top_t g L hi D u m k n W hm hum hk hcl
  have HRT := fun W => rtop_t u m k n W hum hk hcl
  have HC := fun g W hm => cells_t g L hi D u m (k + 1) n W hm (by omega) hm18 (by omega) (by omega)
  have HT2 := fun g W hm => top_t g L hi D u m (Hd.bk u m V) (1 + (Hd.bk u m V : Int)) W hm hum (by omega) (by omega)
  rw [topN_eq (by omega)] at HT2
  have HC2 := fun g W hm => cells_t g L hi D u m (Hd.bk u m V + 1) (1 + (Hd.bk u m V : Int)) W hm (by omega) hm18 (by omega) (by omega)
  have hb63 : Hd.bk u m V ≤ 58 := by omega
  have hh18 := Hd.half_le hm18
  obtain ⟨ht1, ht2⟩ := htop
  obtain ⟨hv1, hv3, hv4⟩ := htof
  have HT3 : 1 ≤ Hd.bk u m V → ∀ g W, Mp W g L hi D u m → Calls Try.prog 21 #[.pointer (some ⟨g, 0, none⟩), .int .i64 (1 + (Hd.bk u m V : Int) - 1)] W fun e w' => e = .returned (.int .i64 (Hd.top u m (Hd.bk u m V - 1) : Nat)) ∧ ∃ n, w' = W.drewN n := by
    intro h1 g W hm
    have := top_t g L hi D u m (Hd.bk u m V - 1) (Hd.bk u m V : Nat) W hm hum (by omega) (by omega)
    rw [topN_eq (by omega)] at this
    rw [show (1 : Int) + (Hd.bk u m V : Int) - 1 = (Hd.bk u m V : Nat) by omega]
    exact this
  have hck : ((k : Int) + 1 + 1) * (Hd.half m : Int) = (((k + 1 + 1) * Hd.half m : Nat) : Int) := by push_cast; rfl
  have hckle : (k + 1 + 1) * Hd.half m ≤ 65 * 131072 := Nat.mul_le_mul (by omega) hh18
  have hcnle : (Hd.bk u m V + 2) * Hd.half m ≤ 60 * 131072 := Nat.mul_le_mul (by omega) hh18
  rw [show Hd.bk u m V + 1 + 1 = Hd.bk u m V + 2 by omega] at HC2
  have htq : Hd.top u m (Hd.bk u m V - 1) ≤ 2 ^ 63 - 1 := by
    have := topN_eq (u := u) (m := m) (k := Hd.bk u m V - 1) (by omega)
    have := topN_le (u := u) (m := m) (k := Hd.bk u m V - 1)
    omega
  generalize Hd.idx u m (Hd.top u m (Hd.bk u m V)) = jx at *
  generalize Hd.top u m (Hd.bk u m V) = tp at *
  generalize Hd.top u m (Hd.bk u m V - 1) = tq at *
  generalize Hd.idx u m V = ix at *
  generalize (k + 1 + 1) * Hd.half m = CK at *
  generalize (Hd.bk u m V + 2) * Hd.half m = CN at *
  generalize Hd.bk u m V = b at *
  have htp2 : (tp : Int) ≤ 9223372036854775807 := by omega
  have htq2 : (tq : Int) ≤ 9223372036854775807 := by omega
  have hCK : (CK : Int) ≤ 8519680 := by omega
  have hCN : (CN : Int) ≤ 7864320 := by omega
  have hbi : (b : Int) ≤ 58 := by omega
  have hhi : (Hd.half m : Int) ≤ 131072 := by omega
  have hvt : (V : Int) ≤ tp := by omega
  have hij : (ix : Int) < CN := by omega
  have hjj : (jx : Int) = CN - 1 := by omega
  have hjn : (jx : Int) + 1 = CN := by omega
  generalize Hd.half m = hf at *
  have HA := alive_t
  replace HS := Lib.hid HS
  replace HN := Lib.hid HN
  replace HR := Lib.hid HR
  replace HP := Lib.hid HP
  replace HB := Lib.hid HB
  replace HBu := Lib.hid HBu
  replace HI := Lib.hid HI
  replace HJ := Lib.hid HJ
  replace HT := Lib.hid HT
  replace HRT := Lib.hid HRT
  replace HC := Lib.hid HC
  replace HT2 := Lib.hid HT2
  replace HC2 := Lib.hid HC2
  replace HT3 := Lib.hid HT3
  have HV4 := Lib.hid hv4
  have HBB := HB
  clear HB
  have HK := Lib.hid hck
  have HJN := Lib.hid hjn
  clear hv4 ht1 ht2 hv1 hv3 htq hckle hcnle hh18 hb63 hbf hjj hjn h1 h2 hL1 hpm hmax hD1 hD5
  go_enter Try.func5, Try.ntmps5
  go_wp2_with fail
  refine (HA _).mono ?_
  rintro e w1 ⟨rfl, hb1⟩
  have HB1 := Lib.hid hb1
  clear hb1
  go_wp2_with fail
  refine (HS.out _).mono ?_
  rintro e w2 ⟨rfl, hb2⟩
  have HB2 := Lib.hid hb2
  clear hb2
  go_wp2_with fail
  have hbel : Below w2.heap.size w2 (w2.alloc (.cells #[.int .i64 (L : Int), .int .i64 hi, .int .i64 (D : Int)] 23)) := (Below.refl _ _).alloc (Nat.le_refl _) _
  have hblk := Blk.new w2 23 #[.int .i64 (L : Int), .int .i64 hi, .int .i64 (D : Int)]
  have HB0 := Lib.hid hbel
  clear hbel
  generalize w2.alloc (.cells #[.int .i64 (L : Int), .int .i64 hi, .int .i64 (D : Int)] 23) = W0 at *
  have hbelow := nextB (nextB HB1.out HB2.out) HB0.out
  generalize w2.heap.size = H at hblk ⊢
  clear HB1 HB2 HB0
  have HB := Lib.hid hbelow
  clear hbelow
  refine (HN.out _).mono ?_
  rintro e w3 ⟨g, rfl, hg, hgl, hmp, hb3⟩
  have hblk1 := hblk.below hb3 hblk.lt
  have k0 : w3.cell? ⟨H, 0, none⟩ = some (.int .i64 (L : Int)) := by rw [hblk1.cell]; rfl
  have k1 : w3.cell? ⟨H, 1, none⟩ = some (.int .i64 hi) := by rw [hblk1.cell]; rfl
  have k2 : w3.cell? ⟨H, 2, none⟩ = some (.int .i64 (D : Int)) := by rw [hblk1.cell]; rfl
  have HB3 := Lib.hid (nextB HB.out hb3)
  have HM3 := Lib.hid hmp
  clear hb3 hg hmp hblk hblk1 HB
  go_wp2_with fail
  refine (HR.out _).mono ?_
  rintro e w4 ⟨rfl, hb4⟩
  have HM := Lib.hid (HM3.out.below hb4 hgl)
  have HB := Lib.hid (nextB HB3.out hb4)
  clear hb4 hgl k0 k1 k2 HB3 HM3
  go_wp2_with fail
  refine (HP.out _).mono ?_
  rintro e w5 ⟨rfl, rfl⟩
  go_wp2_with fail
  refine (HBB.out _).mono ?_
  rintro e w5 ⟨rfl, rfl⟩
  go_wp2_with fail
  refine (HBu.out g _ HM.out).mono ?_
  rintro e w5 ⟨rfl, n1, rfl⟩
  go_wp2_with fail
  refine (HT.out g _ (HM.out.drewN _)).mono ?_
  rintro e w5 ⟨rfl, n1, rfl⟩
  go_wp2_with fail
  refine (HRT.out _).mono ?_
  rintro e w5 ⟨rfl, rfl⟩
  go_wp2_with fail
  refine (HC.out g _ (HM.out.drewN _)).mono ?_
  rintro e w5 ⟨rfl, n1, rfl⟩
  go_wp2_with fail
  refine (HI.out g _ (HM.out.drewN _)).mono ?_
  rintro e w5 ⟨rfl, n1, rfl⟩
  go_wp2_with fail
  refine (HT2.out g _ (HM.out.drewN _)).mono ?_
  rintro e w5 ⟨rfl, n1, rfl⟩
  go_wp2_with fail
  refine (HJ.out g _ (HM.out.drewN _)).mono ?_
  rintro e w5 ⟨rfl, n1, rfl⟩
  go_wp2_with fail
  have hjn := HJN.out
  have hjj : (jx : Int) = (CN : Int) - 1 := by omega
  have HJJ := Lib.hid hjj
  clear hjn hjj
  refine (HC2.out g _ (HM.out.drewN _)).mono ?_
  rintro e w5 ⟨rfl, n1, rfl⟩
  go_wp2_with fail
  refine (HT2.out g _ (HM.out.drewN _)).mono ?_
  rintro e w5 ⟨rfl, n1, rfl⟩
  go_wp2_with fail
  have hjj := HJJ.out
  rcases HV4.out with hb0 | ⟨hb1, hb2⟩
  · subst hb0
    refine (HC2.out g _ (HM.out.drewN _)).mono ?_
    rintro e w5 ⟨rfl, n1, rfl⟩
    go_wp2_with fail
    go_ret
    exact ⟨rfl, below_drewN HB.out _⟩
  · refine (HC2.out g _ (HM.out.drewN _)).mono ?_
    rintro e w5 ⟨rfl, n1, rfl⟩
    go_wp2_with fail
    refine (HT3.out hb1 g _ (HM.out.drewN _)).mono ?_
    rintro e w5 ⟨rfl, n1, rfl⟩
    go_wp2_with fail
    go_ret
    exact ⟨rfl, below_drewN HB.out _⟩
set_option maxHeartbeats 1600000 in
set_option maxRecDepth 100000 in
theorem buckets_neg (w : World) (lw dg : Nat) (v n : Int) (h1 : lw ≤ 18446744073709551615) (h2 : dg ≤ 255) (hv : v < 0) :
    Calls Try.prog 5 #[.int .u64 (lw : Int), .int .u8 (dg : Int), .int .i64 v, .int .i64 n] w fun e w' => e = .returned (.bool true) ∧ Below w.heap.size w w' := by
  obtain ⟨L, D, hi, u, m, ⟨HS, HN, HR⟩, hL1, hD1, hD5, hu, hm5, hm18, hpm⟩ := says_shape lw dg h1 h2
  have hum : u + m ≤ 62 := by omega
  obtain ⟨k, hk, hcl⟩ := clamp n
  have hmax : max v 0 = ((0 : Nat) : Int) := by omega
  have hmx : max v 0 = 0 := hmax
  have hb0 : Hd.bk u m 0 = 0 := by unfold Hd.bk; rw [Hd.bl_zero]; omega
  have HP := fun W => rpow2_t ((m : Int) - 1) (m - 1) W (by omega) (by omega)
  rw [half_pw] at HP
  have HB := fun W => rbucket_t u m 0 W hum (by omega)
  have HBu := fun g W hm => buckets_t g L hi D u m 0 v W hm hum (by omega) hmax
  rw [hb0] at HB HBu
  have HT := fun g W hm => top_t g L hi D u m k n W hm hum hk hcl
  have HRT := fun W => rtop_t u m k n W hum hk hcl
  have HC := fun g W hm => cells_t g L hi D u m (k + 1) n W hm (by omega) hm18 (by omega) (by omega)
  have hh18 := Hd.half_le hm18
  have hck : ((k : Int) + 1 + 1) * (Hd.half m : Int) = (((k + 1 + 1) * Hd.half m : Nat) : Int) := by push_cast; rfl
  have hckle : (k + 1 + 1) * Hd.half m ≤ 65 * 131072 := Nat.mul_le_mul (by omega) hh18
  generalize (k + 1 + 1) * Hd.half m = CK at *
  have hCK : (CK : Int) ≤ 8519680 := by omega
  have hhi : (Hd.half m : Int) ≤ 131072 := by omega
  generalize Hd.half m = hf at *
  have HA := alive_t
  replace HS := Lib.hid HS
  replace HN := Lib.hid HN
  replace HR := Lib.hid HR
  replace HP := Lib.hid HP
  replace HB := Lib.hid HB
  replace HBu := Lib.hid HBu
  replace HT := Lib.hid HT
  replace HRT := Lib.hid HRT
  replace HC := Lib.hid HC
  have HBB := HB
  clear HB
  clear hmax hckle hh18 h1 h2 hL1 hpm hD1 hD5
  go_enter Try.func5, Try.ntmps5
  go_wp2_with fail
  refine (HA _).mono ?_
  rintro e w1 ⟨rfl, hb1⟩
  have HB1 := Lib.hid hb1
  clear hb1
  go_wp2_with fail
  refine (HS.out _).mono ?_
  rintro e w2 ⟨rfl, hb2⟩
  have HB2 := Lib.hid hb2
  clear hb2
  go_wp2_with fail
  have hbel : Below w2.heap.size w2 (w2.alloc (.cells #[.int .i64 (L : Int), .int .i64 hi, .int .i64 (D : Int)] 23)) := (Below.refl _ _).alloc (Nat.le_refl _) _
  have hblk := Blk.new w2 23 #[.int .i64 (L : Int), .int .i64 hi, .int .i64 (D : Int)]
  have HB0 := Lib.hid hbel
  clear hbel
  generalize w2.alloc (.cells #[.int .i64 (L : Int), .int .i64 hi, .int .i64 (D : Int)] 23) = W0 at *
  have hbelow := nextB (nextB HB1.out HB2.out) HB0.out
  generalize w2.heap.size = H at hblk ⊢
  clear HB1 HB2 HB0
  have HB := Lib.hid hbelow
  clear hbelow
  refine (HN.out _).mono ?_
  rintro e w3 ⟨g, rfl, hg, hgl, hmp, hb3⟩
  have hblk1 := hblk.below hb3 hblk.lt
  have k0 : w3.cell? ⟨H, 0, none⟩ = some (.int .i64 (L : Int)) := by rw [hblk1.cell]; rfl
  have k1 : w3.cell? ⟨H, 1, none⟩ = some (.int .i64 hi) := by rw [hblk1.cell]; rfl
  have k2 : w3.cell? ⟨H, 2, none⟩ = some (.int .i64 (D : Int)) := by rw [hblk1.cell]; rfl
  have HB3 := Lib.hid (nextB HB.out hb3)
  have HM3 := Lib.hid hmp
  clear hb3 hg hmp hblk hblk1 HB
  go_wp2_with fail
  refine (HR.out _).mono ?_
  rintro e w4 ⟨rfl, hb4⟩
  have HM := Lib.hid (HM3.out.below hb4 hgl)
  have HB := Lib.hid (nextB HB3.out hb4)
  clear hb4 hgl k0 k1 k2 HB3 HM3
  go_wp2_with fail
  refine (HP.out _).mono ?_
  rintro e w5 ⟨rfl, rfl⟩
  go_wp2_with fail
  refine (HBB.out _).mono ?_
  rintro e w5 ⟨rfl, rfl⟩
  go_wp2_with fail
  refine (HBu.out g _ HM.out).mono ?_
  rintro e w5 ⟨rfl, n1, rfl⟩
  go_wp2_with fail
  refine (HT.out g _ (HM.out.drewN _)).mono ?_
  rintro e w5 ⟨rfl, n1, rfl⟩
  go_wp2_with fail
  refine (HRT.out _).mono ?_
  rintro e w5 ⟨rfl, rfl⟩
  go_wp2_with fail
  refine (HC.out g _ (HM.out.drewN _)).mono ?_
  rintro e w5 ⟨rfl, n1, rfl⟩
  go_wp2_with fail
  go_ret
  exact ⟨rfl, below_drewN HB.out _⟩
theorem hdrmapBuckets_walk (w : World) (lw : Int) (a0 : 0 ≤ lw) (a1 : lw ≤ 18446744073709551615) (dg : Int) (b0 : 0 ≤ dg) (b1 : dg ≤ 255) (v : Int) (c0 : -9223372036854775808 ≤ v) (c1 : v ≤ 9223372036854775807) (n : Int) (_d0 : -9223372036854775808 ≤ n) (_d1 : n ≤ 9223372036854775807) :
    Calls Try.prog 5 #[.int .u64 lw, .int .u8 dg, .int .i64 v, .int .i64 n] w fun e w' => e = .returned (.bool true) ∧ Below w.heap.size w w' := by
  obtain ⟨lw, rfl⟩ := Int.eq_ofNat_of_zero_le a0
  obtain ⟨dg, rfl⟩ := Int.eq_ofNat_of_zero_le b0
  by_cases hv : v < 0
  · exact buckets_neg w lw dg v n (by omega) (by omega) hv
  · obtain ⟨V, rfl⟩ := Int.eq_ofNat_of_zero_le (by omega : 0 ≤ v)
    exact buckets_pos w lw dg V _ n (by omega) (by omega) (by omega) (by omega) rfl
end Go.Proofs.Ytclnjhcfoggeaaa
