/- HdrHistogram's cells: shapes: which may be, how a map is made. -/
import Derived.Test.YtclnjhcfoggeaaaHdrE
import Derived.Deep.RegionHeld3
namespace Go.Proofs.Ytclnjhcfoggeaaa
open Go.RowKit

def p10 (n : Nat) : Nat := 10 ^ n
theorem p10_succ (k : Nat) : ((p10 k : Nat) : Int) * 10 = ((p10 (k + 1) : Nat) : Int) := by
  unfold p10; rw [Nat.pow_succ]; push_cast; rfl
theorem p10_le {k : Nat} (h : k ≤ 5) : p10 k ≤ 100000 := Nat.le_trans (Nat.pow_le_pow_right (by omega) h) (by decide)
theorem p10_pos (k : Nat) : 1 ≤ p10 k := Nat.pow_pos (by omega)
set_option maxHeartbeats 400000 in
theorem rankpow_t (d : Nat) (w : World) (hd : d ≤ 5) :
    Calls Try.prog 30 #[.int .i64 (d : Int)] w fun e w' => e = .returned (.tuple #[.int .u64 (p10 d : Nat), .int .i64 0]) ∧ w' = w := by
  have hn2 : (d : Int) ≤ 5 := by omega
  go_enter Try.func30, Try.ntmps30
  go_wp2_with fail
  go_loop [4, 12] (fun v i => ∃ k : Nat, k ≤ d ∧ i = .int .i64 k ∧ v = .int .u64 (p10 k : Nat)) (fun _ i => d - (intOf i).toNat)
  case atStart => exact ⟨0, Nat.zero_le _, rfl, rfl⟩
  case round =>
    obtain ⟨k, hk, rfl, rfl⟩ := hrel
    by_cases hlt : k < d
    · have hlt' : (k : Int) < d := by omega
      have hb := p10_le (show k + 1 ≤ 5 by omega)
      have hs := p10_succ k
      obtain ⟨R, hR⟩ : ∃ R, R = p10 (k + 1) := ⟨_, rfl⟩
      rw [← hR] at hs hb
      generalize p10 k = P at *
      have hb3 : (R : Int) ≤ 100000 := by omega
      have HR := Lib.hid hR
      clear hR hb
      go_wp2
      go_round
      case rel => exact ⟨k + 1, by omega, by go_num, by rw [HR.out]⟩
      case measure => simp [intOf]; omega
    · go_wp2
      go_ret2
      obtain rfl : k = d := by omega
      exact ⟨rfl, rfl⟩

/-- The unit and the magnitude of a shape that may be. -/
def uOf (L : Nat) : Nat := Hd.bl L - 1
def mOf (D : Nat) : Nat := Hd.bl (2 * p10 D - 1)
theorem mOf_range {D : Nat} (h1 : 1 ≤ D) (h5 : D ≤ 5) : 5 ≤ mOf D ∧ mOf D ≤ 18 := by
  obtain rfl | rfl | rfl | rfl | rfl : D = 1 ∨ D = 2 ∨ D = 3 ∨ D = 4 ∨ D = 5 := by omega
  all_goals decide +kernel
theorem uOf_le {L : Nat} (h : L < 2 ^ 63) : uOf L ≤ 62 := by
  have := (Hd.bl_le 63 L (by omega)).2 h
  unfold uOf; omega
theorem bl_pos {L : Nat} (h : L < 2 ^ 63) (h1 : 1 ≤ L) : 1 ≤ Hd.bl L := (Hd.bl_ge 0 L (by omega)).2 (by simpa using h1)
theorem cell_kept {W0 W : World} {H : Nat} {i : Nat} {v : Value} (h : W.cell? ⟨H, i, none⟩ = some v) (hb : Below W0.heap.size W0 W) (hH : H < W0.heap.size) (o : Obj) : (W.alloc o).cell? ⟨H, i, none⟩ = some v :=
  (World.cell?_alloc_lt W o ⟨H, i, none⟩ (Nat.lt_of_lt_of_le hH hb.size)).trans h
theorem held_kept {W0 W : World} {H : Nat} {a b c : Value} (hH : H < W0.heap.size) (h : W.cell? ⟨H, 0, none⟩ = some a ∧ W.cell? ⟨H, 1, none⟩ = some b ∧ W.cell? ⟨H, 2, none⟩ = some c ∧ Below W0.heap.size W0 W) (o : Obj) :
    (W.alloc o).cell? ⟨H, 0, none⟩ = some a ∧ (W.alloc o).cell? ⟨H, 1, none⟩ = some b ∧ (W.alloc o).cell? ⟨H, 2, none⟩ = some c ∧ Below W0.heap.size W0 (W.alloc o) :=
  ⟨cell_kept h.1 h.2.2.2 hH o, cell_kept h.2.1 h.2.2.2 hH o, cell_kept h.2.2.1 h.2.2.2 hH o, h.2.2.2.alloc h.2.2.2.size o⟩
def MapPost (L : Nat) (hi : Int) (D u m : Nat) (w : World) (e : Ending) (w' : World) : Prop :=
  ∃ g, e = .returned (.tuple #[.pointer (some ⟨g, 0, none⟩), .int .i64 0]) ∧ w.heap.size ≤ g ∧ g < w'.heap.size ∧ Mp w' g (L : Int) hi (D : Int) u m ∧ Below w.heap.size w w'
set_option maxHeartbeats 800000 in
theorem new_t (L D : Nat) (hi : Int) (w : World) (h1 : 1 ≤ D) (h5 : D ≤ 5) (hL : 1 ≤ L) (hhi : 2 * (L : Int) ≤ hi) (hmax : hi ≤ 9223372036854775807) (hum : uOf L + mOf D ≤ 62) :
    Calls Try.prog 9 #[.agg #[.int .i64 (L : Int), .int .i64 hi, .int .i64 (D : Int)]] w (MapPost L hi D (uOf L) (mOf D) w) := by
  have e1 : decide ((D : Int) < 1) = false := by simp; omega
  have e2 : decide (5 < (D : Int)) = false := by simp; omega
  have e3 : decide ((L : Int) < 1) = false := by simp; omega
  have e4 : decide (wrap64 (hi.tdiv 2) < (L : Int)) = false := by
    have hdiv : hi.tdiv 2 = hi / 2 := Int.tdiv_eq_ediv_of_nonneg (by omega)
    rw [hdiv]; unfold wrap64; simp; omega
  have hl2 : (L : Int) ≤ 4611686018427387903 := by omega
  have hLb := Hd.bl_le64 L (by omega)
  have hLp := bl_pos (L := L) (by omega) hL
  have hU62 := uOf_le (L := L) (by omega)
  have hU : (Hd.bl L : Int) - 1 = ((uOf L : Nat) : Int) := by unfold uOf; omega
  have hm := mOf_range h1 h5
  have hten := p10_le h5
  have hten1 := p10_pos D
  have HT := fun W => rankpow_t D W h5
  have HM := fun W => len64w_t (2 * (p10 D : Int) - 1) (2 * p10 D - 1) W (by omega) (by omega)
  have HM2 := fun W => len64w_t (IntKind.u64.wrap (IntKind.u64.wrap (2 * (p10 D : Int)) - 1)) (2 * p10 D - 1) W (by rw [IntWalk.u64_in (2 * (p10 D : Int)) (by omega), IntWalk.u64_in _ (by omega)]; omega) (by omega)
  have HL := fun W => len64w_t (IntKind.u64.wrap (L : Int)) L W (IntWalk.u64_in _ (by omega)) (by omega)
  change ∀ W, Calls Try.prog 31 #[.int .u64 (2 * (p10 D : Int) - 1)] W fun e w' => e = .returned (.int .i64 (mOf D : Nat)) ∧ w' = W at HM
  change ∀ W, Calls Try.prog 31 #[.int .u64 (IntKind.u64.wrap (IntKind.u64.wrap (2 * (p10 D : Int)) - 1))] W fun e w' => e = .returned (.int .i64 (mOf D : Nat)) ∧ w' = W at HM2
  generalize p10 D = T at *
  generalize mOf D = M at *
  generalize uOf L = U at *
  generalize hB : Hd.bl L = B at *
  have hT2 : (T : Int) ≤ 100000 := by omega
  have hT1 : (1 : Int) ≤ T := by omega
  have hM2 : (M : Int) ≤ 18 := by omega
  have hB2 : (B : Int) ≤ 64 := by omega
  have hsum : decide (62 < (U : Int) + M) = false := by simp; omega
  have hU2 : (U : Int) ≤ 62 := by omega
  have hUw : IntKind.i64.wrap (U : Int) = (U : Int) := IntWalk.i64_in _ (by omega)
  go_enter Try.func9, Try.ntmps9
  go_wp2_with fail
  refine (HT _).mono ?_
  rintro e w1 ⟨rfl, rfl⟩
  go_wp2_with fail
  have hbel : Below w.heap.size w (w.alloc (.cells #[.int .i64 (L : Int), .int .i64 hi, .int .i64 (D : Int)] 23)) := (Below.refl _ _).alloc (Nat.le_refl _) _
  have hblk := Blk.new w 23 #[.int .i64 (L : Int), .int .i64 hi, .int .i64 (D : Int)]
  have hH0 : w.heap.size ≤ w.heap.size := Nat.le_refl _
  generalize w.alloc (.cells #[.int .i64 (L : Int), .int .i64 hi, .int .i64 (D : Int)] 23) = W0 at *
  generalize hH : w.heap.size = H at hblk hH0 ⊢
  have hlt := hblk.lt
  have k0 : W0.cell? ⟨H, 0, none⟩ = some (.int .i64 (L : Int)) := by rw [hblk.cell]; rfl
  have k1 : W0.cell? ⟨H, 1, none⟩ = some (.int .i64 hi) := by rw [hblk.cell]; rfl
  have k2 : W0.cell? ⟨H, 2, none⟩ = some (.int .i64 (D : Int)) := by rw [hblk.cell]; rfl
  have hself : W0.drew.cell? ⟨H, 0, none⟩ = some (.int .i64 (L : Int)) ∧ W0.drew.cell? ⟨H, 1, none⟩ = some (.int .i64 hi) ∧ W0.drew.cell? ⟨H, 2, none⟩ = some (.int .i64 (D : Int)) ∧ Below W0.heap.size W0 W0.drew := ⟨k0, k1, k2, (Below.refl _ _).drew⟩
  go_region_held3 (fun W' => W'.cell? ⟨H, 0, none⟩ = some (.int .i64 (L : Int)) ∧ W'.cell? ⟨H, 1, none⟩ = some (.int .i64 hi) ∧ W'.cell? ⟨H, 2, none⟩ = some (.int .i64 (D : Int)) ∧ Below W0.heap.size W0 W') ((first | exact hself | assumption | exact held_kept hlt (by assumption) _)) ((first
      | (go_at_call 31; (with_reducible refine (HL _).mono ?_); rintro e w4 ⟨rfl, rfl⟩)
      | (go_at_call 31; (with_reducible refine (HM2 _).mono ?_); rintro e w5 ⟨rfl, rfl⟩)
      | (go_at_call 31; (with_reducible refine (HM _).mono ?_); rintro e w5 ⟨rfl, rfl⟩)))
  have hb2 := Blk.new W0 60 #[.int .i64 (L : Int), .int .i64 hi, .int .i64 (D : Int), .int .i64 (U : Int), .int .i64 (M : Int)]
  have hbel2 : Below W0.heap.size W0 (W0.alloc (.cells #[.int .i64 (L : Int), .int .i64 hi, .int .i64 (D : Int), .int .i64 (U : Int), .int .i64 (M : Int)] 60)).drew := ((Below.refl _ _).alloc (Nat.le_refl _) _).drew
  replace hb2 := hb2.drew
  generalize (W0.alloc (.cells #[.int .i64 (L : Int), .int .i64 hi, .int .i64 (D : Int), .int .i64 (U : Int), .int .i64 (M : Int)] 60)).drew = W2 at *
  have HB := Lib.hid hbel
  have HB2 := Lib.hid hbel2
  clear hbel hbel2 hself
  generalize hG : W0.heap.size = G at hb2 ⊢
  have c3 : W2.cell? ⟨G, 3, none⟩ = some (.int .i64 (U : Int)) := by rw [hb2.cell]; rfl
  have c4 : W2.cell? ⟨G, 4, none⟩ = some (.int .i64 (M : Int)) := by rw [hb2.cell]; rfl
  have HBL := Lib.hid hb2
  clear hb2
  go_wp2_with fail
  go_quiet (fail)
  go_wp2_with fail
  go_ret2
  have h1 := HBL.out
  refine ⟨G, rfl, by omega, h1.lt, h1, ?_⟩
  exact below_drewN (HB.out.trans (HB2.out.mono (by omega))) _
set_option maxHeartbeats 800000 in
theorem new_wide (L D : Nat) (hi : Int) (w : World) (h1 : 1 ≤ D) (h5 : D ≤ 5) (hL : 1 ≤ L) (hhi : 2 * (L : Int) ≤ hi) (hmax : hi ≤ 9223372036854775807) (hum : 62 < uOf L + mOf D) :
    Calls Try.prog 9 #[.agg #[.int .i64 (L : Int), .int .i64 hi, .int .i64 (D : Int)]] w fun e w' => e = .returned (.tuple #[.pointer none, .int .i64 1]) ∧ Below w.heap.size w w' := by
  have e1 : decide ((D : Int) < 1) = false := by simp; omega
  have e2 : decide (5 < (D : Int)) = false := by simp; omega
  have e3 : decide ((L : Int) < 1) = false := by simp; omega
  have e4 : decide (wrap64 (hi.tdiv 2) < (L : Int)) = false := by
    have hdiv : hi.tdiv 2 = hi / 2 := Int.tdiv_eq_ediv_of_nonneg (by omega)
    rw [hdiv]; unfold wrap64; simp; omega
  have hl2 : (L : Int) ≤ 4611686018427387903 := by omega
  have hLb := Hd.bl_le64 L (by omega)
  have hLp := bl_pos (L := L) (by omega) hL
  have hU62 := uOf_le (L := L) (by omega)
  have hU : (Hd.bl L : Int) - 1 = ((uOf L : Nat) : Int) := by unfold uOf; omega
  have hm := mOf_range h1 h5
  have hten := p10_le h5
  have hten1 := p10_pos D
  have HT := fun W => rankpow_t D W h5
  have HM := fun W => len64w_t (2 * (p10 D : Int) - 1) (2 * p10 D - 1) W (by omega) (by omega)
  have HM2 := fun W => len64w_t (IntKind.u64.wrap (IntKind.u64.wrap (2 * (p10 D : Int)) - 1)) (2 * p10 D - 1) W (by rw [IntWalk.u64_in (2 * (p10 D : Int)) (by omega), IntWalk.u64_in _ (by omega)]; omega) (by omega)
  have HL := fun W => len64w_t (IntKind.u64.wrap (L : Int)) L W (IntWalk.u64_in _ (by omega)) (by omega)
  change ∀ W, Calls Try.prog 31 #[.int .u64 (2 * (p10 D : Int) - 1)] W fun e w' => e = .returned (.int .i64 (mOf D : Nat)) ∧ w' = W at HM
  change ∀ W, Calls Try.prog 31 #[.int .u64 (IntKind.u64.wrap (IntKind.u64.wrap (2 * (p10 D : Int)) - 1))] W fun e w' => e = .returned (.int .i64 (mOf D : Nat)) ∧ w' = W at HM2
  generalize p10 D = T at *
  generalize mOf D = M at *
  generalize uOf L = U at *
  generalize hB : Hd.bl L = B at *
  have hT2 : (T : Int) ≤ 100000 := by omega
  have hT1 : (1 : Int) ≤ T := by omega
  have hM2 : (M : Int) ≤ 18 := by omega
  have hB2 : (B : Int) ≤ 64 := by omega
  have hsum : decide (62 < (U : Int) + M) = true := by simp; omega
  have hU2 : (U : Int) ≤ 62 := by omega
  have hUw : IntKind.i64.wrap (U : Int) = (U : Int) := IntWalk.i64_in _ (by omega)
  go_enter Try.func9, Try.ntmps9
  go_wp2_with fail
  refine (HT _).mono ?_
  rintro e w1 ⟨rfl, rfl⟩
  go_wp2_with fail
  have hbel : Below w.heap.size w (w.alloc (.cells #[.int .i64 (L : Int), .int .i64 hi, .int .i64 (D : Int)] 23)) := (Below.refl _ _).alloc (Nat.le_refl _) _
  have hblk := Blk.new w 23 #[.int .i64 (L : Int), .int .i64 hi, .int .i64 (D : Int)]
  have hH0 : w.heap.size ≤ w.heap.size := Nat.le_refl _
  generalize w.alloc (.cells #[.int .i64 (L : Int), .int .i64 hi, .int .i64 (D : Int)] 23) = W0 at *
  generalize hH : w.heap.size = H at hblk hH0 ⊢
  have hlt := hblk.lt
  have k0 : W0.cell? ⟨H, 0, none⟩ = some (.int .i64 (L : Int)) := by rw [hblk.cell]; rfl
  have k1 : W0.cell? ⟨H, 1, none⟩ = some (.int .i64 hi) := by rw [hblk.cell]; rfl
  have k2 : W0.cell? ⟨H, 2, none⟩ = some (.int .i64 (D : Int)) := by rw [hblk.cell]; rfl
  have hself : W0.drew.cell? ⟨H, 0, none⟩ = some (.int .i64 (L : Int)) ∧ W0.drew.cell? ⟨H, 1, none⟩ = some (.int .i64 hi) ∧ W0.drew.cell? ⟨H, 2, none⟩ = some (.int .i64 (D : Int)) ∧ Below W0.heap.size W0 W0.drew := ⟨k0, k1, k2, (Below.refl _ _).drew⟩
  go_region_held3 (fun W' => W'.cell? ⟨H, 0, none⟩ = some (.int .i64 (L : Int)) ∧ W'.cell? ⟨H, 1, none⟩ = some (.int .i64 hi) ∧ W'.cell? ⟨H, 2, none⟩ = some (.int .i64 (D : Int)) ∧ Below W0.heap.size W0 W') ((first | exact hself | assumption | exact held_kept hlt (by assumption) _)) ((first
      | (go_at_call 31; (with_reducible refine (HL _).mono ?_); rintro e w4 ⟨rfl, rfl⟩)
      | (go_at_call 31; (with_reducible refine (HM2 _).mono ?_); rintro e w5 ⟨rfl, rfl⟩)
      | (go_at_call 31; (with_reducible refine (HM _).mono ?_); rintro e w5 ⟨rfl, rfl⟩)))
  have hb2 := Blk.new W0 60 #[.int .i64 (L : Int), .int .i64 hi, .int .i64 (D : Int), .int .i64 (U : Int), .int .i64 (M : Int)]
  have hbel2 : Below W0.heap.size W0 (W0.alloc (.cells #[.int .i64 (L : Int), .int .i64 hi, .int .i64 (D : Int), .int .i64 (U : Int), .int .i64 (M : Int)] 60)).drew := ((Below.refl _ _).alloc (Nat.le_refl _) _).drew
  replace hb2 := hb2.drew
  generalize (W0.alloc (.cells #[.int .i64 (L : Int), .int .i64 hi, .int .i64 (D : Int), .int .i64 (U : Int), .int .i64 (M : Int)] 60)).drew = W2 at *
  have HB := Lib.hid hbel
  have HB2 := Lib.hid hbel2
  clear hbel hbel2 hself
  generalize hG : W0.heap.size = G at hb2 ⊢
  have c3 : W2.cell? ⟨G, 3, none⟩ = some (.int .i64 (U : Int)) := by rw [hb2.cell]; rfl
  have c4 : W2.cell? ⟨G, 4, none⟩ = some (.int .i64 (M : Int)) := by rw [hb2.cell]; rfl
  have HBL := Lib.hid hb2
  clear hb2
  go_wp2_with fail
  go_quiet (fail)
  go_wp2_with fail
  go_ret2
  exact ⟨rfl, below_drewN (HB.out.trans (HB2.out.mono (by omega))) _⟩
theorem tdiv_fact (hi : Int) (h0 : -9223372036854775808 ≤ hi) : (hi.tdiv 2 = hi / 2 ∧ 0 ≤ hi) ∨ (hi.tdiv 2 ≤ 0 ∧ -4611686018427387904 ≤ hi.tdiv 2 ∧ hi < 0) := by
  by_cases h : 0 ≤ hi
  · exact .inl ⟨Int.tdiv_eq_ediv_of_nonneg h, h⟩
  · right
    obtain ⟨k, rfl⟩ : ∃ k, hi = -k := ⟨-hi, by omega⟩
    rw [Int.neg_tdiv, Int.tdiv_eq_ediv_of_nonneg (by omega)]
    omega
set_option maxHeartbeats 800000 in
theorem new_bad (lo hi d : Int) (w : World) (h0 : -9223372036854775808 ≤ hi) (hmax : hi ≤ 9223372036854775807) (hbad : ¬ (1 ≤ d ∧ d ≤ 5 ∧ 1 ≤ lo ∧ 2 * lo ≤ hi)) :
    Calls Try.prog 9 #[.agg #[.int .i64 lo, .int .i64 hi, .int .i64 d]] w fun e w' => e = .returned (.tuple #[.pointer none, .int .i64 1]) ∧ Below w.heap.size w w' := by
  have hf := Lib.hid (tdiv_fact hi h0)
  have HBAD := Lib.hid hbad
  clear hbad
  go_enter Try.func9, Try.ntmps9
  go_wp2_with fail
  all_goals first
    | (go_ret2; exact ⟨rfl, (Below.refl _ _).alloc (Nat.le_refl _) _⟩)
    | (exfalso; have h1 := hf.out; have h2 := HBAD.out; first | omega | (simp only [wrap64] at *; omega))
end Go.Proofs.Ytclnjhcfoggeaaa
