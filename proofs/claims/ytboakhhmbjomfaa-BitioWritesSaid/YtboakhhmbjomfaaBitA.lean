/- Bitio: the writer in memory; put walked. -/
import Derived.Test.YtboakhhmbjomfaaChecked
import Derived.Test.YtboakhhmbjomfaaBase
import Derived.Test.YtboakhhmbjomfaaRegion
import Derived.Test.YtboakhhmbjomfaaBitPlain
import Derived.RegionTactic
import Derived.BigRegion
import Derived.Deep.QuietTactic
import Derived.BigQuiet
import Derived.Deep.LoopGhost
import Derived.StillTailTactics
import Derived.Outline
namespace Go.Proofs.Ytboakhhmbjomfaa
open Go.RowKit
open Bt
theorem elem_u8 : Elem Try.prog 25 5 1 1 := elem_of Try.underlying25 (z := .int .u8 0) (by kernel_rfl) (by decide) (by decide)
theorem byte_new (w : World) (x : UInt8) : Reads (w.alloc (.cells #[.int .u8 (x.toNat : Int)] 5)) (w.alloc (.cells #[.int .u8 (x.toNat : Int)] 5)).heap.size 1 (some ⟨w.heap.size, 0, none⟩) 1 (bvs [x]) :=
  Reads.lit (newest _ _) rfl rfl
/-- Bytes of the call's own. -/
def OwnB (w : World) (base : Nat) (A : Option Addr) (c : Nat) (l : List UInt8) : Prop := Own w base 5 1 A l.length c (bvs l)
theorem OwnB.reads {w : World} {base : Nat} {A : Option Addr} {c : Nat} {l : List UInt8} (h : OwnB w base A c l) : Bts w w.heap.size A l := Own.reads h
/-- Block g is a writer that has written the bits L. -/
def Wri (w : World) (g : Nat) (A : Option Addr) (c : Nat) (L : List Bool) : Prop := Blk w g 27 #[.slice A (pack L).length c, .int .i64 (L.length : Int)] ∧ OwnB w g A c (pack L)
/-- What a writer's act may turn: it, and its row. -/
def WK (g : Nat) (A : Option Addr) (i : Nat) : Prop := i = g ∨ blockOf A = some i
/-- Behind a writer's act. -/
def Wrote (g : Nat) (A : Option Addr) (L : List Bool) (w w' : World) : Prop := ∃ A' c', Wri w' g A' c' L ∧ Only (WK g A) w w' ∧ (blockOf A' = blockOf A ∨ ∃ i, blockOf A' = some i ∧ w.heap.size ≤ i)
theorem put_val {a n r : Nat} (hr : r < 8) (ha : a < 2 ^ r) : bits .or .u8 (a : Int) (IntKind.u8.wrap (IntKind.u8.wrap ((n : Int) % 2) * 2 ^ r)) = ((UInt8.ofNat (a + (decide (n % 2 = 1)).toNat * 2 ^ r)).toNat : Int) := by
  have h1 : 2 ^ r ≤ 128 := Nat.le_trans (Nat.pow_le_pow_right (by decide) (show r ≤ 7 by omega)) (by decide)
  have h2 : n % 2 < 2 := Nat.mod_lt _ (by decide)
  have h3 : n % 2 * 2 ^ r ≤ 1 * 2 ^ r := Nat.mul_le_mul_right _ (by omega)
  have e1 : IntKind.u8.wrap ((n : Int) % 2) = ((n % 2 : Nat) : Int) := by
    rw [IntWalk.u8_in _ ⟨by omega, by omega⟩]
    omega
  have e2 : IntKind.u8.wrap (((n % 2 : Nat) : Int) * 2 ^ r) = ((n % 2 * 2 ^ r : Nat) : Int) := by
    have : (((n % 2 : Nat) : Int) * 2 ^ r) = ((n % 2 * 2 ^ r : Nat) : Int) := by simp
    rw [this]
    exact IntWalk.u8_in _ ⟨by omega, by omega⟩
  rw [e1, e2, u8_or_nat _ _ (by omega) (by omega), or_bits ha, bit_toNat, UInt8.toNat_ofNat', Nat.mod_eq_of_lt (show a + n % 2 * 2 ^ r < 2 ^ 8 by omega)]
theorem put_end {W : World} {g gb c q n : Nat} {L : List Bool} {P : List UInt8} (hP : P = room L) (hq : q = L.length / 8) (hb : Blk W g 27 #[.slice (some ⟨gb, 0, none⟩) P.length c, .int .i64 (L.length : Int)]) (ho : Own W g 5 1 (some ⟨gb, 0, none⟩) P.length c (bvs P)) (hne : g ≠ gb) :
    Wri ((W.setCell ⟨gb, q, none⟩ (.int .u8 ((UInt8.ofNat (num (L.drop (8 * q)) + (decide (n % 2 = 1)).toNat * 2 ^ (L.length % 8))).toNat : Int))).setCell ⟨g, 1, none⟩ (.int .i64 ((L.length : Int) + 1))) g (some ⟨gb, 0, none⟩) c (L ++ [decide (n % 2 = 1)]) := by
  have hp := pack_put L (decide (n % 2 = 1))
  rw [← hP, ← hq] at hp
  have hl : (pack (L ++ [decide (n % 2 = 1)])).length = P.length := by rw [← hp, List.length_set]
  refine ⟨?_, ?_⟩
  · have h1 := (hb.far (p := ⟨gb, q, none⟩) hne (.int .u8 ((UInt8.ofNat (num (L.drop (8 * q)) + (decide (n % 2 = 1)).toNat * 2 ^ (L.length % 8))).toNat : Int))).put 1 (.int .i64 ((L.length : Int) + 1))
    rw [hl, List.length_append]
    simpa using h1
  · have h1 := (Own.stored ho q (.int .u8 ((UInt8.ofNat (num (L.drop (8 * q)) + (decide (n % 2 = 1)).toNat * 2 ^ (L.length % 8))).toNat : Int))).setOther (p := ⟨g, 1, none⟩) (by simpa [blockOf] using fun e => hne e.symm) (.int .i64 ((L.length : Int) + 1))
    unfold OwnB
    rw [hl, ← hp]
    have e : (bvs P).set q (.int .u8 ((UInt8.ofNat (num (L.drop (8 * q)) + (decide (n % 2 = 1)).toNat * 2 ^ (L.length % 8))).toNat : Int)) = bvs (P.set q (UInt8.ofNat (num (L.drop (8 * q)) + (decide (n % 2 = 1)).toNat * 2 ^ (L.length % 8)))) := by
      unfold bvs
      rw [List.map_set]
      rfl
    rw [← e]
    exact h1
theorem Blk.ne_own {w : World} {g gb b2 size k c : Nat} {t e : TypeId} {cs : Array Value} {xs : List Value} (h : Blk w g t cs) (ho : Own w b2 e size (some ⟨gb, 0, none⟩) k c xs) (hne : e ≠ t := by decide) : ¬ g = gb := fun e1 => Own.ne_blk ho h hne (by rw [e1]; rfl)
set_option maxHeartbeats 3200000 in
theorem put_t (g : Nat) (A : Option Addr) (c : Nat) (L : List Bool) (n : Nat) (w : World) (h : Wri w g A c L) (hn : n < 4294967296) (hL : L.length ≤ 1000000000) :
    Calls Try.prog 31 #[.pointer (some ⟨g, 0, none⟩), .int .u32 (n : Int)] w fun e w' => e = .returned (.tuple #[]) ∧ Wrote g A (L ++ [decide (n % 2 = 1)]) w w' := by
  obtain ⟨hb, ho⟩ := h
  unfold OwnB at ho
  by_cases h8 : L.length % 8 = 0
  · have e8 : (((L.length : Int) % 8) == 0) = true := by simp; omega
    obtain ⟨P, hP⟩ : ∃ P, P = room L := ⟨_, rfl⟩
    have hPp : bvs (pack L) ++ bvs [0] = bvs P := by rw [hP, room, if_pos h8, bvs_append]
    have hPl : (pack L).length + 1 = P.length := by rw [hP, room, if_pos h8]; simp
    have hPm : P.length ≤ 1000000000 := by rw [hP, room_length]; omega
    have c0 : w.cell? ⟨g, 0, none⟩ = some (.slice A (pack L).length c) := by rw [hb.cell]; rfl
    have c1 : w.cell? ⟨g, 1, none⟩ = some (.int .i64 (L.length : Int)) := by rw [hb.cell]; rfl
    have fr := hb.free
    have HB := Lib.hid hb
    have HO := Lib.hid ho
    have HPP := Lib.hid hPp
    have HPL := Lib.hid hPl
    have HP := Lib.hid hP
    have H8 := Lib.hid h8
    clear hb ho hPp hPl hP h8
    go_enter Try.func31, Try.ntmps31
    go_wp2_with (at_builtin; refine Hid.out ?_)
    have hO2 := Own.alloc HO.out (.cells #[.int .u8 0] 5)
    refine wpList_app (xs := bvs (pack L)) rfl rfl elem_u8 rfl hO2 rfl (byte_new w 0) (bvs_one _) P.length HPL.out (bvs P) HPP.out (by unfold maxLen; omega) (by omega) (by have := HB.out.lt; simp; omega) ?_
    intro A3 c3 w3 o3 g3 q3
    have hb3 := (HB.out.alloc (.cells #[.int .u8 0] 5)).grown g3 (fun e => Own.ne_blk hO2 (HB.out.alloc _) (by decide) e.symm)
    have fr3 := hb3.free
    have c03 : w3.cell? ⟨g, 0, none⟩ = some (.slice A (pack L).length c) := by rw [hb3.cell]; rfl
    have c13 : w3.cell? ⟨g, 1, none⟩ = some (.int .i64 (L.length : Int)) := by rw [hb3.cell]; rfl
    have hon3 : Only (WK g A) w w3 := ((Only.refl (WK g A) w).alloc _).step (Only.of_grown g3) (fun i hi => .inl (.inr hi))
    have hbn : blockOf A3 ≠ some g := Own.ne_blk o3 hb3 (by decide)
    have hb := hb3.put 0 (.slice A3 P.length c3)
    have ho := Own.setOther o3 (p := ⟨g, 0, none⟩) hbn (.slice A3 P.length c3)
    have hon := hon3.set (p := ⟨g, 0, none⟩) (.inl (.inl rfl)) (.slice A3 P.length c3)
    have HQ3 : Hid (blockOf A3 = blockOf A ∨ ∃ i, blockOf A3 = some i ∧ w.heap.size ≤ i) := Lib.hid (q3.imp id (fun e => ⟨_, e, by simp⟩))
    have HB4 := Lib.hid hb
    have HO4 := Lib.hid ho
    have HN4 := Lib.hid hon
    clear hO2 o3 g3 q3 hb3 hon3 hbn hb ho hon c0 c1 fr
    go_wp2_with fail
    have hb := HB4.out
    have ho := HO4.out
    have hon := HN4.out
    have hP := HP.out
    have h8 := H8.out
    clear c03 c13 fr3 HB4 HO4 HN4 HB HO HPP HPL HP H8
    generalize w3.setCell ⟨g, 0, none⟩ (.slice A3 P.length c3) = w4 at *
    have c0 : w4.cell? ⟨g, 0, none⟩ = some (.slice A3 P.length c3) := by rw [hb.cell]; rfl
    have c1 : w4.cell? ⟨g, 1, none⟩ = some (.int .i64 (L.length : Int)) := by rw [hb.cell]; rfl
    have fr := hb.free
    clear e8
    obtain ⟨gb, hA, hbg, hgl, hnc, hcl, fz⟩ := Own.form (show Own w4 g 5 1 A3 P.length c3 (bvs P) from ho) (by rw [hP, room_length]; omega)
    subst hA
    have hne : ¬ g = gb := hb.ne_own ho
    have hne2 : ¬ gb = g := fun e => hne e.symm
    obtain ⟨q, hq⟩ : ∃ q, q = L.length / 8 := ⟨_, rfl⟩
    obtain ⟨r, hr⟩ : ∃ r, r = L.length % 8 := ⟨_, rfl⟩
    obtain ⟨a, ha⟩ : ∃ a, a = num (L.drop (8 * q)) := ⟨_, rfl⟩
    have har : a < 2 ^ r := by
      have := num_lt (L.drop (8 * q))
      rw [← ha, List.length_drop] at this
      rw [show r = L.length - 8 * q by omega]
      exact this
    have har8 : a < 256 := Nat.lt_of_lt_of_le har (Nat.le_trans (Nat.pow_le_pow_right (by decide) (show r ≤ 8 by omega)) (by decide))
    have hcq := hcl q (.int .u8 (a : Int)) (by
      have h1 := room_at L
      rw [← hq, ← hP, ← ha] at h1
      simp only [bvs, List.getElem?_map, h1, bv, Option.map_some, UInt8.toNat_ofNat', Nat.mod_eq_of_lt har8])
    have hqp : (q : Int) < (P.length : Int) := by
      have := room_length L
      rw [← hP] at this
      omega
    have eq1 : (L.length : Int) / 8 = (q : Int) := by omega
    have eq2 : (L.length : Int) % 8 = (r : Int) := by omega
    have eq3 : (L.length : Int).tmod 8 = (r : Int) := by rw [Int.tmod_eq_emod_of_nonneg (by omega)]; exact eq2
    have eq4 : IntKind.i64.wrap (q : Int) = (q : Int) := IntWalk.i64_in _ ⟨by omega, by omega⟩
    have hand : bits .and .u32 (n : Int) 1 = ((n % 2 : Nat) : Int) := by
      rw [show (1 : Int) = ((1 : Nat) : Int) from rfl, u32_and_nat _ _ hn (by omega), nat_mask1]
    have hval := put_val (n := n) (show r < 8 by omega) har
    obtain ⟨W, hW⟩ : ∃ W : World, W = { w4 with drawn := w4.drawn + 1 } := ⟨_, rfl⟩
    have k0 : W.cell? ⟨g, 0, none⟩ = some (.slice (some ⟨gb, 0, none⟩) P.length c3) := by rw [hW]; exact c0
    have k1 : W.cell? ⟨g, 1, none⟩ = some (.int .i64 (L.length : Int)) := by rw [hW]; exact c1
    have k2 : W.cell? ⟨gb, q, none⟩ = some (.int .u8 (a : Int)) := by rw [hW]; exact hcq
    have k3 : ∀ i, W.frozen? ⟨g, i, none⟩ = false := by rw [hW]; exact fr
    have k4 : ∀ i, W.frozen? ⟨gb, i, none⟩ = false := by rw [hW]; exact fz
    have HEND := Lib.hid (put_end (W := W) (n := n) hP hq (by rw [hW]; exact hb) (by rw [hW]; exact ho) hne)
    have HONLY : Hid (Only (WK g A) w W) := Lib.hid (by rw [hW]; exact hon.drew)
    have HGK : Hid (WK g A gb ∨ w.heap.size ≤ gb) := Lib.hid (HQ3.out.elim (fun e => .inl (.inr e.symm)) (fun ⟨i, e, hi⟩ => .inr (by rw [show gb = i by simpa [blockOf] using e]; exact hi)))
    rw [← ha, ← hr] at HEND
    generalize UInt8.ofNat (a + (decide (n % 2 = 1)).toNat * 2 ^ r) = nv at *
    clear hq hr ha har har8 hcl hnc
    have HW := Lib.hid hW
    clear hW hP h8 hb ho hon
    refine wp_region_still_tail 22 (by kernel_rfl) (by kernel_rfl) ?_
    simp only [List.take_succ_cons, List.take_zero, List.drop_succ_cons, List.drop_zero]
    rw [← HW.out]
    repeat still_step
    refine wpStill_nil ?_
    go_wp2_with fail
    exact bodyPost_end (v := .tuple #[]) (results_none Try.results31 _ _ _) rfl ⟨rfl, _, _, HEND.out, (HONLY.out.set (p := ⟨gb, q, none⟩) HGK.out _).set (p := ⟨g, 1, none⟩) (.inl (.inl rfl)) _, HQ3.out⟩
  · have e8 : (((L.length : Int) % 8) == 0) = false := by simp; omega
    obtain ⟨P, hP⟩ : ∃ P, P = room L := ⟨_, rfl⟩
    have hPp : pack L = P := by rw [hP, room, if_neg h8]
    rw [hPp] at hb ho
    have c0 : w.cell? ⟨g, 0, none⟩ = some (.slice A P.length c) := by rw [hb.cell]; rfl
    have c1 : w.cell? ⟨g, 1, none⟩ = some (.int .i64 (L.length : Int)) := by rw [hb.cell]; rfl
    have fr := hb.free
    obtain ⟨gb, hA, hbg, hgl, hnc, hcl, fz⟩ := Own.form (show Own w g 5 1 A P.length c (bvs P) from ho) (by rw [hP, room_length]; omega)
    subst hA
    have hne : ¬ g = gb := hb.ne_own ho
    have hne2 : ¬ gb = g := fun e => hne e.symm
    obtain ⟨q, hq⟩ : ∃ q, q = L.length / 8 := ⟨_, rfl⟩
    obtain ⟨r, hr⟩ : ∃ r, r = L.length % 8 := ⟨_, rfl⟩
    obtain ⟨a, ha⟩ : ∃ a, a = num (L.drop (8 * q)) := ⟨_, rfl⟩
    have har : a < 2 ^ r := by
      have := num_lt (L.drop (8 * q))
      rw [← ha, List.length_drop] at this
      rw [show r = L.length - 8 * q by omega]
      exact this
    have har8 : a < 256 := Nat.lt_of_lt_of_le har (Nat.le_trans (Nat.pow_le_pow_right (by decide) (show r ≤ 8 by omega)) (by decide))
    have hcq := hcl q (.int .u8 (a : Int)) (by
      have h1 := room_at L
      rw [← hq, ← hP, ← ha] at h1
      simp only [bvs, List.getElem?_map, h1, bv, Option.map_some, UInt8.toNat_ofNat', Nat.mod_eq_of_lt har8])
    have hqp : (q : Int) < (P.length : Int) := by
      have := room_length L
      rw [← hP] at this
      omega
    have eq1 : (L.length : Int) / 8 = (q : Int) := by omega
    have eq2 : (L.length : Int) % 8 = (r : Int) := by omega
    have eq3 : (L.length : Int).tmod 8 = (r : Int) := by rw [Int.tmod_eq_emod_of_nonneg (by omega)]; exact eq2
    have eq4 : IntKind.i64.wrap (q : Int) = (q : Int) := IntWalk.i64_in _ ⟨by omega, by omega⟩
    have hand : bits .and .u32 (n : Int) 1 = ((n % 2 : Nat) : Int) := by
      rw [show (1 : Int) = ((1 : Nat) : Int) from rfl, u32_and_nat _ _ hn (by omega), nat_mask1]
    have hval := put_val (n := n) (show r < 8 by omega) har
    obtain ⟨W, hW⟩ : ∃ W : World, W = { w with drawn := w.drawn + 1 } := ⟨_, rfl⟩
    have k0 : W.cell? ⟨g, 0, none⟩ = some (.slice (some ⟨gb, 0, none⟩) P.length c) := by rw [hW]; exact c0
    have k1 : W.cell? ⟨g, 1, none⟩ = some (.int .i64 (L.length : Int)) := by rw [hW]; exact c1
    have k2 : W.cell? ⟨gb, q, none⟩ = some (.int .u8 (a : Int)) := by rw [hW]; exact hcq
    have k3 : ∀ i, W.frozen? ⟨g, i, none⟩ = false := by rw [hW]; exact fr
    have k4 : ∀ i, W.frozen? ⟨gb, i, none⟩ = false := by rw [hW]; exact fz
    have HEND := Lib.hid (put_end (W := W) (n := n) hP hq (by rw [hW]; exact hb) (by rw [hW]; exact ho) hne)
    have HONLY : Hid (Only (WK g (some ⟨gb, 0, none⟩)) w W) := Lib.hid (by rw [hW]; exact (Only.refl _ w).drew)
    have HGK : Hid (WK g (some ⟨gb, 0, none⟩) gb ∨ w.heap.size ≤ gb) := Lib.hid (.inl (.inr rfl))
    rw [← ha, ← hr] at HEND
    generalize UInt8.ofNat (a + (decide (n % 2 = 1)).toNat * 2 ^ r) = nv at *
    clear hq hr ha har har8 hcl hnc
    have e9 : ((r : Int) == 0) = false := by rw [← eq2]; exact e8
    have HW := Lib.hid hW
    clear hW hP hPp h8 hb ho e8
    go_enter Try.func31, Try.ntmps31
    go_wp2_with fail
    refine wp_region_still_tail 22 (by kernel_rfl) (by kernel_rfl) ?_
    simp only [List.take_succ_cons, List.take_zero, List.drop_succ_cons, List.drop_zero]
    rw [← HW.out]
    repeat still_step
    refine wpStill_nil ?_
    go_wp2_with fail
    exact bodyPost_end (v := .tuple #[]) (results_none Try.results31 _ _ _) rfl ⟨rfl, _, _, HEND.out, (HONLY.out.set (p := ⟨gb, q, none⟩) HGK.out _).set (p := ⟨g, 1, none⟩) (.inl (.inl rfl)) _, .inl rfl⟩
end Go.Proofs.Ytboakhhmbjomfaa
