/- Bitio: the reader walked. -/
import Derived.Test.YtboakhhmbjomfaaBitD
import Derived.Outline
namespace Go.Proofs.Ytboakhhmbjomfaa
open Go.RowKit
open Bt
theorem bitsOf_get {l : List UInt8} {p : Nat} (h : p < 8 * l.length) : (bitsOf l)[p]? = some (decide ((l.getD (p / 8) 0).toNat / 2 ^ (p % 8) % 2 = 1)) := by
  have hp : p / 8 < l.length := by omega
  have e1 : (bitsOf l).drop (8 * (p / 8)) = bitsOf (l.drop (p / 8)) := bitsOf_drop _ _
  have e2 : (bitsOf l)[p]? = ((bitsOf l).drop (8 * (p / 8)))[p % 8]? := by
    rw [List.getElem?_drop]
    congr 1
    omega
  have e3 : l.getD (p / 8) 0 = l[p / 8] := by simp [List.getD, hp]
  rw [e2, e1, List.drop_eq_getElem_cons hp, bitsOf_cons, List.getElem?_append_left (by rw [gb_length]; omega), gb_get, if_pos (by omega), e3, Nat.testBit_eq_decide_div_mod_eq]
theorem take_next {α : Type} {B : List α} {a i : Nat} {x : α} (h : B[a + i]? = some x) : (B.drop a).take (i + 1) = (B.drop a).take i ++ [x] := by
  rw [List.take_add_one, List.getElem?_drop, h]
  rfl
/-- What a reader's act may turn: it alone. -/
def RK (g : Nat) (i : Nat) : Prop := i = g
/-- Block g is a reader of the bytes l that stands at a bit. -/
def Rdr (w : World) (base g : Nat) (A : Option Addr) (c : Nat) (l : List UInt8) (p : Nat) : Prop := Blk w g 62 #[.slice A l.length c, .int .i64 (p : Int)] ∧ OwnB w base A c l
theorem Rdr.moved {w w' : World} {base g : Nat} {A : Option Addr} {c : Nat} {l : List UInt8} {p p' : Nat} (h : Rdr w base g A c l p) (hb : Blk w' g 62 #[.slice A l.length c, .int .i64 (p' : Int)]) (ho : Only (RK g) w w') : Rdr w' base g A c l p' :=
  ⟨hb, Own.only h.2 ho (fun i hi e => Own.ne_blk h.2 h.1 (by decide) (by rw [hi, e]))⟩
theorem Rdr.below {w w' : World} {base g : Nat} {A : Option Addr} {c : Nat} {l : List UInt8} {p : Nat} (h : Rdr w base g A c l p) (hb : Below w.heap.size w w') : Rdr w' base g A c l p := ⟨h.1.below hb h.1.lt, Own.below h.2 hb⟩
def NewPost (w : World) (l : List UInt8) (e : Ending) (w' : World) : Prop := ∃ g A c, e = .returned (.pointer (some ⟨g, 0, none⟩)) ∧ w.heap.size ≤ g ∧ Rdr w' w.heap.size g A c l 0 ∧ Below w.heap.size w w'
theorem new_t (A : Option Addr) (c : Nat) (l : List UInt8) (w : World) (hb : Bts w w.heap.size A l) (hl : l.length ≤ 100000000) :
    Calls Try.prog 12 #[.slice A l.length c] w (NewPost w l) := by
  have HC := Lib.hid (clone_t A c l w hb hl)
  clear hb
  go_enter Try.func12, Try.ntmps12
  go_wp2_with fail
  refine HC.out.mono ?_
  rintro e w1 ⟨A1, c1, rfl, h1, h2⟩
  have H1 := Lib.hid h1
  have H2 := Lib.hid h2
  clear h1 h2
  go_wp2_with fail
  go_ret
  exact ⟨w1.heap.size, A1, c1, rfl, H2.out.size, ⟨Blk.new w1 _ _, Own.alloc H1.out _⟩, newB H2.out _⟩
theorem rat_t (base g : Nat) (A : Option Addr) (c : Nat) (l : List UInt8) (p : Nat) (w : World) (h : Rdr w base g A c l p) :
    Calls Try.prog 29 #[.pointer (some ⟨g, 0, none⟩)] w fun e w' => e = .returned (.int .i64 (p : Int)) ∧ w = w' := by
  have c1 : w.cell? ⟨g, 1, none⟩ = some (.int .i64 (p : Int)) := by rw [h.1.cell]; rfl
  clear h
  go_enter Try.func29, Try.ntmps29
  go_wp2_with fail
  go_ret
  exact ⟨rfl, rfl⟩
theorem left_t (base g : Nat) (A : Option Addr) (c : Nat) (l : List UInt8) (p k : Nat) (w : World) (h : Rdr w base g A c l p) (hk : p + k = 8 * l.length) (hl : l.length ≤ 100000000) :
    Calls Try.prog 17 #[.pointer (some ⟨g, 0, none⟩)] w fun e w' => e = .returned (.int .i64 (k : Int)) ∧ ∃ q, w' = w.drewN q := by
  have c0 : w.cell? ⟨g, 0, none⟩ = some (.slice A l.length c) := by rw [h.1.cell]; rfl
  have c1 : w.cell? ⟨g, 1, none⟩ = some (.int .i64 (p : Int)) := by rw [h.1.cell]; rfl
  obtain ⟨n8, hn8⟩ : ∃ n8 : Nat, n8 = 8 * l.length := ⟨_, rfl⟩
  have e1 : IntKind.i64.wrap (8 * (l.length : Int)) = (n8 : Int) := by rw [hn8]; exact IntWalk.i64_in _ ⟨by omega, by omega⟩
  have e2 : IntKind.i64.wrap ((n8 : Int) - (p : Int)) = (k : Int) := by rw [show (n8 : Int) - (p : Int) = (k : Int) by omega]; exact IntWalk.i64_in _ ⟨by omega, by omega⟩
  clear h hk hn8
  go_enter Try.func17, Try.ntmps17
  go_wp2_with fail
  go_quiet (fail)
  go_wp2_with fail
  go_ret
  exact ⟨rfl, nq, rfl⟩
theorem ralign_t (base g : Nat) (A : Option Addr) (c : Nat) (l : List UInt8) (p : Nat) (w : World) (h : Rdr w base g A c l p) (hp : p ≤ 1000000000) :
    Calls Try.prog 26 #[.pointer (some ⟨g, 0, none⟩)] w fun e w' => e = .returned (.tuple #[]) ∧ Rdr w' base g A c l ((p + 7) / 8 * 8) ∧ Only (RK g) w w' := by
  have c1 : w.cell? ⟨g, 1, none⟩ = some (.int .i64 (p : Int)) := by rw [h.1.cell]; rfl
  have fr := h.1.free
  have H := Lib.hid h
  have hpi : (p : Int) ≤ 1000000000 := by omega
  clear h
  go_enter Try.func26, Try.ntmps26
  go_wp2_with fail
  refine bodyPost_end (v := .tuple #[]) (results_none Try.results26 _ _ _) rfl ⟨rfl, ?_, (Only.refl (RK g) w).set (p := ⟨g, 1, none⟩) (.inl rfl) _⟩
  refine H.out.moved ?_ ((Only.refl (RK g) w).set (p := ⟨g, 1, none⟩) (.inl rfl) _)
  have h1 := H.out.1.put 1 (.int .i64 (((p + 7) / 8 * 8 : Nat) : Int))
  simpa using h1
theorem rgroup_bad (g : Nat) (k : Int) (w : World) (h : k < 0 ∨ 32 < k) :
    Calls Try.prog 14 #[.pointer (some ⟨g, 0, none⟩), .int .i64 k] w fun e w' => e = .returned (.tuple #[.int .u32 0, .int .i64 5]) ∧ w = w' := by
  rcases h with h | h
  · have hd : decide (k < 0) = true := by simp; omega
    clear h
    go_enter Try.func14, Try.ntmps14
    go_wp2_with fail
    go_ret2
    exact ⟨rfl, rfl⟩
  · have hd : decide (k < 0) = false := by simp; omega
    have hd2 : decide (32 < k) = true := by simp; omega
    clear h
    go_enter Try.func14, Try.ntmps14
    go_wp2_with fail
    go_ret2
    exact ⟨rfl, rfl⟩
theorem rgroup_end (base g : Nat) (A : Option Addr) (c : Nat) (l : List UInt8) (p m k : Nat) (w : World) (h : Rdr w base g A c l p) (hm : p + m = 8 * l.length) (hl : l.length ≤ 100000000) (hk : k ≤ 32) (hmk : m < k) :
    Calls Try.prog 14 #[.pointer (some ⟨g, 0, none⟩), .int .i64 (k : Int)] w fun e w' => e = .returned (.tuple #[.int .u32 0, .int .i64 20]) ∧ ∃ q, w' = w.drewN q := by
  have HL := Lib.hid (left_t base g A c l p m w h hm hl)
  have hd : decide ((k : Int) < 0) = false := by simp
  have hd2 : decide ((32 : Int) < (k : Int)) = false := by simp; omega
  have hd3 : decide (32 < k) = false := by simp; omega
  have hmi : (m : Int) < (k : Int) := by omega
  clear h hm hk hmk
  go_enter Try.func14, Try.ntmps14
  go_wp2_with fail
  refine HL.out.mono ?_
  rintro e w1 ⟨rfl, q, rfl⟩
  go_wp2_with fail
  go_ret2
  exact ⟨rfl, q, rfl⟩
theorem or_val {a z i : Nat} (hi : i < 32) (ha : a < 2 ^ i) : bits .or .u32 (a : Int) ((z : Int) % 2 * 2 ^ i % 4294967296) = ((a + (decide (z % 2 = 1)).toNat * 2 ^ i : Nat) : Int) := by
  have h1 : 2 ^ i ≤ 2147483648 := Nat.le_trans (Nat.pow_le_pow_right (by decide) (show i ≤ 31 by omega)) (by decide)
  have h2 : z % 2 < 2 := Nat.mod_lt _ (by decide)
  have h3 : z % 2 * 2 ^ i ≤ 1 * 2 ^ i := Nat.mul_le_mul_right _ (by omega)
  have e1 : (z : Int) % 2 * 2 ^ i = ((z % 2 * 2 ^ i : Nat) : Int) := by simp
  have e2 : (z : Int) % 2 * 2 ^ i % 4294967296 = ((z % 2 * 2 ^ i : Nat) : Int) := by rw [e1]; omega
  rw [e2, u32_or_nat _ _ (by omega) (by omega), or_bits ha, bit_toNat]
set_option maxHeartbeats 1600000 in
theorem rgroup_t (base g : Nat) (A : Option Addr) (c : Nat) (l : List UInt8) (p m k : Nat) (w : World) (h : Rdr w base g A c l p) (hm : p + m = 8 * l.length) (hl : l.length ≤ 100000000) (hk : k ≤ 32) (hmk : k ≤ m) :
    Calls Try.prog 14 #[.pointer (some ⟨g, 0, none⟩), .int .i64 (k : Int)] w fun e w' => e = .returned (.tuple #[.int .u32 (num (((bitsOf l).drop p).take k) : Nat), .int .i64 0]) ∧ Rdr w' base g A c l (p + k) ∧ Only (RK g) w w' := by
  have HL := Lib.hid (left_t base g A c l p m w h hm hl)
  have hd : decide ((k : Int) < 0) = false := by simp
  have hd2 : decide ((32 : Int) < (k : Int)) = false := by simp; omega
  have hd3 : decide (32 < k) = false := by simp; omega
  have hmi : ¬ (m : Int) < (k : Int) := by omega
  have H := Lib.hid h
  have HM := Lib.hid hm
  have HMK := Lib.hid hmk
  clear h hm hmk
  go_enter Try.func14, Try.ntmps14
  go_wp2_with fail
  refine HL.out.mono ?_
  rintro e w1 ⟨rfl, q, rfl⟩
  go_wp2_with fail
  go_loopw [6, 19] (fun u v wr => ∃ i : Nat, i ≤ k ∧ v = .int .i64 (i : Int) ∧ u = .int .u32 (num (((bitsOf l).drop p).take i) : Nat) ∧ Rdr wr base g A c l (p + i) ∧ Only (RK g) w wr) (fun _ v _ => k - (intOf v).toNat)
  case atStart => exact ⟨0, Nat.zero_le _, rfl, rfl, ⟨H.out.1.drewN q, H.out.2⟩, (Only.refl _ w).drewN q⟩
  case round =>
    obtain ⟨i, hi, rfl, rfl, hrd, hon⟩ := hrel
    by_cases hlt : i < k
    · have hii : (i : Int) < (k : Int) := by omega
      have hi32 : (i : Int) ≤ 32 := by omega
      obtain ⟨pp, hpp⟩ : ∃ pp, pp = p + i := ⟨_, rfl⟩
      rw [← hpp] at hrd
      have hp8 : pp < 8 * l.length := by have := HM.out; have := HMK.out; omega
      have hbit := bitsOf_get hp8
      rw [hpp] at hbit
      have htn := take_next hbit
      rw [← hpp] at htn
      obtain ⟨y, hy⟩ : ∃ y, y = pp / 8 := ⟨_, rfl⟩
      obtain ⟨r, hr⟩ : ∃ r, r = pp % 8 := ⟨_, rfl⟩
      obtain ⟨a, ha⟩ : ∃ a, a = num (((bitsOf l).drop p).take i) := ⟨_, rfl⟩
      have hai : a < 2 ^ i := by
        rw [ha]
        refine Nat.lt_of_lt_of_le (num_lt _) (Nat.pow_le_pow_right (by decide) ?_)
        simp
        omega
      have c0 : wr.cell? ⟨g, 0, none⟩ = some (.slice A l.length c) := by rw [hrd.1.cell]; rfl
      have c1 : wr.cell? ⟨g, 1, none⟩ = some (.int .i64 (pp : Int)) := by rw [hrd.1.cell]; rfl
      have fr := hrd.1.free
      obtain ⟨gb, hA, hbg, hgl, hnc, hcl, _⟩ := Own.form (show Own wr base 5 1 A l.length c (bvs l) from hrd.2) (by omega)
      subst hA
      have hcy := hcl y (bv (l.getD y 0)) (by
        have : y < l.length := by omega
        simp [bvs, List.getD, this])
      unfold bv at hcy
      rw [← hy, ← hr] at htn
      have hx256 : (l.getD y 0).toNat < 256 := (l.getD y 0).toNat_lt
      generalize (l.getD y 0).toNat = x at *
      obtain ⟨z, hz⟩ : ∃ z, z = x / 2 ^ r := ⟨_, rfl⟩
      rw [← hz] at htn
      have hn2 : num (((bitsOf l).drop p).take (i + 1)) = a + (decide (z % 2 = 1)).toNat * 2 ^ i := by
        rw [htn, num_snoc, ← ha]
        congr 2
        congr 1
        simp
        rw [bitsOf_length]
        have := HM.out
        have := HMK.out
        omega
      have hval := or_val (z := z) (show i < 32 by omega) hai
      rw [← hn2] at hval
      obtain ⟨nv, hnv⟩ : ∃ nv, nv = num (((bitsOf l).drop p).take (i + 1)) := ⟨_, rfl⟩
      rw [← hnv] at hval
      have HNV := Lib.hid hnv
      have HVAL := Lib.hid hval
      rw [← ha]
      have eq1 : (pp : Int) / 8 = (y : Int) := by omega
      have eq2 : (pp : Int) % 8 = (r : Int) := by omega
      have eq3 : (pp : Int).tmod 8 = (r : Int) := by rw [Int.tmod_eq_emod_of_nonneg (by omega)]; exact eq2
      have eq4 : IntKind.i64.wrap (y : Int) = (y : Int) := IntWalk.i64_in _ ⟨by omega, by omega⟩
      have eq5 : (x : Int) / 2 ^ r = (z : Int) := by rw [hz]; simp
      have hand : bits .and .u8 (z : Int) 1 = ((z % 2 : Nat) : Int) := by
        have hz256 : z < 256 := by rw [hz]; exact Nat.lt_of_le_of_lt (Nat.div_le_self _ _) (by assumption)
        rw [show (1 : Int) = ((1 : Nat) : Int) from rfl, u8_and_nat _ _ hz256 (by omega), nat_mask1]
      have hyl : (y : Int) < (l.length : Int) := by omega
      have hpi : (pp : Int) ≤ 1000000000 := by omega
      have HON := Lib.hid hon
      have HRD := Lib.hid hrd
      have HI := Lib.hid hlt
      have HPP := Lib.hid hpp
      clear hbit htn hy hr ha hai hz hn2 hnv hval hon hrd hlt hpp hcl hnc hp8 hi
      go_wp2_with fail
      go_quiet (fail)
      go_wp2_with fail
      go_roundw
      case rel => exact ⟨i + 1, HI.out, by go_num, by rw [HVAL.out, HNV.out], HRD.out.moved (by
        have h1 := (HRD.out.1.drewN nq).put 1 (.int .i64 ((pp : Int) + 1))
        rw [← Nat.add_assoc, ← HPP.out]
        simpa using h1) (((Only.refl (RK g) wr).drewN nq).set (p := ⟨g, 1, none⟩) (.inl rfl) _), (HON.out.drewN nq).set (p := ⟨g, 1, none⟩) (.inl rfl) _⟩
      case measure => have := HI.out; simp [intOf]; omega
    · obtain rfl : k = i := by omega
      have HON := Lib.hid hon
      have HRD := Lib.hid hrd
      clear hon hrd hi hlt
      obtain ⟨nv, hnv⟩ : ∃ nv, nv = num (((bitsOf l).drop p).take k) := ⟨_, rfl⟩
      rw [← hnv]
      have HNV := Lib.hid hnv
      clear hnv
      go_wp2_with fail
      go_ret2
      exact ⟨by rw [← HNV.out]; rfl, HRD.out, HON.out⟩
theorem rbit_bad (base g : Nat) (A : Option Addr) (c : Nat) (l : List UInt8) (p m : Nat) (w : World) (h : Rdr w base g A c l p) (hm : p + m = 8 * l.length) (hl : l.length ≤ 100000000) (hmk : m < 1) :
    Calls Try.prog 25 #[.pointer (some ⟨g, 0, none⟩)] w fun e w' => e = .returned (.tuple #[.int .u32 0, .int .i64 20]) ∧ ∃ q, w' = w.drewN q := by
  have HG := Lib.hid (rgroup_end base g A c l p m 1 w h hm hl (by decide) hmk)
  clear h hm hmk
  go_enter Try.func25, Try.ntmps25
  go_wp2_with fail
  refine HG.out.mono ?_
  rintro e w1 ⟨rfl, q, rfl⟩
  go_wp2_with fail
  go_ret2
  exact ⟨rfl, q, rfl⟩
theorem rbit_t (base g : Nat) (A : Option Addr) (c : Nat) (l : List UInt8) (p m : Nat) (w : World) (h : Rdr w base g A c l p) (hm : p + m = 8 * l.length) (hl : l.length ≤ 100000000) (hmk : 1 ≤ m) :
    Calls Try.prog 25 #[.pointer (some ⟨g, 0, none⟩)] w fun e w' => e = .returned (.tuple #[.int .u32 (num (((bitsOf l).drop p).take 1) : Nat), .int .i64 0]) ∧ Rdr w' base g A c l (p + 1) ∧ Only (RK g) w w' := by
  have HG := Lib.hid (rgroup_t base g A c l p m 1 w h hm hl (by decide) hmk)
  obtain ⟨nv, hnv⟩ : ∃ nv, nv = num (((bitsOf l).drop p).take 1) := ⟨_, rfl⟩
  rw [← hnv] at HG ⊢
  clear h hm hmk hnv
  go_enter Try.func25, Try.ntmps25
  go_wp2_with fail
  refine HG.out.mono ?_
  rintro e w1 ⟨rfl, h1, h2⟩
  have H1 := Lib.hid h1
  have H2 := Lib.hid h2
  clear h1 h2
  go_wp2_with fail
  go_ret2
  exact ⟨rfl, H1.out, H2.out⟩
end Go.Proofs.Ytboakhhmbjomfaa
