/- Wire: the reader high walked. -/
import Derived.Test.YtfeoalimkolebaaWireJ
namespace Go.Proofs.Ytfeoalimkolebaa
open Go.RowKit
open Wi
namespace Wi
/-- The number that bytes are, the highest first. -/
def hov (l : List UInt8) : Nat := lov l.reverse
theorem hov_snoc (l : List UInt8) (x : UInt8) : hov (l ++ [x]) = x.toNat + 256 * hov l := by
  unfold hov
  rw [List.reverse_append]
  rfl
end Wi
theorem hov_next {l : List UInt8} {p i : Nat} {x : UInt8} (hx : l[p + i]? = some x) (hi : i < 8) : bits .or .u64 (IntKind.u64.wrap (((hov ((l.drop p).take i) : Nat) : Int) * 256)) (IntKind.u64.wrap (x.toNat : Int)) = ((hov ((l.drop p).take (i + 1)) : Nat) : Int) := by
  have hl : p + i < l.length := (List.getElem?_eq_some_iff.1 hx).1
  have hlen : ((l.drop p).take i).reverse.length = i := by rw [List.length_reverse, List.length_take, List.length_drop]; omega
  have h1 : hov ((l.drop p).take i) < 256 ^ i := by
    have := lov_lt ((l.drop p).take i).reverse
    rw [hlen] at this
    exact this
  have h2 := x.toNat_lt
  have e2 : (256 : Nat) ^ i ≤ 256 ^ 7 := Nat.pow_le_pow_right (by decide) (by omega)
  rw [take_next hx, hov_snoc]
  generalize hov ((l.drop p).take i) = n0 at *
  rw [show (n0 : Int) * 256 = ((n0 * 256 : Nat) : Int) by omega, IntWalk.u64_in _ ⟨by omega, by omega⟩, IntWalk.u64_in (x.toNat : Int) ⟨by omega, by omega⟩, u64_or_nat _ _ (by omega) (by omega), Nat.or_comm]
  have h3 := or_256 (a := x.toNat) (b := n0) (i := 1) (by omega)
  rw [Nat.pow_one] at h3
  rw [h3]
  omega
theorem rhigh_end (base g : Nat) (A : Option Addr) (c : Nat) (l : List UInt8) (p k : Nat) (w : World) (h : Rdr w base g A c l p) (hp : p ≤ l.length) (hk : l.length < p + k) (hl : l.length ≤ 100000000) :
    Calls Try.prog 32 #[.pointer (some ⟨g, 0, none⟩), .int .i64 (k : Int)] w fun e w' => e = .returned (.tuple #[.int .u64 0, .int .i64 20]) ∧ ∃ q, w' = w.drewN q := by
  obtain ⟨m, hm⟩ : ∃ m, p + m = l.length := ⟨l.length - p, by omega⟩
  have HL := Lib.hid (left_t base g A c l p m w h hm hl)
  have hd : decide ((m : Int) < (k : Int)) = true := by simp; omega
  have hd2 : decide (m < k) = true := by simp; omega
  clear h hp hk hm
  go_enter Try.func32, Try.ntmps32
  go_wp2_with fail
  refine HL.out.mono ?_
  rintro e w1 ⟨rfl, q, rfl⟩
  go_wp2_with fail
  go_ret2
  exact ⟨rfl, q, rfl⟩
set_option maxHeartbeats 1600000 in
theorem rhigh_t (base g : Nat) (A : Option Addr) (c : Nat) (l : List UInt8) (p k : Nat) (w : World) (h : Rdr w base g A c l p) (hp : p + k ≤ l.length) (hk : k ≤ 8) (hl : l.length ≤ 100000000) :
    Calls Try.prog 32 #[.pointer (some ⟨g, 0, none⟩), .int .i64 (k : Int)] w fun e w' => e = .returned (.tuple #[.int .u64 (hov ((l.drop p).take k) : Nat), .int .i64 0]) ∧ Rdr w' base g A c l (p + k) ∧ Only (RK g) w w' := by
  obtain ⟨m, hm⟩ : ∃ m, p + m = l.length := ⟨l.length - p, by omega⟩
  have HL := Lib.hid (left_t base g A c l p m w h hm hl)
  have hd : decide ((m : Int) < (k : Int)) = false := by simp; omega
  have hd2 : decide (m < k) = false := by simp; omega
  have hkk : (k : Int) ≤ 8 := by omega
  have H := Lib.hid h
  have HP := Lib.hid hp
  clear h hm
  go_enter Try.func32, Try.ntmps32
  go_wp2_with fail
  refine HL.out.mono ?_
  rintro e w1 ⟨rfl, q0, rfl⟩
  go_wp2_with fail
  go_loopw [6, 13] (fun u v wr => ∃ (i q : Nat), v = .int .i64 (i : Int) ∧ u = .int .u64 (hov ((l.drop p).take i) : Nat) ∧ i ≤ k ∧ wr = w.drewN q) (fun _ v _ => k - (intOf v).toNat)
  case atStart => exact ⟨0, q0, rfl, rfl, Nat.zero_le _, rfl⟩
  case round =>
    obtain ⟨i, q, rfl, rfl, hi, rfl⟩ := hrel
    obtain ⟨wo, hwo⟩ : ∃ wo : World, wo = w.drewN q := ⟨_, rfl⟩
    have hR : Rdr wo base g A c l p := by rw [hwo]; exact ⟨H.out.1.drewN q, H.out.2⟩
    rw [← hwo]
    have HWO := Lib.hid hwo
    clear hwo
    have c0 : wo.cell? ⟨g, 0, none⟩ = some (.slice A l.length c) := by rw [hR.1.cell]; rfl
    have c1 : wo.cell? ⟨g, 1, none⟩ = some (.int .i64 (p : Int)) := by rw [hR.1.cell]; rfl
    have fr := hR.1.free
    by_cases hlt : i < k
    · have hii : (i : Int) < (k : Int) := by omega
      have hpi : p + i < l.length := by have := HP.out; omega
      obtain ⟨gb, hA, _, _, _, hcl, _⟩ := Own.form (show Own wo base 5 1 A l.length c (bvs l) from hR.2) (by omega)
      subst hA
      obtain ⟨x, hx⟩ : ∃ x, l[p + i]? = some x := ⟨_, List.getElem?_eq_getElem hpi⟩
      have d0 := hcl (p + i) (.int .u8 (x.toNat : Int)) (by simp only [bvs, List.getElem?_map, hx, bv, Option.map_some])
      obtain ⟨j, hj⟩ : ∃ j, j = p + i := ⟨_, rfl⟩
      have ej : IntKind.i64.wrap ((p : Int) + (i : Int)) = (j : Int) := by rw [IntWalk.i64_in _ ⟨by omega, by omega⟩]; omega
      have ej2 : (p : Int) + (i : Int) = (j : Int) := by omega
      rw [← hj] at d0
      have hjl : (j : Int) < (l.length : Int) := by omega
      have hj0 : (0 : Int) ≤ (j : Int) := by omega
      have hor := hov_next hx (show i < 8 by omega)
      have HOR := Lib.hid hor
      have HI := Lib.hid hlt
      generalize hov ((l.drop p).take i) = n0 at *
      clear hR hlt hi hcl hx hj hpi hp hor
      go_wp2_with fail
      go_quiet (fail)
      go_wp2_with fail
      go_roundw
      case rel => exact ⟨i + 1, q + nq, by go_num, by rw [HOR.out], HI.out, by rw [HWO.out, World.drewN_drewN]⟩
      case measure => have := HI.out; simp [intOf]; omega
    · obtain rfl : k = i := by omega
      have hpi : (p : Int) + (k : Int) ≤ 100000000 := by omega
      have HR := Lib.hid hR
      clear hlt hi hp hR
      go_wp2_with fail
      have hon : Only (RK g) w wo := by rw [HWO.out]; exact (Only.refl _ _).drewN q
      go_ret2
      refine ⟨rfl, HR.out.moved ?_ ((Only.refl (RK g) _).set (p := ⟨g, 1, none⟩) (.inl rfl) _), hon.set (p := ⟨g, 1, none⟩) (.inl rfl) _⟩
      have h1 := HR.out.1.put 1 (.int .i64 ((p : Int) + (k : Int)))
      simpa using h1
end Go.Proofs.Ytfeoalimkolebaa
