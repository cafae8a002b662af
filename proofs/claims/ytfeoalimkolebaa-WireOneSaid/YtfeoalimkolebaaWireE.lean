/- Wire: the writers zig and nine walked. -/
import Derived.Test.YtfeoalimkolebaaWireD
namespace Go.Proofs.Ytfeoalimkolebaa
open Go.RowKit
open Wi
theorem wrap_sg {n : Nat} (hn : n < 18446744073709551616) : wrap64 (n : Int) = sg n := by
  unfold wrap64 sg
  split <;> omega
theorem wzig_t (g : Nat) (A : Option Addr) (c : Nat) (L : List UInt8) (n : Nat) (k : Int) (w : World) (h : Wr w g A c L) (hn : n < 18446744073709551616) (hL : L.length ≤ 99999000) :
    Calls Try.prog 35 #[.pointer (some ⟨g, 0, none⟩), .int .u64 (n : Int), .int .i64 k] w fun e w' => e = .returned (.tuple #[]) ∧ Wrote g A (L ++ leb (sign n)) w w' := by
  have hsg := wrap_sg hn
  have HS := Lib.hid (fun W => sign_t n W hn)
  have HL := Lib.hid (wleb_t g A c L (sign n) k w h (sign_lt hn) (by have := leb_len64 (sign_lt hn); rw [List.length_append]; omega))
  clear h hL hn
  go_enter Try.func35, Try.ntmps35
  go_wp2_with fail
  refine (HS.out _).mono ?_
  rintro e w1 ⟨rfl, rfl⟩
  go_wp2_with fail
  refine HL.out.mono ?_
  rintro e w2 ⟨rfl, h2⟩
  have H2 := Lib.hid h2
  clear h2
  go_wp2_with fail
  exact bodyPost_end (v := .tuple #[]) (results_none Try.results35 _ _ _) rfl ⟨rfl, H2.out⟩
set_option maxHeartbeats 1600000 in
theorem wnine_t (g : Nat) (A : Option Addr) (c : Nat) (L : List UInt8) (n : Nat) (k : Int) (w : World) (h : Wr w g A c L) (hn : n < 18446744073709551616) (hL : L.length ≤ 99999000) :
    Calls Try.prog 37 #[.pointer (some ⟨g, 0, none⟩), .int .u64 (n : Int), .int .i64 k] w fun e w' => e = .returned (.tuple #[]) ∧ Wrote g A (L ++ nine 8 (sign n)) w w' := by
  have hsg := wrap_sg hn
  have HS := Lib.hid (fun W => sign_t n W hn)
  have HSL := Lib.hid (sign_lt hn)
  obtain ⟨T, hT⟩ : ∃ T, T = L ++ nine 8 (sign n) := ⟨_, rfl⟩
  have hTl : T.length ≤ 99999100 := by have := nine_len 8 (sign n); rw [hT, List.length_append]; omega
  rw [← hT]
  have H := Lib.hid h
  have HT := Lib.hid hT
  have HTL := Lib.hid hTl
  clear h hT hn hL hTl
  go_enter Try.func37, Try.ntmps37
  go_wp2_with fail
  refine (HS.out _).mono ?_
  rintro e w1 ⟨rfl, rfl⟩
  go_wp2_with fail
  go_loopw [1, 9] (fun u v wr => ∃ (m i : Nat) (S : List UInt8) (A2 : Option Addr) (c2 : Nat), u = .int .u64 (m : Int) ∧ v = .int .i64 (i : Int) ∧ i ≤ 8 ∧ m < 18446744073709551616 ∧ T = S ++ nine (8 - i) m ∧ Wr wr g A2 c2 S ∧ Only (WK g A) w wr ∧ (blockOf A2 = blockOf A ∨ ∃ i, blockOf A2 = some i ∧ w.heap.size ≤ i)) (fun _ v _ => 8 - (intOf v).toNat)
  case atStart => exact ⟨sign n, 0, L, A, c, rfl, rfl, by omega, HSL.out, HT.out, H.out, Only.refl _ _, .inl rfl⟩
  case round =>
    obtain ⟨m, i, S, A2, c2, rfl, rfl, hi, hm, hT, hw, hon, hbl⟩ := hrel
    obtain ⟨wo, rfl⟩ : ∃ wo : World, wo = wr := ⟨_, rfl⟩
    have hSl : S.length ≤ 99999100 := by have := HTL.out; rw [hT, List.length_append] at this; omega
    have c0 : wo.cell? ⟨g, 0, none⟩ = some (.slice A2 S.length c2) := by rw [hw.1.cell]; rfl
    have fr := hw.1.free
    have HW := Lib.hid hw
    have HON := Lib.hid hon
    have HBL := Lib.hid hbl
    have hgl : g < wo.heap.size := hw.1.lt
    by_cases h8 : i < 8
    · have hii : (i : Int) < 8 := by omega
      obtain ⟨j, hj⟩ : ∃ j, 8 - i = j + 1 := ⟨7 - i, by omega⟩
      have hj2 : 8 - (i + 1) = j := by omega
      rw [hj, nine] at hT
      by_cases hlt : m < 128
      · have hd : decide ((m : Int) ≤ 127) = true := by simp; omega
        have hx : IntKind.u8.wrap (m : Int) = ((by8 m).toNat : Int) := by rw [by8_nat (by omega), IntWalk.u8_in _ (by omega)]
        rw [if_pos hlt] at hT
        have HT2 := Lib.hid hT
        clear hT hw hon hbl hlt HT H hj hj2 hi h8 hm
        generalize by8 m = x at *
        go_wp2_with (at_builtin; refine Hid.out ?_)
        have hO2 := Own.alloc (show Own wo g 5 1 A2 S.length c2 (bvs S) from HW.out.2) (.cells #[.int .u8 (x.toNat : Int)] 5)
        refine wpList_app (xs := bvs S) rfl rfl elem_u8 rfl hO2 rfl (byte_new wo x) (bvs_one _) (S.length + 1) rfl (bvs (S ++ [x])) (bvs_append _ _).symm (by unfold maxLen; omega) (by omega) (by have := HW.out.1.lt; simp; omega) ?_
        intro A3 c3 w3 o3 g3 q3
        obtain ⟨hb3, hwr⟩ := wr_step HW.out o3 g3 q3
        have c03 : w3.cell? ⟨g, 0, none⟩ = some (.slice A2 S.length c2) := by rw [hb3.cell]; rfl
        have fr3 := hb3.free
        have hgl3 : g < w3.heap.size := hb3.lt
        have HR := Lib.hid (Wrote.then HON.out HBL.out hwr)
        clear hO2 o3 g3 q3 hb3 hwr c0 fr hgl
        go_wp2_with fail
        refine bodyPost_ret (v := .tuple #[]) (results_none Try.results37 _ _ _) rfl ?_
        exact ⟨rfl, by rw [HT2.out]; exact HR.out⟩
      · have hd : decide ((m : Int) ≤ 127) = false := by simp; omega
        have hx : bits .or .u8 ((m : Int) % 256) 128 = ((by8 (128 + m % 128)).toNat : Int) := or128
        rw [if_neg hlt] at hT
        have HT2 := Lib.hid hT
        have HJ := Lib.hid hj2
        have HI := Lib.hid h8
        have HM := Lib.hid hm
        clear hT hw hon hbl hlt HT H hj hj2 hi h8 hm
        generalize by8 (128 + m % 128) = x at *
        go_wp2_with (at_builtin; refine Hid.out ?_)
        have hO2 := Own.alloc (show Own wo g 5 1 A2 S.length c2 (bvs S) from HW.out.2) (.cells #[.int .u8 (x.toNat : Int)] 5)
        refine wpList_app (xs := bvs S) rfl rfl elem_u8 rfl hO2 rfl (byte_new wo x) (bvs_one _) (S.length + 1) rfl (bvs (S ++ [x])) (bvs_append _ _).symm (by unfold maxLen; omega) (by omega) (by have := HW.out.1.lt; simp; omega) ?_
        intro A3 c3 w3 o3 g3 q3
        obtain ⟨hb3, hwr⟩ := wr_step HW.out o3 g3 q3
        have c03 : w3.cell? ⟨g, 0, none⟩ = some (.slice A2 S.length c2) := by rw [hb3.cell]; rfl
        have fr3 := hb3.free
        have hgl3 : g < w3.heap.size := hb3.lt
        have HR := Lib.hid (Wrote.then HON.out HBL.out hwr)
        clear hO2 o3 g3 q3 hb3 hwr c0 fr hgl
        go_wp2_with fail
        go_roundw
        case rel =>
          obtain ⟨A4, c4, k1, k2, k3⟩ := HR.out
          exact ⟨m / 128, i + 1, S ++ [x], A4, c4, by go_num, by go_num, HI.out, by have := HM.out; omega, by rw [HT2.out, HJ.out]; simp, k1, k2, k3⟩
        case measure => have := HI.out; simp [intOf]; omega
    · obtain rfl : i = 8 := by omega
      have hx : (m : Int) % 256 = ((by8 m).toNat : Int) := by rw [by8_mod]; omega
      rw [show 8 - 8 = 0 from rfl, nine] at hT
      have HT2 := Lib.hid hT
      clear hT hw hon hbl HT H hi h8 hm
      generalize by8 m = x at *
      go_wp2_with (at_builtin; refine Hid.out ?_)
      have hO2 := Own.alloc (show Own wo g 5 1 A2 S.length c2 (bvs S) from HW.out.2) (.cells #[.int .u8 (x.toNat : Int)] 5)
      refine wpList_app (xs := bvs S) rfl rfl elem_u8 rfl hO2 rfl (byte_new wo x) (bvs_one _) (S.length + 1) rfl (bvs (S ++ [x])) (bvs_append _ _).symm (by unfold maxLen; omega) (by omega) (by have := HW.out.1.lt; simp; omega) ?_
      intro A3 c3 w3 o3 g3 q3
      obtain ⟨hb3, hwr⟩ := wr_step HW.out o3 g3 q3
      have c03 : w3.cell? ⟨g, 0, none⟩ = some (.slice A2 S.length c2) := by rw [hb3.cell]; rfl
      have fr3 := hb3.free
      have hgl3 : g < w3.heap.size := hb3.lt
      have HR := Lib.hid (Wrote.then HON.out HBL.out hwr)
      clear hO2 o3 g3 q3 hb3 hwr c0 fr hgl
      go_wp2_with fail
      refine bodyPost_end (v := .tuple #[]) (results_none Try.results37 _ _ _) rfl ?_
      exact ⟨rfl, by rw [HT2.out]; exact HR.out⟩
end Go.Proofs.Ytfeoalimkolebaa
