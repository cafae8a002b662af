/- Wire: the writers walked (leb, zig, nine). -/
import Derived.Test.YtbfhiegbgkkgiaaGreatC16
import Derived.Laws.DeepNot64
namespace Go.Proofs.YtbfhiegbgkkgiaaGreat
open Go.RowKit
open Wi
set_option maxRecDepth 100000 in
theorem elem_u8 : Elem Tryz.prog 24 5 1 1 := elem_of Tryz.underlying24 (z := .int .u8 0) (by kernel_rfl) (by decide) (by decide)
theorem byte_new (w : World) (x : UInt8) : Reads (w.alloc (.cells #[.int .u8 (x.toNat : Int)] 5)) (w.alloc (.cells #[.int .u8 (x.toNat : Int)] 5)).heap.size 1 (some ⟨w.heap.size, 0, none⟩) 1 (bvs [x]) :=
  Reads.lit (newest _ _) rfl rfl
def OwnB (w : World) (base : Nat) (A : Option Addr) (c : Nat) (l : List UInt8) : Prop := Own w base 5 1 A l.length c (bvs l)
theorem OwnB.reads {w : World} {base : Nat} {A : Option Addr} {c : Nat} {l : List UInt8} (h : OwnB w base A c l) : Bts w w.heap.size A l := Own.reads h
/-- Block g is a writer that has written the bytes L. -/
def Wr (w : World) (g : Nat) (A : Option Addr) (c : Nat) (L : List UInt8) : Prop := Blk w g 107 #[.slice A L.length c] ∧ OwnB w g A c L
def WK (g : Nat) (A : Option Addr) (i : Nat) : Prop := i = g ∨ blockOf A = some i
def Wrote (g : Nat) (A : Option Addr) (L : List UInt8) (w w' : World) : Prop := ∃ A' c', Wr w' g A' c' L ∧ Only (WK g A) w w' ∧ (blockOf A' = blockOf A ∨ ∃ i, blockOf A' = some i ∧ w.heap.size ≤ i)
theorem Wrote.refl {w : World} {g : Nat} {A : Option Addr} {c : Nat} {L : List UInt8} (h : Wr w g A c L) : Wrote g A L w w := ⟨A, c, h, Only.refl _ _, .inl rfl⟩
theorem Wrote.then {g : Nat} {A : Option Addr} {L : List UInt8} {w w' w'' : World} {A' : Option Addr} (ho : Only (WK g A) w w') (hl : blockOf A' = blockOf A ∨ ∃ i, blockOf A' = some i ∧ w.heap.size ≤ i) (h : Wrote g A' L w' w'') : Wrote g A L w w'' := by
  obtain ⟨A2, c2, h1, h2, h3⟩ := h
  refine ⟨A2, c2, h1, ho.step h2 (fun i hi => ?_), ?_⟩
  · rcases hi with rfl | hi
    · exact .inl (.inl rfl)
    · rcases hl with hl | ⟨j, hj, hw⟩
      · exact .inl (.inr (hl ▸ hi))
      · rw [hj] at hi
        injection hi with hi
        exact .inr (by omega)
  · rcases h3 with h3 | ⟨j, hj, hw⟩
    · rcases hl with hl | ⟨j, hj, hw⟩
      · exact .inl (h3.trans hl)
      · exact .inr ⟨j, h3.trans hj, hw⟩
    · exact .inr ⟨j, hj, Nat.le_trans ho.size hw⟩
/-- One more byte, appended and stored. -/
theorem wr_step {wo w3 : World} {g c c3 : Nat} {A A3 : Option Addr} {S : List UInt8} {x : UInt8} {cs : Array Value} (h : Wr wo g A c S) (o3 : Own w3 g 5 1 A3 (S.length + 1) c3 (bvs (S ++ [x])))
    (g3 : (wo.alloc (.cells cs 5)).grownBy w3 (blockOf A)) (q3 : blockOf A3 = blockOf A ∨ blockOf A3 = some (wo.alloc (.cells cs 5)).heap.size) :
    Blk w3 g 107 #[.slice A S.length c] ∧ Wrote g A (S ++ [x]) wo (w3.setCell ⟨g, 0, none⟩ (.slice A3 (S.length + 1) c3)) := by
  obtain ⟨hb, ho⟩ := h
  have hO2 := Own.alloc (show Own wo g 5 1 A S.length c (bvs S) from ho) (.cells cs 5)
  have hb3 := (hb.alloc (.cells cs 5)).grown g3 (fun e => Own.ne_blk hO2 (hb.alloc _) (by decide) e.symm)
  have hon3 : Only (WK g A) wo w3 := ((Only.refl (WK g A) wo).alloc _).step (Only.of_grown g3) (fun i hi => .inl (.inr hi))
  have hbn : blockOf A3 ≠ some g := Own.ne_blk o3 hb3 (by decide)
  refine ⟨hb3, A3, c3, ⟨?_, ?_⟩, hon3.set (p := ⟨g, 0, none⟩) (.inl (.inl rfl)) _, q3.imp id (fun e => ⟨_, e, by simp⟩)⟩
  · have := hb3.put 0 (.slice A3 (S.length + 1) c3)
    rw [List.length_append]
    simpa using this
  · have := Own.setOther o3 (p := ⟨g, 0, none⟩) hbn (.slice A3 (S.length + 1) c3)
    unfold OwnB
    rw [List.length_append]
    exact this
set_option maxRecDepth 4000 in
theorem nat_or128 : ∀ a, a < 256 → a ||| 128 = 128 + a % 128 := by decide
theorem or128 {n : Nat} : bits .or .u8 ((n : Int) % 256) 128 = ((by8 (128 + n % 128)).toNat : Int) := by
  rw [show (n : Int) % 256 = ((n % 256 : Nat) : Int) by omega, show (128 : Int) = ((128 : Nat) : Int) from rfl, u8_or_nat _ _ (by omega) (by omega), nat_or128 _ (by omega), by8_nat (by omega)]
  omega
set_option maxRecDepth 100000 in
set_option maxHeartbeats 800000 in
theorem wleb_t (g : Nat) (A : Option Addr) (c : Nat) (L : List UInt8) (n : Nat) (k : Int) (w : World) (h : Wr w g A c L) (hn : n < 18446744073709551616) (hL : (L ++ leb n).length ≤ 100000000) :
    Calls Tryz.prog 108 #[.pointer (some ⟨g, 0, none⟩), .int .u64 (n : Int), .int .i64 k] w fun e w' => e = .returned (.tuple #[]) ∧ Wrote g A (L ++ leb n) w w' := by
  obtain ⟨T, hT⟩ : ∃ T, T = L ++ leb n := ⟨_, rfl⟩
  rw [← hT] at hL ⊢
  have H := Lib.hid h
  have HT := Lib.hid hT
  clear h hT
  go_enter Tryz.func108, Tryz.ntmps108
  go_wp2_with fail
  go_loopw [1] (fun u wr => ∃ (m : Nat) (S : List UInt8) (A2 : Option Addr) (c2 : Nat), u = .int .u64 (m : Int) ∧ m < 18446744073709551616 ∧ T = S ++ leb m ∧ Wr wr g A2 c2 S ∧ Only (WK g A) w wr ∧ (blockOf A2 = blockOf A ∨ ∃ i, blockOf A2 = some i ∧ w.heap.size ≤ i)) (fun u _ => (intOf u).toNat)
  case atStart => exact ⟨n, L, A, c, rfl, hn, HT.out, H.out, Only.refl _ _, .inl rfl⟩
  case round =>
    obtain ⟨m, S, A2, c2, rfl, hm, hT, hw, hon, hbl⟩ := hrel
    obtain ⟨wo, rfl⟩ : ∃ wo : World, wo = wr := ⟨_, rfl⟩
    have hp := leb_pos m
    have hSl : S.length + 1 ≤ 100000000 := by rw [hT, List.length_append] at hL; omega
    have c0 : wo.cell? ⟨g, 0, none⟩ = some (.slice A2 S.length c2) := by rw [hw.1.cell]; rfl
    have fr := hw.1.free
    have HW := Lib.hid hw
    have HON := Lib.hid hon
    have HBL := Lib.hid hbl
    have hgl : g < wo.heap.size := hw.1.lt
    by_cases hlt : m < 128
    · have hd : decide ((127 : Int) < (m : Int)) = false := by simp; omega
      have hx : IntKind.u8.wrap (m : Int) = ((by8 m).toNat : Int) := by rw [by8_nat (by omega), IntWalk.u8_in _ (by omega)]
      rw [leb_last hlt] at hT
      have HT2 := Lib.hid hT
      clear hT hw hon hbl hlt hp HT H hn
      generalize by8 m = x at *
      go_wp2_with (at_builtin; refine Hid.out ?_)
      have hO2 := Own.alloc (show Own wo g 5 1 A2 S.length c2 (bvs S) from HW.out.2) (.cells #[.int .u8 (x.toNat : Int)] 5)
      refine wpList_app (xs := bvs S) rfl rfl elem_u8 rfl hO2 rfl (byte_new wo x) (bvs_one _) (S.length + 1) rfl (bvs (S ++ [x])) (bvs_append _ _).symm (by unfold maxLen; omega) (by omega) (by have := HW.out.1.lt; simp; omega) ?_
      intro A3 c3 w3 o3 g3 q3
      obtain ⟨hb3, hwr⟩ := wr_step HW.out o3 g3 q3
      have c03 : w3.cell? ⟨g, 0, none⟩ = some (.slice A2 S.length c2) := by rw [hb3.cell]; rfl
      have fr3 := hb3.free
      have hgl3 : g < w3.heap.size := hb3.lt
      have HR := Lib.hid (Wrote.then HON.out HBL.out hwr)
      clear hO2 o3 g3 q3 hb3 hwr c0 fr hgl
      go_wp2_with fail
      exact bodyPost_end (v := .tuple #[]) (results_none Tryz.results108 _ _ _) rfl ⟨rfl, by rw [HT2.out]; exact HR.out⟩
    · have hd : decide ((127 : Int) < (m : Int)) = true := by simp; omega
      have hx : bits .or .u8 ((m : Int) % 256) 128 = ((by8 (128 + m % 128)).toNat : Int) := or128
      rw [leb_more (by omega)] at hT
      have HT2 := Lib.hid hT
      have HLT := Lib.hid hlt
      have HM := Lib.hid hm
      clear hT hw hon hbl hlt hp HT H hn hm
      generalize by8 (128 + m % 128) = x at *
      go_wp2_with (at_builtin; refine Hid.out ?_)
      have hO2 := Own.alloc (show Own wo g 5 1 A2 S.length c2 (bvs S) from HW.out.2) (.cells #[.int .u8 (x.toNat : Int)] 5)
      refine wpList_app (xs := bvs S) rfl rfl elem_u8 rfl hO2 rfl (byte_new wo x) (bvs_one _) (S.length + 1) rfl (bvs (S ++ [x])) (bvs_append _ _).symm (by unfold maxLen; omega) (by omega) (by have := HW.out.1.lt; simp; omega) ?_
      intro A3 c3 w3 o3 g3 q3
      obtain ⟨hb3, hwr⟩ := wr_step HW.out o3 g3 q3
      have c03 : w3.cell? ⟨g, 0, none⟩ = some (.slice A2 S.length c2) := by rw [hb3.cell]; rfl
      have fr3 := hb3.free
      have hgl3 : g < w3.heap.size := hb3.lt
      have HR := Lib.hid (Wrote.then HON.out HBL.out hwr)
      clear hO2 o3 g3 q3 hb3 hwr c0 fr hgl
      go_wp2_with fail
      go_roundw
      case rel =>
        obtain ⟨A4, c4, k1, k2, k3⟩ := HR.out
        exact ⟨m / 128, S ++ [x], A4, c4, by go_num, by have := HM.out; omega, by rw [HT2.out]; simp, k1, k2, k3⟩
      case measure => have := HLT.out; simp [intOf]; omega
end Go.Proofs.YtbfhiegbgkkgiaaGreat
/- Wire: signs walked. -/

namespace Go.Proofs.YtbfhiegbgkkgiaaGreat
open Go.RowKit
open Wi
/-- The number as one with a sign. -/
def sg (n : Nat) : Int := if n < 9223372036854775808 then (n : Int) else (n : Int) - 18446744073709551616
theorem xor_ones {a : Nat} (h : a < 18446744073709551616) : a ^^^ 18446744073709551615 = 18446744073709551615 - a := by
  have := congrArg BitVec.toNat (BitVec.xor_allOnes (x := BitVec.ofNat 64 a))
  rw [BitVec.toNat_xor, BitVec.toNat_allOnes, BitVec.toNat_not, BitVec.toNat_ofNat, Nat.mod_eq_of_lt (show a < 2 ^ 64 from h)] at this
  exact this
theorem xor_i64_comm (a b : Int) : bits .xor .i64 a b = bits .xor .i64 b a := by
  show IntKind.i64.wrap ((BitVec.ofInt 64 a ^^^ BitVec.ofInt 64 b).toNat : Int) = IntKind.i64.wrap ((BitVec.ofInt 64 b ^^^ BitVec.ofInt 64 a).toNat : Int)
  rw [BitVec.xor_comm]
theorem xor_i64_zero (a : Nat) (h : a < 9223372036854775808) : bits .xor .i64 (a : Int) 0 = (a : Int) := by
  show IntKind.i64.wrap ((BitVec.ofInt 64 (a : Int) ^^^ BitVec.ofInt 64 0).toNat : Int) = _
  rw [show BitVec.ofInt 64 0 = 0#64 from rfl, BitVec.xor_zero, ofInt_u64 a (by omega)]
  exact IntWalk.i64_in _ ⟨by omega, by omega⟩
set_option maxRecDepth 100000 in
theorem sign_t (n : Nat) (w : World) (hn : n < 18446744073709551616) :
    Calls Tryz.prog 124 #[.int .i64 (sg n)] w fun e w' => e = .returned (.int .u64 (sign n : Nat)) ∧ w = w' := by
  unfold sg sign
  split
  · have hx : bits .xor .u64 ((n : Int) * 2) ((n : Int) / 9223372036854775808) = ((2 * n : Nat) : Int) := by
      rw [show (n : Int) * 2 = ((2 * n : Nat) : Int) by omega, show (n : Int) / 9223372036854775808 = ((0 : Nat) : Int) by omega, u64_xor_nat _ _ (by omega) (by omega), Nat.xor_zero]
    have hx2 := Lib.hid hx
    clear hx
    go_enter Tryz.func124, Tryz.ntmps124
    go_wp2_with fail
    go_ret
    exact ⟨congrArg (fun z => Ending.returned (.int .u64 z)) hx2.out, rfl⟩
  · have hx : bits .xor .u64 (IntKind.u64.wrap (IntKind.u64.wrap ((n : Int) - 18446744073709551616) * 2)) (IntKind.u64.wrap (((n : Int) - 18446744073709551616) / 9223372036854775808)) = ((2 * (18446744073709551615 - n) + 1 : Nat) : Int) := by
      rw [IntKind.wrap_u64, IntKind.wrap_u64, IntKind.wrap_u64, show ((n : Int) - 18446744073709551616) % 18446744073709551616 * 2 % 18446744073709551616 = ((2 * n - 18446744073709551616 : Nat) : Int) by omega,
        show ((n : Int) - 18446744073709551616) / 9223372036854775808 % 18446744073709551616 = ((18446744073709551615 : Nat) : Int) by omega, u64_xor_nat _ _ (by omega) (by omega), xor_ones (by omega)]
      omega
    have hx2 := Lib.hid hx
    clear hx
    go_enter Tryz.func124, Tryz.ntmps124
    go_wp2_with fail
    go_ret
    exact ⟨congrArg (fun z => Ending.returned (.int .u64 z)) hx2.out, rfl⟩
theorem and1 (n : Nat) (hn : n < 18446744073709551616) : bits .and .u64 (n : Int) 1 = ((n % 2 : Nat) : Int) := by
  rw [show (1 : Int) = ((1 : Nat) : Int) from rfl, u64_and_nat _ _ hn (by omega), nat_mask1]
set_option maxRecDepth 100000 in
theorem unsign_t (n : Nat) (w : World) (hn : n < 18446744073709551616) :
    Calls Tryz.prog 125 #[.int .u64 (n : Int)] w fun e w' => e = .returned (.int .i64 (sg (unsign n))) ∧ w = w' := by
  have hx : bits .xor .i64 ((n : Int) / 2) (wrap64 (-wrap64 (bits .and .u64 (n : Int) 1))) = sg (unsign n) := by
    rw [and1 n hn]
    unfold unsign
    split
    · rename_i h
      rw [h, show wrap64 (-wrap64 ((0 : Nat) : Int)) = 0 by unfold wrap64; omega, show (n : Int) / 2 = ((n / 2 : Nat) : Int) by omega, xor_i64_zero _ (by omega)]
      unfold sg
      rw [if_pos (by omega)]
    · rename_i h
      rw [show n % 2 = 1 by omega, show wrap64 (-wrap64 ((1 : Nat) : Int)) = -1 by unfold wrap64; omega, show (n : Int) / 2 = ((n / 2 : Nat) : Int) by omega, xor_i64_comm, i64_not _ (by omega)]
      unfold sg
      rw [if_neg (by omega)]
      omega
  have hx2 := Lib.hid hx
  clear hx
  go_enter Tryz.func125, Tryz.ntmps125
  go_wp2_with fail
  go_ret
  exact ⟨congrArg (fun z => Ending.returned (.int .i64 z)) hx2.out, rfl⟩
set_option maxRecDepth 100000 in
theorem rsign_t (n : Nat) (w : World) (hn : n < 18446744073709551616) :
    Calls Tryz.prog 90 #[.int .u64 (n : Int)] w fun e w' => e = .returned (.int .u64 (sign n : Nat)) ∧ w = w' := by
  unfold sign
  split
  · have hd : (n : Int) < 9223372036854775808 := by omega
    go_enter Tryz.func90, Tryz.ntmps90
    go_wp2_with fail
    go_ret
    exact ⟨by go_num, rfl⟩
  · have hd : ¬ (n : Int) < 9223372036854775808 := by omega
    go_enter Tryz.func90, Tryz.ntmps90
    go_wp2_with fail
    go_ret
    exact ⟨by go_num, rfl⟩
end Go.Proofs.YtbfhiegbgkkgiaaGreat
/- Wire: the writers zig and nine walked. -/

namespace Go.Proofs.YtbfhiegbgkkgiaaGreat
open Go.RowKit
open Wi
theorem wrap_sg {n : Nat} (hn : n < 18446744073709551616) : wrap64 (n : Int) = sg n := by
  unfold wrap64 sg
  split <;> omega
set_option maxRecDepth 100000 in
theorem wzig_t (g : Nat) (A : Option Addr) (c : Nat) (L : List UInt8) (n : Nat) (k : Int) (w : World) (h : Wr w g A c L) (hn : n < 18446744073709551616) (hL : L.length ≤ 99999000) :
    Calls Tryz.prog 110 #[.pointer (some ⟨g, 0, none⟩), .int .u64 (n : Int), .int .i64 k] w fun e w' => e = .returned (.tuple #[]) ∧ Wrote g A (L ++ leb (sign n)) w w' := by
  have hsg := wrap_sg hn
  have HS := Lib.hid (fun W => sign_t n W hn)
  have HL := Lib.hid (wleb_t g A c L (sign n) k w h (sign_lt hn) (by have := leb_len64 (sign_lt hn); rw [List.length_append]; omega))
  clear h hL hn
  go_enter Tryz.func110, Tryz.ntmps110
  go_wp2_with fail
  refine (HS.out _).mono ?_
  rintro e w1 ⟨rfl, rfl⟩
  go_wp2_with fail
  refine HL.out.mono ?_
  rintro e w2 ⟨rfl, h2⟩
  have H2 := Lib.hid h2
  clear h2
  go_wp2_with fail
  exact bodyPost_end (v := .tuple #[]) (results_none Tryz.results110 _ _ _) rfl ⟨rfl, H2.out⟩
set_option maxRecDepth 100000 in
set_option maxHeartbeats 1600000 in
theorem wnine_t (g : Nat) (A : Option Addr) (c : Nat) (L : List UInt8) (n : Nat) (k : Int) (w : World) (h : Wr w g A c L) (hn : n < 18446744073709551616) (hL : L.length ≤ 99999000) :
    Calls Tryz.prog 112 #[.pointer (some ⟨g, 0, none⟩), .int .u64 (n : Int), .int .i64 k] w fun e w' => e = .returned (.tuple #[]) ∧ Wrote g A (L ++ nine 8 (sign n)) w w' := by
  have hsg := wrap_sg hn
  have HS := Lib.hid (fun W => sign_t n W hn)
  have HSL := Lib.hid (sign_lt hn)
  obtain ⟨T, hT⟩ : ∃ T, T = L ++ nine 8 (sign n) := ⟨_, rfl⟩
  have hTl : T.length ≤ 99999100 := by have := nine_len 8 (sign n); rw [hT, List.length_append]; omega
  rw [← hT]
  have H := Lib.hid h
  have HT := Lib.hid hT
  have HTL := Lib.hid hTl
  clear h hT hn hL hTl
  go_enter Tryz.func112, Tryz.ntmps112
  go_wp2_with fail
  refine (HS.out _).mono ?_
  rintro e w1 ⟨rfl, rfl⟩
  go_wp2_with fail
  go_loopw [1, 9] (fun u v wr => ∃ (m i : Nat) (S : List UInt8) (A2 : Option Addr) (c2 : Nat), u = .int .u64 (m : Int) ∧ v = .int .i64 (i : Int) ∧ i ≤ 8 ∧ m < 18446744073709551616 ∧ T = S ++ nine (8 - i) m ∧ Wr wr g A2 c2 S ∧ Only (WK g A) w wr ∧ (blockOf A2 = blockOf A ∨ ∃ i, blockOf A2 = some i ∧ w.heap.size ≤ i)) (fun _ v _ => 8 - (intOf v).toNat)
  case atStart => exact ⟨sign n, 0, L, A, c, rfl, rfl, by omega, HSL.out, HT.out, H.out, Only.refl _ _, .inl rfl⟩
  case round =>
    obtain ⟨m, i, S, A2, c2, rfl, rfl, hi, hm, hT, hw, hon, hbl⟩ := hrel
    obtain ⟨wo, rfl⟩ : ∃ wo : World, wo = wr := ⟨_, rfl⟩
    have hSl : S.length ≤ 99999100 := by have := HTL.out; rw [hT, List.length_append] at this; omega
    have c0 : wo.cell? ⟨g, 0, none⟩ = some (.slice A2 S.length c2) := by rw [hw.1.cell]; rfl
    have fr := hw.1.free
    have HW := Lib.hid hw
    have HON := Lib.hid hon
    have HBL := Lib.hid hbl
    have hgl : g < wo.heap.size := hw.1.lt
    by_cases h8 : i < 8
    · have hii : (i : Int) < 8 := by omega
      obtain ⟨j, hj⟩ : ∃ j, 8 - i = j + 1 := ⟨7 - i, by omega⟩
      have hj2 : 8 - (i + 1) = j := by omega
      rw [hj, nine] at hT
      by_cases hlt : m < 128
      · have hd : decide ((m : Int) ≤ 127) = true := by simp; omega
        have hx : IntKind.u8.wrap (m : Int) = ((by8 m).toNat : Int) := by rw [by8_nat (by omega), IntWalk.u8_in _ (by omega)]
        rw [if_pos hlt] at hT
        have HT2 := Lib.hid hT
        clear hT hw hon hbl hlt HT H hj hj2 hi h8 hm
        generalize by8 m = x at *
        go_wp2_with (at_builtin; refine Hid.out ?_)
        have hO2 := Own.alloc (show Own wo g 5 1 A2 S.length c2 (bvs S) from HW.out.2) (.cells #[.int .u8 (x.toNat : Int)] 5)
        refine wpList_app (xs := bvs S) rfl rfl elem_u8 rfl hO2 rfl (byte_new wo x) (bvs_one _) (S.length + 1) rfl (bvs (S ++ [x])) (bvs_append _ _).symm (by unfold maxLen; omega) (by omega) (by have := HW.out.1.lt; simp; omega) ?_
        intro A3 c3 w3 o3 g3 q3
        obtain ⟨hb3, hwr⟩ := wr_step HW.out o3 g3 q3
        have c03 : w3.cell? ⟨g, 0, none⟩ = some (.slice A2 S.length c2) := by rw [hb3.cell]; rfl
        have fr3 := hb3.free
        have hgl3 : g < w3.heap.size := hb3.lt
        have HR := Lib.hid (Wrote.then HON.out HBL.out hwr)
        clear hO2 o3 g3 q3 hb3 hwr c0 fr hgl
        go_wp2_with fail
        refine bodyPost_ret (v := .tuple #[]) (results_none Tryz.results112 _ _ _) rfl ?_
        exact ⟨rfl, by rw [HT2.out]; exact HR.out⟩
      · have hd : decide ((m : Int) ≤ 127) = false := by simp; omega
        have hx : bits .or .u8 ((m : Int) % 256) 128 = ((by8 (128 + m % 128)).toNat : Int) := or128
        rw [if_neg hlt] at hT
        have HT2 := Lib.hid hT
        have HJ := Lib.hid hj2
        have HI := Lib.hid h8
        have HM := Lib.hid hm
        clear hT hw hon hbl hlt HT H hj hj2 hi h8 hm
        generalize by8 (128 + m % 128) = x at *
        go_wp2_with (at_builtin; refine Hid.out ?_)
        have hO2 := Own.alloc (show Own wo g 5 1 A2 S.length c2 (bvs S) from HW.out.2) (.cells #[.int .u8 (x.toNat : Int)] 5)
        refine wpList_app (xs := bvs S) rfl rfl elem_u8 rfl hO2 rfl (byte_new wo x) (bvs_one _) (S.length + 1) rfl (bvs (S ++ [x])) (bvs_append _ _).symm (by unfold maxLen; omega) (by omega) (by have := HW.out.1.lt; simp; omega) ?_
        intro A3 c3 w3 o3 g3 q3
        obtain ⟨hb3, hwr⟩ := wr_step HW.out o3 g3 q3
        have c03 : w3.cell? ⟨g, 0, none⟩ = some (.slice A2 S.length c2) := by rw [hb3.cell]; rfl
        have fr3 := hb3.free
        have hgl3 : g < w3.heap.size := hb3.lt
        have HR := Lib.hid (Wrote.then HON.out HBL.out hwr)
        clear hO2 o3 g3 q3 hb3 hwr c0 fr hgl
        go_wp2_with fail
        go_roundw
        case rel =>
          obtain ⟨A4, c4, k1, k2, k3⟩ := HR.out
          exact ⟨m / 128, i + 1, S ++ [x], A4, c4, by go_num, by go_num, HI.out, by have := HM.out; omega, by rw [HT2.out, HJ.out]; simp, k1, k2, k3⟩
        case measure => have := HI.out; simp [intOf]; omega
    · obtain rfl : i = 8 := by omega
      have hx : (m : Int) % 256 = ((by8 m).toNat : Int) := by rw [by8_mod]; omega
      rw [show 8 - 8 = 0 from rfl, nine] at hT
      have HT2 := Lib.hid hT
      clear hT hw hon hbl HT H hi h8 hm
      generalize by8 m = x at *
      go_wp2_with (at_builtin; refine Hid.out ?_)
      have hO2 := Own.alloc (show Own wo g 5 1 A2 S.length c2 (bvs S) from HW.out.2) (.cells #[.int .u8 (x.toNat : Int)] 5)
      refine wpList_app (xs := bvs S) rfl rfl elem_u8 rfl hO2 rfl (byte_new wo x) (bvs_one _) (S.length + 1) rfl (bvs (S ++ [x])) (bvs_append _ _).symm (by unfold maxLen; omega) (by omega) (by have := HW.out.1.lt; simp; omega) ?_
      intro A3 c3 w3 o3 g3 q3
      obtain ⟨hb3, hwr⟩ := wr_step HW.out o3 g3 q3
      have c03 : w3.cell? ⟨g, 0, none⟩ = some (.slice A2 S.length c2) := by rw [hb3.cell]; rfl
      have fr3 := hb3.free
      have hgl3 : g < w3.heap.size := hb3.lt
      have HR := Lib.hid (Wrote.then HON.out HBL.out hwr)
      clear hO2 o3 g3 q3 hb3 hwr c0 fr hgl
      go_wp2_with fail
      refine bodyPost_end (v := .tuple #[]) (results_none Tryz.results112 _ _ _) rfl ?_
      exact ⟨rfl, by rw [HT2.out]; exact HR.out⟩
end Go.Proofs.YtbfhiegbgkkgiaaGreat
/- Wire: the writer low walked. -/

namespace Go.Proofs.YtbfhiegbgkkgiaaGreat
open Go.RowKit
open Wi
theorem low_get : ∀ (k n i : Nat), i < k → (low k n)[i]? = some (by8 (n / 256 ^ i))
  | 0, _, _, h => absurd h (Nat.not_lt_zero _)
  | k + 1, n, 0, _ => by
    simp only [low, List.getElem?_cons_zero, Nat.pow_zero, Nat.div_one]
    congr 1
    refine UInt8.toNat_inj.1 ?_
    rw [by8_mod, by8_mod, Nat.mod_mod]
  | k + 1, n, i + 1, h => by
    rw [low, List.getElem?_cons_succ, low_get k (n / 256) i (by omega), Nat.div_div_eq_div_mul, Nat.pow_succ, Nat.mul_comm]
theorem shr8 (n i : Nat) (hi : i < 8) : Op.shift .shr .u64 (n : Int) .i64 (IntKind.i64.wrap (8 * (i : Int))) = pure (.int .u64 ((n / 256 ^ i : Nat) : Int)) := by
  rw [IntWalk.i64_in (8 * (i : Int)) ⟨by omega, by omega⟩, shift_shr_any _ _ _ _ (by omega)]
  have e1 : min (8 * (i : Int)).toNat IntKind.u64.bits = 8 * i := by
    have : IntKind.u64.bits = 64 := rfl
    omega
  rw [e1, show (256 : Nat) = 2 ^ 8 from rfl, ← Nat.pow_mul, Int.natCast_ediv, Int.natCast_pow]
  rfl
set_option maxRecDepth 100000 in
set_option maxHeartbeats 1600000 in
theorem wlow_t (g : Nat) (A : Option Addr) (c : Nat) (L : List UInt8) (n k : Nat) (w : World) (h : Wr w g A c L) (hn : n < 18446744073709551616) (hk : k ≤ 8) (hL : L.length ≤ 99999000) :
    Calls Tryz.prog 104 #[.pointer (some ⟨g, 0, none⟩), .int .u64 (n : Int), .int .i64 (k : Int)] w fun e w' => e = .returned (.tuple #[]) ∧ Wrote g A (L ++ low k n) w w' := by
  have hkk : (k : Int) ≤ 8 := by omega
  have hni : (n : Int) < 18446744073709551616 := by omega
  have H := Lib.hid h
  clear h hn
  go_enter Tryz.func104, Tryz.ntmps104
  go_wp2_with fail
  go_loopw [8] (fun v wr => ∃ (i : Nat) (A2 : Option Addr) (c2 : Nat), v = .int .i64 (i : Int) ∧ i ≤ k ∧ Wr wr g A2 c2 (L ++ (low k n).take i) ∧ Only (WK g A) w wr ∧ (blockOf A2 = blockOf A ∨ ∃ i, blockOf A2 = some i ∧ w.heap.size ≤ i)) (fun v _ => k - (intOf v).toNat)
  case atStart => exact ⟨0, A, c, rfl, Nat.zero_le _, by rw [List.take_zero, List.append_nil]; exact H.out, Only.refl _ _, .inl rfl⟩
  case round =>
    obtain ⟨i, A2, c2, rfl, hi, hw, hon, hbl⟩ := hrel
    obtain ⟨wo, rfl⟩ : ∃ wo : World, wo = wr := ⟨_, rfl⟩
    by_cases hlt : i < k
    · have hii : (i : Int) < (k : Int) := by omega
      have hge : ¬ (8 * (i : Int)) < 0 := by omega
      have hT : (L ++ (low k n).take i) ++ [by8 (n / 256 ^ i)] = L ++ (low k n).take (i + 1) := by
        rw [List.take_add_one, low_get k n i hlt, List.append_assoc]
        rfl
      have hsl : (L ++ (low k n).take i).length ≤ 99999008 := by rw [List.length_append, List.length_take, low_len]; omega
      generalize L ++ (low k n).take i = S at *
      have hsh := shr8 n i (by omega)
      have hx : IntKind.u8.wrap ((n / 256 ^ i : Nat) : Int) = ((by8 (n / 256 ^ i)).toNat : Int) := by
        rw [by8_mod]
        simp [IntKind.wrap, IntKind.bits, IntKind.signed]
      have hx2 : ((n / 256 ^ i : Nat) : Int) % 256 = ((by8 (n / 256 ^ i)).toNat : Int) := by rw [by8_mod]; omega
      have HT2 := Lib.hid hT
      have HI := Lib.hid hlt
      have c0 : wo.cell? ⟨g, 0, none⟩ = some (.slice A2 S.length c2) := by rw [hw.1.cell]; rfl
      have fr := hw.1.free
      have HW := Lib.hid hw
      have HON := Lib.hid hon
      have HBL := Lib.hid hbl
      have hgl : g < wo.heap.size := hw.1.lt
      clear hT hw hon hbl hlt H hi
      generalize by8 (n / 256 ^ i) = x at *
      generalize n / 256 ^ i = m at *
      go_wp2_with fail
      refine wp_region_noPanic ?_
      refine wp_region_T (S := (fun w' => w'.cell? ⟨g, 0, none⟩ = some (.slice A2 S.length c2))) (L := 14) (by kernel_rfl) (by simpa using c0) (fun hHeld => ?_)
      refine wpAnyT_take (i := 0) (oi := ?_) (v := ?_) ?_ ?_ ?_ ?_ ?_ ?_ ?_ ?_ ?_
      rotate_left 2
      · simp only [List.getElem?_toArray, List.getElem?_cons_zero]; rfl
      · kernel_rfl
      · kernel_rfl
      · kernel_rfl
      · kernel_rfl
      · exact fun _ _ _ h => h
      · exact Or.inl ⟨by kernel_rfl, by intro w hSw; (try dsimp only at hSw); go_simp; try with_reducible rfl⟩
      · assumption
      try go_simp
      refine wpAnyT_take (i := 1) (oi := ?_) (v := ?_) ?_ ?_ ?_ ?_ ?_ ?_ ?_ ?_ ?_
      rotate_left 2
      · simp only [List.getElem?_toArray, List.getElem?_cons_succ, List.getElem?_cons_zero]; rfl
      · kernel_rfl
      · kernel_rfl
      · kernel_rfl
      · kernel_rfl
      · exact fun _ _ _ h => h
      · exact Or.inl ⟨by kernel_rfl, by intro w hSw; (try dsimp only at hSw); go_simp; try with_reducible rfl⟩
      · assumption
      try go_simp
      refine wpAnyT_take (i := 2) (oi := ?_) (v := ?_) ?_ ?_ ?_ ?_ ?_ ?_ ?_ ?_ ?_
      rotate_left 2
      · simp only [List.getElem?_toArray, List.getElem?_cons_succ, List.getElem?_cons_zero]; rfl
      · kernel_rfl
      · kernel_rfl
      · kernel_rfl
      · kernel_rfl
      · exact fun _ _ _ h => h
      · exact Or.inl ⟨by kernel_rfl, by intro w hSw; (try dsimp only at hSw); go_simp; try with_reducible rfl⟩
      · assumption
      try go_simp
      refine wpAnyT_take (i := 3) (oi := ?_) (v := ?_) ?_ ?_ ?_ ?_ ?_ ?_ ?_ ?_ ?_
      rotate_left 2
      · simp only [List.getElem?_toArray, List.getElem?_cons_succ, List.getElem?_cons_zero]; rfl
      · kernel_rfl
      · kernel_rfl
      · kernel_rfl
      · kernel_rfl
      · exact fun _ _ _ h => h
      · exact Or.inl ⟨by kernel_rfl, by intro w hSw; (try dsimp only at hSw); go_simp; try with_reducible rfl⟩
      · assumption
      try go_simp
      refine wpAnyT_take (i := 4) (oi := ?_) (v := ?_) ?_ ?_ ?_ ?_ ?_ ?_ ?_ ?_ ?_
      rotate_left 2
      · simp only [List.getElem?_toArray, List.getElem?_cons_succ, List.getElem?_cons_zero]; rfl
      · kernel_rfl
      · kernel_rfl
      · kernel_rfl
      · kernel_rfl
      · exact fun _ _ _ h => h
      · exact Or.inl ⟨by kernel_rfl, by intro w hSw; (try dsimp only at hSw); go_simp; try with_reducible rfl⟩
      · assumption
      try go_simp
      refine wpAnyT_take (i := 5) (oi := ?_) (v := ?_) ?_ ?_ ?_ ?_ ?_ ?_ ?_ ?_ ?_
      rotate_left 2
      · simp only [List.getElem?_toArray, List.getElem?_cons_succ, List.getElem?_cons_zero]; rfl
      · kernel_rfl
      · kernel_rfl
      · kernel_rfl
      · kernel_rfl
      · exact fun _ _ _ h => h
      · exact Or.inl ⟨by kernel_rfl, by intro w hSw; (try dsimp only at hSw); go_simp; try with_reducible rfl⟩
      · assumption
      try go_simp
      refine wpAnyT_take (i := 6) (oi := ?_) (v := ?_) ?_ ?_ ?_ ?_ ?_ ?_ ?_ ?_ ?_
      rotate_left 2
      · simp only [List.getElem?_toArray, List.getElem?_cons_succ, List.getElem?_cons_zero]; rfl
      · kernel_rfl
      · kernel_rfl
      · kernel_rfl
      · kernel_rfl
      · exact fun _ _ _ h => h
      · exact Or.inl ⟨by kernel_rfl, by intro w hSw; (try dsimp only at hSw); go_simp; try with_reducible rfl⟩
      · assumption
      try go_simp
      refine wpAnyT_take (i := 7) (oi := ?_) (v := ?_) ?_ ?_ ?_ ?_ ?_ ?_ ?_ ?_ ?_
      rotate_left 2
      · simp only [List.getElem?_toArray, List.getElem?_cons_succ, List.getElem?_cons_zero]; rfl
      · kernel_rfl
      · kernel_rfl
      · kernel_rfl
      · kernel_rfl
      · exact fun _ _ _ h => h
      · exact Or.inl ⟨by kernel_rfl, by intro w hSw; (try dsimp only at hSw); go_simp; try with_reducible rfl⟩
      · assumption
      try go_simp
      refine wpAnyT_take (i := 8) (oi := ?_) (v := ?_) ?_ ?_ ?_ ?_ ?_ ?_ ?_ ?_ ?_
      rotate_left 2
      · simp only [List.getElem?_toArray, List.getElem?_cons_succ, List.getElem?_cons_zero]; rfl
      · kernel_rfl
      · kernel_rfl
      · kernel_rfl
      · kernel_rfl
      · exact fun _ _ _ h => h
      · exact Or.inl ⟨by kernel_rfl, by intro w hSw; (try dsimp only at hSw); go_simp; try with_reducible rfl⟩
      · assumption
      try go_simp
      refine wpAnyT_take (i := 9) (oi := ?_) (v := ?_) ?_ ?_ ?_ ?_ ?_ ?_ ?_ ?_ ?_
      rotate_left 2
      · simp only [List.getElem?_toArray, List.getElem?_cons_succ, List.getElem?_cons_zero]; rfl
      · kernel_rfl
      · kernel_rfl
      · kernel_rfl
      · kernel_rfl
      · exact fun _ _ _ h => h
      · exact Or.inl ⟨by kernel_rfl, by intro w hSw; (try dsimp only at hSw); go_simp; try with_reducible rfl⟩
      · assumption
      try go_simp
      refine wpAnyT_one (i := 10) (o := ?_) ?_ ?_ ?_
      rotate_left 1
      · simp only [List.getElem?_toArray, List.getElem?_cons_succ, List.getElem?_cons_zero]; rfl
      · kernel_rfl
      intro K hK
      go_simp
      refine hK.out _ _ ?_ (fun hHeld => ?_)
      · exact fun _ => by simpa using (World.cell?_alloc_lt wo _ ⟨g, 0, none⟩ hgl).trans c0
      clear hK K
      replace hHeld := hHeld (by decide)
      try go_simp
      refine wpAnyT_one (i := 11) (o := ?_) ?_ ?_ ?_
      rotate_left 1
      · simp only [List.getElem?_toArray, List.getElem?_cons_succ, List.getElem?_cons_zero]; rfl
      · kernel_rfl
      intro K hK
      refine step_app (s := .tmp 15) (x := .tmp 21) (t := 24) (base := g) (A := A2) (n := S.length) (c := c2) (xs := bvs S) (B := (wo.alloc (.cells #[.int .u8 (x.toNat : Int)] 5)).heap.size) (D := some ⟨wo.heap.size, 0, none⟩) (m := 1) (c2 := 1) (news := bvs [x]) (by rfl) (by rfl) elem_u8 (by rfl) (Own.alloc (show Own wo.drew g 5 1 A2 S.length c2 (bvs S) from HW.out.2) (.cells #[.int .u8 (x.toNat : Int)] 5)) (by rfl) (byte_new wo.drew x) (bvs_one _) (S.length + 1) rfl (bvs (S ++ [x])) (bvs_append _ _).symm (by unfold maxLen; omega) (by omega) (by have := HW.out.1.lt; simp; omega) ?_
      intro A3 c3 w3 o3 g3 q3
      obtain ⟨hb3, hwr⟩ := wr_step (wo := wo.drew) (show Wr wo.drew g A2 c2 S from ⟨HW.out.1.drew, HW.out.2⟩) o3 g3 q3
      have c03 : w3.cell? ⟨g, 0, none⟩ = some (.slice A2 S.length c2) := by rw [hb3.cell]; rfl
      have fr3 : w3.frozen? ⟨g, 0, none⟩ = false := hb3.free 0
      have hgl3 : g < w3.heap.size := hb3.lt
      have HR := Lib.hid (Wrote.then (HON.out.drew) HBL.out hwr)
      clear o3 g3 q3 hb3 hwr c0 fr hgl
      refine hK.out _ _ ?_ (fun hHeld => ?_)
      · exact fun _ => c03
      clear hK K
      replace hHeld := hHeld (by decide)
      try go_simp
      refine wpAnyT_take (i := 12) (oi := ?_) (v := ?_) ?_ ?_ ?_ ?_ ?_ ?_ ?_ ?_ ?_
      rotate_left 2
      · simp only [List.getElem?_toArray, List.getElem?_cons_succ, List.getElem?_cons_zero]; rfl
      · kernel_rfl
      · kernel_rfl
      · kernel_rfl
      · kernel_rfl
      · exact fun _ _ _ h => h
      · exact Or.inl ⟨by kernel_rfl, by intro w hSw; (try dsimp only at hSw); go_simp; try with_reducible rfl⟩
      · assumption
      try go_simp
      refine wpAnyT_take (i := 13) (oi := ?_) (v := ?_) ?_ ?_ ?_ ?_ ?_ ?_ ?_ ?_ ?_
      rotate_left 2
      · simp only [List.getElem?_toArray, List.getElem?_cons_succ, List.getElem?_cons_zero]; rfl
      · kernel_rfl
      · kernel_rfl
      · kernel_rfl
      · kernel_rfl
      · exact fun _ _ _ h => h
      · exact Or.inl ⟨by kernel_rfl, by intro w hSw; (try dsimp only at hSw); go_simp; try with_reducible rfl⟩
      · assumption
      try go_simp
      refine wpAnyT_one (i := 14) (o := ?_) ?_ ?_ ?_
      rotate_left 1
      · simp only [List.getElem?_toArray, List.getElem?_cons_succ, List.getElem?_cons_zero]; rfl
      · kernel_rfl
      intro K hK
      go_simp
      refine hK.out _ _ ?_ (fun hHeld => ?_)
      · exact fun h => absurd rfl h
      clear hK K
      try go_simp
      refine wpAnyT_done (by kernel_rfl) ?_ _
      refine NoPanic.normal ?_
      go_wp2_with fail
      go_roundw
      case rel =>
        obtain ⟨A4, c4, k1, k2, k3⟩ := HR.out
        exact ⟨i + 1, A4, c4, by go_num, HI.out, by rw [← HT2.out]; exact k1, k2, k3⟩
      case measure => have := HI.out; simp [intOf]; omega
    · obtain rfl : k = i := by omega
      have e : (low k n).take k = low k n := List.take_of_length_le (by rw [low_len]; omega)
      rw [e] at hw
      clear hlt hi
      go_wp2_with fail
      exact bodyPost_end (v := .tuple #[]) (results_none Tryz.results104 _ _ _) rfl ⟨rfl, A2, c2, hw, hon, hbl⟩
end Go.Proofs.YtbfhiegbgkkgiaaGreat
/- Wire: the writer high walked. -/

namespace Go.Proofs.YtbfhiegbgkkgiaaGreat
open Go.RowKit
open Wi
set_option maxRecDepth 100000 in
set_option maxHeartbeats 1600000 in
theorem whigh_t (g : Nat) (A : Option Addr) (c : Nat) (L : List UInt8) (n k : Nat) (w : World) (h : Wr w g A c L) (hk : k ≤ 8) (hL : L.length ≤ 99999000) :
    Calls Tryz.prog 106 #[.pointer (some ⟨g, 0, none⟩), .int .u64 (n : Int), .int .i64 (k : Int)] w fun e w' => e = .returned (.tuple #[]) ∧ Wrote g A (L ++ high k n) w w' := by
  have hkk : (k : Int) ≤ 8 := by omega
  have H := Lib.hid h
  clear h
  go_enter Tryz.func106, Tryz.ntmps106
  go_wp2_with fail
  go_loopw [6] (fun v wr => ∃ (j : Nat) (A2 : Option Addr) (c2 : Nat), v = .int .i64 ((j : Int) - 1) ∧ j ≤ k ∧ Wr wr g A2 c2 (L ++ ((low k n).drop j).reverse) ∧ Only (WK g A) w wr ∧ (blockOf A2 = blockOf A ∨ ∃ i, blockOf A2 = some i ∧ w.heap.size ≤ i)) (fun v _ => (intOf v + 1).toNat)
  case atStart => exact ⟨k, A, c, rfl, Nat.le_refl _, by rw [List.drop_of_length_le (by rw [low_len]; omega), List.reverse_nil, List.append_nil]; exact H.out, Only.refl _ _, .inl rfl⟩
  case round =>
    obtain ⟨j, A2, c2, rfl, hi, hw, hon, hbl⟩ := hrel
    obtain ⟨wo, rfl⟩ : ∃ wo : World, wo = wr := ⟨_, rfl⟩
    rcases j with _ | i
    · obtain ⟨iv, hiv⟩ : ∃ iv : Int, iv = ((0 : Nat) : Int) - 1 := ⟨_, rfl⟩
      rw [← hiv]
      have hd : decide (0 ≤ iv) = false := by rw [hiv]; rfl
      rw [List.drop_zero] at hw
      clear hiv hi
      go_wp2_with fail
      exact bodyPost_end (v := .tuple #[]) (results_none Tryz.results106 _ _ _) rfl ⟨rfl, A2, c2, hw, hon, hbl⟩
    · rw [show ((i + 1 : Nat) : Int) - 1 = (i : Int) by omega]
      have hd : decide (0 ≤ (i : Int)) = true := by simp
      have hii : (i : Int) < (k : Int) := by omega
      have hT : (L ++ ((low k n).drop (i + 1)).reverse) ++ [by8 (n / 256 ^ i)] = L ++ ((low k n).drop i).reverse := by
        have hg := low_get k n i (by omega)
        obtain ⟨hl, e⟩ := List.getElem?_eq_some_iff.1 hg
        rw [List.drop_eq_getElem_cons hl, e, List.reverse_cons, List.append_assoc]
      have hsl : (L ++ ((low k n).drop (i + 1)).reverse).length ≤ 99999008 := by rw [List.length_append, List.length_reverse, List.length_drop, low_len]; omega
      generalize L ++ ((low k n).drop (i + 1)).reverse = S at *
      have hsh := shr8 n i (by omega)
      have hx : IntKind.u8.wrap ((n / 256 ^ i : Nat) : Int) = ((by8 (n / 256 ^ i)).toNat : Int) := by
        rw [by8_mod]
        simp [IntKind.wrap, IntKind.bits, IntKind.signed]
      have hx2 : ((n / 256 ^ i : Nat) : Int) % 256 = ((by8 (n / 256 ^ i)).toNat : Int) := by rw [by8_mod]; omega
      have HT2 := Lib.hid hT
      have HI := Lib.hid hi
      have c0 : wo.cell? ⟨g, 0, none⟩ = some (.slice A2 S.length c2) := by rw [hw.1.cell]; rfl
      have fr := hw.1.free
      have HW := Lib.hid hw
      have HON := Lib.hid hon
      have HBL := Lib.hid hbl
      have hgl : g < wo.heap.size := hw.1.lt
      clear hT hw hon hbl H hi
      generalize by8 (n / 256 ^ i) = x at *
      generalize n / 256 ^ i = m at *
      go_wp2_with fail
      refine wp_region_noPanic ?_
      refine wp_region_T (S := (fun w' => w'.cell? ⟨g, 0, none⟩ = some (.slice A2 S.length c2))) (L := 14) (by kernel_rfl) (by simpa using c0) (fun hHeld => ?_)
      refine wpAnyT_take (i := 0) (oi := ?_) (v := ?_) ?_ ?_ ?_ ?_ ?_ ?_ ?_ ?_ ?_
      rotate_left 2
      · simp only [List.getElem?_toArray, List.getElem?_cons_zero]; rfl
      · kernel_rfl
      · kernel_rfl
      · kernel_rfl
      · kernel_rfl
      · exact fun _ _ _ h => h
      · exact Or.inl ⟨by kernel_rfl, by intro w hSw; (try dsimp only at hSw); go_simp; try with_reducible rfl⟩
      · assumption
      try go_simp
      refine wpAnyT_take (i := 1) (oi := ?_) (v := ?_) ?_ ?_ ?_ ?_ ?_ ?_ ?_ ?_ ?_
      rotate_left 2
      · simp only [List.getElem?_toArray, List.getElem?_cons_succ, List.getElem?_cons_zero]; rfl
      · kernel_rfl
      · kernel_rfl
      · kernel_rfl
      · kernel_rfl
      · exact fun _ _ _ h => h
      · exact Or.inl ⟨by kernel_rfl, by intro w hSw; (try dsimp only at hSw); go_simp; try with_reducible rfl⟩
      · assumption
      try go_simp
      refine wpAnyT_take (i := 2) (oi := ?_) (v := ?_) ?_ ?_ ?_ ?_ ?_ ?_ ?_ ?_ ?_
      rotate_left 2
      · simp only [List.getElem?_toArray, List.getElem?_cons_succ, List.getElem?_cons_zero]; rfl
      · kernel_rfl
      · kernel_rfl
      · kernel_rfl
      · kernel_rfl
      · exact fun _ _ _ h => h
      · exact Or.inl ⟨by kernel_rfl, by intro w hSw; (try dsimp only at hSw); go_simp; try with_reducible rfl⟩
      · assumption
      try go_simp
      refine wpAnyT_take (i := 3) (oi := ?_) (v := ?_) ?_ ?_ ?_ ?_ ?_ ?_ ?_ ?_ ?_
      rotate_left 2
      · simp only [List.getElem?_toArray, List.getElem?_cons_succ, List.getElem?_cons_zero]; rfl
      · kernel_rfl
      · kernel_rfl
      · kernel_rfl
      · kernel_rfl
      · exact fun _ _ _ h => h
      · exact Or.inl ⟨by kernel_rfl, by intro w hSw; (try dsimp only at hSw); go_simp; try with_reducible rfl⟩
      · assumption
      try go_simp
      refine wpAnyT_take (i := 4) (oi := ?_) (v := ?_) ?_ ?_ ?_ ?_ ?_ ?_ ?_ ?_ ?_
      rotate_left 2
      · simp only [List.getElem?_toArray, List.getElem?_cons_succ, List.getElem?_cons_zero]; rfl
      · kernel_rfl
      · kernel_rfl
      · kernel_rfl
      · kernel_rfl
      · exact fun _ _ _ h => h
      · exact Or.inl ⟨by kernel_rfl, by intro w hSw; (try dsimp only at hSw); go_simp; try with_reducible rfl⟩
      · assumption
      try go_simp
      refine wpAnyT_take (i := 5) (oi := ?_) (v := ?_) ?_ ?_ ?_ ?_ ?_ ?_ ?_ ?_ ?_
      rotate_left 2
      · simp only [List.getElem?_toArray, List.getElem?_cons_succ, List.getElem?_cons_zero]; rfl
      · kernel_rfl
      · kernel_rfl
      · kernel_rfl
      · kernel_rfl
      · exact fun _ _ _ h => h
      · exact Or.inl ⟨by kernel_rfl, by intro w hSw; (try dsimp only at hSw); go_simp; try with_reducible rfl⟩
      · assumption
      try go_simp
      refine wpAnyT_take (i := 6) (oi := ?_) (v := ?_) ?_ ?_ ?_ ?_ ?_ ?_ ?_ ?_ ?_
      rotate_left 2
      · simp only [List.getElem?_toArray, List.getElem?_cons_succ, List.getElem?_cons_zero]; rfl
      · kernel_rfl
      · kernel_rfl
      · kernel_rfl
      · kernel_rfl
      · exact fun _ _ _ h => h
      · exact Or.inl ⟨by kernel_rfl, by intro w hSw; (try dsimp only at hSw); go_simp; try with_reducible rfl⟩
      · assumption
      try go_simp
      refine wpAnyT_take (i := 7) (oi := ?_) (v := ?_) ?_ ?_ ?_ ?_ ?_ ?_ ?_ ?_ ?_
      rotate_left 2
      · simp only [List.getElem?_toArray, List.getElem?_cons_succ, List.getElem?_cons_zero]; rfl
      · kernel_rfl
      · kernel_rfl
      · kernel_rfl
      · kernel_rfl
      · exact fun _ _ _ h => h
      · exact Or.inl ⟨by kernel_rfl, by intro w hSw; (try dsimp only at hSw); go_simp; try with_reducible rfl⟩
      · assumption
      try go_simp
      refine wpAnyT_take (i := 8) (oi := ?_) (v := ?_) ?_ ?_ ?_ ?_ ?_ ?_ ?_ ?_ ?_
      rotate_left 2
      · simp only [List.getElem?_toArray, List.getElem?_cons_succ, List.getElem?_cons_zero]; rfl
      · kernel_rfl
      · kernel_rfl
      · kernel_rfl
      · kernel_rfl
      · exact fun _ _ _ h => h
      · exact Or.inl ⟨by kernel_rfl, by intro w hSw; (try dsimp only at hSw); go_simp; try with_reducible rfl⟩
      · assumption
      try go_simp
      refine wpAnyT_take (i := 9) (oi := ?_) (v := ?_) ?_ ?_ ?_ ?_ ?_ ?_ ?_ ?_ ?_
      rotate_left 2
      · simp only [List.getElem?_toArray, List.getElem?_cons_succ, List.getElem?_cons_zero]; rfl
      · kernel_rfl
      · kernel_rfl
      · kernel_rfl
      · kernel_rfl
      · exact fun _ _ _ h => h
      · exact Or.inl ⟨by kernel_rfl, by intro w hSw; (try dsimp only at hSw); go_simp; try with_reducible rfl⟩
      · assumption
      try go_simp
      refine wpAnyT_one (i := 10) (o := ?_) ?_ ?_ ?_
      rotate_left 1
      · simp only [List.getElem?_toArray, List.getElem?_cons_succ, List.getElem?_cons_zero]; rfl
      · kernel_rfl
      intro K hK
      go_simp
      refine hK.out _ _ ?_ (fun hHeld => ?_)
      · exact fun _ => by simpa using (World.cell?_alloc_lt wo _ ⟨g, 0, none⟩ hgl).trans c0
      clear hK K
      replace hHeld := hHeld (by decide)
      try go_simp
      refine wpAnyT_one (i := 11) (o := ?_) ?_ ?_ ?_
      rotate_left 1
      · simp only [List.getElem?_toArray, List.getElem?_cons_succ, List.getElem?_cons_zero]; rfl
      · kernel_rfl
      intro K hK
      refine step_app (s := .tmp 17) (x := .tmp 23) (t := 24) (base := g) (A := A2) (n := S.length) (c := c2) (xs := bvs S) (B := (wo.alloc (.cells #[.int .u8 (x.toNat : Int)] 5)).heap.size) (D := some ⟨wo.heap.size, 0, none⟩) (m := 1) (c2 := 1) (news := bvs [x]) (by rfl) (by rfl) elem_u8 (by rfl) (Own.alloc (show Own wo.drew g 5 1 A2 S.length c2 (bvs S) from HW.out.2) (.cells #[.int .u8 (x.toNat : Int)] 5)) (by rfl) (byte_new wo.drew x) (bvs_one _) (S.length + 1) rfl (bvs (S ++ [x])) (bvs_append _ _).symm (by unfold maxLen; omega) (by omega) (by have := HW.out.1.lt; simp; omega) ?_
      intro A3 c3 w3 o3 g3 q3
      obtain ⟨hb3, hwr⟩ := wr_step (wo := wo.drew) (show Wr wo.drew g A2 c2 S from ⟨HW.out.1.drew, HW.out.2⟩) o3 g3 q3
      have c03 : w3.cell? ⟨g, 0, none⟩ = some (.slice A2 S.length c2) := by rw [hb3.cell]; rfl
      have fr3 : w3.frozen? ⟨g, 0, none⟩ = false := hb3.free 0
      have hgl3 : g < w3.heap.size := hb3.lt
      have HR := Lib.hid (Wrote.then (HON.out.drew) HBL.out hwr)
      clear o3 g3 q3 hb3 hwr c0 fr hgl
      refine hK.out _ _ ?_ (fun hHeld => ?_)
      · exact fun _ => c03
      clear hK K
      replace hHeld := hHeld (by decide)
      try go_simp
      refine wpAnyT_take (i := 12) (oi := ?_) (v := ?_) ?_ ?_ ?_ ?_ ?_ ?_ ?_ ?_ ?_
      rotate_left 2
      · simp only [List.getElem?_toArray, List.getElem?_cons_succ, List.getElem?_cons_zero]; rfl
      · kernel_rfl
      · kernel_rfl
      · kernel_rfl
      · kernel_rfl
      · exact fun _ _ _ h => h
      · exact Or.inl ⟨by kernel_rfl, by intro w hSw; (try dsimp only at hSw); go_simp; try with_reducible rfl⟩
      · assumption
      try go_simp
      refine wpAnyT_take (i := 13) (oi := ?_) (v := ?_) ?_ ?_ ?_ ?_ ?_ ?_ ?_ ?_ ?_
      rotate_left 2
      · simp only [List.getElem?_toArray, List.getElem?_cons_succ, List.getElem?_cons_zero]; rfl
      · kernel_rfl
      · kernel_rfl
      · kernel_rfl
      · kernel_rfl
      · exact fun _ _ _ h => h
      · exact Or.inl ⟨by kernel_rfl, by intro w hSw; (try dsimp only at hSw); go_simp; try with_reducible rfl⟩
      · assumption
      try go_simp
      refine wpAnyT_one (i := 14) (o := ?_) ?_ ?_ ?_
      rotate_left 1
      · simp only [List.getElem?_toArray, List.getElem?_cons_succ, List.getElem?_cons_zero]; rfl
      · kernel_rfl
      intro K hK
      go_simp
      refine hK.out _ _ ?_ (fun hHeld => ?_)
      · exact fun h => absurd rfl h
      clear hK K
      try go_simp
      refine wpAnyT_done (by kernel_rfl) ?_ _
      refine NoPanic.normal ?_
      go_wp2_with fail
      go_roundw
      case rel =>
        obtain ⟨A4, c4, k1, k2, k3⟩ := HR.out
        exact ⟨i, A4, c4, rfl, by have := HI.out; omega, by rw [← HT2.out]; exact k1, k2, k3⟩
      case measure => simp [intOf]
end Go.Proofs.YtbfhiegbgkkgiaaGreat
