/- Wire: the writers walked (leb, zig, nine). -/
import Derived.Test.YtfeoalimkolebaaWireB
import Derived.Test.YtfeoalimkolebaaWirePlain
namespace Go.Proofs.Ytfeoalimkolebaa
open Go.RowKit
open Wi
theorem elem_u8 : Elem Try.prog 24 5 1 1 := elem_of Try.underlying24 (z := .int .u8 0) (by kernel_rfl) (by decide) (by decide)
theorem byte_new (w : World) (x : UInt8) : Reads (w.alloc (.cells #[.int .u8 (x.toNat : Int)] 5)) (w.alloc (.cells #[.int .u8 (x.toNat : Int)] 5)).heap.size 1 (some ⟨w.heap.size, 0, none⟩) 1 (bvs [x]) :=
  Reads.lit (newest _ _) rfl rfl
def OwnB (w : World) (base : Nat) (A : Option Addr) (c : Nat) (l : List UInt8) : Prop := Own w base 5 1 A l.length c (bvs l)
theorem OwnB.reads {w : World} {base : Nat} {A : Option Addr} {c : Nat} {l : List UInt8} (h : OwnB w base A c l) : Bts w w.heap.size A l := Own.reads h
/-- Block g is a writer that has written the bytes L. -/
def Wr (w : World) (g : Nat) (A : Option Addr) (c : Nat) (L : List UInt8) : Prop := Blk w g 45 #[.slice A L.length c] ∧ OwnB w g A c L
def WK (g : Nat) (A : Option Addr) (i : Nat) : Prop := i = g ∨ blockOf A = some i
def Wrote (g : Nat) (A : Option Addr) (L : List UInt8) (w w' : World) : Prop := ∃ A' c', Wr w' g A' c' L ∧ Only (WK g A) w w' ∧ (blockOf A' = blockOf A ∨ ∃ i, blockOf A' = some i ∧ w.heap.size ≤ i)
theorem Wrote.refl {w : World} {g : Nat} {A : Option Addr} {c : Nat} {L : List UInt8} (h : Wr w g A c L) : Wrote g A L w w := ⟨A, c, h, Only.refl _ _, .inl rfl⟩
theorem Wrote.then {g : Nat} {A : Option Addr} {L : List UInt8} {w w' w'' : World} {A' : Option Addr} (ho : Only (WK g A) w w') (hl : blockOf A' = blockOf A ∨ ∃ i, blockOf A' = some i ∧ w.heap.size ≤ i) (h : Wrote g A' L w' w'') : Wrote g A L w w'' := by
  obtain ⟨A2, c2, h1, h2, h3⟩ := h
  refine ⟨A2, c2, h1, ho.step h2 (fun i hi => ?_), ?_⟩
  · rcases hi with rfl | hi
    · exact .inl (.inl rfl)
    · rcases hl with hl | ⟨j, hj, hw⟩
      · exact .inl (.inr (hl ▸ hi))
      · rw [hj] at hi
        injection hi with hi
        exact .inr (by omega)
  · rcases h3 with h3 | ⟨j, hj, hw⟩
    · rcases hl with hl | ⟨j, hj, hw⟩
      · exact .inl (h3.trans hl)
      · exact .inr ⟨j, h3.trans hj, hw⟩
    · exact .inr ⟨j, hj, Nat.le_trans ho.size hw⟩
/-- One more byte, appended and stored. -/
theorem wr_step {wo w3 : World} {g c c3 : Nat} {A A3 : Option Addr} {S : List UInt8} {x : UInt8} {cs : Array Value} (h : Wr wo g A c S) (o3 : Own w3 g 5 1 A3 (S.length + 1) c3 (bvs (S ++ [x])))
    (g3 : (wo.alloc (.cells cs 5)).grownBy w3 (blockOf A)) (q3 : blockOf A3 = blockOf A ∨ blockOf A3 = some (wo.alloc (.cells cs 5)).heap.size) :
    Blk w3 g 45 #[.slice A S.length c] ∧ Wrote g A (S ++ [x]) wo (w3.setCell ⟨g, 0, none⟩ (.slice A3 (S.length + 1) c3)) := by
  obtain ⟨hb, ho⟩ := h
  have hO2 := Own.alloc (show Own wo g 5 1 A S.length c (bvs S) from ho) (.cells cs 5)
  have hb3 := (hb.alloc (.cells cs 5)).grown g3 (fun e => Own.ne_blk hO2 (hb.alloc _) (by decide) e.symm)
  have hon3 : Only (WK g A) wo w3 := ((Only.refl (WK g A) wo).alloc _).step (Only.of_grown g3) (fun i hi => .inl (.inr hi))
  have hbn : blockOf A3 ≠ some g := Own.ne_blk o3 hb3 (by decide)
  refine ⟨hb3, A3, c3, ⟨?_, ?_⟩, hon3.set (p := ⟨g, 0, none⟩) (.inl (.inl rfl)) _, q3.imp id (fun e => ⟨_, e, by simp⟩)⟩
  · have := hb3.put 0 (.slice A3 (S.length + 1) c3)
    rw [List.length_append]
    simpa using this
  · have := Own.setOther o3 (p := ⟨g, 0, none⟩) hbn (.slice A3 (S.length + 1) c3)
    unfold OwnB
    rw [List.length_append]
    exact this
set_option maxRecDepth 4000 in
theorem nat_or128 : ∀ a, a < 256 → a ||| 128 = 128 + a % 128 := by decide
theorem or128 {n : Nat} : bits .or .u8 ((n : Int) % 256) 128 = ((by8 (128 + n % 128)).toNat : Int) := by
  rw [show (n : Int) % 256 = ((n % 256 : Nat) : Int) by omega, show (128 : Int) = ((128 : Nat) : Int) from rfl, u8_or_nat _ _ (by omega) (by omega), nat_or128 _ (by omega), by8_nat (by omega)]
  omega
set_option maxHeartbeats 800000 in
theorem wleb_t (g : Nat) (A : Option Addr) (c : Nat) (L : List UInt8) (n : Nat) (k : Int) (w : World) (h : Wr w g A c L) (hn : n < 18446744073709551616) (hL : (L ++ leb n).length ≤ 100000000) :
    Calls Try.prog 33 #[.pointer (some ⟨g, 0, none⟩), .int .u64 (n : Int), .int .i64 k] w fun e w' => e = .returned (.tuple #[]) ∧ Wrote g A (L ++ leb n) w w' := by
  obtain ⟨T, hT⟩ : ∃ T, T = L ++ leb n := ⟨_, rfl⟩
  rw [← hT] at hL ⊢
  have H := Lib.hid h
  have HT := Lib.hid hT
  clear h hT
  go_enter Try.func33, Try.ntmps33
  go_wp2_with fail
  go_loopw [1] (fun u wr => ∃ (m : Nat) (S : List UInt8) (A2 : Option Addr) (c2 : Nat), u = .int .u64 (m : Int) ∧ m < 18446744073709551616 ∧ T = S ++ leb m ∧ Wr wr g A2 c2 S ∧ Only (WK g A) w wr ∧ (blockOf A2 = blockOf A ∨ ∃ i, blockOf A2 = some i ∧ w.heap.size ≤ i)) (fun u _ => (intOf u).toNat)
  case atStart => exact ⟨n, L, A, c, rfl, hn, HT.out, H.out, Only.refl _ _, .inl rfl⟩
  case round =>
    obtain ⟨m, S, A2, c2, rfl, hm, hT, hw, hon, hbl⟩ := hrel
    obtain ⟨wo, rfl⟩ : ∃ wo : World, wo = wr := ⟨_, rfl⟩
    have hp := leb_pos m
    have hSl : S.length + 1 ≤ 100000000 := by rw [hT, List.length_append] at hL; omega
    have c0 : wo.cell? ⟨g, 0, none⟩ = some (.slice A2 S.length c2) := by rw [hw.1.cell]; rfl
    have fr := hw.1.free
    have HW := Lib.hid hw
    have HON := Lib.hid hon
    have HBL := Lib.hid hbl
    have hgl : g < wo.heap.size := hw.1.lt
    by_cases hlt : m < 128
    · have hd : decide ((127 : Int) < (m : Int)) = false := by simp; omega
      have hx : IntKind.u8.wrap (m : Int) = ((by8 m).toNat : Int) := by rw [by8_nat (by omega), IntWalk.u8_in _ (by omega)]
      rw [leb_last hlt] at hT
      have HT2 := Lib.hid hT
      clear hT hw hon hbl hlt hp HT H hn
      generalize by8 m = x at *
      go_wp2_with (at_builtin; refine Hid.out ?_)
      have hO2 := Own.alloc (show Own wo g 5 1 A2 S.length c2 (bvs S) from HW.out.2) (.cells #[.int .u8 (x.toNat : Int)] 5)
      refine wpList_app (xs := bvs S) rfl rfl elem_u8 rfl hO2 rfl (byte_new wo x) (bvs_one _) (S.length + 1) rfl (bvs (S ++ [x])) (bvs_append _ _).symm (by unfold maxLen; omega) (by omega) (by have := HW.out.1.lt; simp; omega) ?_
      intro A3 c3 w3 o3 g3 q3
      obtain ⟨hb3, hwr⟩ := wr_step HW.out o3 g3 q3
      have c03 : w3.cell? ⟨g, 0, none⟩ = some (.slice A2 S.length c2) := by rw [hb3.cell]; rfl
      have fr3 := hb3.free
      have hgl3 : g < w3.heap.size := hb3.lt
      have HR := Lib.hid (Wrote.then HON.out HBL.out hwr)
      clear hO2 o3 g3 q3 hb3 hwr c0 fr hgl
      go_wp2_with fail
      exact bodyPost_end (v := .tuple #[]) (results_none Try.results33 _ _ _) rfl ⟨rfl, by rw [HT2.out]; exact HR.out⟩
    · have hd : decide ((127 : Int) < (m : Int)) = true := by simp; omega
      have hx : bits .or .u8 ((m : Int) % 256) 128 = ((by8 (128 + m % 128)).toNat : Int) := or128
      rw [leb_more (by omega)] at hT
      have HT2 := Lib.hid hT
      have HLT := Lib.hid hlt
      have HM := Lib.hid hm
      clear hT hw hon hbl hlt hp HT H hn hm
      generalize by8 (128 + m % 128) = x at *
      go_wp2_with (at_builtin; refine Hid.out ?_)
      have hO2 := Own.alloc (show Own wo g 5 1 A2 S.length c2 (bvs S) from HW.out.2) (.cells #[.int .u8 (x.toNat : Int)] 5)
      refine wpList_app (xs := bvs S) rfl rfl elem_u8 rfl hO2 rfl (byte_new wo x) (bvs_one _) (S.length + 1) rfl (bvs (S ++ [x])) (bvs_append _ _).symm (by unfold maxLen; omega) (by omega) (by have := HW.out.1.lt; simp; omega) ?_
      intro A3 c3 w3 o3 g3 q3
      obtain ⟨hb3, hwr⟩ := wr_step HW.out o3 g3 q3
      have c03 : w3.cell? ⟨g, 0, none⟩ = some (.slice A2 S.length c2) := by rw [hb3.cell]; rfl
      have fr3 := hb3.free
      have hgl3 : g < w3.heap.size := hb3.lt
      have HR := Lib.hid (Wrote.then HON.out HBL.out hwr)
      clear hO2 o3 g3 q3 hb3 hwr c0 fr hgl
      go_wp2_with fail
      go_roundw
      case rel =>
        obtain ⟨A4, c4, k1, k2, k3⟩ := HR.out
        exact ⟨m / 128, S ++ [x], A4, c4, by go_num, by have := HM.out; omega, by rw [HT2.out]; simp, k1, k2, k3⟩
      case measure => have := HLT.out; simp [intOf]; omega
end Go.Proofs.Ytfeoalimkolebaa
