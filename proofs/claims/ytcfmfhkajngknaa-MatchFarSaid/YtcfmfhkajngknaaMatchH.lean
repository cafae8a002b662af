/- Match: Tell walked. -/
import Derived.Test.YtcfmfhkajngknaaMatchG
namespace Go.Proofs.Ytcfmfhkajngknaa
open Go.RowKit
open Mt
theorem elem_byte : Elem Try.prog 22 5 1 1 := elem_of Try.underlying22 (z := .int .u8 0) (by kernel_rfl) (by decide) (by decide)
theorem byte_new (w : World) (x : UInt8) : Reads (w.alloc (.cells #[.int .u8 (x.toNat : Int)] 5)) (w.alloc (.cells #[.int .u8 (x.toNat : Int)] 5)).heap.size 1 (some ⟨w.heap.size, 0, none⟩) 1 (bvs [x]) :=
  Reads.lit (newest _ _) rfl rfl
/-- Bytes of the call's own. -/
def OwnB (w : World) (base : Nat) (A : Option Addr) (c : Nat) (l : List UInt8) : Prop := Own w base 5 1 A l.length c (bvs l)
theorem OwnB.reads {w : World} {base : Nat} {A : Option Addr} {c : Nat} {l : List UInt8} (h : OwnB w base A c l) : Bts w w.heap.size A l := Own.reads h
def TellPost (w : World) (S : List UInt8) (e : Ending) (w' : World) : Prop := ∃ A c, e = .returned (.tuple #[.slice A S.length c, .bool true]) ∧ OwnB w' w.heap.size A c S ∧ Below w.heap.size w w'
set_option maxHeartbeats 3200000 in
theorem tell_t (A : Option Addr) (c : Nat) (L : List Tk) (w : World) (ha : Tks w w.heap.size A L) (hm : L.length ≤ 1048576) (hr : Rights [] L) :
    Calls Try.prog 11 #[.slice A L.length c] w (TellPost w (L.foldl tell1 [])) := by
  have HA := Lib.hid ha
  obtain ⟨S, hS⟩ : ∃ S, S = L.foldl tell1 [] := ⟨_, rfl⟩
  rw [← hS]
  have HS := Lib.hid hS
  have HRI := Lib.hid hr
  clear ha hS hr
  go_enter Try.func11, Try.ntmps11
  go_wp2_with fail
  go_loopw [4, 9] (fun v u wr => ∃ (i : Nat) (A2 : Option Addr) (c2 : Nat) (b : List UInt8), i ≤ L.length ∧ u = .int .i64 (i : Int) ∧ v = .slice A2 b.length c2 ∧ OwnB wr w.heap.size A2 c2 b ∧ Rights b (L.drop i) ∧ (L.drop i).foldl tell1 b = S ∧ Below w.heap.size w wr) (fun _ u _ => L.length - (intOf u).toNat)
  case atStart => exact ⟨0, none, 0, [], Nat.zero_le _, rfl, rfl, Own.nil _ _ _ _, HRI.out, HS.out.symm, Below.refl _ _⟩
  case round =>
    obtain ⟨i, A2, c2, b, hi, rfl, rfl, hown, hri, hfo, hbel⟩ := hrel
    obtain ⟨wo, rfl⟩ : ∃ wo : World, wo = wr := ⟨_, rfl⟩
    by_cases hlt : i < L.length
    · obtain ⟨t, ht⟩ : ∃ t, L[i]? = some t := ⟨L[i], by simp [hlt]⟩
      obtain ⟨b1, o1, rfl, hbl, h1⟩ := HA.out.at_ (by omega)
      obtain ⟨x0, x1, x2⟩ := h1 i t ht
      have y0 := (hbel.cell (p := ⟨b1, o1 + i * 3, none⟩) hbl).trans x0
      have y1 := (hbel.cell (p := ⟨b1, o1 + i * 3 + 1, none⟩) hbl).trans x1
      have y2 := (hbel.cell (p := ⟨b1, o1 + i * 3 + 2, none⟩) hbl).trans x2
      have hdr : L.drop i = t :: L.drop (i + 1) := by
        rw [List.drop_eq_getElem_cons hlt]
        congr 1
        rw [List.getElem?_eq_getElem hlt] at ht
        exact Option.some.inj ht
      have hii : (i : Int) < (L.length : Int) := by omega
      rw [hdr] at hri hfo
      rw [List.foldl_cons] at hfo
      obtain ⟨hrt, hri⟩ := hri
      have HRT := Lib.hid (fun W => right_t t b.length W hrt)
      obtain ⟨t1, t2, t3⟩ := t
      simp only at y0 y1 y2 HRT
      unfold RightT at hrt
      simp only at hrt
      have hbl2 : b.length ≤ 1048576 := by omega
      have HO := Lib.hid hown
      have HB := Lib.hid hbel
      have HI := Lib.hid hlt
      have HRR := Lib.hid hri
      have HFO := Lib.hid hfo
      clear h1 ht hlt hi hdr hbel x0 x1 x2 hown hri hfo
      have hN := Blk.new wo 28 #[.int .u8 (t1.toNat : Int), .int .i64 (t2 : Int), .int .i64 (t3 : Int)]
      have HN := Lib.hid hN
      clear hN
      by_cases h0 : t3 = 0
      · subst h0
        obtain ⟨rfl, hbl3⟩ : t2 = 0 ∧ b.length < 1048576 := by omega
        clear hrt
        go_wp2_with fail
        refine (HRT.out _).mono ?_
        rintro e w2 ⟨rfl, hb2⟩
        have hN2 := HN.out.below hb2 HN.out.lt
        have f0 : w2.cell? ⟨wo.heap.size, 0, none⟩ = some (.int .u8 (t1.toNat : Int)) := by rw [hN2.cell]; rfl
        have f2 : w2.cell? ⟨wo.heap.size, 2, none⟩ = some (.int .i64 0) := by rw [hN2.cell]; rfl
        have HB2 := Lib.hid hb2
        clear hb2 hN2
        go_wp2_with (at_builtin; refine Hid.out ?_)
        have hO2 := ((HO.out.alloc _).below HB2.out).alloc (.cells #[.int .u8 (t1.toNat : Int)] 5)
        have hW2 := newB (nextB (newB HB.out _) HB2.out) (.cells #[.int .u8 (t1.toNat : Int)] 5)
        refine wpList_app (xs := bvs b) rfl rfl elem_byte rfl hO2 rfl (byte_new w2 t1) (bvs_one _) (b.length + 1) rfl (bvs (b ++ [t1])) (bvs_append _ _).symm (by unfold maxLen; omega) (by omega) hW2.size ?_
        intro A3 c3 w3 o3 g3 q3
        have HO3 : Hid (OwnB w3 w.heap.size A3 c3 (b ++ [t1])) := Lib.hid (by unfold OwnB; rw [List.length_append]; exact o3)
        have HW3 := Lib.hid (appB hW2 hO2 g3 (Nat.le_refl _) hW2.size)
        clear hO2 hW2 o3 g3 q3
        go_wp2_with fail
        go_roundw
        case rel => exact ⟨i + 1, A3, c3, b ++ [t1], HI.out, by go_num, by simp, HO3.out, HRR.out, HFO.out, HW3.out⟩
        case measure => have := HI.out; simp [intOf]; omega
      · have e0 : ((t3 : Int) == 0) = false := by simp; omega
        have hrt : 1 ≤ t3 ∧ t3 ≤ b.length ∧ t2 + b.length ≤ 1048576 := by omega
        obtain ⟨hr1, hr2, hr3⟩ := hrt
        have HT1 : Hid (tell1 b (t1, t2, t3) = copyN b t3 t2) := Lib.hid (by unfold tell1; rw [if_neg h0])
        clear h0
        go_wp2_with fail
        refine (HRT.out _).mono ?_
        rintro e w2 ⟨rfl, hb2⟩
        have hN2 := HN.out.below hb2 HN.out.lt
        have f1 : w2.cell? ⟨wo.heap.size, 1, none⟩ = some (.int .i64 (t2 : Int)) := by rw [hN2.cell]; rfl
        have f2 : w2.cell? ⟨wo.heap.size, 2, none⟩ = some (.int .i64 (t3 : Int)) := by rw [hN2.cell]; rfl
        have HB2 := Lib.hid hb2
        have HN2 := Lib.hid hN2
        have HO2 := Lib.hid ((HO.out.alloc (.cells #[.int .u8 (t1.toNat : Int), .int .i64 (t2 : Int), .int .i64 (t3 : Int)] 28)).below HB2.out)
        have HW2 := Lib.hid (nextB (newB HB.out (.cells #[.int .u8 (t1.toNat : Int), .int .i64 (t2 : Int), .int .i64 (t3 : Int)] 28)) HB2.out)
        clear hb2 hN2 HN
        go_wp2_with fail
        go_loopw [4, 28] (fun v u wr => ∃ (j : Nat) (A3 : Option Addr) (c3 : Nat), j ≤ t2 ∧ u = .int .i64 (j : Int) ∧ v = .slice A3 (copyN b t3 j).length c3 ∧ OwnB wr w.heap.size A3 c3 (copyN b t3 j) ∧ Blk wr wo.heap.size 28 #[.int .u8 (t1.toNat : Int), .int .i64 (t2 : Int), .int .i64 (t3 : Int)] ∧ Below w.heap.size w wr) (fun _ u _ => t2 - (intOf u).toNat)
        case atStart => exact ⟨0, A2, c2, Nat.zero_le _, rfl, rfl, HO2.out, HN2.out, HW2.out⟩
        case round =>
          obtain ⟨j, A3, c3, hj, rfl, rfl, hown, hblk, hbel⟩ := hrel
          have hlen := copyN_length b t3 j
          by_cases hjt : j < t2
          · have hnext : copyN b t3 (j + 1) = copyN b t3 j ++ [(copyN b t3 j).getD ((copyN b t3 j).length - t3) 0] := rfl
            have HNX := Lib.hid hnext
            clear hnext
            generalize copyN b t3 j = b2 at *
            obtain ⟨q, hq⟩ : ∃ q : Nat, (q : Int) = (b2.length : Int) - (t3 : Int) := ⟨b2.length - t3, by omega⟩
            obtain ⟨gb, hA3, hbg, hgl, hnc, hcl, _⟩ := Own.form (show Own wr w.heap.size 5 1 A3 b2.length c3 (bvs b2) from hown) (by omega)
            subst hA3
            have hc := hcl q (bv (b2.getD q 0)) (by
              have : q < b2.length := by omega
              simp [bvs, List.getD, this])
            unfold bv at hc
            have e1 : IntKind.i64.wrap ((b2.length : Int) - (t3 : Int)) = (q : Int) := by rw [hq]; exact IntWalk.i64_in _ ⟨by omega, by omega⟩
            have hqn : b2.length - t3 = q := by omega
            rw [hqn] at HNX
            generalize b2.getD q 0 = x at *
            have f2' : wr.cell? ⟨wo.heap.size, 2, none⟩ = some (.int .i64 (t3 : Int)) := by rw [hblk.cell]; rfl
            have hq0 : (0 : Int) ≤ (q : Int) := by omega
            have hql : (q : Int) < (b2.length : Int) := by omega
            have hji : (j : Int) < (t2 : Int) := by omega
            have hbm : b2.length + 1 ≤ 1048576 := by omega
            have HO := Lib.hid hown
            have HK := Lib.hid hblk
            have HW := Lib.hid hbel
            have HJ := Lib.hid hjt
            clear hown hblk hbel hjt hj hlen hq hqn hcl hnc f1 f2
            go_wp2_with (at_builtin; refine Hid.out ?_)
            have hO2 := Own.alloc (show Own wr w.heap.size 5 1 _ b2.length c3 (bvs b2) from HO.out) (.cells #[.int .u8 (x.toNat : Int)] 5)
            have hW2 := newB HW.out (.cells #[.int .u8 (x.toNat : Int)] 5)
            refine wpList_app (xs := bvs b2) rfl rfl elem_byte rfl hO2 rfl (byte_new wr x) (bvs_one _) (b2.length + 1) rfl (bvs (b2 ++ [x])) (bvs_append _ _).symm (by unfold maxLen; omega) (by omega) hW2.size ?_
            intro A4 c4 w4 o4 g4 q4
            have HO4 : Hid (OwnB w4 w.heap.size A4 c4 (b2 ++ [x])) := Lib.hid (by unfold OwnB; rw [List.length_append]; exact o4)
            have HW4 := Lib.hid (appB hW2 hO2 g4 (Nat.le_refl _) hW2.size)
            have HK4 := Lib.hid (Blk.grown (HK.out.alloc (.cells #[.int .u8 (x.toNat : Int)] 5)) g4 (fun e => Own.ne_blk hO2 (HK.out.alloc _) (by decide) e.symm))
            clear hO2 hW2 o4 g4 q4
            go_wp2_with fail
            go_roundw
            case rel => exact ⟨j + 1, A4, c4, HJ.out, by go_num, by rw [HNX.out]; simp, by rw [HNX.out]; exact HO4.out, HK4.out, HW4.out⟩
            case measure => have := HJ.out; simp [intOf]; omega
          · obtain rfl : t2 = j := by omega
            have HO := Lib.hid hown
            have HW := Lib.hid hbel
            clear hj hjt hlen hown hblk hbel f1 f2
            go_wp2_with fail
            go_roundw
            case rel => exact ⟨i + 1, A3, c3, _, HI.out, by go_num, rfl, HO.out, by have := HRR.out; rw [HT1.out] at this; exact this, by have := HFO.out; rw [HT1.out] at this; exact this, HW.out⟩
            case measure => have := HI.out; simp [intOf]; omega
    · obtain rfl : L.length = i := by omega
      rw [List.drop_length] at hfo
      simp only [List.foldl_nil] at hfo
      subst hfo
      clear hi hlt hri
      go_wp2_with fail
      go_ret2
      exact ⟨A2, c2, rfl, hown, hbel⟩
end Go.Proofs.Ytcfmfhkajngknaa
