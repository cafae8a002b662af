/- Wire: the writer high walked. -/
import Derived.Test.YtfeoalimkolebaaWireF
namespace Go.Proofs.Ytfeoalimkolebaa
open Go.RowKit
open Wi
set_option maxHeartbeats 1600000 in
theorem whigh_t (g : Nat) (A : Option Addr) (c : Nat) (L : List UInt8) (n k : Nat) (w : World) (h : Wr w g A c L) (hk : k ≤ 8) (hL : L.length ≤ 99999000) :
    Calls Try.prog 31 #[.pointer (some ⟨g, 0, none⟩), .int .u64 (n : Int), .int .i64 (k : Int)] w fun e w' => e = .returned (.tuple #[]) ∧ Wrote g A (L ++ high k n) w w' := by
  have hkk : (k : Int) ≤ 8 := by omega
  have H := Lib.hid h
  clear h
  go_enter Try.func31, Try.ntmps31
  go_wp2_with fail
  go_loopw [6] (fun v wr => ∃ (j : Nat) (A2 : Option Addr) (c2 : Nat), v = .int .i64 ((j : Int) - 1) ∧ j ≤ k ∧ Wr wr g A2 c2 (L ++ ((low k n).drop j).reverse) ∧ Only (WK g A) w wr ∧ (blockOf A2 = blockOf A ∨ ∃ i, blockOf A2 = some i ∧ w.heap.size ≤ i)) (fun v _ => (intOf v + 1).toNat)
  case atStart => exact ⟨k, A, c, rfl, Nat.le_refl _, by rw [List.drop_of_length_le (by rw [low_len]; omega), List.reverse_nil, List.append_nil]; exact H.out, Only.refl _ _, .inl rfl⟩
  case round =>
    obtain ⟨j, A2, c2, rfl, hi, hw, hon, hbl⟩ := hrel
    obtain ⟨wo, rfl⟩ : ∃ wo : World, wo = wr := ⟨_, rfl⟩
    rcases j with _ | i
    · obtain ⟨iv, hiv⟩ : ∃ iv : Int, iv = ((0 : Nat) : Int) - 1 := ⟨_, rfl⟩
      rw [← hiv]
      have hd : decide (0 ≤ iv) = false := by rw [hiv]; rfl
      rw [List.drop_zero] at hw
      clear hiv hi
      go_wp2_with fail
      exact bodyPost_end (v := .tuple #[]) (results_none Try.results31 _ _ _) rfl ⟨rfl, A2, c2, hw, hon, hbl⟩
    · rw [show ((i + 1 : Nat) : Int) - 1 = (i : Int) by omega]
      have hd : decide (0 ≤ (i : Int)) = true := by simp
      have hii : (i : Int) < (k : Int) := by omega
      have hT : (L ++ ((low k n).drop (i + 1)).reverse) ++ [by8 (n / 256 ^ i)] = L ++ ((low k n).drop i).reverse := by
        have hg := low_get k n i (by omega)
        obtain ⟨hl, e⟩ := List.getElem?_eq_some_iff.1 hg
        rw [List.drop_eq_getElem_cons hl, e, List.reverse_cons, List.append_assoc]
      have hsl : (L ++ ((low k n).drop (i + 1)).reverse).length ≤ 99999008 := by rw [List.length_append, List.length_reverse, List.length_drop, low_len]; omega
      generalize L ++ ((low k n).drop (i + 1)).reverse = S at *
      have hsh := shr8 n i (by omega)
      have hx : IntKind.u8.wrap ((n / 256 ^ i : Nat) : Int) = ((by8 (n / 256 ^ i)).toNat : Int) := by
        rw [by8_mod]
        simp [IntKind.wrap, IntKind.bits, IntKind.signed]
      have hx2 : ((n / 256 ^ i : Nat) : Int) % 256 = ((by8 (n / 256 ^ i)).toNat : Int) := by rw [by8_mod]; omega
      have HT2 := Lib.hid hT
      have HI := Lib.hid hi
      have c0 : wo.cell? ⟨g, 0, none⟩ = some (.slice A2 S.length c2) := by rw [hw.1.cell]; rfl
      have fr := hw.1.free
      have HW := Lib.hid hw
      have HON := Lib.hid hon
      have HBL := Lib.hid hbl
      have hgl : g < wo.heap.size := hw.1.lt
      clear hT hw hon hbl H hi
      generalize by8 (n / 256 ^ i) = x at *
      generalize n / 256 ^ i = m at *
      go_wp2_with fail
      refine wp_region_noPanic ?_
      refine wp_region_T (S := (fun w' => w'.cell? ⟨g, 0, none⟩ = some (.slice A2 S.length c2))) (L := 14) (by kernel_rfl) (by simpa using c0) (fun hHeld => ?_)
      refine wpAnyT_take (i := 0) (oi := ?_) (v := ?_) ?_ ?_ ?_ ?_ ?_ ?_ ?_ ?_ ?_
      rotate_left 2
      · simp only [List.getElem?_toArray, List.getElem?_cons_zero]; rfl
      · kernel_rfl
      · kernel_rfl
      · kernel_rfl
      · kernel_rfl
      · exact fun _ _ _ h => h
      · exact Or.inl ⟨by kernel_rfl, by intro w hSw; (try dsimp only at hSw); go_simp; try with_reducible rfl⟩
      · assumption
      try go_simp
      refine wpAnyT_take (i := 1) (oi := ?_) (v := ?_) ?_ ?_ ?_ ?_ ?_ ?_ ?_ ?_ ?_
      rotate_left 2
      · simp only [List.getElem?_toArray, List.getElem?_cons_succ, List.getElem?_cons_zero]; rfl
      · kernel_rfl
      · kernel_rfl
      · kernel_rfl
      · kernel_rfl
      · exact fun _ _ _ h => h
      · exact Or.inl ⟨by kernel_rfl, by intro w hSw; (try dsimp only at hSw); go_simp; try with_reducible rfl⟩
      · assumption
      try go_simp
      refine wpAnyT_take (i := 2) (oi := ?_) (v := ?_) ?_ ?_ ?_ ?_ ?_ ?_ ?_ ?_ ?_
      rotate_left 2
      · simp only [List.getElem?_toArray, List.getElem?_cons_succ, List.getElem?_cons_zero]; rfl
      · kernel_rfl
      · kernel_rfl
      · kernel_rfl
      · kernel_rfl
      · exact fun _ _ _ h => h
      · exact Or.inl ⟨by kernel_rfl, by intro w hSw; (try dsimp only at hSw); go_simp; try with_reducible rfl⟩
      · assumption
      try go_simp
      refine wpAnyT_take (i := 3) (oi := ?_) (v := ?_) ?_ ?_ ?_ ?_ ?_ ?_ ?_ ?_ ?_
      rotate_left 2
      · simp only [List.getElem?_toArray, List.getElem?_cons_succ, List.getElem?_cons_zero]; rfl
      · kernel_rfl
      · kernel_rfl
      · kernel_rfl
      · kernel_rfl
      · exact fun _ _ _ h => h
      · exact Or.inl ⟨by kernel_rfl, by intro w hSw; (try dsimp only at hSw); go_simp; try with_reducible rfl⟩
      · assumption
      try go_simp
      refine wpAnyT_take (i := 4) (oi := ?_) (v := ?_) ?_ ?_ ?_ ?_ ?_ ?_ ?_ ?_ ?_
      rotate_left 2
      · simp only [List.getElem?_toArray, List.getElem?_cons_succ, List.getElem?_cons_zero]; rfl
      · kernel_rfl
      · kernel_rfl
      · kernel_rfl
      · kernel_rfl
      · exact fun _ _ _ h => h
      · exact Or.inl ⟨by kernel_rfl, by intro w hSw; (try dsimp only at hSw); go_simp; try with_reducible rfl⟩
      · assumption
      try go_simp
      refine wpAnyT_take (i := 5) (oi := ?_) (v := ?_) ?_ ?_ ?_ ?_ ?_ ?_ ?_ ?_ ?_
      rotate_left 2
      · simp only [List.getElem?_toArray, List.getElem?_cons_succ, List.getElem?_cons_zero]; rfl
      · kernel_rfl
      · kernel_rfl
      · kernel_rfl
      · kernel_rfl
      · exact fun _ _ _ h => h
      · exact Or.inl ⟨by kernel_rfl, by intro w hSw; (try dsimp only at hSw); go_simp; try with_reducible rfl⟩
      · assumption
      try go_simp
      refine wpAnyT_take (i := 6) (oi := ?_) (v := ?_) ?_ ?_ ?_ ?_ ?_ ?_ ?_ ?_ ?_
      rotate_left 2
      · simp only [List.getElem?_toArray, List.getElem?_cons_succ, List.getElem?_cons_zero]; rfl
      · kernel_rfl
      · kernel_rfl
      · kernel_rfl
      · kernel_rfl
      · exact fun _ _ _ h => h
      · exact Or.inl ⟨by kernel_rfl, by intro w hSw; (try dsimp only at hSw); go_simp; try with_reducible rfl⟩
      · assumption
      try go_simp
      refine wpAnyT_take (i := 7) (oi := ?_) (v := ?_) ?_ ?_ ?_ ?_ ?_ ?_ ?_ ?_ ?_
      rotate_left 2
      · simp only [List.getElem?_toArray, List.getElem?_cons_succ, List.getElem?_cons_zero]; rfl
      · kernel_rfl
      · kernel_rfl
      · kernel_rfl
      · kernel_rfl
      · exact fun _ _ _ h => h
      · exact Or.inl ⟨by kernel_rfl, by intro w hSw; (try dsimp only at hSw); go_simp; try with_reducible rfl⟩
      · assumption
      try go_simp
      refine wpAnyT_take (i := 8) (oi := ?_) (v := ?_) ?_ ?_ ?_ ?_ ?_ ?_ ?_ ?_ ?_
      rotate_left 2
      · simp only [List.getElem?_toArray, List.getElem?_cons_succ, List.getElem?_cons_zero]; rfl
      · kernel_rfl
      · kernel_rfl
      · kernel_rfl
      · kernel_rfl
      · exact fun _ _ _ h => h
      · exact Or.inl ⟨by kernel_rfl, by intro w hSw; (try dsimp only at hSw); go_simp; try with_reducible rfl⟩
      · assumption
      try go_simp
      refine wpAnyT_take (i := 9) (oi := ?_) (v := ?_) ?_ ?_ ?_ ?_ ?_ ?_ ?_ ?_ ?_
      rotate_left 2
      · simp only [List.getElem?_toArray, List.getElem?_cons_succ, List.getElem?_cons_zero]; rfl
      · kernel_rfl
      · kernel_rfl
      · kernel_rfl
      · kernel_rfl
      · exact fun _ _ _ h => h
      · exact Or.inl ⟨by kernel_rfl, by intro w hSw; (try dsimp only at hSw); go_simp; try with_reducible rfl⟩
      · assumption
      try go_simp
      refine wpAnyT_one (i := 10) (o := ?_) ?_ ?_ ?_
      rotate_left 1
      · simp only [List.getElem?_toArray, List.getElem?_cons_succ, List.getElem?_cons_zero]; rfl
      · kernel_rfl
      intro K hK
      go_simp
      refine hK.out _ _ ?_ (fun hHeld => ?_)
      · exact fun _ => by simpa using (World.cell?_alloc_lt wo _ ⟨g, 0, none⟩ hgl).trans c0
      clear hK K
      replace hHeld := hHeld (by decide)
      try go_simp
      refine wpAnyT_one (i := 11) (o := ?_) ?_ ?_ ?_
      rotate_left 1
      · simp only [List.getElem?_toArray, List.getElem?_cons_succ, List.getElem?_cons_zero]; rfl
      · kernel_rfl
      intro K hK
      refine step_app (s := .tmp 17) (x := .tmp 23) (t := 24) (base := g) (A := A2) (n := S.length) (c := c2) (xs := bvs S) (B := (wo.alloc (.cells #[.int .u8 (x.toNat : Int)] 5)).heap.size) (D := some ⟨wo.heap.size, 0, none⟩) (m := 1) (c2 := 1) (news := bvs [x]) (by rfl) (by rfl) elem_u8 (by rfl) (Own.alloc (show Own wo.drew g 5 1 A2 S.length c2 (bvs S) from HW.out.2) (.cells #[.int .u8 (x.toNat : Int)] 5)) (by rfl) (byte_new wo.drew x) (bvs_one _) (S.length + 1) rfl (bvs (S ++ [x])) (bvs_append _ _).symm (by unfold maxLen; omega) (by omega) (by have := HW.out.1.lt; simp; omega) ?_
      intro A3 c3 w3 o3 g3 q3
      obtain ⟨hb3, hwr⟩ := wr_step (wo := wo.drew) (show Wr wo.drew g A2 c2 S from ⟨HW.out.1.drew, HW.out.2⟩) o3 g3 q3
      have c03 : w3.cell? ⟨g, 0, none⟩ = some (.slice A2 S.length c2) := by rw [hb3.cell]; rfl
      have fr3 : w3.frozen? ⟨g, 0, none⟩ = false := hb3.free 0
      have hgl3 : g < w3.heap.size := hb3.lt
      have HR := Lib.hid (Wrote.then (HON.out.drew) HBL.out hwr)
      clear o3 g3 q3 hb3 hwr c0 fr hgl
      refine hK.out _ _ ?_ (fun hHeld => ?_)
      · exact fun _ => c03
      clear hK K
      replace hHeld := hHeld (by decide)
      try go_simp
      refine wpAnyT_take (i := 12) (oi := ?_) (v := ?_) ?_ ?_ ?_ ?_ ?_ ?_ ?_ ?_ ?_
      rotate_left 2
      · simp only [List.getElem?_toArray, List.getElem?_cons_succ, List.getElem?_cons_zero]; rfl
      · kernel_rfl
      · kernel_rfl
      · kernel_rfl
      · kernel_rfl
      · exact fun _ _ _ h => h
      · exact Or.inl ⟨by kernel_rfl, by intro w hSw; (try dsimp only at hSw); go_simp; try with_reducible rfl⟩
      · assumption
      try go_simp
      refine wpAnyT_take (i := 13) (oi := ?_) (v := ?_) ?_ ?_ ?_ ?_ ?_ ?_ ?_ ?_ ?_
      rotate_left 2
      · simp only [List.getElem?_toArray, List.getElem?_cons_succ, List.getElem?_cons_zero]; rfl
      · kernel_rfl
      · kernel_rfl
      · kernel_rfl
      · kernel_rfl
      · exact fun _ _ _ h => h
      · exact Or.inl ⟨by kernel_rfl, by intro w hSw; (try dsimp only at hSw); go_simp; try with_reducible rfl⟩
      · assumption
      try go_simp
      refine wpAnyT_one (i := 14) (o := ?_) ?_ ?_ ?_
      rotate_left 1
      · simp only [List.getElem?_toArray, List.getElem?_cons_succ, List.getElem?_cons_zero]; rfl
      · kernel_rfl
      intro K hK
      go_simp
      refine hK.out _ _ ?_ (fun hHeld => ?_)
      · exact fun h => absurd rfl h
      clear hK K
      try go_simp
      refine wpAnyT_done (by kernel_rfl) ?_ _
      refine NoPanic.normal ?_
      go_wp2_with fail
      go_roundw
      case rel =>
        obtain ⟨A4, c4, k1, k2, k3⟩ := HR.out
        exact ⟨i, A4, c4, rfl, by have := HI.out; omega, by rw [← HT2.out]; exact k1, k2, k3⟩
      case measure => simp [intOf]
end Go.Proofs.Ytfeoalimkolebaa

