/- Wire: the writer low walked. -/
import Derived.Test.YtfeoalimkolebaaWireE
namespace Go.Proofs.Ytfeoalimkolebaa
open Go.RowKit
open Wi
theorem low_get : ∀ (k n i : Nat), i < k → (low k n)[i]? = some (by8 (n / 256 ^ i))
  | 0, _, _, h => absurd h (Nat.not_lt_zero _)
  | k + 1, n, 0, _ => by
    simp only [low, List.getElem?_cons_zero, Nat.pow_zero, Nat.div_one]
    congr 1
    refine UInt8.toNat_inj.1 ?_
    rw [by8_mod, by8_mod, Nat.mod_mod]
  | k + 1, n, i + 1, h => by
    rw [low, List.getElem?_cons_succ, low_get k (n / 256) i (by omega), Nat.div_div_eq_div_mul, Nat.pow_succ, Nat.mul_comm]
theorem shr8 (n i : Nat) (hi : i < 8) : Op.shift .shr .u64 (n : Int) .i64 (IntKind.i64.wrap (8 * (i : Int))) = pure (.int .u64 ((n / 256 ^ i : Nat) : Int)) := by
  rw [IntWalk.i64_in (8 * (i : Int)) ⟨by omega, by omega⟩, shift_shr_any _ _ _ _ (by omega)]
  have e1 : min (8 * (i : Int)).toNat IntKind.u64.bits = 8 * i := by
    have : IntKind.u64.bits = 64 := rfl
    omega
  rw [e1, show (256 : Nat) = 2 ^ 8 from rfl, ← Nat.pow_mul, Int.natCast_ediv, Int.natCast_pow]
  rfl
set_option maxHeartbeats 1600000 in
theorem wlow_t (g : Nat) (A : Option Addr) (c : Nat) (L : List UInt8) (n k : Nat) (w : World) (h : Wr w g A c L) (hn : n < 18446744073709551616) (hk : k ≤ 8) (hL : L.length ≤ 99999000) :
    Calls Try.prog 29 #[.pointer (some ⟨g, 0, none⟩), .int .u64 (n : Int), .int .i64 (k : Int)] w fun e w' => e = .returned (.tuple #[]) ∧ Wrote g A (L ++ low k n) w w' := by
  have hkk : (k : Int) ≤ 8 := by omega
  have hni : (n : Int) < 18446744073709551616 := by omega
  have H := Lib.hid h
  clear h hn
  go_enter Try.func29, Try.ntmps29
  go_wp2_with fail
  go_loopw [8] (fun v wr => ∃ (i : Nat) (A2 : Option Addr) (c2 : Nat), v = .int .i64 (i : Int) ∧ i ≤ k ∧ Wr wr g A2 c2 (L ++ (low k n).take i) ∧ Only (WK g A) w wr ∧ (blockOf A2 = blockOf A ∨ ∃ i, blockOf A2 = some i ∧ w.heap.size ≤ i)) (fun v _ => k - (intOf v).toNat)
  case atStart => exact ⟨0, A, c, rfl, Nat.zero_le _, by rw [List.take_zero, List.append_nil]; exact H.out, Only.refl _ _, .inl rfl⟩
  case round =>
    obtain ⟨i, A2, c2, rfl, hi, hw, hon, hbl⟩ := hrel
    obtain ⟨wo, rfl⟩ : ∃ wo : World, wo = wr := ⟨_, rfl⟩
    by_cases hlt : i < k
    · have hii : (i : Int) < (k : Int) := by omega
      have hge : ¬ (8 * (i : Int)) < 0 := by omega
      have hT : (L ++ (low k n).take i) ++ [by8 (n / 256 ^ i)] = L ++ (low k n).take (i + 1) := by
        rw [List.take_add_one, low_get k n i hlt, List.append_assoc]
        rfl
      have hsl : (L ++ (low k n).take i).length ≤ 99999008 := by rw [List.length_append, List.length_take, low_len]; omega
      generalize L ++ (low k n).take i = S at *
      have hsh := shr8 n i (by omega)
      have hx : IntKind.u8.wrap ((n / 256 ^ i : Nat) : Int) = ((by8 (n / 256 ^ i)).toNat : Int) := by
        rw [by8_mod]
        simp [IntKind.wrap, IntKind.bits, IntKind.signed]
      have hx2 : ((n / 256 ^ i : Nat) : Int) % 256 = ((by8 (n / 256 ^ i)).toNat : Int) := by rw [by8_mod]; omega
      have HT2 := Lib.hid hT
      have HI := Lib.hid hlt
      have c0 : wo.cell? ⟨g, 0, none⟩ = some (.slice A2 S.length c2) := by rw [hw.1.cell]; rfl
      have fr := hw.1.free
      have HW := Lib.hid hw
      have HON := Lib.hid hon
      have HBL := Lib.hid hbl
      have hgl : g < wo.heap.size := hw.1.lt
      clear hT hw hon hbl hlt H hi
      generalize by8 (n / 256 ^ i) = x at *
      generalize n / 256 ^ i = m at *
      go_wp2_with fail
      refine wp_region_noPanic ?_
      refine wp_region_T (S := (fun w' => w'.cell? ⟨g, 0, none⟩ = some (.slice A2 S.length c2))) (L := 14) (by kernel_rfl) (by simpa using c0) (fun hHeld => ?_)
      refine wpAnyT_take (i := 0) (oi := ?_) (v := ?_) ?_ ?_ ?_ ?_ ?_ ?_ ?_ ?_ ?_
      rotate_left 2
      · simp only [List.getElem?_toArray, List.getElem?_cons_zero]; rfl
      · kernel_rfl
      · kernel_rfl
      · kernel_rfl
      · kernel_rfl
      · exact fun _ _ _ h => h
      · exact Or.inl ⟨by kernel_rfl, by intro w hSw; (try dsimp only at hSw); go_simp; try with_reducible rfl⟩
      · assumption
      try go_simp
      refine wpAnyT_take (i := 1) (oi := ?_) (v := ?_) ?_ ?_ ?_ ?_ ?_ ?_ ?_ ?_ ?_
      rotate_left 2
      · simp only [List.getElem?_toArray, List.getElem?_cons_succ, List.getElem?_cons_zero]; rfl
      · kernel_rfl
      · kernel_rfl
      · kernel_rfl
      · kernel_rfl
      · exact fun _ _ _ h => h
      · exact Or.inl ⟨by kernel_rfl, by intro w hSw; (try dsimp only at hSw); go_simp; try with_reducible rfl⟩
      · assumption
      try go_simp
      refine wpAnyT_take (i := 2) (oi := ?_) (v := ?_) ?_ ?_ ?_ ?_ ?_ ?_ ?_ ?_ ?_
      rotate_left 2
      · simp only [List.getElem?_toArray, List.getElem?_cons_succ, List.getElem?_cons_zero]; rfl
      · kernel_rfl
      · kernel_rfl
      · kernel_rfl
      · kernel_rfl
      · exact fun _ _ _ h => h
      · exact Or.inl ⟨by kernel_rfl, by intro w hSw; (try dsimp only at hSw); go_simp; try with_reducible rfl⟩
      · assumption
      try go_simp
      refine wpAnyT_take (i := 3) (oi := ?_) (v := ?_) ?_ ?_ ?_ ?_ ?_ ?_ ?_ ?_ ?_
      rotate_left 2
      · simp only [List.getElem?_toArray, List.getElem?_cons_succ, List.getElem?_cons_zero]; rfl
      · kernel_rfl
      · kernel_rfl
      · kernel_rfl
      · kernel_rfl
      · exact fun _ _ _ h => h
      · exact Or.inl ⟨by kernel_rfl, by intro w hSw; (try dsimp only at hSw); go_simp; try with_reducible rfl⟩
      · assumption
      try go_simp
      refine wpAnyT_take (i := 4) (oi := ?_) (v := ?_) ?_ ?_ ?_ ?_ ?_ ?_ ?_ ?_ ?_
      rotate_left 2
      · simp only [List.getElem?_toArray, List.getElem?_cons_succ, List.getElem?_cons_zero]; rfl
      · kernel_rfl
      · kernel_rfl
      · kernel_rfl
      · kernel_rfl
      · exact fun _ _ _ h => h
      · exact Or.inl ⟨by kernel_rfl, by intro w hSw; (try dsimp only at hSw); go_simp; try with_reducible rfl⟩
      · assumption
      try go_simp
      refine wpAnyT_take (i := 5) (oi := ?_) (v := ?_) ?_ ?_ ?_ ?_ ?_ ?_ ?_ ?_ ?_
      rotate_left 2
      · simp only [List.getElem?_toArray, List.getElem?_cons_succ, List.getElem?_cons_zero]; rfl
      · kernel_rfl
      · kernel_rfl
      · kernel_rfl
      · kernel_rfl
      · exact fun _ _ _ h => h
      · exact Or.inl ⟨by kernel_rfl, by intro w hSw; (try dsimp only at hSw); go_simp; try with_reducible rfl⟩
      · assumption
      try go_simp
      refine wpAnyT_take (i := 6) (oi := ?_) (v := ?_) ?_ ?_ ?_ ?_ ?_ ?_ ?_ ?_ ?_
      rotate_left 2
      · simp only [List.getElem?_toArray, List.getElem?_cons_succ, List.getElem?_cons_zero]; rfl
      · kernel_rfl
      · kernel_rfl
      · kernel_rfl
      · kernel_rfl
      · exact fun _ _ _ h => h
      · exact Or.inl ⟨by kernel_rfl, by intro w hSw; (try dsimp only at hSw); go_simp; try with_reducible rfl⟩
      · assumption
      try go_simp
      refine wpAnyT_take (i := 7) (oi := ?_) (v := ?_) ?_ ?_ ?_ ?_ ?_ ?_ ?_ ?_ ?_
      rotate_left 2
      · simp only [List.getElem?_toArray, List.getElem?_cons_succ, List.getElem?_cons_zero]; rfl
      · kernel_rfl
      · kernel_rfl
      · kernel_rfl
      · kernel_rfl
      · exact fun _ _ _ h => h
      · exact Or.inl ⟨by kernel_rfl, by intro w hSw; (try dsimp only at hSw); go_simp; try with_reducible rfl⟩
      · assumption
      try go_simp
      refine wpAnyT_take (i := 8) (oi := ?_) (v := ?_) ?_ ?_ ?_ ?_ ?_ ?_ ?_ ?_ ?_
      rotate_left 2
      · simp only [List.getElem?_toArray, List.getElem?_cons_succ, List.getElem?_cons_zero]; rfl
      · kernel_rfl
      · kernel_rfl
      · kernel_rfl
      · kernel_rfl
      · exact fun _ _ _ h => h
      · exact Or.inl ⟨by kernel_rfl, by intro w hSw; (try dsimp only at hSw); go_simp; try with_reducible rfl⟩
      · assumption
      try go_simp
      refine wpAnyT_take (i := 9) (oi := ?_) (v := ?_) ?_ ?_ ?_ ?_ ?_ ?_ ?_ ?_ ?_
      rotate_left 2
      · simp only [List.getElem?_toArray, List.getElem?_cons_succ, List.getElem?_cons_zero]; rfl
      · kernel_rfl
      · kernel_rfl
      · kernel_rfl
      · kernel_rfl
      · exact fun _ _ _ h => h
      · exact Or.inl ⟨by kernel_rfl, by intro w hSw; (try dsimp only at hSw); go_simp; try with_reducible rfl⟩
      · assumption
      try go_simp
      refine wpAnyT_one (i := 10) (o := ?_) ?_ ?_ ?_
      rotate_left 1
      · simp only [List.getElem?_toArray, List.getElem?_cons_succ, List.getElem?_cons_zero]; rfl
      · kernel_rfl
      intro K hK
      go_simp
      refine hK.out _ _ ?_ (fun hHeld => ?_)
      · exact fun _ => by simpa using (World.cell?_alloc_lt wo _ ⟨g, 0, none⟩ hgl).trans c0
      clear hK K
      replace hHeld := hHeld (by decide)
      try go_simp
      refine wpAnyT_one (i := 11) (o := ?_) ?_ ?_ ?_
      rotate_left 1
      · simp only [List.getElem?_toArray, List.getElem?_cons_succ, List.getElem?_cons_zero]; rfl
      · kernel_rfl
      intro K hK
      refine step_app (s := .tmp 15) (x := .tmp 21) (t := 24) (base := g) (A := A2) (n := S.length) (c := c2) (xs := bvs S) (B := (wo.alloc (.cells #[.int .u8 (x.toNat : Int)] 5)).heap.size) (D := some ⟨wo.heap.size, 0, none⟩) (m := 1) (c2 := 1) (news := bvs [x]) (by rfl) (by rfl) elem_u8 (by rfl) (Own.alloc (show Own wo.drew g 5 1 A2 S.length c2 (bvs S) from HW.out.2) (.cells #[.int .u8 (x.toNat : Int)] 5)) (by rfl) (byte_new wo.drew x) (bvs_one _) (S.length + 1) rfl (bvs (S ++ [x])) (bvs_append _ _).symm (by unfold maxLen; omega) (by omega) (by have := HW.out.1.lt; simp; omega) ?_
      intro A3 c3 w3 o3 g3 q3
      obtain ⟨hb3, hwr⟩ := wr_step (wo := wo.drew) (show Wr wo.drew g A2 c2 S from ⟨HW.out.1.drew, HW.out.2⟩) o3 g3 q3
      have c03 : w3.cell? ⟨g, 0, none⟩ = some (.slice A2 S.length c2) := by rw [hb3.cell]; rfl
      have fr3 : w3.frozen? ⟨g, 0, none⟩ = false := hb3.free 0
      have hgl3 : g < w3.heap.size := hb3.lt
      have HR := Lib.hid (Wrote.then (HON.out.drew) HBL.out hwr)
      clear o3 g3 q3 hb3 hwr c0 fr hgl
      refine hK.out _ _ ?_ (fun hHeld => ?_)
      · exact fun _ => c03
      clear hK K
      replace hHeld := hHeld (by decide)
      try go_simp
      refine wpAnyT_take (i := 12) (oi := ?_) (v := ?_) ?_ ?_ ?_ ?_ ?_ ?_ ?_ ?_ ?_
      rotate_left 2
      · simp only [List.getElem?_toArray, List.getElem?_cons_succ, List.getElem?_cons_zero]; rfl
      · kernel_rfl
      · kernel_rfl
      · kernel_rfl
      · kernel_rfl
      · exact fun _ _ _ h => h
      · exact Or.inl ⟨by kernel_rfl, by intro w hSw; (try dsimp only at hSw); go_simp; try with_reducible rfl⟩
      · assumption
      try go_simp
      refine wpAnyT_take (i := 13) (oi := ?_) (v := ?_) ?_ ?_ ?_ ?_ ?_ ?_ ?_ ?_ ?_
      rotate_left 2
      · simp only [List.getElem?_toArray, List.getElem?_cons_succ, List.getElem?_cons_zero]; rfl
      · kernel_rfl
      · kernel_rfl
      · kernel_rfl
      · kernel_rfl
      · exact fun _ _ _ h => h
      · exact Or.inl ⟨by kernel_rfl, by intro w hSw; (try dsimp only at hSw); go_simp; try with_reducible rfl⟩
      · assumption
      try go_simp
      refine wpAnyT_one (i := 14) (o := ?_) ?_ ?_ ?_
      rotate_left 1
      · simp only [List.getElem?_toArray, List.getElem?_cons_succ, List.getElem?_cons_zero]; rfl
      · kernel_rfl
      intro K hK
      go_simp
      refine hK.out _ _ ?_ (fun hHeld => ?_)
      · exact fun h => absurd rfl h
      clear hK K
      try go_simp
      refine wpAnyT_done (by kernel_rfl) ?_ _
      refine NoPanic.normal ?_
      go_wp2_with fail
      go_roundw
      case rel =>
        obtain ⟨A4, c4, k1, k2, k3⟩ := HR.out
        exact ⟨i + 1, A4, c4, by go_num, HI.out, by rw [← HT2.out]; exact k1, k2, k3⟩
      case measure => have := HI.out; simp [intOf]; omega
    · obtain rfl : k = i := by omega
      have e : (low k n).take k = low k n := List.take_of_length_le (by rw [low_len]; omega)
      rw [e] at hw
      clear hlt hi
      go_wp2_with fail
      exact bodyPost_end (v := .tuple #[]) (results_none Try.results29 _ _ _) rfl ⟨rfl, A2, c2, hw, hon, hbl⟩
end Go.Proofs.Ytfeoalimkolebaa

