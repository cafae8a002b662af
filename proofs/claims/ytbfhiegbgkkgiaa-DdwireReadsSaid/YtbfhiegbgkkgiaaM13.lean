/- Wire: the writer low walked. -/
import Derived.Test.YtbfhiegbgkkgiaaM12
namespace Go.Proofs.Ytbfhiegbgkkgiaa
open Go.RowKit
open Wi
theorem low_get : ∀ (k n i : Nat), i < k → (low k n)[i]? = some (by8 (n / 256 ^ i))
  | 0, _, _, h => absurd h (Nat.not_lt_zero _)
  | k + 1, n, 0, _ => by
    simp only [low, List.getElem?_cons_zero, Nat.pow_zero, Nat.div_one]
    congr 1
    refine UInt8.toNat_inj.1 ?_
    rw [by8_mod, by8_mod, Nat.mod_mod]
  | k + 1, n, i + 1, h => by
    rw [low, List.getElem?_cons_succ, low_get k (n / 256) i (by omega), Nat.div_div_eq_div_mul, Nat.pow_succ, Nat.mul_comm]
theorem shr8 (n i : Nat) (hi : i < 8) : Op.shift .shr .u64 (n : Int) .i64 (IntKind.i64.wrap (8 * (i : Int))) = pure (.int .u64 ((n / 256 ^ i : Nat) : Int)) := by
  rw [IntWalk.i64_in (8 * (i : Int)) ⟨by omega, by omega⟩, shift_shr_any _ _ _ _ (by omega)]
  have e1 : min (8 * (i : Int)).toNat IntKind.u64.bits = 8 * i := by
    have : IntKind.u64.bits = 64 := rfl
    omega
  rw [e1, show (256 : Nat) = 2 ^ 8 from rfl, ← Nat.pow_mul, Int.natCast_ediv, Int.natCast_pow]
  rfl
set_option maxRecDepth 100000 in
set_option maxHeartbeats 1600000 in
theorem wlow_t (g : Nat) (A : Option Addr) (c : Nat) (L : List UInt8) (n k : Nat) (w : World) (h : Wr w g A c L) (hn : n < 18446744073709551616) (hk : k ≤ 8) (hL : L.length ≤ 99999000) :
    Calls Try.prog 73 #[.pointer (some ⟨g, 0, none⟩), .int .u64 (n : Int), .int .i64 (k : Int)] w fun e w' => e = .returned (.tuple #[]) ∧ Wrote g A (L ++ low k n) w w' := by
  have hkk : (k : Int) ≤ 8 := by omega
  have hni : (n : Int) < 18446744073709551616 := by omega
  have H := Lib.hid h
  clear h hn
  go_enter Try.func73, Try.ntmps73
  go_wp2_with fail
  go_loopw [8] (fun v wr => ∃ (i : Nat) (A2 : Option Addr) (c2 : Nat), v = .int .i64 (i : Int) ∧ i ≤ k ∧ Wr wr g A2 c2 (L ++ (low k n).take i) ∧ Only (WK g A) w wr ∧ (blockOf A2 = blockOf A ∨ ∃ i, blockOf A2 = some i ∧ w.heap.size ≤ i)) (fun v _ => k - (intOf v).toNat)
  case atStart => exact ⟨0, A, c, rfl, Nat.zero_le _, by rw [List.take_zero, List.append_nil]; exact H.out, Only.refl _ _, .inl rfl⟩
  case round =>
    obtain ⟨i, A2, c2, rfl, hi, hw, hon, hbl⟩ := hrel
    obtain ⟨wo, rfl⟩ : ∃ wo : World, wo = wr := ⟨_, rfl⟩
    by_cases hlt : i < k
    · have hii : (i : Int) < (k : Int) := by omega
      have hge : ¬ (8 * (i : Int)) < 0 := by omega
      have hT : (L ++ (low k n).take i) ++ [by8 (n / 256 ^ i)] = L ++ (low k n).take (i + 1) := by
        rw [List.take_add_one, low_get k n i hlt, List.append_assoc]
        rfl
      have hsl : (L ++ (low k n).take i).length ≤ 99999008 := by rw [List.length_append, List.length_take, low_len]; omega
      generalize L ++ (low k n).take i = S at *
      have hsh := shr8 n i (by omega)
      have hx : IntKind.u8.wrap ((n / 256 ^ i : Nat) : Int) = ((by8 (n / 256 ^ i)).toNat : Int) := by
        rw [by8_mod]
        simp [IntKind.wrap, IntKind.bits, IntKind.signed]
      have hx2 : ((n / 256 ^ i : Nat) : Int) % 256 = ((by8 (n / 256 ^ i)).toNat : Int) := by rw [by8_mod]; omega
      have HT2 := Lib.hid hT
      have HI := Lib.hid hlt
      have c0 : wo.cell? ⟨g, 0, none⟩ = some (.slice A2 S.length c2) := by rw [hw.1.cell]; rfl
      have fr := hw.1.free
      have HW := Lib.hid hw
      have HON := Lib.hid hon
      have HBL := Lib.hid hbl
      have hgl : g < wo.heap.size := hw.1.lt
      clear hT hw hon hbl hlt H hi
      generalize by8 (n / 256 ^ i) = x at *
      generalize n / 256 ^ i = m at *
      go_wp2_with fail
      refine wp_region_noPanic ?_
      refine wp_region_T (S := (fun w' => w'.cell? ⟨g, 0, none⟩ = some (.slice A2 S.length c2))) (L := 14) (by kernel_rfl) (by simpa using c0) (fun hHeld => ?_)
      refine wpAnyT_take (i := 0) (oi := ?_) (v := ?_) ?_ ?_ ?_ ?_ ?_ ?_ ?_ ?_ ?_
      rotate_left 2
      · simp only [List.getElem?_toArray, List.getElem?_cons_zero]; rfl
      · kernel_rfl
      · kernel_rfl
      · kernel_rfl
      · kernel_rfl
      · exact fun _ _ _ h => h
      · exact Or.inl ⟨by kernel_rfl, by intro w hSw; (try dsimp only at hSw); go_simp; try with_reducible rfl⟩
      · assumption
      try go_simp
      refine wpAnyT_take (i := 1) (oi := ?_) (v := ?_) ?_ ?_ ?_ ?_ ?_ ?_ ?_ ?_ ?_
      rotate_left 2
      · simp only [List.getElem?_toArray, List.getElem?_cons_succ, List.getElem?_cons_zero]; rfl
      · kernel_rfl
      · kernel_rfl
      · kernel_rfl
      · kernel_rfl
      · exact fun _ _ _ h => h
      · exact Or.inl ⟨by kernel_rfl, by intro w hSw; (try dsimp only at hSw); go_simp; try with_reducible rfl⟩
      · assumption
      try go_simp
      refine wpAnyT_take (i := 2) (oi := ?_) (v := ?_) ?_ ?_ ?_ ?_ ?_ ?_ ?_ ?_ ?_
      rotate_left 2
      · simp only [List.getElem?_toArray, List.getElem?_cons_succ, List.getElem?_cons_zero]; rfl
      · kernel_rfl
      · kernel_rfl
      · kernel_rfl
      · kernel_rfl
      · exact fun _ _ _ h => h
      · exact Or.inl ⟨by kernel_rfl, by intro w hSw; (try dsimp only at hSw); go_simp; try with_reducible rfl⟩
      · assumption
      try go_simp
      refine wpAnyT_take (i := 3) (oi := ?_) (v := ?_) ?_ ?_ ?_ ?_ ?_ ?_ ?_ ?_ ?_
      rotate_left 2
      · simp only [List.getElem?_toArray, List.getElem?_cons_succ, List.getElem?_cons_zero]; rfl
      · kernel_rfl
      · kernel_rfl
      · kernel_rfl
      · kernel_rfl
      · exact fun _ _ _ h => h
      · exact Or.inl ⟨by kernel_rfl, by intro w hSw; (try dsimp only at hSw); go_simp; try with_reducible rfl⟩
      · assumption
      try go_simp
      refine wpAnyT_take (i := 4) (oi := ?_) (v := ?_) ?_ ?_ ?_ ?_ ?_ ?_ ?_ ?_ ?_
      rotate_left 2
      · simp only [List.getElem?_toArray, List.getElem?_cons_succ, List.getElem?_cons_zero]; rfl
      · kernel_rfl
      · kernel_rfl
      · kernel_rfl
      · kernel_rfl
      · exact fun _ _ _ h => h
      · exact Or.inl ⟨by kernel_rfl, by intro w hSw; (try dsimp only at hSw); go_simp; try with_reducible rfl⟩
      · assumption
      try go_simp
      refine wpAnyT_take (i := 5) (oi := ?_) (v := ?_) ?_ ?_ ?_ ?_ ?_ ?_ ?_ ?_ ?_
      rotate_left 2
      · simp only [List.getElem?_toArray, List.getElem?_cons_succ, List.getElem?_cons_zero]; rfl
      · kernel_rfl
      · kernel_rfl
      · kernel_rfl
      · kernel_rfl
      · exact fun _ _ _ h => h
      · exact Or.inl ⟨by kernel_rfl, by intro w hSw; (try dsimp only at hSw); go_simp; try with_reducible rfl⟩
      · assumption
      try go_simp
      refine wpAnyT_take (i := 6) (oi := ?_) (v := ?_) ?_ ?_ ?_ ?_ ?_ ?_ ?_ ?_ ?_
      rotate_left 2
      · simp only [List.getElem?_toArray, List.getElem?_cons_succ, List.getElem?_cons_zero]; rfl
      · kernel_rfl
      · kernel_rfl
      · kernel_rfl
      · kernel_rfl
      · exact fun _ _ _ h => h
      · exact Or.inl ⟨by kernel_rfl, by intro w hSw; (try dsimp only at hSw); go_simp; try with_reducible rfl⟩
      · assumption
      try go_simp
      refine wpAnyT_take (i := 7) (oi := ?_) (v := ?_) ?_ ?_ ?_ ?_ ?_ ?_ ?_ ?_ ?_
      rotate_left 2
      · simp only [List.getElem?_toArray, List.getElem?_cons_succ, List.getElem?_cons_zero]; rfl
      · kernel_rfl
      · kernel_rfl
      · kernel_rfl
      · kernel_rfl
      · exact fun _ _ _ h => h
      · exact Or.inl ⟨by kernel_rfl, by intro w hSw; (try dsimp only at hSw); go_simp; try with_reducible rfl⟩
      · assumption
      try go_simp
      refine wpAnyT_take (i := 8) (oi := ?_) (v := ?_) ?_ ?_ ?_ ?_ ?_ ?_ ?_ ?_ ?_
      rotate_left 2
      · simp only [List.getElem?_toArray, List.getElem?_cons_succ, List.getElem?_cons_zero]; rfl
      · kernel_rfl
      · kernel_rfl
      · kernel_rfl
      · kernel_rfl
      · exact fun _ _ _ h => h
      · exact Or.inl ⟨by kernel_rfl, by intro w hSw; (try dsimp only at hSw); go_simp; try with_reducible rfl⟩
      · assumption
      try go_simp
      refine wpAnyT_take (i := 9) (oi := ?_) (v := ?_) ?_ ?_ ?_ ?_ ?_ ?_ ?_ ?_ ?_
      rotate_left 2
      · simp only [List.getElem?_toArray, List.getElem?_cons_succ, List.getElem?_cons_zero]; rfl
      · kernel_rfl
      · kernel_rfl
      · kernel_rfl
      · kernel_rfl
      · exact fun _ _ _ h => h
      · exact Or.inl ⟨by kernel_rfl, by intro w hSw; (try dsimp only at hSw); go_simp; try with_reducible rfl⟩
      · assumption
      try go_simp
      refine wpAnyT_one (i := 10) (o := ?_) ?_ ?_ ?_
      rotate_left 1
      · simp only [List.getElem?_toArray, List.getElem?_cons_succ, List.getElem?_cons_zero]; rfl
      · kernel_rfl
      intro K hK
      go_simp
      refine hK.out _ _ ?_ (fun hHeld => ?_)
      · exact fun _ => by simpa using (World.cell?_alloc_lt wo _ ⟨g, 0, none⟩ hgl).trans c0
      clear hK K
      replace hHeld := hHeld (by decide)
      try go_simp
      refine wpAnyT_one (i := 11) (o := ?_) ?_ ?_ ?_
      rotate_left 1
      · simp only [List.getElem?_toArray, List.getElem?_cons_succ, List.getElem?_cons_zero]; rfl
      · kernel_rfl
      intro K hK
      refine step_app (s := .tmp 15) (x := .tmp 21) (t := 22) (base := g) (A := A2) (n := S.length) (c := c2) (xs := bvs S) (B := (wo.alloc (.cells #[.int .u8 (x.toNat : Int)] 5)).heap.size) (D := some ⟨wo.heap.size, 0, none⟩) (m := 1) (c2 := 1) (news := bvs [x]) (by rfl) (by rfl) elem_u8 (by rfl) (Own.alloc (show Own wo.drew g 5 1 A2 S.length c2 (bvs S) from HW.out.2) (.cells #[.int .u8 (x.toNat : Int)] 5)) (by rfl) (byte_new wo.drew x) (bvs_one _) (S.length + 1) rfl (bvs (S ++ [x])) (bvs_append _ _).symm (by unfold maxLen; omega) (by omega) (by have := HW.out.1.lt; simp; omega) ?_
      intro A3 c3 w3 o3 g3 q3
      obtain ⟨hb3, hwr⟩ := wr_step (wo := wo.drew) (show Wr wo.drew g A2 c2 S from ⟨HW.out.1.drew, HW.out.2⟩) o3 g3 q3
      have c03 : w3.cell? ⟨g, 0, none⟩ = some (.slice A2 S.length c2) := by rw [hb3.cell]; rfl
      have fr3 : w3.frozen? ⟨g, 0, none⟩ = false := hb3.free 0
      have hgl3 : g < w3.heap.size := hb3.lt
      have HR := Lib.hid (Wrote.then (HON.out.drew) HBL.out hwr)
      clear o3 g3 q3 hb3 hwr c0 fr hgl
      refine hK.out _ _ ?_ (fun hHeld => ?_)
      · exact fun _ => c03
      clear hK K
      replace hHeld := hHeld (by decide)
      try go_simp
      refine wpAnyT_take (i := 12) (oi := ?_) (v := ?_) ?_ ?_ ?_ ?_ ?_ ?_ ?_ ?_ ?_
      rotate_left 2
      · simp only [List.getElem?_toArray, List.getElem?_cons_succ, List.getElem?_cons_zero]; rfl
      · kernel_rfl
      · kernel_rfl
      · kernel_rfl
      · kernel_rfl
      · exact fun _ _ _ h => h
      · exact Or.inl ⟨by kernel_rfl, by intro w hSw; (try dsimp only at hSw); go_simp; try with_reducible rfl⟩
      · assumption
      try go_simp
      refine wpAnyT_take (i := 13) (oi := ?_) (v := ?_) ?_ ?_ ?_ ?_ ?_ ?_ ?_ ?_ ?_
      rotate_left 2
      · simp only [List.getElem?_toArray, List.getElem?_cons_succ, List.getElem?_cons_zero]; rfl
      · kernel_rfl
      · kernel_rfl
      · kernel_rfl
      · kernel_rfl
      · exact fun _ _ _ h => h
      · exact Or.inl ⟨by kernel_rfl, by intro w hSw; (try dsimp only at hSw); go_simp; try with_reducible rfl⟩
      · assumption
      try go_simp
      refine wpAnyT_one (i := 14) (o := ?_) ?_ ?_ ?_
      rotate_left 1
      · simp only [List.getElem?_toArray, List.getElem?_cons_succ, List.getElem?_cons_zero]; rfl
      · kernel_rfl
      intro K hK
      go_simp
      refine hK.out _ _ ?_ (fun hHeld => ?_)
      · exact fun h => absurd rfl h
      clear hK K
      try go_simp
      refine wpAnyT_done (by kernel_rfl) ?_ _
      refine NoPanic.normal ?_
      go_wp2_with fail
      go_roundw
      case rel =>
        obtain ⟨A4, c4, k1, k2, k3⟩ := HR.out
        exact ⟨i + 1, A4, c4, by go_num, HI.out, by rw [← HT2.out]; exact k1, k2, k3⟩
      case measure => have := HI.out; simp [intOf]; omega
    · obtain rfl : k = i := by omega
      have e : (low k n).take k = low k n := List.take_of_length_le (by rw [low_len]; omega)
      rw [e] at hw
      clear hlt hi
      go_wp2_with fail
      exact bodyPost_end (v := .tuple #[]) (results_none Try.results73 _ _ _) rfl ⟨rfl, A2, c2, hw, hon, hbl⟩
end Go.Proofs.Ytbfhiegbgkkgiaa
/- Wire: the writer high walked. -/

namespace Go.Proofs.Ytbfhiegbgkkgiaa
open Go.RowKit
open Wi
set_option maxRecDepth 100000 in
set_option maxHeartbeats 1600000 in
theorem whigh_t (g : Nat) (A : Option Addr) (c : Nat) (L : List UInt8) (n k : Nat) (w : World) (h : Wr w g A c L) (hk : k ≤ 8) (hL : L.length ≤ 99999000) :
    Calls Try.prog 75 #[.pointer (some ⟨g, 0, none⟩), .int .u64 (n : Int), .int .i64 (k : Int)] w fun e w' => e = .returned (.tuple #[]) ∧ Wrote g A (L ++ high k n) w w' := by
  have hkk : (k : Int) ≤ 8 := by omega
  have H := Lib.hid h
  clear h
  go_enter Try.func75, Try.ntmps75
  go_wp2_with fail
  go_loopw [6] (fun v wr => ∃ (j : Nat) (A2 : Option Addr) (c2 : Nat), v = .int .i64 ((j : Int) - 1) ∧ j ≤ k ∧ Wr wr g A2 c2 (L ++ ((low k n).drop j).reverse) ∧ Only (WK g A) w wr ∧ (blockOf A2 = blockOf A ∨ ∃ i, blockOf A2 = some i ∧ w.heap.size ≤ i)) (fun v _ => (intOf v + 1).toNat)
  case atStart => exact ⟨k, A, c, rfl, Nat.le_refl _, by rw [List.drop_of_length_le (by rw [low_len]; omega), List.reverse_nil, List.append_nil]; exact H.out, Only.refl _ _, .inl rfl⟩
  case round =>
    obtain ⟨j, A2, c2, rfl, hi, hw, hon, hbl⟩ := hrel
    obtain ⟨wo, rfl⟩ : ∃ wo : World, wo = wr := ⟨_, rfl⟩
    rcases j with _ | i
    · obtain ⟨iv, hiv⟩ : ∃ iv : Int, iv = ((0 : Nat) : Int) - 1 := ⟨_, rfl⟩
      rw [← hiv]
      have hd : decide (0 ≤ iv) = false := by rw [hiv]; rfl
      rw [List.drop_zero] at hw
      clear hiv hi
      go_wp2_with fail
      exact bodyPost_end (v := .tuple #[]) (results_none Try.results75 _ _ _) rfl ⟨rfl, A2, c2, hw, hon, hbl⟩
    · rw [show ((i + 1 : Nat) : Int) - 1 = (i : Int) by omega]
      have hd : decide (0 ≤ (i : Int)) = true := by simp
      have hii : (i : Int) < (k : Int) := by omega
      have hT : (L ++ ((low k n).drop (i + 1)).reverse) ++ [by8 (n / 256 ^ i)] = L ++ ((low k n).drop i).reverse := by
        have hg := low_get k n i (by omega)
        obtain ⟨hl, e⟩ := List.getElem?_eq_some_iff.1 hg
        rw [List.drop_eq_getElem_cons hl, e, List.reverse_cons, List.append_assoc]
      have hsl : (L ++ ((low k n).drop (i + 1)).reverse).length ≤ 99999008 := by rw [List.length_append, List.length_reverse, List.length_drop, low_len]; omega
      generalize L ++ ((low k n).drop (i + 1)).reverse = S at *
      have hsh := shr8 n i (by omega)
      have hx : IntKind.u8.wrap ((n / 256 ^ i : Nat) : Int) = ((by8 (n / 256 ^ i)).toNat : Int) := by
        rw [by8_mod]
        simp [IntKind.wrap, IntKind.bits, IntKind.signed]
      have hx2 : ((n / 256 ^ i : Nat) : Int) % 256 = ((by8 (n / 256 ^ i)).toNat : Int) := by rw [by8_mod]; omega
      have HT2 := Lib.hid hT
      have HI := Lib.hid hi
      have c0 : wo.cell? ⟨g, 0, none⟩ = some (.slice A2 S.length c2) := by rw [hw.1.cell]; rfl
      have fr := hw.1.free
      have HW := Lib.hid hw
      have HON := Lib.hid hon
      have HBL := Lib.hid hbl
      have hgl : g < wo.heap.size := hw.1.lt
      clear hT hw hon hbl H hi
      generalize by8 (n / 256 ^ i) = x at *
      generalize n / 256 ^ i = m at *
      go_wp2_with fail
      refine wp_region_noPanic ?_
      refine wp_region_T (S := (fun w' => w'.cell? ⟨g, 0, none⟩ = some (.slice A2 S.length c2))) (L := 14) (by kernel_rfl) (by simpa using c0) (fun hHeld => ?_)
      refine wpAnyT_take (i := 0) (oi := ?_) (v := ?_) ?_ ?_ ?_ ?_ ?_ ?_ ?_ ?_ ?_
      rotate_left 2
      · simp only [List.getElem?_toArray, List.getElem?_cons_zero]; rfl
      · kernel_rfl
      · kernel_rfl
      · kernel_rfl
      · kernel_rfl
      · exact fun _ _ _ h => h
      · exact Or.inl ⟨by kernel_rfl, by intro w hSw; (try dsimp only at hSw); go_simp; try with_reducible rfl⟩
      · assumption
      try go_simp
      refine wpAnyT_take (i := 1) (oi := ?_) (v := ?_) ?_ ?_ ?_ ?_ ?_ ?_ ?_ ?_ ?_
      rotate_left 2
      · simp only [List.getElem?_toArray, List.getElem?_cons_succ, List.getElem?_cons_zero]; rfl
      · kernel_rfl
      · kernel_rfl
      · kernel_rfl
      · kernel_rfl
      · exact fun _ _ _ h => h
      · exact Or.inl ⟨by kernel_rfl, by intro w hSw; (try dsimp only at hSw); go_simp; try with_reducible rfl⟩
      · assumption
      try go_simp
      refine wpAnyT_take (i := 2) (oi := ?_) (v := ?_) ?_ ?_ ?_ ?_ ?_ ?_ ?_ ?_ ?_
      rotate_left 2
      · simp only [List.getElem?_toArray, List.getElem?_cons_succ, List.getElem?_cons_zero]; rfl
      · kernel_rfl
      · kernel_rfl
      · kernel_rfl
      · kernel_rfl
      · exact fun _ _ _ h => h
      · exact Or.inl ⟨by kernel_rfl, by intro w hSw; (try dsimp only at hSw); go_simp; try with_reducible rfl⟩
      · assumption
      try go_simp
      refine wpAnyT_take (i := 3) (oi := ?_) (v := ?_) ?_ ?_ ?_ ?_ ?_ ?_ ?_ ?_ ?_
      rotate_left 2
      · simp only [List.getElem?_toArray, List.getElem?_cons_succ, List.getElem?_cons_zero]; rfl
      · kernel_rfl
      · kernel_rfl
      · kernel_rfl
      · kernel_rfl
      · exact fun _ _ _ h => h
      · exact Or.inl ⟨by kernel_rfl, by intro w hSw; (try dsimp only at hSw); go_simp; try with_reducible rfl⟩
      · assumption
      try go_simp
      refine wpAnyT_take (i := 4) (oi := ?_) (v := ?_) ?_ ?_ ?_ ?_ ?_ ?_ ?_ ?_ ?_
      rotate_left 2
      · simp only [List.getElem?_toArray, List.getElem?_cons_succ, List.getElem?_cons_zero]; rfl
      · kernel_rfl
      · kernel_rfl
      · kernel_rfl
      · kernel_rfl
      · exact fun _ _ _ h => h
      · exact Or.inl ⟨by kernel_rfl, by intro w hSw; (try dsimp only at hSw); go_simp; try with_reducible rfl⟩
      · assumption
      try go_simp
      refine wpAnyT_take (i := 5) (oi := ?_) (v := ?_) ?_ ?_ ?_ ?_ ?_ ?_ ?_ ?_ ?_
      rotate_left 2
      · simp only [List.getElem?_toArray, List.getElem?_cons_succ, List.getElem?_cons_zero]; rfl
      · kernel_rfl
      · kernel_rfl
      · kernel_rfl
      · kernel_rfl
      · exact fun _ _ _ h => h
      · exact Or.inl ⟨by kernel_rfl, by intro w hSw; (try dsimp only at hSw); go_simp; try with_reducible rfl⟩
      · assumption
      try go_simp
      refine wpAnyT_take (i := 6) (oi := ?_) (v := ?_) ?_ ?_ ?_ ?_ ?_ ?_ ?_ ?_ ?_
      rotate_left 2
      · simp only [List.getElem?_toArray, List.getElem?_cons_succ, List.getElem?_cons_zero]; rfl
      · kernel_rfl
      · kernel_rfl
      · kernel_rfl
      · kernel_rfl
      · exact fun _ _ _ h => h
      · exact Or.inl ⟨by kernel_rfl, by intro w hSw; (try dsimp only at hSw); go_simp; try with_reducible rfl⟩
      · assumption
      try go_simp
      refine wpAnyT_take (i := 7) (oi := ?_) (v := ?_) ?_ ?_ ?_ ?_ ?_ ?_ ?_ ?_ ?_
      rotate_left 2
      · simp only [List.getElem?_toArray, List.getElem?_cons_succ, List.getElem?_cons_zero]; rfl
      · kernel_rfl
      · kernel_rfl
      · kernel_rfl
      · kernel_rfl
      · exact fun _ _ _ h => h
      · exact Or.inl ⟨by kernel_rfl, by intro w hSw; (try dsimp only at hSw); go_simp; try with_reducible rfl⟩
      · assumption
      try go_simp
      refine wpAnyT_take (i := 8) (oi := ?_) (v := ?_) ?_ ?_ ?_ ?_ ?_ ?_ ?_ ?_ ?_
      rotate_left 2
      · simp only [List.getElem?_toArray, List.getElem?_cons_succ, List.getElem?_cons_zero]; rfl
      · kernel_rfl
      · kernel_rfl
      · kernel_rfl
      · kernel_rfl
      · exact fun _ _ _ h => h
      · exact Or.inl ⟨by kernel_rfl, by intro w hSw; (try dsimp only at hSw); go_simp; try with_reducible rfl⟩
      · assumption
      try go_simp
      refine wpAnyT_take (i := 9) (oi := ?_) (v := ?_) ?_ ?_ ?_ ?_ ?_ ?_ ?_ ?_ ?_
      rotate_left 2
      · simp only [List.getElem?_toArray, List.getElem?_cons_succ, List.getElem?_cons_zero]; rfl
      · kernel_rfl
      · kernel_rfl
      · kernel_rfl
      · kernel_rfl
      · exact fun _ _ _ h => h
      · exact Or.inl ⟨by kernel_rfl, by intro w hSw; (try dsimp only at hSw); go_simp; try with_reducible rfl⟩
      · assumption
      try go_simp
      refine wpAnyT_one (i := 10) (o := ?_) ?_ ?_ ?_
      rotate_left 1
      · simp only [List.getElem?_toArray, List.getElem?_cons_succ, List.getElem?_cons_zero]; rfl
      · kernel_rfl
      intro K hK
      go_simp
      refine hK.out _ _ ?_ (fun hHeld => ?_)
      · exact fun _ => by simpa using (World.cell?_alloc_lt wo _ ⟨g, 0, none⟩ hgl).trans c0
      clear hK K
      replace hHeld := hHeld (by decide)
      try go_simp
      refine wpAnyT_one (i := 11) (o := ?_) ?_ ?_ ?_
      rotate_left 1
      · simp only [List.getElem?_toArray, List.getElem?_cons_succ, List.getElem?_cons_zero]; rfl
      · kernel_rfl
      intro K hK
      refine step_app (s := .tmp 17) (x := .tmp 23) (t := 22) (base := g) (A := A2) (n := S.length) (c := c2) (xs := bvs S) (B := (wo.alloc (.cells #[.int .u8 (x.toNat : Int)] 5)).heap.size) (D := some ⟨wo.heap.size, 0, none⟩) (m := 1) (c2 := 1) (news := bvs [x]) (by rfl) (by rfl) elem_u8 (by rfl) (Own.alloc (show Own wo.drew g 5 1 A2 S.length c2 (bvs S) from HW.out.2) (.cells #[.int .u8 (x.toNat : Int)] 5)) (by rfl) (byte_new wo.drew x) (bvs_one _) (S.length + 1) rfl (bvs (S ++ [x])) (bvs_append _ _).symm (by unfold maxLen; omega) (by omega) (by have := HW.out.1.lt; simp; omega) ?_
      intro A3 c3 w3 o3 g3 q3
      obtain ⟨hb3, hwr⟩ := wr_step (wo := wo.drew) (show Wr wo.drew g A2 c2 S from ⟨HW.out.1.drew, HW.out.2⟩) o3 g3 q3
      have c03 : w3.cell? ⟨g, 0, none⟩ = some (.slice A2 S.length c2) := by rw [hb3.cell]; rfl
      have fr3 : w3.frozen? ⟨g, 0, none⟩ = false := hb3.free 0
      have hgl3 : g < w3.heap.size := hb3.lt
      have HR := Lib.hid (Wrote.then (HON.out.drew) HBL.out hwr)
      clear o3 g3 q3 hb3 hwr c0 fr hgl
      refine hK.out _ _ ?_ (fun hHeld => ?_)
      · exact fun _ => c03
      clear hK K
      replace hHeld := hHeld (by decide)
      try go_simp
      refine wpAnyT_take (i := 12) (oi := ?_) (v := ?_) ?_ ?_ ?_ ?_ ?_ ?_ ?_ ?_ ?_
      rotate_left 2
      · simp only [List.getElem?_toArray, List.getElem?_cons_succ, List.getElem?_cons_zero]; rfl
      · kernel_rfl
      · kernel_rfl
      · kernel_rfl
      · kernel_rfl
      · exact fun _ _ _ h => h
      · exact Or.inl ⟨by kernel_rfl, by intro w hSw; (try dsimp only at hSw); go_simp; try with_reducible rfl⟩
      · assumption
      try go_simp
      refine wpAnyT_take (i := 13) (oi := ?_) (v := ?_) ?_ ?_ ?_ ?_ ?_ ?_ ?_ ?_ ?_
      rotate_left 2
      · simp only [List.getElem?_toArray, List.getElem?_cons_succ, List.getElem?_cons_zero]; rfl
      · kernel_rfl
      · kernel_rfl
      · kernel_rfl
      · kernel_rfl
      · exact fun _ _ _ h => h
      · exact Or.inl ⟨by kernel_rfl, by intro w hSw; (try dsimp only at hSw); go_simp; try with_reducible rfl⟩
      · assumption
      try go_simp
      refine wpAnyT_one (i := 14) (o := ?_) ?_ ?_ ?_
      rotate_left 1
      · simp only [List.getElem?_toArray, List.getElem?_cons_succ, List.getElem?_cons_zero]; rfl
      · kernel_rfl
      intro K hK
      go_simp
      refine hK.out _ _ ?_ (fun hHeld => ?_)
      · exact fun h => absurd rfl h
      clear hK K
      try go_simp
      refine wpAnyT_done (by kernel_rfl) ?_ _
      refine NoPanic.normal ?_
      go_wp2_with fail
      go_roundw
      case rel =>
        obtain ⟨A4, c4, k1, k2, k3⟩ := HR.out
        exact ⟨i, A4, c4, rfl, by have := HI.out; omega, by rw [← HT2.out]; exact k1, k2, k3⟩
      case measure => simp [intOf]
end Go.Proofs.Ytbfhiegbgkkgiaa
/- Wire: what every letter's writer writes; right walked. -/

namespace Go.Proofs.Ytbfhiegbgkkgiaa
open Go.RowKit
open Wi
/-- The bytes of a number by a form. -/
def encF (f : Frm) (n : Nat) : List UInt8 :=
  if f.2.2.1 = 73 then low f.2.1 n
  else if f.2.2.1 = 75 then high f.2.1 n
  else if f.2.2.1 = 77 then leb n
  else if f.2.2.1 = 79 then leb (sign n)
  else nine 8 (sign n)
set_option maxRecDepth 100000 in
theorem put_any {k : Nat} {f : Frm} (hf : frms[k]? = some f) (g : Nat) (A : Option Addr) (c : Nat) (L : List UInt8) (n : Nat) (w : World) (h : Wr w g A c L) (hn : n < 18446744073709551616) (hL : L.length ≤ 99999000) :
    Calls Try.prog f.2.2.1 #[.pointer (some ⟨g, 0, none⟩), .int .u64 (n : Int), .int .i64 (f.2.1 : Int)] w fun e w' => e = .returned (.tuple #[]) ∧ Wrote g A (L ++ encF f n) w w' := by
  have hk : k < 10 := (List.getElem?_eq_some_iff.1 hf).1
  have hll : (L ++ leb n).length ≤ 100000000 := by have := leb_len64 hn; rw [List.length_append]; omega
  rcases k with _ | _ | _ | _ | _ | _ | _ | _ | _ | _ | k
  · injection hf with hf; subst hf; exact wlow_t g A c L n 1 w h hn (by omega) hL
  · injection hf with hf; subst hf; exact wlow_t g A c L n 2 w h hn (by omega) hL
  · injection hf with hf; subst hf; exact whigh_t g A c L n 2 w h (by omega) hL
  · injection hf with hf; subst hf; exact wlow_t g A c L n 4 w h hn (by omega) hL
  · injection hf with hf; subst hf; exact whigh_t g A c L n 4 w h (by omega) hL
  · injection hf with hf; subst hf; exact wlow_t g A c L n 8 w h hn (by omega) hL
  · injection hf with hf; subst hf; exact whigh_t g A c L n 8 w h (by omega) hL
  · injection hf with hf; subst hf; exact wleb_t g A c L n _ w h hn hll
  · injection hf with hf; subst hf; exact wzig_t g A c L n _ w h hn hL
  · injection hf with hf; subst hf; exact wnine_t g A c L n _ w h hn hL
  · omega
theorem enc_len {k : Nat} {f : Frm} (hf : frms[k]? = some f) {n : Nat} (hn : n < 18446744073709551616) : (encF f n).length ≤ 10 := by
  have hk : k < 10 := (List.getElem?_eq_some_iff.1 hf).1
  have h1 := leb_len64 hn
  have h2 := leb_len64 (sign_lt hn)
  have h3 := nine_len 8 (sign n)
  rcases k with _ | _ | _ | _ | _ | _ | _ | _ | _ | _ | k
  · injection hf with hf; subst hf; exact Nat.le_trans (Nat.le_of_eq (low_len 1 n)) (by decide)
  · injection hf with hf; subst hf; exact Nat.le_trans (Nat.le_of_eq (low_len 2 n)) (by decide)
  · injection hf with hf; subst hf; exact Nat.le_trans (Nat.le_of_eq (high_len 2 n)) (by decide)
  · injection hf with hf; subst hf; exact Nat.le_trans (Nat.le_of_eq (low_len 4 n)) (by decide)
  · injection hf with hf; subst hf; exact Nat.le_trans (Nat.le_of_eq (high_len 4 n)) (by decide)
  · injection hf with hf; subst hf; exact Nat.le_trans (Nat.le_of_eq (low_len 8 n)) (by decide)
  · injection hf with hf; subst hf; exact Nat.le_trans (Nat.le_of_eq (high_len 8 n)) (by decide)
  · injection hf with hf; subst hf; exact h1
  · injection hf with hf; subst hf; exact h2
  · injection hf with hf; subst hf; exact Nat.le_trans h3 (by decide)
  · omega
/-- Is it a pattern? -/
def okL (x : UInt8) : Bool := decide (fi x.toNat < 10)
def rightB (l : List UInt8) : Bool := decide (l.length ≤ 64) && l.all okL
theorem str_at (a : ByteArray) (i : Nat) (h : i < a.size) : a.data.toList[i]? = some a[i] := by
  rw [Array.getElem?_toList, Array.getElem?_eq_getElem h]
  rfl
theorem take_all {a : ByteArray} {i : Nat} (h : i < a.size) : (a.data.toList.take (i + 1)).all okL = ((a.data.toList.take i).all okL && okL a[i]) := by
  rw [List.take_add_one, str_at a i h]
  simp
theorem all_no {a : ByteArray} {i : Nat} (h : i < a.size) (hno : okL a[i] = false) : a.data.toList.all okL = false := by
  rw [List.all_eq_false]
  exact ⟨a[i], List.mem_of_getElem? (str_at a i h), by simp [hno]⟩
set_option maxRecDepth 100000 in
set_option maxHeartbeats 1600000 in
theorem right_t (a : ByteArray) (w : World) :
    Calls Try.prog 55 #[.string a] w fun e w' => e = .returned (.bool (rightB a.data.toList)) ∧ Below w.heap.size w w' := by
  have hs : a.data.toList.length = a.size := by simp
  by_cases h64 : a.size ≤ 64
  · have hd : decide ((64 : Int) < (a.size : Int)) = false := by simp; omega
    have hR : rightB a.data.toList = a.data.toList.all okL := by unfold rightB; rw [hs, decide_eq_true h64, Bool.true_and]
    rw [hR]
    obtain ⟨R, hRe⟩ : ∃ R, R = a.data.toList.all okL := ⟨_, rfl⟩
    rw [← hRe]
    have HRE := Lib.hid hRe
    clear hRe
    have ha : (a.size : Int) ≤ 64 := by omega
    have HS := Lib.hid hs
    clear hs hR h64
    go_enter Try.func55, Try.ntmps55
    go_wp2_with fail
    go_loopw [11] (fun v wr => ∃ i : Nat, v = .int .i64 (i : Int) ∧ i ≤ a.size ∧ (a.data.toList.take i).all okL = true ∧ Below w.heap.size w wr) (fun v _ => a.size - (intOf v).toNat)
    case atStart => exact ⟨0, rfl, Nat.zero_le _, rfl, Below.refl _ _⟩
    case round =>
      obtain ⟨i, rfl, hi, hok, hbel⟩ := hrel
      obtain ⟨wo, rfl⟩ : ∃ wo : World, wo = wr := ⟨_, rfl⟩
      by_cases hlt : i < a.size
      · have hii : (i : Int) < (a.size : Int) := by omega
        have hi0 : (0 : Int) ≤ (i : Int) := by omega
        have HTA := Lib.hid (take_all hlt)
        have HNO := Lib.hid (all_no hlt)
        have HOK := Lib.hid hok
        have HI := Lib.hid hlt
        have HW := Lib.hid hbel
        clear hok hbel hi
        go_wp2_with fail
        refine (formOf_t _ wo).mono ?_
        rintro e w1 ⟨hc, hb1⟩
        have HB1 := Lib.hid hb1
        clear hb1
        have hokd : okL a[i] = decide (fi a[i].toNat < 10) := rfl
        generalize a[i] = x at *
        rcases hc with ⟨f, hf, rfl⟩ | ⟨h10, rfl⟩
        · have hx : okL x = true := by
            rw [hokd, decide_eq_true_iff]
            exact (List.getElem?_eq_some_iff.1 hf).1
          have HX := Lib.hid hx
          clear hf hx hokd
          unfold frmV
          go_wp2_with (first | (refine wpList_store_row rfl 86 _ _ rfl w1.heap.size (frmC f).toArray rfl rfl 86 _ (heap_alloc_new _ _) frm_info rfl (frmC_one _) ?_) | fail)
          go_roundw
          case rel => exact ⟨i + 1, by go_num, HI.out, by rw [HTA.out, HOK.out, HX.out]; rfl, below_setRow ((HW.out.trans (HB1.out.mono HW.out.size)).alloc (by have := HW.out.size; have := HB1.out.size; omega) _) (by have := HW.out.size; have := HB1.out.size; omega) _⟩
          case measure => have := HI.out; simp [intOf]; omega
        · have hx : okL x = false := by
            rw [hokd, h10]
            rfl
          have HX := Lib.hid (HRE.out.trans (HNO.out hx))
          clear h10 hx hokd
          go_wp2_with (first | (refine wpList_store_row rfl 86 _ _ rfl w1.heap.size zeroC.toArray rfl rfl 86 _ (heap_alloc_new _ _) frm_info rfl zeroC_one ?_) | fail)
          go_ret
          exact ⟨by rw [HX.out]; rfl, below_setRow ((HW.out.trans (HB1.out.mono HW.out.size)).alloc (by have := HW.out.size; have := HB1.out.size; omega) _) (by have := HW.out.size; have := HB1.out.size; omega) _⟩
      · have hi2 : a.size = i := by omega
        have hall : a.data.toList.all okL = true := by
          rw [List.take_of_length_le (by rw [HS.out]; omega)] at hok
          exact hok
        have HX := Lib.hid (HRE.out.trans hall)
        have hge : decide (i < a.size) = false := by simp; omega
        have hge2 : ¬ (i : Int) < (a.size : Int) := by omega
        clear hok hall hi hlt hi2
        go_wp2_with fail
        go_ret
        exact ⟨by rw [HX.out]; rfl, hbel⟩
  · have hd : decide ((64 : Int) < (a.size : Int)) = true := by simp; omega
    have hR : rightB a.data.toList = false := by unfold rightB; rw [hs, decide_eq_false h64, Bool.false_and]
    rw [hR]
    clear hs hR h64
    go_enter Try.func55, Try.ntmps55
    go_wp2_with fail
    go_ret
    exact ⟨rfl, Below.refl _ _⟩
end Go.Proofs.Ytbfhiegbgkkgiaa
/- Wire: the reader in memory. -/

namespace Go.Proofs.Ytbfhiegbgkkgiaa
open Go.RowKit
open Wi
def ClonePost (w : World) (l : List UInt8) (e : Ending) (w' : World) : Prop := ∃ A c, e = .returned (.slice A l.length c) ∧ OwnB w' w.heap.size A c l ∧ Below w.heap.size w w'
set_option maxRecDepth 100000 in
theorem clone_t (A : Option Addr) (c : Nat) (l : List UInt8) (w : World) (hb : Bts w w.heap.size A l) (hl : l.length ≤ 100000000) :
    Calls Try.prog 43 #[.slice A l.length c] w (ClonePost w l) := by
  rcases A with _ | a
  · have hl0 : l = [] := by
      rcases Nat.eq_zero_or_pos l.length with h0 | h0
      · exact List.length_eq_zero_iff.1 h0
      · obtain ⟨b, o, e, _⟩ := hb.at_ h0
        cases e
    subst hl0
    have hk : ∀ W : World, (binOp .eql 22 (.slice none 0 c) (.slice none 0 0)).run Try.prog W = .ok (.bool true) W := fun W => Lib.run_eql_slice_nil W 22 5 none 0 c 0 0 Try.underlying22
    simp only [List.length_nil]
    clear hb
    go_enter Try.func43, Try.ntmps43
    go_wp2_with fail
    go_ret
    exact ⟨none, 0, rfl, Own.nil _ _ _ _, Below.refl _ _⟩
  · have hk : ∀ W : World, (binOp .eql 22 (.slice (some a) l.length c) (.slice none 0 0)).run Try.prog W = .ok (.bool false) W := fun W => Lib.run_eql_slice_nil W 22 5 (some a) l.length c 0 0 Try.underlying22
    have HB := Lib.hid hb
    clear hb
    go_enter Try.func43, Try.ntmps43
    go_wp2_with (at_builtin; refine Hid.out ?_)
    have hO1 : Own (w.alloc (.cells #[] 5)) w.heap.size 5 1 (some ⟨w.heap.size, 0, none⟩) 0 0 [] := Own.made w _ _ _ #[] 0 (Nat.le_refl _) (Nat.zero_le _) rfl
    have hW1 : Below w.heap.size w (w.alloc (.cells #[] 5)) := (Below.refl _ _).alloc (Nat.le_refl _) _
    have hS1 := HB.out.at_below hW1
    refine wpList_app (xs := []) rfl rfl elem_u8 rfl hO1 rfl hS1 (bvs_one _) l.length (Nat.zero_add _) (bvs l) rfl (by unfold maxLen; omega) (by omega) hW1.size ?_
    intro A2 c2 w2 o2 g2 q2
    have HO2 : Hid (OwnB w2 w.heap.size A2 c2 l) := Lib.hid o2
    have HW2 := Lib.hid (appB hW1 hO1 g2 (Nat.le_refl _) hW1.size)
    clear hO1 hW1 hS1 o2 g2 q2
    go_wp2_with fail
    go_ret
    exact ⟨A2, c2, rfl, HO2.out, HW2.out⟩
/-- What a reader's act may turn: it alone. -/
def RK (g : Nat) (i : Nat) : Prop := i = g
/-- Block g is a reader of the bytes l that stands at a byte. -/
def Rdr (w : World) (base g : Nat) (A : Option Addr) (c : Nat) (l : List UInt8) (p : Nat) : Prop := Blk w g 82 #[.slice A l.length c, .int .i64 (p : Int)] ∧ OwnB w base A c l
theorem Rdr.moved {w w' : World} {base g : Nat} {A : Option Addr} {c : Nat} {l : List UInt8} {p p' : Nat} (h : Rdr w base g A c l p) (hb : Blk w' g 82 #[.slice A l.length c, .int .i64 (p' : Int)]) (ho : Only (RK g) w w') : Rdr w' base g A c l p' :=
  ⟨hb, Own.only h.2 ho (fun i hi e => Own.ne_blk h.2 h.1 (by decide) (by rw [hi, e]))⟩
theorem Rdr.below {w w' : World} {base g : Nat} {A : Option Addr} {c : Nat} {l : List UInt8} {p : Nat} (h : Rdr w base g A c l p) (hb : Below w.heap.size w w') : Rdr w' base g A c l p := ⟨h.1.below hb h.1.lt, Own.below h.2 hb⟩
def NewPost (w : World) (l : List UInt8) (e : Ending) (w' : World) : Prop := ∃ g A c, e = .returned (.pointer (some ⟨g, 0, none⟩)) ∧ w.heap.size ≤ g ∧ Rdr w' w.heap.size g A c l 0 ∧ Below w.heap.size w w'
set_option maxRecDepth 100000 in
theorem new_t (A : Option Addr) (c : Nat) (l : List UInt8) (w : World) (hb : Bts w w.heap.size A l) (hl : l.length ≤ 100000000) :
    Calls Try.prog 21 #[.slice A l.length c] w (NewPost w l) := by
  have HC := Lib.hid (clone_t A c l w hb hl)
  clear hb
  go_enter Try.func21, Try.ntmps21
  go_wp2_with fail
  refine HC.out.mono ?_
  rintro e w1 ⟨A1, c1, rfl, h1, h2⟩
  have H1 := Lib.hid h1
  have H2 := Lib.hid h2
  clear h1 h2
  go_wp2_with fail
  go_ret
  exact ⟨w1.heap.size, A1, c1, rfl, H2.out.size, ⟨Blk.new w1 _ _, Own.alloc H1.out _⟩, newB H2.out _⟩
set_option maxRecDepth 100000 in
theorem left_t (base g : Nat) (A : Option Addr) (c : Nat) (l : List UInt8) (p k : Nat) (w : World) (h : Rdr w base g A c l p) (hk : p + k = l.length) (hl : l.length ≤ 100000000) :
    Calls Try.prog 26 #[.pointer (some ⟨g, 0, none⟩)] w fun e w' => e = .returned (.int .i64 (k : Int)) ∧ ∃ q, w' = w.drewN q := by
  have c0 : w.cell? ⟨g, 0, none⟩ = some (.slice A l.length c) := by rw [h.1.cell]; rfl
  have c1 : w.cell? ⟨g, 1, none⟩ = some (.int .i64 (p : Int)) := by rw [h.1.cell]; rfl
  have e2 : IntKind.i64.wrap ((l.length : Int) - (p : Int)) = (k : Int) := by rw [show (l.length : Int) - (p : Int) = (k : Int) by omega]; exact IntWalk.i64_in _ ⟨by omega, by omega⟩
  clear h hk
  go_enter Try.func26, Try.ntmps26
  go_wp2_with fail
  go_quiet (fail)
  go_wp2_with fail
  go_ret
  exact ⟨rfl, nq, rfl⟩
end Go.Proofs.Ytbfhiegbgkkgiaa
/- Wire: the reader low walked. -/

namespace Go.Proofs.Ytbfhiegbgkkgiaa
open Go.RowKit
open Wi
namespace Wi
/-- The number that bytes are, the lowest first. -/
def lov : List UInt8 → Nat
  | [] => 0
  | b :: l => b.toNat + 256 * lov l
theorem lov_lt : ∀ l : List UInt8, lov l < 256 ^ l.length
  | [] => by simp [lov]
  | b :: l => by
    have h1 := b.toNat_lt
    have h2 := lov_lt l
    rw [lov, List.length_cons, Nat.pow_succ]
    omega
theorem lov_snoc : ∀ (l : List UInt8) (x : UInt8), lov (l ++ [x]) = lov l + x.toNat * 256 ^ l.length
  | [], x => by simp [lov]
  | b :: l, x => by
    rw [List.cons_append, lov, lov, lov_snoc l x, List.length_cons, Nat.pow_succ, Nat.mul_add, ← Nat.add_assoc]
    congr 1
    rw [Nat.mul_left_comm, Nat.mul_comm 256]
theorem or_256 {a b i : Nat} (ha : a < 256 ^ i) : a ||| b * 256 ^ i = a + b * 256 ^ i := by
  have e : (256 : Nat) ^ i = 2 ^ (8 * i) := by rw [show (256 : Nat) = 2 ^ 8 from rfl, ← Nat.pow_mul]
  rw [e] at ha ⊢
  have h := Nat.two_pow_add_eq_or_of_lt ha b
  rw [Nat.mul_comm, Nat.or_comm] at h
  rw [Nat.add_comm, Nat.mul_comm b, ← Nat.mul_comm b, h, Nat.or_comm]
end Wi
theorem take_next {l : List UInt8} {p i : Nat} {x : UInt8} (h : l[p + i]? = some x) : (l.drop p).take (i + 1) = (l.drop p).take i ++ [x] := by
  rw [List.take_add_one, List.getElem?_drop, h]
  rfl
theorem shl8 (x i : Nat) (hi : i < 8) (hx : x < 256) : Op.shift .shl .u64 (x : Int) .i64 (IntKind.i64.wrap (8 * (i : Int))) = pure (.int .u64 ((x * 256 ^ i : Nat) : Int)) := by
  rw [IntWalk.i64_in (8 * (i : Int)) ⟨by omega, by omega⟩, shift_shl_any _ _ _ _ (by omega)]
  have e1 : min (8 * (i : Int)).toNat IntKind.u64.bits = 8 * i := by
    have : IntKind.u64.bits = 64 := rfl
    omega
  have e2 : (256 : Nat) ^ i ≤ 256 ^ 7 := Nat.pow_le_pow_right (by decide) (by omega)
  have e3 : x * 256 ^ i ≤ 255 * 256 ^ 7 := Nat.mul_le_mul (by omega) e2
  have e4 : (x : Int) * 2 ^ (8 * i) = ((x * 256 ^ i : Nat) : Int) := by
    rw [show (256 : Nat) = 2 ^ 8 from rfl, ← Nat.pow_mul, Int.natCast_mul, Int.natCast_pow]
    rfl
  rw [e1, e4, IntWalk.u64_in _ ⟨by omega, by omega⟩]
set_option maxRecDepth 100000 in
theorem rlow_end (base g : Nat) (A : Option Addr) (c : Nat) (l : List UInt8) (p k : Nat) (w : World) (h : Rdr w base g A c l p) (hp : p ≤ l.length) (hk : l.length < p + k) (hl : l.length ≤ 100000000) :
    Calls Try.prog 74 #[.pointer (some ⟨g, 0, none⟩), .int .i64 (k : Int)] w fun e w' => e = .returned (.tuple #[.int .u64 0, .int .i64 20]) ∧ ∃ q, w' = w.drewN q := by
  obtain ⟨m, hm⟩ : ∃ m, p + m = l.length := ⟨l.length - p, by omega⟩
  have HL := Lib.hid (left_t base g A c l p m w h hm hl)
  have hd : decide ((m : Int) < (k : Int)) = true := by simp; omega
  have hd2 : decide (m < k) = true := by simp; omega
  clear h hp hk hm
  go_enter Try.func74, Try.ntmps74
  go_wp2_with fail
  refine HL.out.mono ?_
  rintro e w1 ⟨rfl, q, rfl⟩
  go_wp2_with fail
  go_ret2
  exact ⟨rfl, q, rfl⟩
theorem lov_next {l : List UInt8} {p i : Nat} {x : UInt8} (hx : l[p + i]? = some x) (hi : i < 8) : bits .or .u64 ((lov ((l.drop p).take i) : Nat) : Int) ((x.toNat * 256 ^ i : Nat) : Int) = ((lov ((l.drop p).take (i + 1)) : Nat) : Int) := by
  have hl : p + i < l.length := (List.getElem?_eq_some_iff.1 hx).1
  have hlen : ((l.drop p).take i).length = i := by rw [List.length_take, List.length_drop]; omega
  have h1 := lov_lt ((l.drop p).take i)
  rw [hlen] at h1
  have h2 := x.toNat_lt
  have e2 : (256 : Nat) ^ i ≤ 256 ^ 7 := Nat.pow_le_pow_right (by decide) (by omega)
  have e3 : x.toNat * 256 ^ i ≤ 255 * 256 ^ 7 := Nat.mul_le_mul (by omega) e2
  rw [u64_or_nat _ _ (by omega) (by omega), or_256 h1, take_next hx, lov_snoc, hlen]
theorem lov_small {l : List UInt8} {k : Nat} (hk : k ≤ 8) : lov (l.take k) < 18446744073709551616 := by
  have h1 := lov_lt (l.take k)
  have e2 : (256 : Nat) ^ (l.take k).length ≤ 256 ^ 8 := Nat.pow_le_pow_right (by decide) (by rw [List.length_take]; omega)
  omega
theorem shl_val (x i : Nat) (hi : i < 8) (hx : x < 256) : IntKind.u64.wrap (IntKind.u64.wrap (x : Int) * 2 ^ (8 * i)) = ((x * 256 ^ i : Nat) : Int) := by
  have e2 : (256 : Nat) ^ i ≤ 256 ^ 7 := Nat.pow_le_pow_right (by decide) (by omega)
  have e3 : x * 256 ^ i ≤ 255 * 256 ^ 7 := Nat.mul_le_mul (by omega) e2
  have e4 : (x : Int) * 2 ^ (8 * i) = ((x * 256 ^ i : Nat) : Int) := by
    rw [show (256 : Nat) = 2 ^ 8 from rfl, ← Nat.pow_mul, Int.natCast_mul, Int.natCast_pow]
    rfl
  rw [IntWalk.u64_in (x : Int) ⟨by omega, by omega⟩, e4, IntWalk.u64_in _ ⟨by omega, by omega⟩]
set_option maxRecDepth 100000 in
set_option maxHeartbeats 1600000 in
theorem rlow_t (base g : Nat) (A : Option Addr) (c : Nat) (l : List UInt8) (p k : Nat) (w : World) (h : Rdr w base g A c l p) (hp : p + k ≤ l.length) (hk : k ≤ 8) (hl : l.length ≤ 100000000) :
    Calls Try.prog 74 #[.pointer (some ⟨g, 0, none⟩), .int .i64 (k : Int)] w fun e w' => e = .returned (.tuple #[.int .u64 (lov ((l.drop p).take k) : Nat), .int .i64 0]) ∧ Rdr w' base g A c l (p + k) ∧ Only (RK g) w w' := by
  obtain ⟨m, hm⟩ : ∃ m, p + m = l.length := ⟨l.length - p, by omega⟩
  have HL := Lib.hid (left_t base g A c l p m w h hm hl)
  have hd : decide ((m : Int) < (k : Int)) = false := by simp; omega
  have hd2 : decide (m < k) = false := by simp; omega
  have hkk : (k : Int) ≤ 8 := by omega
  have H := Lib.hid h
  have HP := Lib.hid hp
  clear h hm
  go_enter Try.func74, Try.ntmps74
  go_wp2_with fail
  refine HL.out.mono ?_
  rintro e w1 ⟨rfl, q0, rfl⟩
  go_wp2_with fail
  go_loopw [6, 13] (fun u v wr => ∃ (i q : Nat), v = .int .i64 (i : Int) ∧ u = .int .u64 (lov ((l.drop p).take i) : Nat) ∧ i ≤ k ∧ wr = w.drewN q) (fun _ v _ => k - (intOf v).toNat)
  case atStart => exact ⟨0, q0, rfl, rfl, Nat.zero_le _, rfl⟩
  case round =>
    obtain ⟨i, q, rfl, rfl, hi, rfl⟩ := hrel
    obtain ⟨wo, hwo⟩ : ∃ wo : World, wo = w.drewN q := ⟨_, rfl⟩
    have hR : Rdr wo base g A c l p := by rw [hwo]; exact ⟨H.out.1.drewN q, H.out.2⟩
    rw [← hwo]
    have HWO := Lib.hid hwo
    clear hwo
    have c0 : wo.cell? ⟨g, 0, none⟩ = some (.slice A l.length c) := by rw [hR.1.cell]; rfl
    have c1 : wo.cell? ⟨g, 1, none⟩ = some (.int .i64 (p : Int)) := by rw [hR.1.cell]; rfl
    have fr := hR.1.free
    by_cases hlt : i < k
    · have hii : (i : Int) < (k : Int) := by omega
      have hpi : p + i < l.length := by have := HP.out; omega
      obtain ⟨gb, hA, _, _, _, hcl, _⟩ := Own.form (show Own wo base 5 1 A l.length c (bvs l) from hR.2) (by omega)
      subst hA
      obtain ⟨x, hx⟩ : ∃ x, l[p + i]? = some x := ⟨_, List.getElem?_eq_getElem hpi⟩
      have d0 := hcl (p + i) (.int .u8 (x.toNat : Int)) (by simp only [bvs, List.getElem?_map, hx, bv, Option.map_some])
      obtain ⟨j, hj⟩ : ∃ j, j = p + i := ⟨_, rfl⟩
      have ej : IntKind.i64.wrap ((p : Int) + (i : Int)) = (j : Int) := by rw [IntWalk.i64_in _ ⟨by omega, by omega⟩]; omega
      have ej2 : (p : Int) + (i : Int) = (j : Int) := by omega
      rw [← hj] at d0
      have hjl : (j : Int) < (l.length : Int) := by omega
      have hj0 : (0 : Int) ≤ (j : Int) := by omega
      have hor := lov_next hx (show i < 8 by omega)
      rw [← shl_val x.toNat i (by omega) x.toNat_lt] at hor
      have HOR := Lib.hid hor
      have HI := Lib.hid hlt
      generalize lov ((l.drop p).take i) = n0 at *
      clear hR hlt hi hcl hx hj hpi hp hor
      go_wp2_with fail
      go_quiet (fail)
      go_wp2_with fail
      go_roundw
      case rel => exact ⟨i + 1, q + nq, by go_num, by rw [HOR.out], HI.out, by rw [HWO.out, World.drewN_drewN]⟩
      case measure => have := HI.out; simp [intOf]; omega
    · obtain rfl : k = i := by omega
      have hpi : (p : Int) + (k : Int) ≤ 100000000 := by omega
      have HR := Lib.hid hR
      clear hlt hi hp hR
      go_wp2_with fail
      have hon : Only (RK g) w wo := by rw [HWO.out]; exact (Only.refl _ _).drewN q
      go_ret2
      refine ⟨rfl, HR.out.moved ?_ ((Only.refl (RK g) _).set (p := ⟨g, 1, none⟩) (.inl rfl) _), hon.set (p := ⟨g, 1, none⟩) (.inl rfl) _⟩
      have h1 := HR.out.1.put 1 (.int .i64 ((p : Int) + (k : Int)))
      simpa using h1
end Go.Proofs.Ytbfhiegbgkkgiaa
