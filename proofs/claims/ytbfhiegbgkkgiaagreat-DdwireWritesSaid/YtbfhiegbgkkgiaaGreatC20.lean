/- Wire: the reference's Fixed, Right, One walked. -/
import Derived.Test.YtbfhiegbgkkgiaaGreatC19
import Derived.Test.YtbfhiegbgkkgiaaGreatC06
import Derived.Test.YtbfhiegbgkkgiaaGreatC16
namespace Go.Proofs.YtbfhiegbgkkgiaaGreat
open Go.RowKit
open Wi
/-- The reference's table: a letter's size (-1: no letter), and whether the highest byte comes first. -/
def fixI (x : Nat) : Int × Bool :=
  if x = 98 then (1, false) else if x = 104 then (2, false) else if x = 72 then (2, true) else if x = 119 then (4, false) else if x = 87 then (4, true)
  else if x = 113 then (8, false) else if x = 81 then (8, true) else if x = 118 then (0, false) else if x = 122 then (0, false) else if x = 110 then (0, false) else (-1, false)
set_option maxRecDepth 100000 in
set_option maxHeartbeats 1600000 in
theorem fixed_t (x : Nat) (w : World) :
    Calls Tryz.prog 89 #[.int .u8 (x : Int)] w fun e w' => e = .returned (.tuple #[.int .i64 (fixI x).1, .bool (fixI x).2]) ∧ w = w' := by
  have hc : x = 98 ∨ x = 104 ∨ x = 72 ∨ x = 119 ∨ x = 87 ∨ x = 113 ∨ x = 81 ∨ x = 118 ∨ x = 122 ∨ x = 110 ∨ (x ≠ 98 ∧ x ≠ 104 ∧ x ≠ 72 ∧ x ≠ 119 ∧ x ≠ 87 ∧ x ≠ 113 ∧ x ≠ 81 ∧ x ≠ 118 ∧ x ≠ 122 ∧ x ≠ 110) := by omega
  rcases hc with rfl | rfl | rfl | rfl | rfl | rfl | rfl | rfl | rfl | rfl | ⟨h1, h2, h3, h4, h5, h6, h7, h8, h9, h10⟩
  case inr.inr.inr.inr.inr.inr.inr.inr.inr.inr =>
    have hR : fixI x = (-1, false) := by unfold fixI; rw [if_neg h1, if_neg h2, if_neg h3, if_neg h4, if_neg h5, if_neg h6, if_neg h7, if_neg h8, if_neg h9, if_neg h10]
    rw [hR]
    have b1 : ((x : Int) == 98) = false := by simp; omega
    have b2 : ((x : Int) == 104) = false := by simp; omega
    have b3 : ((x : Int) == 72) = false := by simp; omega
    have b4 : ((x : Int) == 119) = false := by simp; omega
    have b5 : ((x : Int) == 87) = false := by simp; omega
    have b6 : ((x : Int) == 113) = false := by simp; omega
    have b7 : ((x : Int) == 81) = false := by simp; omega
    have b8 : ((x : Int) == 118) = false := by simp; omega
    have b9 : ((x : Int) == 122) = false := by simp; omega
    have b10 : ((x : Int) == 110) = false := by simp; omega
    clear hR h1 h2 h3 h4 h5 h6 h7 h8 h9 h10
    go_enter Tryz.func89, Tryz.ntmps89
    go_wp2_with fail
    go_ret2
    exact ⟨rfl, rfl⟩
  all_goals
    go_enter Tryz.func89, Tryz.ntmps89
    go_wp2_with fail
    go_ret2
    exact ⟨rfl, rfl⟩
theorem frm_letter {x : Nat} {f : Frm} (h : frms[fi x]? = some f) : f.1 = x := by
  obtain ⟨hl, e⟩ := List.getElem?_eq_some_iff.1 h
  have h2 := List.findIdx_getElem (p := isL x) (w := hl)
  have h3 : isL x f = true := by rw [← e]; exact h2
  exact of_decide_eq_true h3
theorem frm_mem {x : Nat} {f : Frm} (h : frms[fi x]? = some f) : f ∈ frms := List.mem_of_getElem? h
theorem frm_none {x : Nat} (h : fi x = 10) : ∀ f ∈ frms, f.1 ≠ x := by
  intro f hf he
  have h1 : fi x < frms.length := List.findIdx_lt_length_of_exists ⟨f, hf, decide_eq_true he⟩
  have e : frms.length = 10 := rfl
  omega
theorem fix_some {x : Nat} {f : Frm} (h : frms[fi x]? = some f) : fixI x = ((f.2.1 : Int), decide (f.2.2.1 = 106)) := by
  have h1 := frm_letter h
  have h2 := frm_mem h
  subst h1
  simp only [frms, List.mem_cons, List.not_mem_nil, or_false] at h2
  rcases h2 with rfl | rfl | rfl | rfl | rfl | rfl | rfl | rfl | rfl | rfl <;> decide
theorem fix_none {x : Nat} (h : fi x = 10) : fixI x = (-1, false) := by
  have h1 := frm_none h
  simp only [frms, List.mem_cons, List.not_mem_nil, or_false, forall_eq_or_imp, forall_eq] at h1
  unfold fixI
  repeat (first | rw [if_neg (by omega)])
theorem fix_ok (x : UInt8) : okL x = decide (0 ≤ (fixI x.toNat).1) := by
  unfold okL
  by_cases h : fi x.toNat < 10
  · obtain ⟨f, hf⟩ : ∃ f, frms[fi x.toNat]? = some f := ⟨_, List.getElem?_eq_getElem h⟩
    rw [fix_some hf, decide_eq_true h, decide_eq_true (by dsimp only; omega)]
  · have hle := fi_le x.toNat
    rw [fix_none (by omega), decide_eq_false h]
    rfl
theorem low_snoc (k n : Nat) : low (k + 1) n = low k n ++ [by8 (n / 256 ^ k)] := by
  induction k generalizing n with
  | zero => simp only [low, Nat.pow_zero, Nat.div_one, List.nil_append]; congr 1; exact UInt8.toNat_inj.1 (by rw [by8_mod, by8_mod, Nat.mod_mod])
  | succ k ih => rw [low, ih, low, List.cons_append, Nat.div_div_eq_div_mul, Nat.pow_succ, Nat.mul_comm (256 ^ k)]
theorem high_snoc (k n : Nat) : high (k + 1) n = by8 (n / 256 ^ k) :: high k n := by unfold high; rw [low_snoc, List.reverse_append]; rfl
/-- Have the bytes room for it? -/
def OnePost (w : World) (b : Bool) (L : List UInt8) (e : Ending) (w' : World) : Prop := ∃ A c, e = .returned (.tuple #[.slice A L.length c, .bool b]) ∧ OwnB w' w.heap.size A c L ∧ Below w.heap.size w w'
set_option maxRecDepth 100000 in
set_option maxHeartbeats 1600000 in
theorem one_low (x0 n k : Nat) (w : World) (hfx : fixI x0 = ((k : Int), false)) (hk0 : 0 < k) (hk : k ≤ 8) (hn : n < 18446744073709551616) :
    Calls Tryz.prog 64 #[.int .u8 (x0 : Int), .int .u64 (n : Int)] w (OnePost w (decide (n < 256 ^ k)) (low k n)) := by
  have HF := Lib.hid (fun W => fixed_t x0 W)
  rw [hfx] at HF
  dsimp only at HF
  have hk1 : (0 : Int) < (k : Int) := by omega
  have hk2 : decide (0 < k) = true := by simp; omega
  have hk8 : (k : Int) ≤ 8 := by omega
  have hni : (n : Int) < 18446744073709551616 := by omega
  obtain ⟨R, hRe⟩ : ∃ R, R = decide (n < 256 ^ k) := ⟨_, rfl⟩
  rw [← hRe]
  have HR : Hid (R = ((n / 256 ^ k : Nat) == 0)) := Lib.hid (by
    rw [hRe, Bool.eq_iff_iff, decide_eq_true_iff, beq_iff_eq]
    constructor
    · exact fun h => Nat.div_eq_of_lt h
    · intro h
      have hp : 0 < 256 ^ k := Nat.pow_pos (by decide)
      rcases Nat.lt_or_ge n (256 ^ k) with h1 | h1
      · exact h1
      · have := Nat.div_pos h1 hp
        omega)
  clear hRe hfx hn hk0
  go_enter Tryz.func64, Tryz.ntmps64
  go_wp2_with fail
  refine (HF.out _).mono ?_
  rintro e w1 ⟨rfl, rfl⟩
  go_wp2_with fail
  go_loopw [8, 9, 10] (fun b m v wr => ∃ (i : Nat) (S : List UInt8) (A2 : Option Addr) (c2 : Nat), b = .slice A2 S.length c2 ∧ m = .int .u64 ((n / 256 ^ i : Nat) : Int) ∧ v = .int .i64 (i : Int) ∧ i ≤ k ∧ S = low i n ∧ OwnB wr w.heap.size A2 c2 S ∧ Below w.heap.size w wr) (fun _ _ v _ => k - (intOf v).toNat)
  case atStart => exact ⟨0, [], none, 0, rfl, by simp, rfl, Nat.zero_le _, rfl, Own.nil _ _ _ _, Below.refl _ _⟩
  case round =>
    obtain ⟨i, S, A2, c2, rfl, rfl, rfl, hi, hS, ho, hb⟩ := hrel
    obtain ⟨wo, rfl⟩ : ∃ wo : World, wo = wr := ⟨_, rfl⟩
    have HO := Lib.hid ho
    have HB := Lib.hid hb
    have HS := Lib.hid hS
    clear ho hb
    by_cases hlt : i < k
    · have hii : (i : Int) < (k : Int) := by omega
      have hii2 : decide (i < k) = true := by simp; omega
      have hSl : S.length ≤ 8 := by rw [hS, low_len]; omega
      have HSN := Lib.hid (low_snoc i n)
      have hdm : n / 256 ^ i / 256 = n / 256 ^ (i + 1) := by rw [Nat.div_div_eq_div_mul, Nat.pow_succ]
      have hm64 : n / 256 ^ i < 18446744073709551616 := Nat.lt_of_le_of_lt (Nat.div_le_self _ _) (by omega)
      have hdm2 : ((n / 256 ^ i : Nat) : Int) / 256 = ((n / 256 ^ (i + 1) : Nat) : Int) := by rw [← hdm]; rfl
      have hx : ((n / 256 ^ i : Nat) : Int) % 256 = ((by8 (n / 256 ^ i)).toNat : Int) := by rw [by8_mod]; rfl
      have hx2 : IntKind.u8.wrap (((by8 (n / 256 ^ i)).toNat : Int)) = ((by8 (n / 256 ^ i)).toNat : Int) := IntWalk.u8_in _ ⟨by omega, by have := (by8 (n / 256 ^ i)).toNat_lt; omega⟩
      rw [← HS.out] at HSN
      have HI := Lib.hid hlt
      have HD := Lib.hid hdm2
      clear hS hi hdm hdm2 hlt
      generalize n / 256 ^ i = m at *
      generalize by8 m = x at *
      have hm0 : (0 : Int) ≤ (m : Int) := by omega
      have hmi : (m : Int) < 18446744073709551616 := by omega
      clear hm64
      go_wp2_with (at_builtin; refine Hid.out ?_)
      have hO2 := Own.alloc (show Own wo w.heap.size 5 1 A2 S.length c2 (bvs S) from HO.out) (.cells #[.int .u8 (x.toNat : Int)] 5)
      refine wpList_app (xs := bvs S) rfl rfl elem_u8 rfl hO2 rfl (byte_new wo x) (bvs_one _) (S.length + 1) rfl (bvs (S ++ [x])) (bvs_append _ _).symm (by unfold maxLen; omega) (by omega) (by have := HB.out.size; simp; omega) ?_
      intro A3 c3 w3 o3 g3 q3
      have HB3 := Lib.hid (appB (newB HB.out (.cells #[.int .u8 (x.toNat : Int)] 5)) hO2 g3 (Nat.le_refl _) (newB HB.out (.cells #[.int .u8 (x.toNat : Int)] 5)).size)
      have HO3 : Hid (OwnB w3 w.heap.size A3 c3 (S ++ [x])) := Lib.hid (by unfold OwnB; rw [List.length_append]; exact o3)
      clear hO2 o3 g3 q3
      go_wp2_with fail
      go_roundw
      case rel => exact ⟨i + 1, (S ++ [x]), A3, c3, by simp, by rw [HD.out], by go_num, HI.out, HSN.out.symm, HO3.out, HB3.out⟩
      case measure => have := HI.out; simp [intOf]; omega
    · obtain rfl : k = i := by omega
      have HX := HR.out
      have hz : ∀ m : Nat, (((m : Nat) : Int) == 0) = (m == 0) := fun m => by rw [Bool.eq_iff_iff, beq_iff_eq, beq_iff_eq]; omega
      have HZ := Lib.hid (hz (n / 256 ^ k))
      have HX := Lib.hid HX
      clear hS hi hlt hz
      generalize n / 256 ^ k = m at *
      go_wp2_with fail
      go_ret2
      rw [← HS.out]
      exact ⟨A2, c2, by rw [HX.out, HZ.out]; rfl, HO.out, HB.out⟩
set_option maxRecDepth 100000 in
set_option maxHeartbeats 1600000 in
theorem one_high (x0 n k : Nat) (w : World) (hfx : fixI x0 = ((k : Int), true)) (hk0 : 0 < k) (hk : k ≤ 8) (hn : n < 18446744073709551616) :
    Calls Tryz.prog 64 #[.int .u8 (x0 : Int), .int .u64 (n : Int)] w (OnePost w (decide (n < 256 ^ k)) (high k n)) := by
  have HF := Lib.hid (fun W => fixed_t x0 W)
  rw [hfx] at HF
  dsimp only at HF
  have hk1 : (0 : Int) < (k : Int) := by omega
  have hk2 : decide (0 < k) = true := by simp; omega
  have hk8 : (k : Int) ≤ 8 := by omega
  have hni : (n : Int) < 18446744073709551616 := by omega
  obtain ⟨R, hRe⟩ : ∃ R, R = decide (n < 256 ^ k) := ⟨_, rfl⟩
  rw [← hRe]
  have HR : Hid (R = ((n / 256 ^ k : Nat) == 0)) := Lib.hid (by
    rw [hRe, Bool.eq_iff_iff, decide_eq_true_iff, beq_iff_eq]
    constructor
    · exact fun h => Nat.div_eq_of_lt h
    · intro h
      have hp : 0 < 256 ^ k := Nat.pow_pos (by decide)
      rcases Nat.lt_or_ge n (256 ^ k) with h1 | h1
      · exact h1
      · have := Nat.div_pos h1 hp
        omega)
  clear hRe hfx hn hk0
  go_enter Tryz.func64, Tryz.ntmps64
  go_wp2_with fail
  refine (HF.out _).mono ?_
  rintro e w1 ⟨rfl, rfl⟩
  go_wp2_with fail
  go_loopw [8, 9, 10] (fun b m v wr => ∃ (i : Nat) (S : List UInt8) (A2 : Option Addr) (c2 : Nat), b = .slice A2 S.length c2 ∧ m = .int .u64 ((n / 256 ^ i : Nat) : Int) ∧ v = .int .i64 (i : Int) ∧ i ≤ k ∧ S = high i n ∧ OwnB wr w.heap.size A2 c2 S ∧ Below w.heap.size w wr) (fun _ _ v _ => k - (intOf v).toNat)
  case atStart => exact ⟨0, [], none, 0, rfl, by simp, rfl, Nat.zero_le _, rfl, Own.nil _ _ _ _, Below.refl _ _⟩
  case round =>
    obtain ⟨i, S, A2, c2, rfl, rfl, rfl, hi, hS, ho, hb⟩ := hrel
    obtain ⟨wo, rfl⟩ : ∃ wo : World, wo = wr := ⟨_, rfl⟩
    have HO := Lib.hid ho
    have HB := Lib.hid hb
    have HS := Lib.hid hS
    clear ho hb
    by_cases hlt : i < k
    · have hii : (i : Int) < (k : Int) := by omega
      have hii2 : decide (i < k) = true := by simp; omega
      have hSl : S.length ≤ 8 := by rw [hS, high_len]; omega
      have HSN := Lib.hid (high_snoc i n)
      have hdm : n / 256 ^ i / 256 = n / 256 ^ (i + 1) := by rw [Nat.div_div_eq_div_mul, Nat.pow_succ]
      have hm64 : n / 256 ^ i < 18446744073709551616 := Nat.lt_of_le_of_lt (Nat.div_le_self _ _) (by omega)
      have hdm2 : ((n / 256 ^ i : Nat) : Int) / 256 = ((n / 256 ^ (i + 1) : Nat) : Int) := by rw [← hdm]; rfl
      have hx : ((n / 256 ^ i : Nat) : Int) % 256 = ((by8 (n / 256 ^ i)).toNat : Int) := by rw [by8_mod]; rfl
      have hx2 : IntKind.u8.wrap (((by8 (n / 256 ^ i)).toNat : Int)) = ((by8 (n / 256 ^ i)).toNat : Int) := IntWalk.u8_in _ ⟨by omega, by have := (by8 (n / 256 ^ i)).toNat_lt; omega⟩
      rw [← HS.out] at HSN
      have HI := Lib.hid hlt
      have HD := Lib.hid hdm2
      clear hS hi hdm hdm2 hlt
      generalize n / 256 ^ i = m at *
      generalize by8 m = x at *
      have hm0 : (0 : Int) ≤ (m : Int) := by omega
      have hmi : (m : Int) < 18446744073709551616 := by omega
      clear hm64
      go_wp2_with (at_builtin; refine Hid.out ?_)
      have hO2 : Own (wo.alloc (.cells #[.int .u8 (x.toNat : Int)] 5)) w.heap.size 5 1 (some ⟨wo.heap.size, 0, none⟩) 1 1 (bvs [x]) := Own.made wo _ _ _ #[.int .u8 (x.toNat : Int)] 1 HB.out.size (by decide) rfl
      have hR2 : Reads (wo.alloc (.cells #[.int .u8 (x.toNat : Int)] 5)) wo.heap.size 1 A2 S.length (bvs S) := Reads.alloc (OwnB.reads HO.out) (Nat.le_refl _) _
      refine wpList_app (xs := bvs [x]) rfl rfl elem_u8 rfl hO2 rfl hR2 (bvs_one _) (S.length + 1) (Nat.add_comm _ _) (bvs (x :: S)) rfl (by unfold maxLen; omega) (by omega) (by have := HB.out.size; simp; omega) ?_
      intro A3 c3 w3 o3 g3 q3
      have HB3 := Lib.hid (appB (newB HB.out (.cells #[.int .u8 (x.toNat : Int)] 5)) hO2 g3 (Nat.le_refl _) (newB HB.out (.cells #[.int .u8 (x.toNat : Int)] 5)).size)
      have HO3 : Hid (OwnB w3 w.heap.size A3 c3 (x :: S)) := Lib.hid (by unfold OwnB; rw [List.length_cons]; exact o3)
      clear hO2 o3 g3 q3
      go_wp2_with fail
      go_roundw
      case rel => exact ⟨i + 1, (x :: S), A3, c3, by simp, by rw [HD.out], by go_num, HI.out, HSN.out.symm, HO3.out, HB3.out⟩
      case measure => have := HI.out; simp [intOf]; omega
    · obtain rfl : k = i := by omega
      have HX := HR.out
      have hz : ∀ m : Nat, (((m : Nat) : Int) == 0) = (m == 0) := fun m => by rw [Bool.eq_iff_iff, beq_iff_eq, beq_iff_eq]; omega
      have HZ := Lib.hid (hz (n / 256 ^ k))
      have HX := Lib.hid HX
      clear hS hi hlt hz
      generalize n / 256 ^ k = m at *
      go_wp2_with fail
      go_ret2
      rw [← HS.out]
      exact ⟨A2, c2, by rw [HX.out, HZ.out]; rfl, HO.out, HB.out⟩
set_option maxRecDepth 100000 in
set_option maxHeartbeats 1600000 in
theorem one_leb (n : Nat) (w : World) (hn : n < 18446744073709551616) :
    Calls Tryz.prog 64 #[.int .u8 118, .int .u64 (n : Int)] w (OnePost w true (leb n)) := by
  have HF := Lib.hid (fun W => fixed_t 118 W)
  rw [show fixI 118 = (0, false) from rfl] at HF
  dsimp only at HF
  obtain ⟨M, hM⟩ : ∃ M, M = n := ⟨_, rfl⟩
  have hM64 : M < 18446744073709551616 := by rw [hM]; exact hn
  obtain ⟨T, hT⟩ : ∃ T, T = leb M := ⟨_, rfl⟩
  rw [show leb n = T by rw [hT, hM]]
  have hTl : T.length ≤ 10 := by rw [hT]; exact leb_len64 hM64
  subst hM
  have HT := Lib.hid hT
  have HTL := Lib.hid hTl
  have HM64 := Lib.hid hM64
  clear hn hT hTl hM64
  go_enter Tryz.func64, Tryz.ntmps64
  go_wp2_with fail
  refine (HF.out _).mono ?_
  rintro e w1 ⟨rfl, rfl⟩
  go_wp2_with fail
  go_loopw [8, 11] (fun b u wr => ∃ (m : Nat) (S : List UInt8) (A2 : Option Addr) (c2 : Nat), b = .slice A2 S.length c2 ∧ u = .int .u64 (m : Int) ∧ m < 18446744073709551616 ∧ T = S ++ leb m ∧ OwnB wr w.heap.size A2 c2 S ∧ Below w.heap.size w wr) (fun _ u _ => (intOf u).toNat)
  case atStart => exact ⟨M, [], none, 0, rfl, rfl, HM64.out, HT.out, Own.nil _ _ _ _, Below.refl _ _⟩
  case round =>
    obtain ⟨m, S, A2, c2, rfl, rfl, hm, hTS, ho, hb⟩ := hrel
    obtain ⟨wo, rfl⟩ : ∃ wo : World, wo = wr := ⟨_, rfl⟩
    have HO := Lib.hid ho
    have HB := Lib.hid hb
    have HTS := Lib.hid hTS
    have hSl : S.length ≤ 10 := by have := HTL.out; rw [hTS, List.length_append] at this; omega
    clear ho hb hTS
    by_cases hgo : 127 < m
    · have e1 : decide ((127 : Int) < (m : Int)) = true := by simp; omega
      have e2 : ((110 : Int) == 110) = true := rfl
      have hx : 128 + (m : Int) % 128 = ((by8 (128 + m % 128)).toNat : Int) := by rw [by8_nat (by omega)]; omega
      have hx2 : IntKind.u8.wrap (((by8 (128 + m % 128)).toNat : Int)) = ((by8 (128 + m % 128)).toNat : Int) := IntWalk.u8_in _ ⟨by omega, by have := (by8 (128 + m % 128)).toNat_lt; omega⟩
      have HM := Lib.hid hm
      have HGO := Lib.hid hgo
      have hm0 : (m : Int) < 18446744073709551616 := by omega
      have HTN : Hid (T = (S ++ [by8 (128 + m % 128)]) ++ leb (m / 128)) := Lib.hid (by rw [HTS.out, leb_more (by omega), List.append_assoc]; rfl)
      clear hm hgo
      generalize by8 (128 + m % 128) = x at *
      go_wp2_with (at_builtin; refine Hid.out ?_)
      have hO2 := Own.alloc (show Own wo w.heap.size 5 1 A2 S.length c2 (bvs S) from HO.out) (.cells #[.int .u8 (x.toNat : Int)] 5)
      refine wpList_app (xs := bvs S) rfl rfl elem_u8 rfl hO2 rfl (byte_new wo x) (bvs_one _) (S.length + 1) rfl (bvs (S ++ [x])) (bvs_append _ _).symm (by unfold maxLen; omega) (by omega) (by have := HB.out.size; simp; omega) ?_
      intro A3 c3 w3 o3 g3 q3
      have HB3 := Lib.hid (appB (newB HB.out (.cells #[.int .u8 (x.toNat : Int)] 5)) hO2 g3 (Nat.le_refl _) (newB HB.out (.cells #[.int .u8 (x.toNat : Int)] 5)).size)
      have HO3 : Hid (OwnB w3 w.heap.size A3 c3 (S ++ [x])) := Lib.hid (by unfold OwnB; rw [List.length_append]; exact o3)
      clear hO2 o3 g3 q3
      go_wp2_with fail
      go_roundw
      case rel => exact ⟨m / 128, S ++ [x], A3, c3, by simp, by go_num, by have := HM.out; omega, HTN.out, HO3.out, HB3.out⟩
      case measure => have := HGO.out; simp [intOf]; omega
    · have e1 : decide ((127 : Int) < (m : Int)) = false := by simp; omega
      have hx : IntKind.u8.wrap (m : Int) = ((by8 m).toNat : Int) := by rw [by8_mod, IntKind.wrap_u8]; omega
      have hx3 : (m : Int) % 256 = ((by8 m).toNat : Int) := by rw [by8_mod]; omega
      have HTN : Hid (T = S ++ [by8 m]) := Lib.hid (by rw [HTS.out, leb_last (by omega)])
      have hm0 : (m : Int) < 18446744073709551616 := by omega
      clear hm hgo
      generalize by8 m = x at *
      skip
      all_goals
        go_wp2_with (at_builtin; refine Hid.out ?_)
        have hO2 := Own.alloc (show Own wo w.heap.size 5 1 A2 S.length c2 (bvs S) from HO.out) (.cells #[.int .u8 (x.toNat : Int)] 5)
        refine wpList_app (xs := bvs S) rfl rfl elem_u8 rfl hO2 rfl (byte_new wo x) (bvs_one _) (S.length + 1) rfl (bvs (S ++ [x])) (bvs_append _ _).symm (by unfold maxLen; omega) (by omega) (by have := HB.out.size; simp; omega) ?_
        intro A3 c3 w3 o3 g3 q3
        have HB3 := Lib.hid (appB (newB HB.out (.cells #[.int .u8 (x.toNat : Int)] 5)) hO2 g3 (Nat.le_refl _) (newB HB.out (.cells #[.int .u8 (x.toNat : Int)] 5)).size)
        have HO3 : Hid (OwnB w3 w.heap.size A3 c3 (S ++ [x])) := Lib.hid (by unfold OwnB; rw [List.length_append]; exact o3)
        clear hO2 o3 g3 q3
        go_wp2_with fail
        go_ret2
        rw [HTN.out]
        exact ⟨A3, c3, by rw [List.length_append]; rfl, HO3.out, HB3.out⟩
set_option maxRecDepth 100000 in
set_option maxHeartbeats 1600000 in
theorem one_zig (n : Nat) (w : World) (hn : n < 18446744073709551616) :
    Calls Tryz.prog 64 #[.int .u8 122, .int .u64 (n : Int)] w (OnePost w true (leb (sign n))) := by
  have HF := Lib.hid (fun W => fixed_t 122 W)
  have HRS := Lib.hid (fun W => rsign_t n W hn)
  rw [show fixI 122 = (0, false) from rfl] at HF
  dsimp only at HF
  obtain ⟨M, hM⟩ : ∃ M, M = sign n := ⟨_, rfl⟩
  have hM64 : M < 18446744073709551616 := by rw [hM]; exact sign_lt hn
  obtain ⟨T, hT⟩ : ∃ T, T = leb M := ⟨_, rfl⟩
  rw [show leb (sign n) = T by rw [hT, hM]]
  have hTl : T.length ≤ 10 := by rw [hT]; exact leb_len64 hM64
  rw [← hM] at HRS
  have HT := Lib.hid hT
  have HTL := Lib.hid hTl
  have HM64 := Lib.hid hM64
  clear hn hT hM hTl hM64
  go_enter Tryz.func64, Tryz.ntmps64
  go_wp2_with fail
  refine (HF.out _).mono ?_
  rintro e w1 ⟨rfl, rfl⟩
  go_wp2_with fail
  refine (HRS.out _).mono ?_
  rintro e w1 ⟨rfl, rfl⟩
  go_wp2_with fail
  go_loopw [8, 11] (fun b u wr => ∃ (m : Nat) (S : List UInt8) (A2 : Option Addr) (c2 : Nat), b = .slice A2 S.length c2 ∧ u = .int .u64 (m : Int) ∧ m < 18446744073709551616 ∧ T = S ++ leb m ∧ OwnB wr w.heap.size A2 c2 S ∧ Below w.heap.size w wr) (fun _ u _ => (intOf u).toNat)
  case atStart => exact ⟨M, [], none, 0, rfl, rfl, HM64.out, HT.out, Own.nil _ _ _ _, Below.refl _ _⟩
  case round =>
    obtain ⟨m, S, A2, c2, rfl, rfl, hm, hTS, ho, hb⟩ := hrel
    obtain ⟨wo, rfl⟩ : ∃ wo : World, wo = wr := ⟨_, rfl⟩
    have HO := Lib.hid ho
    have HB := Lib.hid hb
    have HTS := Lib.hid hTS
    have hSl : S.length ≤ 10 := by have := HTL.out; rw [hTS, List.length_append] at this; omega
    clear ho hb hTS
    by_cases hgo : 127 < m
    · have e1 : decide ((127 : Int) < (m : Int)) = true := by simp; omega
      have e2 : ((110 : Int) == 110) = true := rfl
      have hx : 128 + (m : Int) % 128 = ((by8 (128 + m % 128)).toNat : Int) := by rw [by8_nat (by omega)]; omega
      have hx2 : IntKind.u8.wrap (((by8 (128 + m % 128)).toNat : Int)) = ((by8 (128 + m % 128)).toNat : Int) := IntWalk.u8_in _ ⟨by omega, by have := (by8 (128 + m % 128)).toNat_lt; omega⟩
      have HM := Lib.hid hm
      have HGO := Lib.hid hgo
      have hm0 : (m : Int) < 18446744073709551616 := by omega
      have HTN : Hid (T = (S ++ [by8 (128 + m % 128)]) ++ leb (m / 128)) := Lib.hid (by rw [HTS.out, leb_more (by omega), List.append_assoc]; rfl)
      clear hm hgo
      generalize by8 (128 + m % 128) = x at *
      go_wp2_with (at_builtin; refine Hid.out ?_)
      have hO2 := Own.alloc (show Own wo w.heap.size 5 1 A2 S.length c2 (bvs S) from HO.out) (.cells #[.int .u8 (x.toNat : Int)] 5)
      refine wpList_app (xs := bvs S) rfl rfl elem_u8 rfl hO2 rfl (byte_new wo x) (bvs_one _) (S.length + 1) rfl (bvs (S ++ [x])) (bvs_append _ _).symm (by unfold maxLen; omega) (by omega) (by have := HB.out.size; simp; omega) ?_
      intro A3 c3 w3 o3 g3 q3
      have HB3 := Lib.hid (appB (newB HB.out (.cells #[.int .u8 (x.toNat : Int)] 5)) hO2 g3 (Nat.le_refl _) (newB HB.out (.cells #[.int .u8 (x.toNat : Int)] 5)).size)
      have HO3 : Hid (OwnB w3 w.heap.size A3 c3 (S ++ [x])) := Lib.hid (by unfold OwnB; rw [List.length_append]; exact o3)
      clear hO2 o3 g3 q3
      go_wp2_with fail
      go_roundw
      case rel => exact ⟨m / 128, S ++ [x], A3, c3, by simp, by go_num, by have := HM.out; omega, HTN.out, HO3.out, HB3.out⟩
      case measure => have := HGO.out; simp [intOf]; omega
    · have e1 : decide ((127 : Int) < (m : Int)) = false := by simp; omega
      have hx : IntKind.u8.wrap (m : Int) = ((by8 m).toNat : Int) := by rw [by8_mod, IntKind.wrap_u8]; omega
      have hx3 : (m : Int) % 256 = ((by8 m).toNat : Int) := by rw [by8_mod]; omega
      have HTN : Hid (T = S ++ [by8 m]) := Lib.hid (by rw [HTS.out, leb_last (by omega)])
      have hm0 : (m : Int) < 18446744073709551616 := by omega
      clear hm hgo
      generalize by8 m = x at *
      skip
      all_goals
        go_wp2_with (at_builtin; refine Hid.out ?_)
        have hO2 := Own.alloc (show Own wo w.heap.size 5 1 A2 S.length c2 (bvs S) from HO.out) (.cells #[.int .u8 (x.toNat : Int)] 5)
        refine wpList_app (xs := bvs S) rfl rfl elem_u8 rfl hO2 rfl (byte_new wo x) (bvs_one _) (S.length + 1) rfl (bvs (S ++ [x])) (bvs_append _ _).symm (by unfold maxLen; omega) (by omega) (by have := HB.out.size; simp; omega) ?_
        intro A3 c3 w3 o3 g3 q3
        have HB3 := Lib.hid (appB (newB HB.out (.cells #[.int .u8 (x.toNat : Int)] 5)) hO2 g3 (Nat.le_refl _) (newB HB.out (.cells #[.int .u8 (x.toNat : Int)] 5)).size)
        have HO3 : Hid (OwnB w3 w.heap.size A3 c3 (S ++ [x])) := Lib.hid (by unfold OwnB; rw [List.length_append]; exact o3)
        clear hO2 o3 g3 q3
        go_wp2_with fail
        go_ret2
        rw [HTN.out]
        exact ⟨A3, c3, by rw [List.length_append]; rfl, HO3.out, HB3.out⟩
set_option maxRecDepth 100000 in
set_option maxHeartbeats 1600000 in
theorem one_nine (n : Nat) (w : World) (hn : n < 18446744073709551616) :
    Calls Tryz.prog 64 #[.int .u8 110, .int .u64 (n : Int)] w (OnePost w true (nine 8 (sign n))) := by
  have HF := Lib.hid (fun W => fixed_t 110 W)
  have HRS := Lib.hid (fun W => rsign_t n W hn)
  rw [show fixI 110 = (0, false) from rfl] at HF
  dsimp only at HF
  obtain ⟨M, hM⟩ : ∃ M, M = sign n := ⟨_, rfl⟩
  have hM64 : M < 18446744073709551616 := by rw [hM]; exact sign_lt hn
  obtain ⟨T, hT⟩ : ∃ T, T = nine 8 M := ⟨_, rfl⟩
  rw [show nine 8 (sign n) = T by rw [hT, hM]]
  have hTl : T.length ≤ 10 := by rw [hT]; exact Nat.le_trans (nine_len 8 M) (by decide)
  rw [← hM] at HRS
  have HT := Lib.hid hT
  have HTL := Lib.hid hTl
  have HM64 := Lib.hid hM64
  clear hn hT hM hTl hM64
  go_enter Tryz.func64, Tryz.ntmps64
  go_wp2_with fail
  refine (HF.out _).mono ?_
  rintro e w1 ⟨rfl, rfl⟩
  go_wp2_with fail
  refine (HRS.out _).mono ?_
  rintro e w1 ⟨rfl, rfl⟩
  go_wp2_with fail
  go_loopw [8, 11] (fun b u wr => ∃ (m : Nat) (S : List UInt8) (A2 : Option Addr) (c2 : Nat), b = .slice A2 S.length c2 ∧ u = .int .u64 (m : Int) ∧ m < 18446744073709551616 ∧ (T = S ++ nine (8 - S.length) m ∧ S.length ≤ 8) ∧ OwnB wr w.heap.size A2 c2 S ∧ Below w.heap.size w wr) (fun _ u _ => (intOf u).toNat)
  case atStart => exact ⟨M, [], none, 0, rfl, rfl, HM64.out, ⟨HT.out, Nat.zero_le _⟩, Own.nil _ _ _ _, Below.refl _ _⟩
  case round =>
    obtain ⟨m, S, A2, c2, rfl, rfl, hm, ⟨hTS, hS8⟩, ho, hb⟩ := hrel
    obtain ⟨wo, rfl⟩ : ∃ wo : World, wo = wr := ⟨_, rfl⟩
    have HO := Lib.hid ho
    have HB := Lib.hid hb
    have HTS := Lib.hid hTS
    have hSl : S.length ≤ 10 := by have := HTL.out; rw [hTS, List.length_append] at this; omega
    clear ho hb hTS
    by_cases hgo : 127 < m ∧ S.length < 8
    · have e1 : decide ((127 : Int) < (m : Int)) = true := by simp; omega
      have e2 : ((S.length : Int) == 8) = false := by simp; omega
      have e3 : (S.length == 8) = false := by simp; omega
      have HS8 : Hid (S.length < 8) := Lib.hid hgo.2
      clear hS8
      have hx : 128 + (m : Int) % 128 = ((by8 (128 + m % 128)).toNat : Int) := by rw [by8_nat (by omega)]; omega
      have hx2 : IntKind.u8.wrap (((by8 (128 + m % 128)).toNat : Int)) = ((by8 (128 + m % 128)).toNat : Int) := IntWalk.u8_in _ ⟨by omega, by have := (by8 (128 + m % 128)).toNat_lt; omega⟩
      have HM := Lib.hid hm
      have HGO := Lib.hid hgo
      have hm0 : (m : Int) < 18446744073709551616 := by omega
      have HTN : Hid (T = (S ++ [by8 (128 + m % 128)]) ++ nine (8 - (S.length + 1)) (m / 128)) := Lib.hid (by rw [HTS.out, show 8 - S.length = (8 - (S.length + 1)) + 1 by omega, nine, if_neg (by omega), List.append_assoc]; rfl)
      clear hm hgo
      generalize by8 (128 + m % 128) = x at *
      go_wp2_with (at_builtin; refine Hid.out ?_)
      have hO2 := Own.alloc (show Own wo w.heap.size 5 1 A2 S.length c2 (bvs S) from HO.out) (.cells #[.int .u8 (x.toNat : Int)] 5)
      refine wpList_app (xs := bvs S) rfl rfl elem_u8 rfl hO2 rfl (byte_new wo x) (bvs_one _) (S.length + 1) rfl (bvs (S ++ [x])) (bvs_append _ _).symm (by unfold maxLen; omega) (by omega) (by have := HB.out.size; simp; omega) ?_
      intro A3 c3 w3 o3 g3 q3
      have HB3 := Lib.hid (appB (newB HB.out (.cells #[.int .u8 (x.toNat : Int)] 5)) hO2 g3 (Nat.le_refl _) (newB HB.out (.cells #[.int .u8 (x.toNat : Int)] 5)).size)
      have HO3 : Hid (OwnB w3 w.heap.size A3 c3 (S ++ [x])) := Lib.hid (by unfold OwnB; rw [List.length_append]; exact o3)
      clear hO2 o3 g3 q3
      go_wp2_with fail
      go_roundw
      case rel => exact ⟨m / 128, S ++ [x], A3, c3, by simp, by go_num, by have := HM.out; omega, ⟨by rw [List.length_append]; exact HTN.out, by have := HS8.out; rw [List.length_append]; exact this⟩, HO3.out, HB3.out⟩
      case measure => have := HGO.out; simp [intOf]; omega
    · have e1 : decide ((127 : Int) < (m : Int)) = false ∨ decide ((127 : Int) < (m : Int)) = true ∧ ((S.length : Int) == 8) = true := by
        by_cases h1 : 127 < m
        · exact .inr ⟨by simp; omega, by simp; omega⟩
        · exact .inl (by simp; omega)
      have hx : IntKind.u8.wrap (m : Int) = ((by8 m).toNat : Int) := by rw [by8_mod, IntKind.wrap_u8]; omega
      have hx3 : (m : Int) % 256 = ((by8 m).toNat : Int) := by rw [by8_mod]; omega
      have HTN : Hid (T = S ++ [by8 m]) := Lib.hid (by 
        rw [HTS.out]
        by_cases h8 : S.length = 8
        · rw [h8]; rfl
        · rw [show 8 - S.length = (8 - (S.length + 1)) + 1 by omega, nine, if_pos (by omega)])
      have hm0 : (m : Int) < 18446744073709551616 := by omega
      clear hm hgo
      generalize by8 m = x at *
      clear hS8
      rcases e1 with e1 | ⟨e1, e2⟩
      all_goals
        go_wp2_with (at_builtin; refine Hid.out ?_)
        have hO2 := Own.alloc (show Own wo w.heap.size 5 1 A2 S.length c2 (bvs S) from HO.out) (.cells #[.int .u8 (x.toNat : Int)] 5)
        refine wpList_app (xs := bvs S) rfl rfl elem_u8 rfl hO2 rfl (byte_new wo x) (bvs_one _) (S.length + 1) rfl (bvs (S ++ [x])) (bvs_append _ _).symm (by unfold maxLen; omega) (by omega) (by have := HB.out.size; simp; omega) ?_
        intro A3 c3 w3 o3 g3 q3
        have HB3 := Lib.hid (appB (newB HB.out (.cells #[.int .u8 (x.toNat : Int)] 5)) hO2 g3 (Nat.le_refl _) (newB HB.out (.cells #[.int .u8 (x.toNat : Int)] 5)).size)
        have HO3 : Hid (OwnB w3 w.heap.size A3 c3 (S ++ [x])) := Lib.hid (by unfold OwnB; rw [List.length_append]; exact o3)
        clear hO2 o3 g3 q3
        go_wp2_with fail
        go_ret2
        rw [HTN.out]
        exact ⟨A3, c3, by rw [List.length_append]; rfl, HO3.out, HB3.out⟩
end Go.Proofs.YtbfhiegbgkkgiaaGreat
/- Wire: the reference's Put and Same walked; WirePuts walked. -/

namespace Go.Proofs.YtbfhiegbgkkgiaaGreat
open Go.RowKit
open Wi
set_option maxRecDepth 100000 in
theorem one_any {x : Nat} {f : Frm} (hf : frms[fi x]? = some f) (n : Nat) (w : World) (hn : n < 18446744073709551616) :
    Calls Tryz.prog 64 #[.int .u8 (x : Int), .int .u64 (n : Int)] w (OnePost w (fitsF f n) (encF f n)) := by
  have h1 := frm_letter hf
  have h2 := frm_mem hf
  have h8 : decide (n < 256 ^ 8) = true := decide_eq_true (by omega)
  subst h1
  simp only [frms, List.mem_cons, List.not_mem_nil, or_false] at h2
  rcases h2 with rfl | rfl | rfl | rfl | rfl | rfl | rfl | rfl | rfl | rfl
  · exact one_low 98 n 1 w rfl (by decide) (by decide) hn
  · exact one_low 104 n 2 w rfl (by decide) (by decide) hn
  · exact one_high 72 n 2 w rfl (by decide) (by decide) hn
  · exact one_low 119 n 4 w rfl (by decide) (by decide) hn
  · exact one_high 87 n 4 w rfl (by decide) (by decide) hn
  · have h := one_low 113 n 8 w rfl (by decide) (by decide) hn
    rw [h8] at h
    exact h
  · have h := one_high 81 n 8 w rfl (by decide) (by decide) hn
    rw [h8] at h
    exact h
  · exact one_leb n w hn
  · exact one_zig n w hn
  · exact one_nine n w hn
theorem u64_list {zs : List Int} (z : ∀ x ∈ zs, 0 ≤ x ∧ x ≤ 18446744073709551615) : ∃ ns : List Nat, zs = ns.map (fun n : Nat => (n : Int)) ∧ ∀ n ∈ ns, n < 18446744073709551616 := by
  induction zs with
  | nil => exact ⟨[], rfl, by simp⟩
  | cons x zs ih =>
    obtain ⟨ns, h1, h2⟩ := ih (fun y hy => z y (List.mem_cons_of_mem _ hy))
    obtain ⟨hx0, hx1⟩ := z x (by simp)
    refine ⟨x.toNat :: ns, by rw [h1, List.map_cons]; congr 1; omega, fun n hn => ?_⟩
    rcases List.mem_cons.1 hn with rfl | hn
    · omega
    · exact h2 n hn
theorem u64_arg {w : World} {A : Option Addr} {l : List Int} (z : ∀ n ∈ l, (Lit.int .u64 n).wf = true) (s : Reads w w.heap.size 1 A l.length (l.map (intv .u64))) :
    ∃ ns : List Nat, ns.length = l.length ∧ Us w w.heap.size A ns ∧ ∀ n ∈ ns, n < 18446744073709551616 := by
  obtain ⟨ns, rfl, h⟩ := u64_list (zs := l) (fun x hx => WfBounds.u64 (z x hx))
  refine ⟨ns, by simp, ?_, h⟩
  unfold Us uvs uv
  rw [List.length_map, List.map_map] at s
  exact s
end Go.Proofs.YtbfhiegbgkkgiaaGreat
/- Bytes of a sketch: the document's, and one number put behind others, walked. -/

namespace Go.Proofs.YtbfhiegbgkkgiaaGreat
open Go.RowKit
open Pl
open Sc
open Wi
/-- A number with a sign, as it is meant without one. -/
def zk (k : Int) : Nat := (k % 18446744073709551616).toNat
theorem zk_lt (k : Int) : zk k < 18446744073709551616 := by unfold zk; omega
theorem zk_wrap (k : Int) : IntKind.u64.wrap k = (zk k : Int) := by rw [IntKind.wrap_u64]; unfold zk; omega
def dkey : Option Int → Int → List UInt8
  | none, k => leb (sign (zk k))
  | some q, k => leb (k - q - 1).toNat
def prsW : Option Int → List Pr → List UInt8
  | _, [] => []
  | pv, p :: l => dkey pv p.1 ++ leb p.2 ++ prsW (some p.1) l
def headW (a m n f : Nat) : List UInt8 := leb a ++ leb m ++ leb n ++ leb f
/-- The document's bytes of a sketch. -/
def docW (a m : Nat) (l : List Pr) (f : Nat) : List UInt8 := headW a m l.length f ++ prsW none l
def prevK (l : List Pr) (i : Nat) : Option Int := if i = 0 then none else (l[i - 1]?).map (·.1)
theorem prevK_zero (l : List Pr) : prevK l 0 = none := rfl
theorem prevK_next {l : List Pr} {j : Nat} {q : Pr} (h : l[j]? = some q) : prevK l (j + 1) = some q.1 := by
  unfold prevK
  rw [if_neg (by omega), Nat.add_sub_cancel, h]
  rfl
theorem prsW_step {l : List Pr} {i : Nat} {p : Pr} (h : l[i]? = some p) (pv : Option Int) : prsW pv (l.drop i) = dkey pv p.1 ++ leb p.2 ++ prsW (prevK l (i + 1)) (l.drop (i + 1)) := by
  rw [drop_next h, prevK_next h]
  rfl
theorem dkey_len (pv : Option Int) (k : Int) (h0 : -1048576 ≤ k) (h1 : k ≤ 1048576) (h : ∀ q, pv = some q → -1048576 ≤ q) : (dkey pv k).length ≤ 10 := by
  cases pv with
  | none => exact leb_len64 (sign_lt (zk_lt k))
  | some q => have := h q rfl; exact leb_len64 (by omega)
theorem frm_v : frms[fi (118 : UInt8).toNat]? = some (118, 0, 108, 109) := by decide
theorem frm_z : frms[fi (122 : UInt8).toNat]? = some (122, 0, 110, 111) := by decide
theorem putL_v (pt : List UInt8) (n : Nat) (ns : List Nat) (S : List UInt8) : putL (118 :: pt) (n :: ns) S = putL pt ns (S ++ leb n) := by
  rw [putL, frm_v]
  rfl
theorem putL_z (pt : List UInt8) (n : Nat) (ns : List Nat) (S : List UInt8) : putL (122 :: pt) (n :: ns) S = putL pt ns (S ++ leb (sign n)) := by
  rw [putL, frm_z]
  rfl
theorem putW_v (n : Nat) : putW [118] [n] = (0, leb n) := by
  unfold putW
  rw [if_pos ⟨by decide, rfl⟩, putL_v]
  rfl
theorem putW_z (n : Nat) : putW [122] [n] = (0, leb (sign n)) := by
  unfold putW
  rw [if_pos ⟨by decide, rfl⟩, putL_z]
  rfl
theorem putW_vvvv (a m n f : Nat) : putW [118, 118, 118, 118] [a, m, n, f] = (0, headW a m n f) := by
  unfold putW
  rw [if_pos ⟨by decide, rfl⟩, putL_v, putL_v, putL_v, putL_v]
  rfl
theorem headW_len {a m n f : Nat} (ha : a < 18446744073709551616) (hm : m < 18446744073709551616) (hn : n < 18446744073709551616) (hf : f < 18446744073709551616) : (headW a m n f).length ≤ 40 := by
  have h1 := leb_len64 ha
  have h2 := leb_len64 hm
  have h3 := leb_len64 hn
  have h4 := leb_len64 hf
  unfold headW
  simp only [List.length_append]
  omega
/-- Behind S now stands L, too. -/
def Behind (base : Nat) (A : Option Addr) (S L : List UInt8) (w : World) (e : Ending) (w' : World) : Prop := ∃ A' c, e = .returned (.slice A' (S ++ L).length c) ∧ OwnB w' base A' c (S ++ L) ∧ Only (fun i => blockOf A = some i) w w'
theorem behind_below {w w' : World} {base : Nat} {A : Option Addr} {c : Nat} {S : List UInt8} (ho : OwnB w base A c S) (hb : base ≤ w.heap.size) (k : Only (fun i => blockOf A = some i) w w') : Below base w w' :=
  k.below hb (fun _ hi => (Own.block (show Own w base 5 1 A S.length c (bvs S) from ho) hi).1)
set_option maxRecDepth 100000 in
theorem ddput_t (s : ByteArray) (n : Nat) (L : List UInt8) (hw : putW s.data.toList [n] = (0, L)) (hn : n < 18446744073709551616) (base : Nat) (A : Option Addr) (c : Nat) (S : List UInt8) (w : World) (ho : OwnB w base A c S) (hb : base ≤ w.heap.size) (hl : S.length + L.length ≤ 90000000) :
    Calls Tryz.prog 28 #[.slice A S.length c, .string s, .int .u64 (n : Int)] w (Behind base A S L w) := by
  have HP := Lib.hid (fun W A0 (hb : Us W W.heap.size A0 [n]) => put_t s A0 1 [n] W hb (by simp) (by simpa using hn))
  rw [hw] at HP
  have HO := Lib.hid ho
  have HBS := Lib.hid hb
  have HL := Lib.hid hl
  clear hw hn ho hb hl
  go_enter Tryz.func28, Tryz.ntmps28
  go_wp2_with fail
  have b1 : Below w.heap.size w (w.alloc (.cells #[.int .u64 (n : Int)] 39)) := (Below.refl _ _).alloc (Nat.le_refl _) _
  refine (HP.out _ (some ⟨w.heap.size, 0, none⟩) (u64_new w n)).mono ?_
  rintro e w2 ⟨A2, c2, rfl, o2, b2⟩
  have B2 := Lib.hid (nextB b1 b2)
  have O2 := Lib.hid o2
  clear b1 b2 o2
  dsimp only
  go_wp2_with (at_builtin; refine Hid.out ?_)
  have hO2 : OwnB w2 base A c S := Own.below (show Own w base 5 1 A S.length c (bvs S) from HO.out) B2.out
  refine wpList_app (xs := bvs S) rfl rfl elem_u8 rfl hO2 rfl (OwnB.reads O2.out) (bvs_one _) (S.length + L.length) rfl (bvs (S ++ L)) (bvs_append _ _).symm (by have := HL.out; unfold maxLen; omega) (by have := HL.out; omega) (Nat.le_trans HBS.out B2.out.size) ?_
  intro A3 c3 w3 o3 g3 q3
  have B3 : Hid (Only (fun i => blockOf A = some i) w w3) := Lib.hid ((Only.of_below B2.out).trans (Only.of_grown g3))
  have O3 : Hid (OwnB w3 base A3 c3 (S ++ L)) := Lib.hid (by unfold OwnB; rw [List.length_append]; exact o3)
  clear hO2 o3 g3 q3
  go_wp2_with fail
  go_ret
  exact ⟨A3, c3, by rw [List.length_append]; rfl, O3.out, B3.out⟩
set_option maxRecDepth 100000 in
theorem one21_t (x n : Nat) (L : List UInt8) (h1 : ∀ W, Calls Tryz.prog 64 #[.int .u8 (x : Int), .int .u64 (n : Int)] W (OnePost W true L)) (base : Nat) (A : Option Addr) (c : Nat) (S : List UInt8) (w : World) (ho : OwnB w base A c S) (hb : base ≤ w.heap.size) (hl : S.length + L.length ≤ 90000000) :
    Calls Tryz.prog 38 #[.slice A S.length c, .int .u8 (x : Int), .int .u64 (n : Int)] w (Behind base A S L w) := by
  have HP := Lib.hid h1
  have HO := Lib.hid ho
  have HBS := Lib.hid hb
  have HL := Lib.hid hl
  clear h1 ho hb hl
  go_enter Tryz.func38, Tryz.ntmps38
  go_wp2_with fail
  refine (HP.out _).mono ?_
  rintro e w2 ⟨A2, c2, rfl, o2, b2⟩
  have B2 := Lib.hid b2
  have O2 := Lib.hid o2
  clear b2 o2
  go_wp2_with (at_builtin; refine Hid.out ?_)
  have hO2 : OwnB w2 base A c S := Own.below (show Own w base 5 1 A S.length c (bvs S) from HO.out) B2.out
  refine wpList_app (xs := bvs S) rfl rfl elem_u8 rfl hO2 rfl (OwnB.reads O2.out) (bvs_one _) (S.length + L.length) rfl (bvs (S ++ L)) (bvs_append _ _).symm (by have := HL.out; unfold maxLen; omega) (by have := HL.out; omega) (Nat.le_trans HBS.out B2.out.size) ?_
  intro A3 c3 w3 o3 g3 q3
  have B3 : Hid (Only (fun i => blockOf A = some i) w w3) := Lib.hid ((Only.of_below B2.out).trans (Only.of_grown g3))
  have O3 : Hid (OwnB w3 base A3 c3 (S ++ L)) := Lib.hid (by unfold OwnB; rw [List.length_append]; exact o3)
  clear hO2 o3 g3 q3
  go_wp2_with fail
  go_ret
  exact ⟨A3, c3, by rw [List.length_append]; rfl, O3.out, B3.out⟩
theorem one21_v (n : Nat) (hn : n < 18446744073709551616) (base : Nat) (A : Option Addr) (c : Nat) (S : List UInt8) (w : World) (ho : OwnB w base A c S) (hb : base ≤ w.heap.size) (hl : S.length + 10 ≤ 90000000) :
    Calls Tryz.prog 38 #[.slice A S.length c, .int .u8 118, .int .u64 (n : Int)] w (Behind base A S (leb n) w) :=
  one21_t 118 n (leb n) (fun W => one_leb n W hn) base A c S w ho hb (by have := leb_len64 hn; omega)
theorem one21_z (n : Nat) (hn : n < 18446744073709551616) (base : Nat) (A : Option Addr) (c : Nat) (S : List UInt8) (w : World) (ho : OwnB w base A c S) (hb : base ≤ w.heap.size) (hl : S.length + 10 ≤ 90000000) :
    Calls Tryz.prog 38 #[.slice A S.length c, .int .u8 122, .int .u64 (n : Int)] w (Behind base A S (leb (sign n)) w) :=
  one21_t 122 n (leb (sign n)) (fun W => one_zig n W hn) base A c S w ho hb (by have := leb_len64 (sign_lt hn); omega)
theorem ddput_v (n : Nat) (hn : n < 18446744073709551616) (base : Nat) (A : Option Addr) (c : Nat) (S : List UInt8) (w : World) (ho : OwnB w base A c S) (hb : base ≤ w.heap.size) (hl : S.length + 10 ≤ 90000000) :
    Calls Tryz.prog 28 #[.slice A S.length c, .string ⟨#[118]⟩, .int .u64 (n : Int)] w (Behind base A S (leb n) w) :=
  ddput_t ⟨#[118]⟩ n (leb n) (putW_v n) hn base A c S w ho hb (by have := leb_len64 hn; omega)
theorem ddput_z (n : Nat) (hn : n < 18446744073709551616) (base : Nat) (A : Option Addr) (c : Nat) (S : List UInt8) (w : World) (ho : OwnB w base A c S) (hb : base ≤ w.heap.size) (hl : S.length + 10 ≤ 90000000) :
    Calls Tryz.prog 28 #[.slice A S.length c, .string ⟨#[122]⟩, .int .u64 (n : Int)] w (Behind base A S (leb (sign n)) w) :=
  ddput_t ⟨#[122]⟩ n (leb (sign n)) (putW_z n) hn base A c S w ho hb (by have := leb_len64 (sign_lt hn); omega)
end Go.Proofs.YtbfhiegbgkkgiaaGreat
