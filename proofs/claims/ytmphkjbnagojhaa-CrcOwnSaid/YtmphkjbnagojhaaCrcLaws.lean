/- CRC-32: the laws walked, each returns true and writes nothing that was there. -/
import Derived.Test.YtmphkjbnagojhaaCrcWalks
import Derived.Test.YtmphkjbnagojhaaCrcFits
namespace Go.Proofs.Ytmphkjbnagojhaa
open Go.RowKit
open Cr (W32)

/-- The contract of a text that lies in a new block. -/
theorem sum_lit (g d : Nat) (cs : Array Value) (m : Nat × Nat) (l : List UInt8) (w : World) (v : Int) (n c : Nat) (hl : l.length ≤ 1000) (hn : n = l.length) (hb : Blk w g 42 tab) (hg : w.heap[d]? = some (.cells cs 5 m)) (hcs : cs.toList = bvs l) (hv : ((Cr.sum l).toNat : Int) = v) :
    Calls Try.prog 10 #[.pointer (some ⟨g, 0, none⟩), .slice (some ⟨d, 0, none⟩) n c] w fun e w' => e = .returned (.int .u32 v) ∧ Blk w' g 42 tab ∧ Below w.heap.size w w' := by
  subst hn
  subst hv
  exact (sum_t g _ c l w (by unfold maxLen; omega) hb (Bts.lit hg hcs)).mono fun e w' ⟨h1, h2⟩ => ⟨h1, h2 ▸ hb, h2 ▸ Below.refl _ _⟩
theorem alive_sum : ((Cr.sum [49, 50, 51, 52, 53, 54, 55, 56, 57]).toNat : Int) = 3421780262 := by decide +kernel
theorem alive_sum1 : ((Cr.sum [49, 50, 51, 52]).toNat : Int) = 2615402659 := by decide +kernel
theorem alive_sum2 : ((Cr.sum [53, 54, 55, 56, 57]).toNat : Int) = 320708720 := by decide +kernel
theorem alive_join : ((Cr.it (8 * (5 : Int).toNat) 2615402659#32 ^^^ 320708720#32).toNat : Int) = 3421780262 := by decide +kernel
theorem alive_shift : ((Cr.it (8 * (1 : Int).toNat) 1#32).toNat : Int) = 1996959894 := by decide +kernel
theorem join_lit (a b : W32) (x y : Int) (n : Int) (w : World) (v : Int) (hx : x = (a.toNat : Int)) (hy : y = (b.toNat : Int)) (n1 : n ≤ 9223372036854775807) (hv : ((Cr.it (8 * n.toNat) a ^^^ b).toNat : Int) = v) :
    Calls Try.prog 11 #[.int .u32 x, .int .u32 y, .int .i64 n] w fun e w' => e = .returned (.int .u32 v) ∧ w = w' := by
  subst hx
  subst hy
  subst hv
  exact join_t a b n w n1
theorem shift_lit (a : W32) (x n : Int) (w : World) (v : Int) (hx : x = (a.toNat : Int)) (n1 : n ≤ 9223372036854775807) (hv : ((Cr.it (8 * n.toNat) a).toNat : Int) = v) :
    Calls Try.prog 13 #[.int .u32 x, .int .i64 n] w fun e w' => e = .returned (.int .u32 v) ∧ w = w' := by
  subst hx
  subst hv
  exact shift_t a n w n1

set_option maxHeartbeats 400000 in
theorem alive_t (w : World) : Calls Try.prog 8 #[] w fun e w' => e = .returned (.bool true) ∧ Below w.heap.size w w' := by
  have kc := fun (w : World) (C : Array Value) (n c : Nat) => Lib.run_convert_bytes_const (P := Try.prog) w 22 5 C n c Try.underlying22 Try.underlying5
  go_enter Try.func8, Try.ntmps8
  go_wp2_with fail
  refine (new_t _).mono ?_
  rintro e w1 ⟨g, rfl, hg, hblk, hb1⟩
  have HB := Lib.hid hblk
  clear hblk
  go_wp2_with fail
  refine (sum_lit g _ _ _ [49, 50, 51, 52, 53, 54, 55, 56, 57] _ 3421780262 9 9 (by decide) rfl (HB.out.alloc _) (newest _ _) rfl alive_sum).mono ?_
  rintro e w2 ⟨rfl, hblk, hbx⟩
  have c2 := nextB (newB hb1 _) hbx
  have HB2 := Lib.hid hblk
  clear hblk hbx
  go_wp2_with fail
  refine (sum_lit g _ _ _ [49, 50, 51, 52] _ 2615402659 4 4 (by decide) rfl (HB2.out.alloc _) (newest _ _) rfl alive_sum1).mono ?_
  rintro e w3 ⟨rfl, hblk, hbx⟩
  have c3 := nextB (newB c2 _) hbx
  have HB3 := Lib.hid hblk
  clear hblk hbx
  go_wp2_with fail
  refine (sum_lit g _ _ _ [53, 54, 55, 56, 57] _ 320708720 5 5 (by decide) rfl (HB3.out.alloc _) (newest _ _) rfl alive_sum2).mono ?_
  rintro e w4 ⟨rfl, hblk, hbx⟩
  have c4 := nextB (newB c3 _) hbx
  have HB4 := Lib.hid hblk
  clear hblk hbx
  go_wp2_with fail
  refine (join_lit 2615402659#32 320708720#32 _ _ 5 _ 3421780262 (by decide) (by decide) (by omega) alive_join).mono ?_
  rintro e w3 ⟨rfl, rfl⟩
  go_wp2_with fail
  refine (shift_lit 1#32 _ 1 _ 1996959894 (by decide) (by omega) alive_shift).mono ?_
  rintro e w3 ⟨rfl, rfl⟩
  go_wp2
  go_ret
  exact ⟨rfl, c4⟩

set_option maxHeartbeats 800000 in
theorem crcShifts_walk (w : World) (c : Int) (c0 : 0 ≤ c) (c1 : c ≤ 4294967295) (n : Int) (n0 : -9223372036854775808 ≤ n) (n1 : n ≤ 9223372036854775807) (a : Int) (a0 : 0 ≤ a) (a1 : a ≤ 4294967295) (b : Int) (b0 : 0 ≤ b) (b1 : b ≤ 4294967295) :
    Calls Try.prog 4 #[.int .u32 c, .int .i64 n, .int .u32 a, .int .u32 b] w fun e w' => e = .returned (.bool true) ∧ Below w.heap.size w w' := by
  obtain ⟨C, rfl⟩ : ∃ C : W32, c = (C.toNat : Int) := ⟨BitVec.ofNat 32 c.toNat, by simp; omega⟩
  obtain ⟨D, rfl⟩ : ∃ D : W32, a = (D.toNat : Int) := ⟨BitVec.ofNat 32 a.toNat, by simp; omega⟩
  have hxy : Cr.it (8 * (b % 1000000000).toNat) (Cr.it (8 * ((D.toNat : Int) % 1000000000).toNat) C) = Cr.it (8 * ((D.toNat : Int) % 1000000000 + b % 1000000000).toNat) C := by
    rw [← Cr.it_add]
    congr 1
    omega
  have HXY := Lib.hid hxy
  clear hxy
  by_cases h3 : n ≤ 3000
  · have hd : decide ((3000 : Int) < n) = false := by simp; omega
    go_enter Try.func4, Try.ntmps4
    go_wp2_with fail
    refine (alive_t _).mono ?_
    rintro e w1 ⟨rfl, hb1⟩
    go_wp2_with fail
    refine (shift_t C _ _ (by omega)).mono ?_
    rintro e w2 ⟨rfl, rfl⟩
    go_wp2_with fail
    refine (rshift_t C _ _ (by omega) (by omega)).mono ?_
    rintro e w2 ⟨rfl, rfl⟩
    go_wp2_with fail
    refine (shift_t C _ _ (by omega)).mono ?_
    rintro e w2 ⟨rfl, rfl⟩
    go_wp2_with fail
    refine (shift_t _ _ _ (by omega)).mono ?_
    rintro e w2 ⟨rfl, rfl⟩
    go_wp2_with fail
    refine (shift_t C _ _ (by omega)).mono ?_
    rw [← HXY.out]
    rintro e w2 ⟨rfl, rfl⟩
    go_wp2_with fail
    refine (join_t C D _ _ (by omega)).mono ?_
    rintro e w2 ⟨rfl, rfl⟩
    have hx := xor_w (Cr.it (8 * (n).toNat) C) D
    generalize Cr.it (8 * (n).toNat) C ^^^ D = V at *
    go_wp2_with fail
    refine (rshift_t C _ _ (by omega) (by omega)).mono ?_
    rintro e w2 ⟨rfl, rfl⟩
    go_wp2_with fail
    go_ret
    exact ⟨by simp, hb1⟩
  · have hd : decide ((3000 : Int) < n) = true := by simp; omega
    have m0 : 0 ≤ n % 3000 := by omega
    have m1 : n % 3000 ≤ 3000 := by omega
    go_enter Try.func4, Try.ntmps4
    go_wp2_with fail
    refine (alive_t _).mono ?_
    rintro e w1 ⟨rfl, hb1⟩
    go_wp2_with fail
    refine (shift_t C _ _ (by omega)).mono ?_
    rintro e w2 ⟨rfl, rfl⟩
    go_wp2_with fail
    refine (rshift_t C _ _ (by omega) (by omega)).mono ?_
    rintro e w2 ⟨rfl, rfl⟩
    go_wp2_with fail
    refine (shift_t C _ _ (by omega)).mono ?_
    rintro e w2 ⟨rfl, rfl⟩
    go_wp2_with fail
    refine (shift_t _ _ _ (by omega)).mono ?_
    rintro e w2 ⟨rfl, rfl⟩
    go_wp2_with fail
    refine (shift_t C _ _ (by omega)).mono ?_
    rw [← HXY.out]
    rintro e w2 ⟨rfl, rfl⟩
    go_wp2_with fail
    refine (join_t C D _ _ (by omega)).mono ?_
    rintro e w2 ⟨rfl, rfl⟩
    have hx := xor_w (Cr.it (8 * (n % 3000).toNat) C) D
    generalize Cr.it (8 * (n % 3000).toNat) C ^^^ D = V at *
    go_wp2_with fail
    refine (rshift_t C _ _ (by omega) (by omega)).mono ?_
    rintro e w2 ⟨rfl, rfl⟩
    go_wp2_with fail
    go_ret
    exact ⟨by simp, hb1⟩

set_option maxHeartbeats 800000 in
theorem crcSums_walk (w : World) (c : Int) (c0 : 0 ≤ c) (c1 : c ≤ 4294967295) (A : Option Addr) (cp : Nat) (l : List UInt8) (hl : l.length ≤ maxLen) (hcp : l.length ≤ cp) (hr : Bts w w.heap.size A l) :
    Calls Try.prog 6 #[.int .u32 c, .slice A l.length cp] w fun e w' => e = .returned (.bool true) ∧ Below w.heap.size w w' := by
  obtain ⟨C, rfl⟩ : ∃ C : W32, c = (C.toNat : Int) := ⟨BitVec.ofNat 32 c.toNat, by simp; omega⟩
  unfold maxLen at hl
  have HR := Lib.hid hr
  clear hr
  by_cases hlen : l.length ≤ 20000
  · have hd : decide ((20000 : Int) < (l.length : Int)) = false := by simp; omega
    have HL := Lib.hid (show l.length ≤ maxLen by unfold maxLen; omega)
    have HL2 := Lib.hid (show l.length ≤ 1000000 by omega)
    go_enter Try.func6, Try.ntmps6
    go_wp2_with fail
    refine (alive_t _).mono ?_
    rintro e w1 ⟨rfl, hb1⟩
    go_wp2_with fail
    refine (new_t _).mono ?_
    rintro e w2 ⟨g, rfl, hg, hblk, hb2⟩
    have c2 := nextB hb1 hb2
    have HB := Lib.hid hblk
    clear hblk hb1 hb2
    go_wp2_with fail
    refine (sum_t g A cp l _ HL.out HB.out (HR.out.at_below c2)).mono ?_
    rintro e w3 ⟨rfl, rfl⟩
    go_wp2_with fail
    refine (rsum_t A cp l _ HL.out (HR.out.at_below c2)).mono ?_
    rintro e w3 ⟨rfl, rfl⟩
    go_wp2_with fail
    refine (more_t g C A cp l _ HL.out HB.out (HR.out.at_below c2)).mono ?_
    rintro e w3 ⟨rfl, rfl⟩
    go_wp2_with fail
    refine (rmore_t C A cp l _ HL.out (HR.out.at_below c2)).mono ?_
    rintro e w3 ⟨rfl, rfl⟩
    go_wp2_with fail
    refine (fits_any g A _ cp l _ rfl HL2.out hcp HB.out (HR.out.at_below c2)).mono ?_
    rintro e w3 ⟨rfl, rfl⟩
    go_wp2_with fail
    refine (rfits_any A cp l _ HL2.out hcp (HR.out.at_below c2)).mono ?_
    rintro e w3 ⟨rfl, hb3⟩
    have c3 := nextB c2 hb3
    have HB3 := Lib.hid (HB.out.below hb3 HB.out.lt)
    have hbb : (fitsL l == fitsL l) = true := by simp
    clear hb3
    go_wp2_with fail
    refine (rseal_t A cp l _ HL2.out (HR.out.at_below c3)).mono ?_
    rintro e w4 ⟨A4, p4, rfl, o4, hb4⟩
    have c4 := nextB c3 hb4
    have HB4 := Lib.hid (HB3.out.below hb4 HB3.out.lt)
    have HO := Lib.hid o4.reads
    have hcap : l.length + 4 ≤ p4 := by
      obtain ⟨_, _, _, _, h, _⟩ := o4.form (by omega)
      exact h
    clear o4 hb4
    go_wp2_with fail
    refine (fits_any g A4 _ p4 (l ++ Cr.le (Cr.sum l)) _ (by simp [Cr.le]) (by simp [Cr.le]; omega) (by simp [Cr.le]; omega) HB4.out HO.out).mono ?_
    rw [fitsL_seal]
    rintro e w5 ⟨rfl, rfl⟩
    go_wp2_with fail
    go_ret
    exact ⟨by simp, c4⟩
  · have hd : decide ((20000 : Int) < (l.length : Int)) = true := by simp; omega
    go_enter Try.func6, Try.ntmps6
    go_wp2_with fail
    refine (alive_t _).mono ?_
    rintro e w1 ⟨rfl, hb1⟩
    go_wp2_with fail
    go_ret
    exact ⟨rfl, hb1⟩

theorem sum_n (g : Nat) (A : Option Addr) (cp n : Nat) (l : List UInt8) (w : World) (hn : n = l.length) (hl : l.length ≤ maxLen) (hb : Blk w g 42 tab) (hr : Reads w w.heap.size 1 A n (bvs l)) :
    Calls Try.prog 10 #[.pointer (some ⟨g, 0, none⟩), .slice A n cp] w fun e w' => e = .returned (.int .u32 ((Cr.sum l).toNat : Int)) ∧ w = w' := by
  subst hn
  exact sum_t g A cp l w hl hb hr

set_option maxHeartbeats 800000 in
theorem crcJoins_walk (w : World) (A : Option Addr) (c : Nat) (l : List UInt8) (hl : l.length ≤ maxLen) (_hc : l.length ≤ c) (hra : Bts w w.heap.size A l) (D : Option Addr) (d : Nat) (m : List UInt8) (hm : m.length ≤ maxLen) (_hd : m.length ≤ d) (hrb : Bts w w.heap.size D m) :
    Calls Try.prog 3 #[.slice A l.length c, .slice D m.length d] w fun e w' => e = .returned (.bool true) ∧ Below w.heap.size w w' := by
  unfold maxLen at hl hm
  have HA := Lib.hid hra
  have HD := Lib.hid hrb
  clear hra hrb
  by_cases hbig : l.length ≤ 20000 ∧ m.length ≤ 20000
  · obtain ⟨g1, g2⟩ := hbig
    have hd1 : decide ((20000 : Int) < (l.length : Int)) = false := by simp; omega
    have hd2 : decide ((20000 : Int) < (m.length : Int)) = false := by simp; omega
    go_enter Try.func3, Try.ntmps3
    go_wp2_with fail
    refine (alive_t _).mono ?_
    rintro e w1 ⟨rfl, hb1⟩
    go_wp2_with fail
    refine (new_t _).mono ?_
    rintro e w2 ⟨g, rfl, hg, hblk, hb2⟩
    have c2 := nextB hb1 hb2
    have HB := Lib.hid hblk
    clear hblk hb1 hb2
    have o1 : Own (w2.alloc (.cells #[] 5)) w2.heap.size 5 1 (some ⟨w2.heap.size, 0, none⟩) 0 0 [] := Own.made w2 _ _ 1 #[] 0 (Nat.le_refl _) (by simp) rfl
    have b1 := newB c2 (.cells #[] 5)
    have O1 := Lib.hid o1
    have R1 := Lib.hid (HA.out.at_below b1)
    have HB1 := Lib.hid (HB.out.alloc (.cells #[] 5))
    have hgl := HB.out.lt
    clear o1
    go_wp2_with (at_builtin; refine Hid.out ?_)
    refine wpList_app rfl rfl elem_u8 rfl O1.out rfl R1.out (bvs_one _) l.length (by omega) (bvs l) rfl (by unfold maxLen; omega) (by omega) (by simp) ?_
    intro A2 p2 w3 o2 g2 q2
    have b2 := appB b1 O1.out g2 c2.size b1.size
    have hs2 := g2.size
    have HB2 := Lib.hid (HB1.out.grown g2 (by simp [blockOf]; omega))
    have hw2 : w2.heap.size ≤ w3.heap.size := by simp at hs2; omega
    have O2 := Lib.hid o2
    have R2 := Lib.hid (HD.out.at_below b2)
    have hne : blockOf A2 ≠ some g := by
      intro h
      have := (o2.block h).1
      omega
    clear o2
    go_wp2_with (at_builtin; refine Hid.out ?_)
    refine wpList_app rfl rfl elem_u8 rfl O2.out rfl R2.out (bvs_one _) (l.length + m.length) rfl (bvs (l ++ m)) (by simp [bvs]) (by unfold maxLen; omega) (by omega) hw2 ?_
    intro A3 p3 w4 o3 g3 q3
    have b3 := appB b2 O2.out g3 c2.size b2.size
    have HB3 := Lib.hid (HB2.out.grown g3 (Ne.symm hne))
    have O3 := Lib.hid o3
    have HM := Lib.hid (show (l ++ m).length ≤ maxLen by unfold maxLen; simp; omega)
    have HL1 := Lib.hid (show l.length ≤ maxLen by unfold maxLen; omega)
    have HL2 := Lib.hid (show m.length ≤ maxLen by unfold maxLen; omega)
    have hj : Cr.it (8 * ((m.length : Int)).toNat) (Cr.sum l) ^^^ Cr.sum m = Cr.sum (l ++ m) := by rw [Int.toNat_natCast]; exact Cr.join_sums l m
    have HJ := Lib.hid hj
    have HW := Lib.hid (Cr.more_more l m)
    clear o3 b1 b2 g2 g3 q2 q3 hne hj O2 O1 HB1 HB2 HB R1 R2
    go_wp2_with fail
    refine (sum_n g A3 p3 _ (l ++ m) _ (by simp) HM.out HB3.out O3.out.reads).mono ?_
    rintro e w5 ⟨rfl, rfl⟩
    generalize Cr.sum (l ++ m) = V at *
    go_wp2_with fail
    refine (sum_t g A c l _ HL1.out HB3.out (HA.out.at_below b3)).mono ?_
    rintro e w5 ⟨rfl, rfl⟩
    go_wp2_with fail
    refine (sum_t g D d m _ HL2.out HB3.out (HD.out.at_below b3)).mono ?_
    rintro e w5 ⟨rfl, rfl⟩
    go_wp2_with fail
    refine (join_t _ _ _ _ (by omega)).mono ?_
    rw [HJ.out]
    rintro e w5 ⟨rfl, rfl⟩
    have hv : ((V.toNat : Int) == (V.toNat : Int)) = true := by simp
    go_wp2_with fail
    refine (sum_t g A c l _ HL1.out HB3.out (HA.out.at_below b3)).mono ?_
    rintro e w5 ⟨rfl, rfl⟩
    go_wp2_with fail
    refine (more_t g _ D d m _ HL2.out HB3.out (HD.out.at_below b3)).mono ?_
    rw [HW.out]
    rintro e w5 ⟨rfl, rfl⟩
    go_wp2_with fail
    go_ret
    exact ⟨rfl, b3⟩
  · by_cases g1 : l.length ≤ 20000
    · have hd1 : decide ((20000 : Int) < (l.length : Int)) = false := by simp; omega
      have hd2 : decide ((20000 : Int) < (m.length : Int)) = true := by simp; omega
      go_enter Try.func3, Try.ntmps3
      go_wp2_with fail
      refine (alive_t _).mono ?_
      rintro e w1 ⟨rfl, hb1⟩
      go_wp2_with fail
      go_ret
      exact ⟨rfl, hb1⟩
    · have hd1 : decide ((20000 : Int) < (l.length : Int)) = true := by simp; omega
      go_enter Try.func3, Try.ntmps3
      go_wp2_with fail
      refine (alive_t _).mono ?_
      rintro e w1 ⟨rfl, hb1⟩
      go_wp2_with fail
      go_ret
      exact ⟨rfl, hb1⟩
end Go.Proofs.Ytmphkjbnagojhaa
