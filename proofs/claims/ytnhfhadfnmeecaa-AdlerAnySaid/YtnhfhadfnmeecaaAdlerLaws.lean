/- Adler-32: the four laws walked, each returns true and writes nothing that was there. -/
import Derived.Test.YtnhfhadfnmeecaaAdlerWalks
namespace Go.Proofs.Ytnhfhadfnmeecaa
open Go.RowKit

/-- The contract of a text that lies in a new block. -/
theorem asum_lit (g : Nat) (cs : Array Value) (m : Nat × Nat) (l : List UInt8) (w : World) (v : Int) (n c : Nat) (hl : l.length ≤ 1000) (hn : n = l.length) (hg : w.heap[g]? = some (.cells cs 5 m)) (hcs : cs.toList = bvs l) (hv : Ad.more 1 l = v) :
    Calls Try.prog 8 #[.slice (some ⟨g, 0, none⟩) n c] w fun e w' => e = .returned (.int .u32 v) ∧ Below w.heap.size w w' := by
  subst hn
  subst hv
  exact asum_t _ c l w (by unfold maxLen; omega) (Bts.lit hg hcs)

set_option maxHeartbeats 400000 in
theorem alive_t (w : World) : Calls Try.prog 7 #[] w fun e w' => e = .returned (.bool true) ∧ Below w.heap.size w w' := by
  have kc := fun (w : World) (C : Array Value) (n c : Nat) => Lib.run_convert_bytes_const (P := Try.prog) w 22 5 C n c Try.underlying22 Try.underlying5
  go_enter Try.func7, Try.ntmps7
  go_wp2_with fail
  refine (asum_t none 0 [] w (by simp) (Bts.empty _ _ _)).mono ?_
  rintro e w1 ⟨rfl, hb1⟩
  have h1 : (Ad.more 1 [] == 1) = true := by decide
  go_wp2_with fail
  refine (asum_lit _ _ _ [87, 105, 107, 105, 112, 101, 100, 105, 97] _ 300286872 9 9 (by decide) rfl (newest _ _) rfl (by decide)).mono ?_
  rintro e w2 ⟨rfl, hb2⟩
  have c2 := nextB (newB hb1 _) hb2
  clear hb1 hb2
  go_wp2_with fail
  refine (asum_lit _ _ _ [87, 105, 107, 105] _ 64618901 4 4 (by decide) rfl (newest _ _) rfl (by decide)).mono ?_
  rintro e w3 ⟨rfl, hb3⟩
  have c3 := nextB (newB c2 _) hb3
  clear c2 hb3
  go_wp2_with fail
  refine (asum_lit _ _ _ [112, 101, 100, 105, 97] _ 103285252 5 5 (by decide) rfl (newest _ _) rfl (by decide)).mono ?_
  rintro e w4 ⟨rfl, hb4⟩
  have c4 := nextB (newB c3 _) hb4
  clear c3 hb4
  go_wp2_with fail
  refine (join_t 64618901 103285252 5 _ (by omega) (by omega) (by omega) (by omega) (by omega) (by omega)).mono ?_
  rw [show Ad.join 64618901 103285252 (max 5 0) = 300286872 by decide]
  rintro e w5 ⟨rfl, hb5⟩
  have c5 := nextB c4 hb5
  clear c4 hb5
  go_wp2
  go_ret
  exact ⟨rfl, c5⟩

set_option maxHeartbeats 400000 in
theorem adlerAny_walk (w : World) (s : Int) (s0 : 0 ≤ s) (s1 : s ≤ 4294967295) (t : Int) (t0 : 0 ≤ t) (t1 : t ≤ 4294967295) (n : Int) (n0 : -9223372036854775808 ≤ n) (n1 : n ≤ 9223372036854775807) :
    Calls Try.prog 4 #[.int .u32 s, .int .u32 t, .int .i64 n] w fun e w' => e = .returned (.bool true) ∧ Below w.heap.size w w' := by
  go_enter Try.func4, Try.ntmps4
  go_wp2_with fail
  refine (alive_t _).mono ?_
  rintro e w1 ⟨rfl, hb1⟩
  go_wp2_with fail
  refine (join_t s t n _ s0 s1 t0 t1 n0 n1).mono ?_
  rintro e w2 ⟨rfl, hb2⟩
  go_wp2_with fail
  refine (rjoin_t s t n _ s0 s1 t0 t1 n0 n1).mono ?_
  rintro e w3 ⟨rfl, rfl⟩
  go_wp2
  go_ret
  exact ⟨by simp, nextB hb1 hb2⟩

set_option maxHeartbeats 800000 in
theorem adlerSums_walk (w : World) (s : Int) (s0 : 0 ≤ s) (s1 : s ≤ 4294967295) (A : Option Addr) (c : Nat) (l : List UInt8) (hl : l.length ≤ maxLen) (hr : Bts w w.heap.size A l) :
    Calls Try.prog 6 #[.int .u32 s, .slice A l.length c] w fun e w' => e = .returned (.bool true) ∧ Below w.heap.size w w' := by
  unfold maxLen at hl
  have HR := Lib.hid hr
  clear hr
  by_cases hlen : l.length ≤ 20000
  · have hd : decide ((20000 : Int) < (l.length : Int)) = false := by simp; omega
    have hm : l.length ≤ maxLen := by unfold maxLen; omega
    have r1 := Ad.more_range 1 l
    have rs := Ad.more_range s l
    obtain ⟨r10, r11⟩ := r1
    obtain ⟨rs0, rs1⟩ := rs
    have hright : ∀ u l, rightB (Ad.more u l) = true := by
      intro u l
      have := Ad.ok_run (Ad.of u) l (Ad.ok_of u)
      unfold Ad.ok at this
      unfold rightB Ad.more Ad.sum
      simp
      omega
    have q1 := hright 1 l
    have q2 := hright s l
    clear hright
    have HL := Lib.hid hm
    clear hm
    go_enter Try.func6, Try.ntmps6
    go_wp2_with fail
    refine (alive_t _).mono ?_
    rintro e w1 ⟨rfl, hb1⟩
    go_wp2_with fail
    refine (asum_t A c l _ HL.out (HR.out.at_below hb1)).mono ?_
    rintro e w2 ⟨rfl, hb2⟩
    have c2 := nextB hb1 hb2
    clear hb1 hb2
    go_wp2_with fail
    refine (rsum_t A c l _ HL.out (HR.out.at_below c2)).mono ?_
    rintro e w3 ⟨rfl, rfl⟩
    go_wp2_with fail
    refine (more_t s A c l _ s0 s1 HL.out (HR.out.at_below c2)).mono ?_
    rintro e w4 ⟨rfl, hb4⟩
    have c4 := nextB c2 hb4
    clear c2 hb4
    go_wp2_with fail
    refine (rmore_t s A c l _ s0 s1 HL.out (HR.out.at_below c4)).mono ?_
    rintro e w5 ⟨rfl, rfl⟩
    go_wp2_with fail
    refine (asum_t A c l _ HL.out (HR.out.at_below c4)).mono ?_
    rintro e w6 ⟨rfl, hb6⟩
    have c6 := nextB c4 hb6
    clear c4 hb6
    go_wp2_with fail
    refine (right_t _ _ r10 r11).mono ?_
    rintro e w7 ⟨rfl, rfl⟩
    go_wp2_with fail
    refine (more_t s A c l _ s0 s1 HL.out (HR.out.at_below c6)).mono ?_
    rintro e w8 ⟨rfl, hb8⟩
    have c8 := nextB c6 hb8
    clear c6 hb8
    go_wp2_with fail
    refine (right_t _ _ rs0 rs1).mono ?_
    rintro e w9 ⟨rfl, rfl⟩
    go_wp2_with fail
    refine (right_t s _ s0 s1).mono ?_
    rintro e w10 ⟨rfl, rfl⟩
    unfold rightB
    by_cases h3 : s % 65536 < 65521
    · have d3 : decide (s % 65536 < 65521) = true := by simpa using h3
      go_wp2
      go_ret
      exact ⟨by simp, c8⟩
    · have d3 : decide (s % 65536 < 65521) = false := by simpa using h3
      go_wp2
      go_ret
      exact ⟨by simp, c8⟩
  · have hd : decide ((20000 : Int) < (l.length : Int)) = true := by simp; omega
    go_enter Try.func6, Try.ntmps6
    go_wp2_with fail
    refine (alive_t _).mono ?_
    rintro e w1 ⟨rfl, hb1⟩
    go_wp2_with fail
    go_ret
    exact ⟨rfl, hb1⟩

theorem elem_u8 : Elem Try.prog 22 5 1 1 := elem_of Try.underlying22 (z := .int .u8 0) (by kernel_rfl) (by decide) (by decide)

theorem asum_n (A : Option Addr) (c : Nat) (l : List UInt8) (n : Nat) (w : World) (hn : n = l.length) (hl : l.length ≤ maxLen) (hr : Reads w w.heap.size 1 A n (bvs l)) :
    Calls Try.prog 8 #[.slice A n c] w fun e w' => e = .returned (.int .u32 (Ad.more 1 l)) ∧ Below w.heap.size w w' := by
  subst hn
  exact asum_t A c l w hl hr

set_option maxHeartbeats 800000 in
theorem adlerJoins_walk (w : World) (A : Option Addr) (c : Nat) (l : List UInt8) (hl : l.length ≤ maxLen) (hra : Bts w w.heap.size A l) (D : Option Addr) (d : Nat) (m : List UInt8) (hm : m.length ≤ maxLen) (hrb : Bts w w.heap.size D m) :
    Calls Try.prog 3 #[.slice A l.length c, .slice D m.length d] w fun e w' => e = .returned (.bool true) ∧ Below w.heap.size w w' := by
  unfold maxLen at hl hm
  have HA := Lib.hid hra
  have HB := Lib.hid hrb
  clear hra hrb
  by_cases hbig : l.length ≤ 20000 ∧ m.length ≤ 20000
  · obtain ⟨g1, g2⟩ := hbig
    have hd : decide ((20000 : Int) < (l.length : Int)) = false := by simp; omega
    have hd2 : decide ((20000 : Int) < (m.length : Int)) = false := by simp; omega
    go_enter Try.func3, Try.ntmps3
    go_wp2_with fail
    refine (alive_t _).mono ?_
    rintro e w1 ⟨rfl, hb1⟩
    have o1 : Own (w1.alloc (.cells #[] 5)) w1.heap.size 5 1 (some ⟨w1.heap.size, 0, none⟩) 0 0 [] := Own.made w1 _ _ 1 #[] 0 (Nat.le_refl _) (by simp) rfl
    have b1 := newB hb1 (.cells #[] 5)
    have O1 := Lib.hid o1
    have R1 := Lib.hid (HA.out.at_below b1)
    clear o1
    go_wp2_with (at_builtin; refine Hid.out ?_)
    refine wpList_app rfl rfl elem_u8 rfl O1.out rfl R1.out (bvs_one _) l.length (by omega) (bvs l) rfl (by unfold maxLen; omega) (by omega) (by simp) ?_
    intro A2 c2 w2 o2 g2 p2
    have b2 := appB b1 O1.out g2 hb1.size b1.size
    have hs2 := g2.size
    have O2 := Lib.hid o2
    have R2 := Lib.hid (HB.out.at_below b2)
    clear o2
    go_wp2_with (at_builtin; refine Hid.out ?_)
    refine wpList_app rfl rfl elem_u8 rfl O2.out rfl R2.out (bvs_one _) (l.length + m.length) rfl (bvs (l ++ m)) (by simp [bvs]) (by unfold maxLen; omega) (by omega) (by simp at hs2; omega) ?_
    intro A3 c3 w3 o3 g3 p3
    have b3 := appB b2 O2.out g3 hb1.size b2.size
    have O3 := Lib.hid o3
    have hmm : (l ++ m).length ≤ maxLen := by unfold maxLen; simp; omega
    have HM := Lib.hid hmm
    clear o3 hmm b1 b2 g2 g3 p2 p3 hb1
    go_wp2_with fail
    refine (asum_n A3 c3 (l ++ m) _ _ (by simp) HM.out O3.out.reads).mono ?_
    rintro e w4 ⟨rfl, hb4⟩
    have c4 := nextB b3 hb4
    clear b3 hb4
    have hwh : Ad.more (Ad.more 1 l) m = Ad.more 1 (l ++ m) := (Ad.more_append 1 l m).symm
    have hjo := Ad.join_sums l m
    have r1 := Ad.more_range 1 l
    have r2 := Ad.more_range 1 m
    obtain ⟨r10, r11⟩ := r1
    obtain ⟨r20, r21⟩ := r2
    have hmax : max (m.length : Int) 0 = m.length := by omega
    rw [← hmax] at hjo
    have HW := Lib.hid hwh
    have HJ := Lib.hid hjo
    have HL1 := Lib.hid (show l.length ≤ maxLen by unfold maxLen; omega)
    have HL2 := Lib.hid (show m.length ≤ maxLen by unfold maxLen; omega)
    clear hwh hjo hmax
    generalize Ad.more 1 (l ++ m) = V at *
    go_wp2_with fail
    refine (asum_t A c l _ HL1.out (HA.out.at_below c4)).mono ?_
    rintro e w5 ⟨rfl, hb5⟩
    have c5 := nextB c4 hb5
    clear c4 hb5
    go_wp2_with fail
    refine (asum_t D d m _ HL2.out (HB.out.at_below c5)).mono ?_
    rintro e w6 ⟨rfl, hb6⟩
    have c6 := nextB c5 hb6
    clear c5 hb6
    go_wp2_with fail
    refine (join_t _ _ _ _ r10 r11 r20 r21 (by omega) (by omega)).mono ?_
    rw [HJ.out]
    rintro e w7 ⟨rfl, hb7⟩
    have c7 := nextB c6 hb7
    clear c6 hb7
    have hv : (V == V) = true := by simp
    go_wp2_with fail
    refine (asum_t A c l _ HL1.out (HA.out.at_below c7)).mono ?_
    rintro e w8 ⟨rfl, hb8⟩
    have c8 := nextB c7 hb8
    clear c7 hb8
    go_wp2_with fail
    refine (more_t _ D d m _ r10 r11 HL2.out (HB.out.at_below c8)).mono ?_
    rw [HW.out]
    rintro e w9 ⟨rfl, hb9⟩
    have c9 := nextB c8 hb9
    clear c8 hb9
    go_wp2_with fail
    go_ret
    exact ⟨rfl, c9⟩
  · by_cases g1 : l.length ≤ 20000
    · have hd : decide ((20000 : Int) < (l.length : Int)) = false := by simp; omega
      have hd2 : decide ((20000 : Int) < (m.length : Int)) = true := by simp; omega
      go_enter Try.func3, Try.ntmps3
      go_wp2_with fail
      refine (alive_t _).mono ?_
      rintro e w1 ⟨rfl, hb1⟩
      go_wp2_with fail
      go_ret
      exact ⟨rfl, hb1⟩
    · have hd : decide ((20000 : Int) < (l.length : Int)) = true := by simp; omega
      go_enter Try.func3, Try.ntmps3
      go_wp2_with fail
      refine (alive_t _).mono ?_
      rintro e w1 ⟨rfl, hb1⟩
      go_wp2_with fail
      go_ret
      exact ⟨rfl, hb1⟩

theorem xor_ne (x y : UInt8) (h : y ≠ 0) : x ≠ x ^^^ y := by
  intro e
  have e2 : x ^^^ x = x ^^^ (x ^^^ y) := congrArg (x ^^^ ·) e
  rw [← UInt8.xor_assoc, UInt8.xor_self, UInt8.zero_xor] at e2
  exact h e2.symm
theorem xor_val (x : UInt8) (y : Int) (h0 : 0 ≤ y) (h1 : y ≤ 255) : bits .xor .u8 (x.toNat : Int) y = ((x ^^^ UInt8.ofNat y.toNat).toNat : Int) := by
  have hx := x.toNat_lt
  rw [u8_xor _ _ (by omega) (by omega) h0 (by omega)]
  simp only [UInt8.toNat_xor, UInt8.toNat_ofNat', Int.toNat_natCast]
  rw [Nat.mod_eq_of_lt (by omega)]

set_option maxHeartbeats 800000 in
theorem adlerByte_walk (w : World) (A : Option Addr) (c : Nat) (l : List UInt8) (hl : l.length ≤ maxLen) (hra : Bts w w.heap.size A l) (at_ : Int) (at0 : -9223372036854775808 ≤ at_) (at1 : at_ ≤ 9223372036854775807) (y : Int) (y0 : 0 ≤ y) (y1 : y ≤ 255) :
    Calls Try.prog 5 #[.slice A l.length c, .int .i64 at_, .int .u8 y] w fun e w' => e = .returned (.bool true) ∧ Below w.heap.size w w' := by
  unfold maxLen at hl
  have HA := Lib.hid hra
  clear hra
  by_cases g1 : (l.length : Int) ≤ 20000
  rotate_left
  · have hd1 : decide ((20000 : Int) < (l.length : Int)) = true := by simp; omega
    go_enter Try.func5, Try.ntmps5
    go_wp2_with fail
    refine (alive_t _).mono ?_
    rintro e w1 ⟨rfl, hb1⟩
    go_wp2_with fail
    go_ret
    exact ⟨rfl, hb1⟩
  have hd1 : decide ((20000 : Int) < (l.length : Int)) = false := by simp; omega
  by_cases g2 : at_ < 0
  · have hd2 : decide (at_ < 0) = true := by simp; omega
    go_enter Try.func5, Try.ntmps5
    go_wp2_with fail
    refine (alive_t _).mono ?_
    rintro e w1 ⟨rfl, hb1⟩
    go_wp2_with fail
    go_ret
    exact ⟨rfl, hb1⟩
  have hd2 : decide (at_ < 0) = false := by simp; omega
  by_cases g3 : (l.length : Int) ≤ at_
  · have hd3 : decide ((l.length : Int) ≤ at_) = true := by simp; omega
    go_enter Try.func5, Try.ntmps5
    go_wp2_with fail
    refine (alive_t _).mono ?_
    rintro e w1 ⟨rfl, hb1⟩
    go_wp2_with fail
    go_ret
    exact ⟨rfl, hb1⟩
  have hd3 : decide ((l.length : Int) ≤ at_) = false := by simp; omega
  by_cases g4 : y = 0
  · subst g4
    go_enter Try.func5, Try.ntmps5
    go_wp2_with fail
    refine (alive_t _).mono ?_
    rintro e w1 ⟨rfl, hb1⟩
    go_wp2_with fail
    go_ret
    exact ⟨rfl, hb1⟩
  have hd4 : (y == 0) = false := by simpa using g4
  obtain ⟨k, rfl⟩ : ∃ k : Nat, at_ = (k : Int) := ⟨at_.toNat, by omega⟩
  have hk : k < l.length := by omega
  have hk2 : (k : Int) < (l.length : Int) := by omega
  clear g2 g3
  have hsplit : l = l.take k ++ l[k] :: l.drop (k + 1) := by simp
  have hset : l.set k (l[k] ^^^ UInt8.ofNat y.toNat) = l.take k ++ (l[k] ^^^ UInt8.ofNat y.toNat) :: l.drop (k + 1) := by
    rw [List.set_eq_take_append_cons_drop, if_pos hk]
  have hy0 : UInt8.ofNat y.toNat ≠ 0 := by
    intro e
    have := congrArg UInt8.toNat e
    simp only [UInt8.toNat_ofNat', UInt8.toNat_zero] at this
    omega
  have hne : Ad.more 1 l ≠ Ad.more 1 (l.set k (l[k] ^^^ UInt8.ofNat y.toNat)) := by
    rw [hset]
    have h := Ad.other_byte (l.take k) (l.drop (k + 1)) l[k] _ (xor_ne l[k] _ hy0)
    rwa [← hsplit] at h
  have hbvs : (bvs l).set k (.int .u8 (bits .xor .u8 (l[k].toNat : Int) y)) = bvs (l.set k (l[k] ^^^ UInt8.ofNat y.toNat)) := by
    rw [xor_val _ _ y0 y1]
    simp only [bvs, List.map_set, bv]
  have hneq : (Ad.more 1 l != Ad.more 1 (l.set k (l[k] ^^^ UInt8.ofNat y.toNat))) = true := by simpa using hne
  have HN := Lib.hid hneq
  have HS := Lib.hid hbvs
  have hlen : (l.set k (l[k] ^^^ UInt8.ofNat y.toNat)).length = l.length := by simp
  have HE := Lib.hid hlen
  clear hsplit hset hne hbvs hneq hlen hy0
  have HL := Lib.hid (show l.length ≤ maxLen by unfold maxLen; omega)
  generalize hset : l.set k (l[k] ^^^ UInt8.ofNat y.toNat) = l2 at *
  have hx := l[k].toNat_lt
  clear hset
  go_enter Try.func5, Try.ntmps5
  go_wp2_with fail
  refine (alive_t _).mono ?_
  rintro e w1 ⟨rfl, hb1⟩
  have o1 : Own (w1.alloc (.cells #[] 5)) w1.heap.size 5 1 (some ⟨w1.heap.size, 0, none⟩) 0 0 [] := Own.made w1 _ _ 1 #[] 0 (Nat.le_refl _) (by simp) rfl
  have b1 := newB hb1 (.cells #[] 5)
  have O1 := Lib.hid o1
  have R1 := Lib.hid (HA.out.at_below b1)
  clear o1
  go_wp2_with (at_builtin; refine Hid.out ?_)
  refine wpList_app rfl rfl elem_u8 rfl O1.out rfl R1.out (bvs_one _) l.length (by omega) (bvs l) rfl (by unfold maxLen; omega) (by omega) (by simp) ?_
  intro A2 c2 w2 o2 g2 p2
  have b2 := appB b1 O1.out g2 hb1.size b1.size
  obtain ⟨g, hA2, hg, hgl, hcc, hcell, hfro⟩ := o2.form (by omega)
  subst hA2
  have hc := hcell k (.int .u8 (l[k].toNat : Int)) (by simp [bvs, bv, hk])
  have hf := hfro k
  have HO := Lib.hid o2
  have hbase : w.heap.size ≤ g := Nat.le_trans hb1.size hg
  clear hcell hfro o2 g2 p2 hcc O1 R1 hb1 b1
  go_wp2_with fail
  have o3 := HO.out.stored k (.int .u8 (bits .xor .u8 (l[k].toNat : Int) y))
  rw [HS.out] at o3
  have b3 := b2.setCell (p := ⟨g, k, none⟩) hbase (.int .u8 (bits .xor .u8 (l[k].toNat : Int) y))
  refine (asum_t A c l _ HL.out (HA.out.at_below b3)).mono ?_
  rintro e w4 ⟨rfl, hb4⟩
  have b4 := nextB b3 hb4
  have o4 := o3.below hb4
  clear b3 o3 hb4 hc hf
  go_wp2_with fail
  refine (asum_n _ c2 l2 _ _ HE.out.symm (by rw [HE.out]; exact HL.out) o4.reads).mono ?_
  rintro e w5 ⟨rfl, hb5⟩
  have b5 := nextB b4 hb5
  have hne := HN.out
  clear b4 o4 hb5
  go_wp2_with fail
  go_ret
  exact ⟨rfl, b5⟩
end Go.Proofs.Ytnhfhadfnmeecaa
