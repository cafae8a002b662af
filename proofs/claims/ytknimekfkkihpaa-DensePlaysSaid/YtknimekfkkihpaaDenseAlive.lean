/- Dense: the document's example walked. -/
import Derived.Test.YtknimekfkkihpaaDenseF
namespace Go.Proofs.Ytknimekfkkihpaa
open Go.RowKit
open Ds Pl

theorem Sts.congr {w : World} {base : Nat} {ids : List Nat} {S S' : Nat → St} (h : Sts w base ids S) (he : ∀ g ∈ ids, S g = S' g) : Sts w base ids S' := by
  obtain ⟨A, h1, h2⟩ := h
  exact ⟨A, fun g hg => by rw [← he g hg]; exact h1 g hg, h2⟩
theorem addS_yes {s : St} {p : Pr} (h : chk s.1 s.2.1 s.2.2 p.1 p.2 = 0) : addS s p = (reachF s.1 s.2.1 p.1, addL s.1 s.2.1 p.1 p.2, s.2.2 + p.2) := by
  unfold addS addF
  rw [if_pos h]
theorem addS_no {s : St} {p : Pr} (h : chk s.1 s.2.1 s.2.2 p.1 p.2 ≠ 0) : addS s p = s := by
  unfold addS addF
  rw [if_neg h]
def e0 : St := (0, [], 0)
def e1 : St := (5, [2], 2)
def e2 : St := (-3, [1, 0, 0, 0, 0, 0, 0, 0, 2], 3)
def e3 : St := (-3, [1, 0, 0, 0, 0, 0, 0, 0, 3], 4)
theorem st1 : chk e0.1 e0.2.1 e0.2.2 5 2 = 0 ∧ addS e0 (5, 2) = e1 := by decide +kernel
theorem st2 : chk e1.1 e1.2.1 e1.2.2 (-3) 1 = 0 ∧ addS e1 (-3, 1) = e2 := by decide +kernel
theorem st3 : chk e2.1 e2.2.1 e2.2.2 5 1 = 0 ∧ addS e2 (5, 1) = e3 := by decide +kernel
theorem st4 : chk e3.1 e3.2.1 e3.2.2 8189 1 = 130 ∧ addS e3 (8189, 1) = e3 := by
  have h : chk e3.1 e3.2.1 e3.2.2 8189 1 = 130 := by decide +kernel
  exact ⟨h, addS_no (by rw [h]; decide)⟩
def e4 : St := addS e3 (8188, 1)
theorem st5 : chk e3.1 e3.2.1 e3.2.2 8188 1 = 0 := by decide +kernel
theorem st6 : prs e4.1 e4.2.1 = [(-3, 1), (5, 3), (8188, 1)] ∧ e4.2.2 = 5 := by
  have hs : e4 = (reachF e3.1 e3.2.1 8188, addL e3.1 e3.2.1 8188 1, e3.2.2 + 1) := addS_yes st5
  rw [hs]
  refine ⟨?_, rfl⟩
  rw [add_prs _ _ _ _ (by decide)]
  decide +kernel
theorem one_add {s s' : St} {r : Int} {base g : Nat} {k : Int} {n : Nat} (hr : chk s.1 s.2.1 s.2.2 k n = r ∧ addS s (k, n) = s') (w : World) (hbase : base ≤ w.heap.size) (h : Sts w base [g] (fun _ => s)) (k0 : -9223372036854775808 ≤ k) (k1 : k ≤ 9223372036854775807) (hn : n ≤ 18446744073709551615) :
    Calls Try.prog 8 #[.pointer (some ⟨g, 0, none⟩), .int .i64 k, .int .u64 (n : Int)] w fun e w' => e = .returned (.int .i64 r) ∧ Sts w' base [g] (fun _ => s') ∧ Below base w w' := by
  refine (sadd_t g k n w hbase h (by simp) k0 k1 hn).mono ?_
  rintro e w' ⟨rfl, hs, hb⟩
  rw [hr.1, hr.2] at *
  exact ⟨rfl, hs.congr (fun g' hg' => by obtain rfl : g' = g := by simpa using hg'
                                         exact upd_same _ _ _), hb⟩
theorem prs3_new (w : World) (a b c : Pr) : Prs (w.alloc (.cells #[.int .i64 a.1, .int .u64 (a.2 : Nat), .int .i64 b.1, .int .u64 (b.2 : Nat), .int .i64 c.1, .int .u64 (c.2 : Nat)] 30)) (w.alloc (.cells #[.int .i64 a.1, .int .u64 (a.2 : Nat), .int .i64 b.1, .int .u64 (b.2 : Nat), .int .i64 c.1, .int .u64 (c.2 : Nat)] 30)).heap.size (some ⟨w.heap.size, 0, none⟩) [a, b, c] := Reads.lit (newest _ _) rfl rfl
set_option maxHeartbeats 1600000 in
theorem alive_t (w : World) :
    Calls Try.prog 7 #[] w fun e w' => e = .returned (.bool true) ∧ Below w.heap.size w w' := by
  have h5 : chk e3.1 e3.2.1 e3.2.2 8188 1 = 0 ∧ addS e3 (8188, 1) = e4 := ⟨st5, rfl⟩
  have hev : endsV e3.1 e3.2.1 = .tuple #[.int .i64 (-3), .int .i64 5, .bool true] := rfl
  have hpr := st6.1
  have hto := st6.2
  replace h5 := Lib.hid h5
  replace hev := Lib.hid hev
  replace hpr := Lib.hid hpr
  replace hto := Lib.hid hto
  go_enter Try.func7, Try.ntmps7
  go_wp2_with fail
  have hs0 : Sts (w.alloc (.cells #[.int .i64 0, .slice none 0 0, .int .u64 0] 28)) w.heap.size [w.heap.size] (fun _ => e0) := (Sts.new (Sts.none w w.heap.size (fun _ => e0)) (Nat.le_refl _)).congr (fun g' hg' => by
    obtain rfl : g' = w.heap.size := by simpa using hg'
    exact upd_same _ _ _)
  have hb0 : Below w.heap.size w (w.alloc (.cells #[.int .i64 0, .slice none 0 0, .int .u64 0] 28)) := (Below.refl _ _).alloc (Nat.le_refl _) _
  have hz0 := hb0.size
  generalize w.alloc (.cells #[.int .i64 0, .slice none 0 0, .int .u64 0] 28) = w0 at *
  generalize hg : w.heap.size = g at *
  have HG := Lib.hid hg
  have HB0 := Lib.hid hb0
  have HS0 := Lib.hid hs0
  clear hg hb0 hs0
  refine (one_add st1 _ hz0 HS0.out (by decide) (by decide) (by decide)).mono ?_
  rintro e w1 ⟨rfl, hs, hb⟩
  have hz1 := Nat.le_trans hz0 hb.size
  have HB1 := Lib.hid (HB0.out.trans hb)
  have HS1 := Lib.hid hs
  clear hs hb HB0 HS0 hz0
  go_wp2_with fail
  refine (one_add st2 _ hz1 HS1.out (by decide) (by decide) (by decide)).mono ?_
  rintro e w2 ⟨rfl, hs, hb⟩
  have hz2 := Nat.le_trans hz1 hb.size
  have HB2 := Lib.hid (HB1.out.trans hb)
  have HS2 := Lib.hid hs
  clear hs hb HB1 HS1 hz1
  go_wp2_with fail
  refine (one_add st3 _ hz2 HS2.out (by decide) (by decide) (by decide)).mono ?_
  rintro e w3 ⟨rfl, hs, hb⟩
  have hz3 := Nat.le_trans hz2 hb.size
  have HB3 := Lib.hid (HB2.out.trans hb)
  have HS3 := Lib.hid hs
  clear hs hb HB2 HS2 hz2
  go_wp2_with fail
  refine (sends_t g _ HS3.out (by simp)).mono ?_
  rw [hev.out]
  rintro e w5 ⟨rfl, n, rfl⟩
  have HB4 := Lib.hid (below_drewN HB3.out n)
  have HS4 := Lib.hid (HS3.out.drewN n)
  have hz4 : g ≤ (w3.drewN n).heap.size := hz3
  clear HB3 HS3 hz3
  go_wp2_with fail
  refine (one_add st4 _ hz4 HS4.out (by decide) (by decide) (by decide)).mono ?_
  rintro e w5 ⟨rfl, hs, hb⟩
  have hz5 := Nat.le_trans hz4 hb.size
  have HB5 := Lib.hid (HB4.out.trans hb)
  have HS5 := Lib.hid hs
  clear hs hb HB4 HS4 hz4
  go_wp2_with fail
  refine (one_add h5.out _ hz5 HS5.out (by decide) (by decide) (by decide)).mono ?_
  rintro e w6 ⟨rfl, hs, hb⟩
  have hz6 := Nat.le_trans hz5 hb.size
  have HB6 := Lib.hid (HB5.out.trans hb)
  have HS6 := Lib.hid hs
  clear hs hb HB5 HS5 hz5
  go_wp2_with fail
  have HP := spairs_t g _ HS6.out (by simp)
  simp only [hpr.out] at HP
  refine HP.mono ?_
  clear HP
  rintro e w7 ⟨A7, c7, rfl, ho7, hb7⟩
  have HB7 := Lib.hid (HB6.out.trans (hb7.mono hz6))
  have HS7 := Lib.hid (HS6.out.below hb7)
  have HR := Lib.hid ho7.reads
  have hz7 := Nat.le_trans hz6 hb7.size
  clear HB6 HS6 hz6 hb7 ho7
  go_wp2_with fail
  have hn := prs3_new w7 (-3, 1) (5, 3) (8188, 1)
  have hbn : Below w7.heap.size w7 (w7.alloc (.cells #[.int .i64 (-3), .int .u64 1, .int .i64 5, .int .u64 3, .int .i64 8188, .int .u64 1] 30)) := (Below.refl _ _).alloc (Nat.le_refl _) _
  refine (same13_t A7 (some ⟨w7.heap.size, 0, none⟩) c7 3 _ _ [(-3, 1), (5, 3), (8188, 1)] _ (HR.out.at_below hbn) hn (by decide)).mono ?_
  rintro e w8 ⟨rfl, n8, rfl⟩
  have HB8 := Lib.hid (below_drewN (HB7.out.trans (hbn.mono hz7)) n8)
  have HS8 := Lib.hid ((HS7.out.below hbn).drewN n8)
  clear HB7 HS7 HR hn hbn hz7
  go_wp2_with fail
  have HT := stotal_t g _ HS8.out (by simp)
  simp only [hto.out] at HT
  refine HT.mono ?_
  clear HT
  rintro e w9 ⟨rfl, rfl⟩
  go_wp2_with fail
  go_ret
  exact ⟨rfl, by rw [HG.out]; exact HB8.out⟩
end Go.Proofs.Ytknimekfkkihpaa
