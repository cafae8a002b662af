/- Wire: alive walked; WireSigns walked. -/
import Derived.Test.YtfeoalimkolebaaWireP
namespace Go.Proofs.Ytfeoalimkolebaa
open Go.RowKit
open Wi
def PutIs (w : World) (n : Nat) (k : Int) (l : List UInt8) (e : Ending) (w' : World) : Prop := (∃ A c, e = .returned (.tuple #[.slice A n c, .int .i64 k]) ∧ Bts w' w'.heap.size A l) ∧ Below w.heap.size w w'
theorem put_is {a : ByteArray} {A0 : Option Addr} {c0 m : Nat} {ns : List Nat} {w : World} (hb : Us w w.heap.size A0 ns) (hm : ns.length = m) (hl : ns.length ≤ 100000000) (hn : ∀ n ∈ ns, n < 18446744073709551616) {n k : Nat} {l : List UInt8} (h : putW a.data.toList ns = (k, l)) (hn2 : l.length = n) :
    Calls Try.prog 9 #[.string a, .slice A0 m c0] w (PutIs w n (k : Int) l) := by
  subst hm
  refine (put_t a A0 c0 ns w hb hl hn).mono ?_
  rintro e w' ⟨A, c, rfl, h1, h2⟩
  rw [h] at h1 ⊢
  subst hn2
  exact ⟨⟨A, c, rfl, OwnB.reads h1⟩, h2⟩
theorem p1 (g : Nat) (w : World) {m : Nat × Nat} (h : w.heap[g]? = some (.cells #[.int .u64 1, .int .u64 2] 37 m)) : Calls Try.prog 9 #[.string ⟨#[98, 72]⟩, .slice (some ⟨g, 0, none⟩) 2 2] w (PutIs w 3 0 [1, 0, 2]) :=
  put_is (ns := [1, 2]) (Reads.lit h rfl rfl) rfl (by decide) (by decide) (by decide +kernel) rfl
theorem leb300 : leb 300 = [172, 2] := by rw [leb_more (by decide), leb_last (by decide)]; decide
theorem p2 (g : Nat) (w : World) {m : Nat × Nat} (h : w.heap[g]? = some (.cells #[.int .u64 300] 37 m)) : Calls Try.prog 9 #[.string ⟨#[118]⟩, .slice (some ⟨g, 0, none⟩) 1 1] w (PutIs w 2 0 [172, 2]) :=
  put_is (ns := [300]) (Reads.lit h rfl rfl) rfl (by decide) (by decide) ((by kernel_rfl : putW [118] [300] = (0, leb 300)).trans (by rw [leb300])) rfl
theorem p3 (g : Nat) (w : World) {m : Nat × Nat} (h : w.heap[g]? = some (.cells #[.int .u64 18446744073709551615] 37 m)) : Calls Try.prog 9 #[.string ⟨#[122]⟩, .slice (some ⟨g, 0, none⟩) 1 1] w (PutIs w 1 0 [1]) :=
  put_is (ns := [18446744073709551615]) (Reads.lit h rfl rfl) rfl (by decide) (by decide) ((by kernel_rfl : putW [122] [18446744073709551615] = (0, leb 1)).trans (by rw [leb_last (by decide)]; decide)) rfl
def GetBad (w : World) (k : Int) (e : Ending) (w' : World) : Prop := (∃ A c, e = .returned (.tuple #[.slice A 0 c, .int .i64 0, .int .i64 k])) ∧ Below w.heap.size w w'
theorem g1 (g : Nat) (w : World) {m : Nat × Nat} (h : w.heap[g]? = some (.cells #[.int .u8 128, .int .u8 0] 5 m)) : Calls Try.prog 11 #[.string ⟨#[118]⟩, .slice (some ⟨g, 0, none⟩) 2 2] w (GetBad w 21) := by
  refine (get_t ⟨#[118]⟩ _ 2 [128, 0] w (Bts.lit h rfl) (by decide)).mono ?_
  rintro e w' ⟨A, c, rfl, h1, h2⟩
  have e1 : getW [118] [128, 0] = (21, [], 0) := by decide +kernel
  refine ⟨⟨A, c, ?_⟩, h2⟩
  rw [show (ByteArray.mk #[118]).data.toList = [118] from rfl, e1]
  rfl
def GetOne (w : World) (e : Ending) (w' : World) : Prop := (∃ g c, e = .returned (.tuple #[.slice (some ⟨g, 0, none⟩) 1 c, .int .i64 9, .int .i64 0]) ∧ w'.cell? ⟨g, 0, none⟩ = some (.int .u64 9223372036854775808)) ∧ Below w.heap.size w w'
theorem g2 (g : Nat) (w : World) {m : Nat × Nat} (h : w.heap[g]? = some (.cells #[.int .u8 255, .int .u8 255, .int .u8 255, .int .u8 255, .int .u8 255, .int .u8 255, .int .u8 255, .int .u8 255, .int .u8 255] 5 m)) : Calls Try.prog 11 #[.string ⟨#[110]⟩, .slice (some ⟨g, 0, none⟩) 9 9] w (GetOne w) := by
  refine (get_t ⟨#[110]⟩ _ 9 [255, 255, 255, 255, 255, 255, 255, 255, 255] w (Bts.lit h rfl) (by decide)).mono ?_
  rintro e w' ⟨A, c, rfl, h1, h2⟩
  have e1 : getW [110] [255, 255, 255, 255, 255, 255, 255, 255, 255] = (0, [9223372036854775808], 9) := by decide +kernel
  rw [show (ByteArray.mk #[110]).data.toList = [110] from rfl, e1] at h1 ⊢
  obtain ⟨g2, rfl, _, _, _, hc, _⟩ := Own.form (show Own w' w.heap.size 37 1 A 1 c (uvs [9223372036854775808]) from h1) (by decide)
  exact ⟨⟨g2, c, rfl, hc 0 _ rfl⟩, h2⟩
theorem str_b {w : World} {A : Option Addr} {c n : Nat} {l : List UInt8} (h : Bts w w.heap.size A l) (hn : l.length = n) : (convert 24 9 (.slice A n c)).run Try.prog w = .ok (.string ⟨l.toArray⟩) w := by
  subst hn
  exact run_str Try.underlying24 Try.underlying5 Try.underlying9 h
set_option maxHeartbeats 3200000 in
set_option maxRecDepth 100000 in
theorem alive_t (w : World) : Calls Try.prog 8 #[] w fun e w' => e = .returned (.bool true) ∧ Below w.heap.size w w' := by
  go_enter Try.func8, Try.ntmps8
  go_wp2_with fail
  refine (p1 _ _ (newest _ _)).mono ?_
  rintro e w1 ⟨⟨A1, c1, rfl, h1⟩, b1⟩
  have B1 := Lib.hid (((Below.refl _ w).alloc (Nat.le_refl _) _).trans (b1.mono (by simp)))
  have S1 := Lib.hid h1
  clear h1 b1
  go_wp2_with fail
  refine (p2 _ _ (newest _ _)).mono ?_
  rintro e w2 ⟨⟨A2, c2, rfl, h2⟩, b2⟩
  have b12 := ((Below.refl _ w1).alloc (Nat.le_refl _) _).trans (b2.mono (by simp))
  have B2 := Lib.hid (nextB B1.out b12)
  have S1 := Lib.hid (S1.out.at_below b12)
  have S2 := Lib.hid h2
  clear h2 b2 b12
  go_wp2_with fail
  refine (p3 _ _ (newest _ _)).mono ?_
  rintro e w3 ⟨⟨A3, c3, rfl, h3⟩, b3⟩
  have b23 := ((Below.refl _ w2).alloc (Nat.le_refl _) _).trans (b3.mono (by simp))
  have B3 := Lib.hid (nextB B2.out b23)
  have S1 := Lib.hid (S1.out.at_below b23)
  have S2 := Lib.hid (S2.out.at_below b23)
  have S3 := Lib.hid h3
  clear h3 b3 b23
  go_wp2_with fail
  refine (g1 _ _ (newest _ _)).mono ?_
  rintro e w4 ⟨⟨A4, c4, rfl⟩, b4⟩
  have b34 := ((Below.refl _ w3).alloc (Nat.le_refl _) _).trans (b4.mono (by simp))
  have B4 := Lib.hid (nextB B3.out b34)
  have S1 := Lib.hid (S1.out.at_below b34)
  have S2 := Lib.hid (S2.out.at_below b34)
  have S3 := Lib.hid (S3.out.at_below b34)
  clear b4 b34
  go_wp2_with fail
  refine (g2 _ _ (newest _ _)).mono ?_
  rintro e w5 ⟨⟨g5, c5, rfl, hc5⟩, b5⟩
  have b45 := ((Below.refl _ w4).alloc (Nat.le_refl _) _).trans (b5.mono (by simp))
  have B5 := Lib.hid (nextB B4.out b45)
  have s1 : (convert 24 9 (.slice A1 3 c1)).run Try.prog w5 = .ok (.string ⟨#[1, 0, 2]⟩) w5 := str_b (S1.out.at_below b45) rfl
  have s2 : (convert 24 9 (.slice A2 2 c2)).run Try.prog w5 = .ok (.string ⟨#[172, 2]⟩) w5 := str_b (S2.out.at_below b45) rfl
  have s3 : (convert 24 9 (.slice A3 1 c3)).run Try.prog w5 = .ok (.string ⟨#[1]⟩) w5 := str_b (S3.out.at_below b45) rfl
  clear b5 b45 S1 S2 S3
  go_wp2_with fail
  go_ret
  exact ⟨rfl, B5.out⟩
theorem sg_big (n : Int) (h0 : -9223372036854775808 ≤ n) (h1 : n ≤ 9223372036854775807) : ∃ k : Nat, k < 18446744073709551616 ∧ n = sg k ∧ IntKind.u64.wrap n = (k : Int) := by
  by_cases h : n < 0
  · refine ⟨(n + 18446744073709551616).toNat, by omega, ?_, ?_⟩
    · unfold sg; rw [if_neg (by omega)]; omega
    · rw [IntKind.wrap_u64]; omega
  · refine ⟨n.toNat, by omega, ?_, ?_⟩
    · unfold sg; rw [if_pos (by omega)]; omega
    · rw [IntKind.wrap_u64]; omega
set_option maxHeartbeats 1600000 in
theorem wireSigns_walk (w : World) (n : Int) (h0 : -9223372036854775808 ≤ n) (h1 : n ≤ 9223372036854775807) (m : Int) (h2 : 0 ≤ m) (h3 : m ≤ 18446744073709551615) :
    Calls Try.prog 7 #[.int .i64 n, .int .u64 m] w fun e w' => e = .returned (.bool true) ∧ Below w.heap.size w w' := by
  obtain ⟨k, hk, rfl, hwk⟩ := sg_big n h0 h1
  obtain ⟨j, rfl⟩ : ∃ j : Nat, m = (j : Int) := ⟨m.toNat, by omega⟩
  have hj : j < 18446744073709551616 := by omega
  have HS := Lib.hid (fun W => sign_t k W hk)
  have HRS := Lib.hid (fun W => rsign_t k W hk)
  have HU := Lib.hid (fun W => unsign_t j W hj)
  have HRU := Lib.hid (fun W => runsign_t j W hj)
  have HUS := Lib.hid (fun W => unsign_t (sign k) W (sign_lt hk))
  have HSU := Lib.hid (fun W => sign_t (unsign j) W (unsign_lt hj))
  rw [unsign_sign hk] at HUS
  rw [sign_unsign hj] at HSU
  have hwu := u64_sg (unsign_lt hj)
  clear h0 h1 h2 h3 hk hj
  go_enter Try.func7, Try.ntmps7
  go_wp2_with fail
  refine (alive_t w).mono ?_
  rintro e w1 ⟨rfl, b1⟩
  have B1 := Lib.hid b1
  clear b1
  go_wp2_with fail
  refine (HS.out _).mono ?_
  rintro e w2 ⟨rfl, rfl⟩
  go_wp2_with fail
  refine (HRS.out _).mono ?_
  rintro e w2 ⟨rfl, rfl⟩
  go_wp2_with fail
  refine (HU.out _).mono ?_
  rintro e w2 ⟨rfl, rfl⟩
  go_wp2_with fail
  refine (HRU.out _).mono ?_
  rintro e w2 ⟨rfl, rfl⟩
  go_wp2_with fail
  refine (HS.out _).mono ?_
  rintro e w2 ⟨rfl, rfl⟩
  go_wp2_with fail
  refine (HUS.out _).mono ?_
  rintro e w2 ⟨rfl, rfl⟩
  go_wp2_with fail
  refine (HU.out _).mono ?_
  rintro e w2 ⟨rfl, rfl⟩
  go_wp2_with fail
  refine (HSU.out _).mono ?_
  rintro e w2 ⟨rfl, rfl⟩
  go_wp2_with fail
  go_ret
  exact ⟨rfl, B1.out⟩
end Go.Proofs.Ytfeoalimkolebaa
