/- Bitio: the reader's Text walked. -/
import Derived.Test.YtboakhhmbjomfaaBitE
import Derived.Test.YtboakhhmbjomfaaSliceB
namespace Go.Proofs.Ytboakhhmbjomfaa
open Go.RowKit
open Bt
def upN (p : Nat) : Nat := (p + 7) / 8 * 8
set_option maxHeartbeats 800000 in
theorem rtext_bad (base g : Nat) (A : Option Addr) (c : Nat) (l : List UInt8) (p m : Nat) (k : Int) (w : World) (h : Rdr w base g A c l p) (hm : upN p + m = 8 * l.length) (hl : l.length ≤ 100000000) (hk : k < 0 ∨ (m : Int) / 8 < k) :
    Calls Try.prog 28 #[.pointer (some ⟨g, 0, none⟩), .int .i64 k] w fun e w' => e = .returned (.tuple #[.slice none 0 0, .int .i64 20]) ∧ Rdr w' base g A c l (upN p) ∧ Only (RK g) w w' := by
  have HA := Lib.hid (ralign_t base g A c l p w h (by unfold upN at hm; omega))
  have HL := Lib.hid (fun W hr => left_t base g A c l (upN p) m W hr hm hl)
  unfold upN at HL hm ⊢
  generalize (p + 7) / 8 * 8 = pu at *
  rcases hk with hk | hk
  · have hd : decide (k < 0) = true := by simp; omega
    clear h hm hk
    go_enter Try.func28, Try.ntmps28
    go_wp2_with fail
    refine HA.out.mono ?_
    rintro e w1 ⟨rfl, h1, h2⟩
    have H1 := Lib.hid h1
    have H2 := Lib.hid h2
    clear h1 h2
    go_wp2_with fail
    go_ret2
    exact ⟨rfl, H1.out, H2.out⟩
  · have hd : decide (k < 0) = false := by simp; omega
    have hd2 : decide ((m : Int) / 8 < k) = true := by simp; omega
    have hk0 : 0 ≤ k := by omega
    have hmi : (m : Int) ≤ 1000000000 := by omega
    clear h hm
    go_enter Try.func28, Try.ntmps28
    go_wp2_with fail
    refine HA.out.mono ?_
    rintro e w1 ⟨rfl, h1, h2⟩
    have HL1 := Lib.hid (HL.out _ h1)
    have H1 := Lib.hid h1
    have H2 := Lib.hid h2
    clear h1 h2
    go_wp2_with fail
    refine HL1.out.mono ?_
    rintro e w2 ⟨rfl, q, rfl⟩
    go_wp2_with fail
    go_ret2
    exact ⟨rfl, ⟨H1.out.1.drewN q, H1.out.2⟩, H2.out.drewN q⟩
set_option maxHeartbeats 1600000 in
theorem rtext_t (base g : Nat) (A : Option Addr) (c : Nat) (l : List UInt8) (p m k : Nat) (w : World) (h : Rdr w base g A c l p) (hm : upN p + m = 8 * l.length) (hl : l.length ≤ 100000000) (hk : k ≤ m / 8) :
    Calls Try.prog 28 #[.pointer (some ⟨g, 0, none⟩), .int .i64 (k : Int)] w fun e w' => (∃ A' c', e = .returned (.tuple #[.slice A' k c', .int .i64 0]) ∧ OwnB w' w.heap.size A' c' ((l.drop (upN p / 8)).take k)) ∧ Rdr w' base g A c l (upN p + 8 * k) ∧ Only (RK g) w w' := by
  have HA := Lib.hid (ralign_t base g A c l p w h (by unfold upN at hm; omega))
  have HL := Lib.hid (fun W hr => left_t base g A c l (upN p) m W hr hm hl)
  have hpu : ((p + 7) / 8 * 8) / 8 * 8 = (p + 7) / 8 * 8 := by omega
  unfold upN at HL hm ⊢
  generalize (p + 7) / 8 * 8 = pu at *
  obtain ⟨q8, hq8⟩ : ∃ q8, q8 = pu / 8 := ⟨_, rfl⟩
  have eq1 : (pu : Int) / 8 = (q8 : Int) := by omega
  have hd : decide ((k : Int) < 0) = false := by simp
  have hd2 : decide ((m : Int) / 8 < (k : Int)) = false := by simp; omega
  have hd3 : decide (m / 8 < k) = false := by simp; omega
  have hd4 : ¬ (m : Int) / 8 < (k : Int) := by omega
  have hki : (k : Int) ≤ 100000000 := by omega
  have hpi : (pu : Int) ≤ 1000000000 := by omega
  obtain ⟨j, hj⟩ : ∃ j, j = q8 + k := ⟨_, rfl⟩
  have eq2 : (q8 : Int) + (k : Int) = (j : Int) := by omega
  have hcl := Own.form (show Own w base 5 1 A l.length c (bvs l) from h.2)
  have hlc : l.length ≤ c := by
    rcases Nat.eq_zero_or_pos l.length with h0 | h0
    · omega
    · obtain ⟨_, _, _, _, hnc, _⟩ := hcl h0
      exact hnc
  have hjl : j ≤ l.length := by omega
  have hjq : j - q8 = k := by omega
  have hrun := slice_run A l.length c q8 j (by omega) (by omega)
  have hlen := slice_len (l := l) (i := q8) hjl
  have HBT := Lib.hid (fun (W : World) (hr : Bts W W.heap.size A l) => slice_bts hr c q8 j hjl hlc)
  rw [hjq] at hrun hlen HBT
  have hmi : (m : Int) ≤ 1000000000 := by omega
  have hkb : 8 * k ≤ m := by omega
  have HKB := Lib.hid hkb
  generalize sliceA A c q8 = A2 at *
  have HC := Lib.hid (fun (W : World) hb => clone_t A2 (c - q8) ((l.drop q8).take k) W hb (by rw [hlen]; omega))
  unfold ClonePost at HC
  rw [hlen] at HC
  have H := Lib.hid h
  rw [← hq8]
  have HQ8 : Hid (pu = q8 * 8) := Lib.hid (by omega)
  clear h hm hk hq8 hj hcl hlen hjq hpu hkb
  go_enter Try.func28, Try.ntmps28
  go_wp2_with fail
  refine HA.out.mono ?_
  rintro e w1 ⟨rfl, h1, h2⟩
  have HL1 := Lib.hid (HL.out _ h1)
  have c0 : w1.cell? ⟨g, 0, none⟩ = some (.slice A l.length c) := by rw [h1.1.cell]; rfl
  have c1 : w1.cell? ⟨g, 1, none⟩ = some (.int .i64 (pu : Int)) := by rw [h1.1.cell]; rfl
  have fr := h1.1.free
  have H1 := Lib.hid h1
  have H2 := Lib.hid h2
  clear h1 h2
  go_wp2_with fail
  refine HL1.out.mono ?_
  rintro e w2 ⟨rfl, q, rfl⟩
  go_wp2_with fail
  have hR3 : Rdr ((w1.drewN q).setCell ⟨g, 1, none⟩ (.int .i64 ((pu : Int) + 8 * (k : Int)))) base g A c l (pu + 8 * k) := (show Rdr (w1.drewN q) base g A c l pu from ⟨H1.out.1.drewN q, H1.out.2⟩).moved (by
    have h1 := (H1.out.1.drewN q).put 1 (.int .i64 ((pu : Int) + 8 * (k : Int)))
    simpa using h1) ((Only.refl (RK g) _).set (p := ⟨g, 1, none⟩) (.inl rfl) _)
  have hO3 : Only (RK g) w ((w1.drewN q).setCell ⟨g, 1, none⟩ (.int .i64 ((pu : Int) + 8 * (k : Int)))) := (H2.out.drewN q).set (p := ⟨g, 1, none⟩) (.inl rfl) _
  generalize (w1.drewN q).setCell ⟨g, 1, none⟩ (.int .i64 ((pu : Int) + 8 * (k : Int))) = w3 at *
  have HR3 := Lib.hid hR3
  have HO3 := Lib.hid hO3
  clear hR3 hO3 c0 c1 fr
  refine (HC.out _ (HBT.out _ (OwnB.reads HR3.out.2))).mono ?_
  rintro e w4 ⟨A4, c4, rfl, ho4, hb4⟩
  have HO4 := Lib.hid ho4
  have HB4 := Lib.hid hb4
  clear ho4 hb4
  go_wp2_with fail
  go_ret2
  exact ⟨⟨A4, c4, rfl, Own.mono HO4.out HO3.out.size⟩, HR3.out.below HB4.out, HO3.out.trans (Only.of_below HB4.out)⟩
end Go.Proofs.Ytboakhhmbjomfaa
