/- CRC-32: a table that has summed much sums as a new one: the law walked. -/
import Derived.Test.YtmphkjbnagojhaaCrcLaws
import Derived.Test.YtmphkjbnagojhaaOpen
import Derived.Deep.RegionHeld3
namespace Go.Proofs.Ytmphkjbnagojhaa
open Go.RowKit
open Cr (W32)

set_option maxHeartbeats 1600000 in
theorem crcOwn_walk (w : World) (A : Option Addr) (c : Nat) (rows : List (Option Addr × Nat × List UInt8)) (hl : rows.length ≤ maxLen) (_hc : rows.length ≤ c) (hok : ∀ x ∈ rows, RowOk w x) (hra : Reads w w.heap.size 1 A rows.length (rows.map rowv)) :
    Calls Try.prog 5 #[.slice A rows.length c] w fun e w' => e = .returned (.bool true) ∧ Below w.heap.size w w' := by
  unfold maxLen at hl
  have HA := Lib.hid hra
  have HOK := Lib.hid hok
  clear hra hok
  go_enter Try.func5, Try.ntmps5
  go_wp2_with fail
  refine (alive_t _).mono ?_
  rintro e w1 ⟨rfl, hb1⟩
  go_wp2_with fail
  refine (new_t _).mono ?_
  rintro e w2 ⟨g, rfl, hg, hblk, hb2⟩
  have c2 := nextB hb1 hb2
  have HB := Lib.hid hblk
  clear hblk hb1 hb2
  go_wp2_with fail
  go_loopw [4] (fun i wr => ∃ k : Nat, k ≤ rows.length ∧ i = .int .i64 k ∧ Blk wr g 42 tab ∧ Below w.heap.size w wr) (fun i _ => rows.length - (intOf i).toNat)
  case atStart => exact ⟨0, Nat.zero_le _, rfl, HB.out, c2⟩
  case round =>
    obtain ⟨k, hk, rfl, hblk, hbel⟩ := hrel
    have HBk := Lib.hid hblk
    clear hblk
    by_cases hlt : k < rows.length
    rotate_left
    · have hd : decide ((k : Int) < (rows.length : Int)) = false := by simp; omega
      go_wp2_with fail
      go_ret
      exact ⟨rfl, hbel⟩
    have hd : decide ((k : Int) < (rows.length : Int)) = true := by simp; omega
    by_cases h40 : k < 40
    rotate_left
    · have hd2 : decide ((k : Int) < 40) = false := by simp; omega
      go_wp2_with fail
      go_ret
      exact ⟨rfl, hbel⟩
    have hd2 : decide ((k : Int) < 40) = true := by simp; omega
    obtain ⟨b, o, rfl, hbb, hcell⟩ := HA.out.2 (by omega)
    have hc0 := hcell k (rowv rows[k]) (by simp [hlt])
    have hrow := HOK.out _ (List.getElem_mem hlt)
    obtain ⟨⟨D, d, m⟩, hrk⟩ : ∃ x, rows[k] = x := ⟨_, rfl⟩
    rw [hrk] at hc0 hrow
    obtain ⟨hm, hmd, hbt⟩ := hrow
    have hc : wr.cell? ⟨b, o + k, none⟩ = some (.slice D m.length d) := (hbel.cell (p := ⟨b, o + k, none⟩) hbb).trans hc0
    have HD := Lib.hid hbt
    simp only at hm hmd
    clear hcell hc0 hbt hrk
    unfold maxLen at hm
    by_cases hbig : m.length ≤ 2000
    rotate_left
    · have hd3 : decide ((2000 : Int) < (m.length : Int)) = true := by simp; omega
      go_wp2_with fail
      go_ret
      exact ⟨rfl, hbel⟩
    have hd3 : decide ((2000 : Int) < (m.length : Int)) = false := by simp; omega
    have o1 : Own (wr.alloc (.cells #[] 5)) wr.heap.size 5 1 (some ⟨wr.heap.size, 0, none⟩) 0 0 [] := Own.made wr _ _ 1 #[] 0 (Nat.le_refl _) (by simp) rfl
    have b1 := newB hbel (.cells #[] 5)
    have O1 := Lib.hid o1
    have R1 := Lib.hid (HD.out.at_below b1)
    have hgl := HBk.out.lt
    have HB1 := Lib.hid (HBk.out.alloc (.cells #[] 5))
    have HL := Lib.hid (show m.length ≤ maxLen by unfold maxLen; omega)
    clear o1
    have hc2 : (wr.alloc (.cells #[] 5)).cell? ⟨b, o + k, none⟩ = some (.slice D m.length d) := by
      rw [World.cell?_alloc_lt _ _ _ (Nat.lt_of_lt_of_le hbb hbel.size)]; exact hc
    go_wp2_with (at_builtin; refine Hid.out ?_)
    refine wpList_app rfl rfl elem_u8 rfl O1.out rfl R1.out (bvs_one _) m.length (by omega) (bvs m) rfl (by unfold maxLen; omega) (by omega) (by simp) ?_
    intro A2 p2 w3 o2 g2 q2
    have b2 := appB b1 O1.out g2 hbel.size b1.size
    have HB2 := Lib.hid (HB1.out.grown g2 (by simp [blockOf]; omega))
    have O2 := Lib.hid o2
    have hc3 : w3.cell? ⟨b, o + k, none⟩ = some (.slice D m.length d) := (b2.cell (p := ⟨b, o + k, none⟩) hbb).trans ((hbel.cell (p := ⟨b, o + k, none⟩) hbb).symm.trans hc)
    clear o2 g2 q2 hc hc2 O1 R1 b1 HB1
    go_wp2_with fail
    have hself : Below w3.heap.size w3 w3.drew := (Below.refl _ _).drew
    have hbl3 : b < w3.heap.size := Nat.lt_of_lt_of_le hbb b2.size
    have hload : ∀ W : World, Below w3.heap.size w3 W → W.cell? ⟨b, o + k, none⟩ = some (.slice D m.length d) := fun W hW => (hW.cell (p := ⟨b, o + k, none⟩) hbl3).trans hc3
    have HD3 := Lib.hid (HD.out.at_below b2)
    have HX3 : Hid (Bts w3 w3.heap.size A2 m) := Lib.hid O2.out.reads
    have hv1 : ∀ W : World, Below w3.heap.size w3 W → (convert 22 9 (.slice D m.length d)).run Try.prog W = .ok (.string (str m)) W := fun W hW =>
      run_str Try.underlying22 Try.underlying5 Try.underlying9 (Reads.below HD3.out hW)
    have hv2 : ∀ W : World, Below w3.heap.size w3 W → (convert 22 9 (.slice A2 m.length p2)).run Try.prog W = .ok (.string (str m)) W := fun W hW =>
      run_str Try.underlying22 Try.underlying5 Try.underlying9 (Reads.below HX3.out hW)
    have hkr : (0 : Int) ≤ (k : Int) := by omega
    have hkr2 : (k : Int) < (rows.length : Int) := by omega
    have hss : (((Cr.sum m).toNat : Int) != ((Cr.sum m).toNat : Int)) = false := by simp
    have hst : ((str m).toList != (str m).toList) = false := by simp
    go_region_held3 (fun W' => Below w3.heap.size w3 W') ((first | exact hself | assumption | exact nextB ‹_› ‹_›)) ((first
      | (go_at_call 10; (with_reducible refine (sum_t g D d m _ HL.out (HB2.out.below ‹_› HB2.out.lt) (HD3.out.at_below ‹_›)).mono ?_); rintro e w4 ⟨rfl, rfl⟩)
      | (go_at_call 9; (with_reducible refine (new_t _).mono ?_); rintro e w5 ⟨g5, rfl, hg5, hblk5, hb5⟩; have HB5 := Lib.hid hblk5; clear hblk5)
      | (go_at_call 10; (with_reducible refine (sum_t g5 A2 p2 m _ HL.out HB5.out (HX3.out.at_below ‹_›)).mono ?_); rintro e w6 ⟨rfl, rfl⟩)))
    go_wp2_with fail
    go_roundw
    case rel => exact ⟨k + 1, by omega, by go_num, HB2.out.below ‹_› HB2.out.lt, nextB b2 ‹_›⟩
    case measure => simp [intOf]; omega
end Go.Proofs.Ytmphkjbnagojhaa
