/- MatchFinds walked: any text's tokens are the document's, and they tell it. -/
import Derived.Test.YtcfmfhkajngknaaMatchL
namespace Go.Proofs.Ytcfmfhkajngknaa
open Go.RowKit
open Mt
/-- A text that lies below a block. -/
def TextIn (w : World) (v : Value) : Prop := ∃ A c S, v = .slice A S.length c ∧ S.length ≤ 1440 ∧ S.length ≤ c ∧ Bts w w.heap.size A S
theorem TextIn.below {w w' : World} {v : Value} (h : TextIn w v) (hb : Below w.heap.size w w') : TextIn w' v := by
  obtain ⟨A, c, S, e, h1, h2, h3⟩ := h
  exact ⟨A, c, S, e, h1, h2, h3.at_below hb⟩
theorem text_str {w : World} {A : Option Addr} {S : List UInt8} {n c : Nat} (hn : n = S.length) (h : Bts w w.heap.size A S) : (convert 22 9 (.slice A n c)).run Try.prog w = .ok (.string (str S)) w := by
  subst hn
  exact run_str Try.underlying22 Try.underlying5 Try.underlying9 h
/-- Both texts stand in a block. -/
def Two (w : World) (g : Nat) (w0 : World) : Prop := g < w0.heap.size ∧ Below w0.heap.size w0 w ∧ ∀ i, i < 2 → ∃ v, w0.cell? ⟨g, i, none⟩ = some v ∧ TextIn w0 v
theorem Two.at_ {w w0 : World} {g i : Nat} (h : Two w g w0) (hi : i < 2) : ∃ v, w.cell? ⟨g, i, none⟩ = some v ∧ TextIn w v := by
  obtain ⟨h1, h2, h3⟩ := h
  obtain ⟨v, h4, h5⟩ := h3 i hi
  exact ⟨v, (h2.cell (p := ⟨g, i, none⟩) h1).trans h4, h5.below h2⟩
theorem Two.below {w w0 w' : World} {g : Nat} (h : Two w g w0) (hb : Below w.heap.size w w') : Two w' g w0 := ⟨h.1, nextB h.2.1 hb, h.2.2⟩
theorem two_new {w : World} {v u : Value} {t : TypeId} (hv : TextIn w v) (hu : TextIn w u) : Two (w.alloc (.cells #[v, u] t)) w.heap.size (w.alloc (.cells #[v, u] t)) := by
  have hb : Below w.heap.size w (w.alloc (.cells #[v, u] t)) := (Below.refl _ _).alloc (Nat.le_refl _) _
  refine ⟨by simp, Below.refl _ _, fun i hi => ?_⟩
  match i, hi with
  | 0, _ => exact ⟨v, by rw [(Blk.new w t #[v, u]).cell]; rfl, hv.below hb⟩
  | 1, _ => exact ⟨u, by rw [(Blk.new w t #[v, u]).cell]; rfl, hu.below hb⟩
theorem htwob_ {w w0 w' : World} {g : Nat} (h : Two w g w0) (hb : Below w.heap.size w w') : Two w' g w0 := h.below hb
set_option maxHeartbeats 3200000 in
theorem finds_short (w : World) (A : Option Addr) (c : Nat) (l : List UInt8) (hl : l.length ≤ 400) (e : l.length ≤ c) (s : Bts w w.heap.size A l) (B : Option Addr) (d : Nat) (l2 : List UInt8) (m2 : l2.length ≤ maxLen) (s2 : Bts w w.heap.size B l2)  :
    Calls Try.prog 5 #[.slice A l.length c, .slice B l2.length d] w fun e w' => e = .returned (.bool true) ∧ Below w.heap.size w w' := by
  have HS := Lib.hid s
  have HS2 := Lib.hid s2
  have HSP := Lib.hid (fun (W : World) h h2 => spread_t A B c d l l2 W h h2 (by unfold maxLen; omega) m2)
  have hd : ¬ (400 : Int) < (l.length : Int) := by omega
  have HL := Lib.hid hl
  clear s s2 hl
  go_enter Try.func5, Try.ntmps5
  go_wp2_with fail
  refine (alive_t _).mono ?_
  rintro e w1 ⟨rfl, hb1⟩
  have HB1 := Lib.hid hb1
  clear hb1
  go_wp2_with fail
  refine (HSP.out _ (HS.out.at_below HB1.out) (HS2.out.at_below HB1.out)).mono ?_
  rintro e w2 ⟨A2, c2, S, rfl, hS, ho2, hb2⟩
  have hc2 := own_cap (show Own w2 w1.heap.size 5 1 A2 S.length c2 (bvs S) from ho2)
  have HB2 := Lib.hid (nextB HB1.out hb2)
  have ht2 : TextIn w2 (.slice A2 S.length c2) := ⟨A2, c2, S, rfl, hS, hc2, OwnB.reads ho2⟩
  have ht1 : TextIn w2 (.slice A l.length c) := ⟨A, c, l, rfl, by have := HL.out; omega, e, (HS.out.at_below HB1.out).at_below hb2⟩
  have HTW := Lib.hid (two_new (t := 22) ht1 ht2)
  clear ho2 hb2 ht1 ht2 hS hc2
  go_wp2_with fail
  go_loopw [23] (fun u wr => ∃ i : Nat, i ≤ 2 ∧ u = .int .i64 (i : Int) ∧ Below w.heap.size w wr ∧ Two wr w2.heap.size (w2.alloc (.cells #[.slice A l.length c, .slice A2 S.length c2] 22))) (fun u _ => 2 - (intOf u).toNat)
  case atStart => exact ⟨0, Nat.zero_le _, rfl, newB HB2.out _, HTW.out⟩
  case round =>
    obtain ⟨i, hi, rfl, hbel, htwo⟩ := hrel
    by_cases hlt : i < 2
    · have hii : (i : Int) < 2 := by omega
      obtain ⟨v, hv, A4, c4, T, rfl, hT, hTc, hTb⟩ := htwo.at_ hlt
      have HB4 := Lib.hid hbel
      have HTT := Lib.hid htwo
      have HT := Lib.hid hTb
      have HI := Lib.hid hlt
      clear hbel htwo hTb hlt hi
      go_wp2_with fail
      refine (find_t A4 c4 T _ HT.out (by omega) hTc).mono ?_
      rintro e w5 ⟨A5, c5, rfl, ho5, hb5⟩
      have hlen := toks_length (b := T) 0 (Nat.zero_le _)
      have hri := toks_right (b := T) (by omega) 0 (Nat.zero_le _)
      have hte := toks_tell (b := T) 0 (Nat.zero_le _)
      rw [List.take_zero] at hri hte
      have HF := Lib.hid (fun W h => rfind_t A4 c4 T W h (by omega))
      unfold RFindPost at HF
      generalize toks T 0 = L at *
      have HTE := Lib.hid (fun W h => tell_t A5 c5 L W h (by omega) hri)
      rw [hte] at HTE
      have HO5 := Lib.hid (OwnT.reads ho5)
      have HB5 := Lib.hid (nextB HB4.out hb5)
      have HT5 := Lib.hid (HT.out.at_below hb5)
      have HTT5 := Lib.hid (htwob_ HTT.out hb5)
      clear ho5 hb5 hte hri HTT HT
      go_wp2_with fail
      refine (HTE.out _ HO5.out).mono ?_
      rintro e w6 ⟨A6, c6, rfl, ho6, hb6⟩
      have HO6 := Lib.hid (HO5.out.at_below hb6)
      have HQ6 := Lib.hid (OwnB.reads ho6)
      have HB6 := Lib.hid (nextB HB5.out hb6)
      have HT6 := Lib.hid (HT5.out.at_below hb6)
      have HTT6 := Lib.hid (htwob_ HTT5.out hb6)
      clear ho6 hb6 HO5 HT5 HTT5 HTE
      go_wp2_with fail
      refine (HF.out _ HT6.out).mono ?_
      rintro e w7 ⟨A7, c7, rfl, ho7, hb7⟩
      have HO7 := Lib.hid (OwnT.reads ho7)
      have HO67 := Lib.hid (HO6.out.at_below hb7)
      have HQ7 := Lib.hid (HQ6.out.at_below hb7)
      have HB7 := Lib.hid (nextB HB6.out hb7)
      have HT7 := Lib.hid (HT6.out.at_below hb7)
      have HTT7 := Lib.hid (htwob_ HTT6.out hb7)
      clear ho7 hb7 HO6 HT6 HTT6 HQ6 HF
      go_wp2_with fail
      refine (msame_t A5 A7 c5 c7 L _ HO67.out HO7.out (by omega)).mono ?_
      rintro e w8 ⟨rfl, q, rfl⟩
      have hs1 : (convert 22 9 (.slice A6 T.length c6)).run Try.prog (w7.drewN q) = .ok (.string (str T)) (w7.drewN q) := text_str rfl (HQ7.out.at_below (below_drewN (Below.refl _ _) q))
      have hs2 : (convert 22 9 (.slice A4 T.length c4)).run Try.prog (w7.drewN q) = .ok (.string (str T)) (w7.drewN q) := text_str rfl (HT7.out.at_below (below_drewN (Below.refl _ _) q))
      go_wp2_with fail
      go_roundw
      case rel => exact ⟨i + 1, HI.out, by go_num, below_drewN HB7.out q, htwob_ HTT7.out (below_drewN (Below.refl _ _) q)⟩
      case measure => have := HI.out; simp [intOf]; omega
    · obtain rfl : 2 = i := by omega
      clear hi hlt htwo
      go_wp2_with fail
      go_ret
      exact ⟨rfl, hbel⟩
set_option maxHeartbeats 3200000 in
theorem finds_long (w : World) (A : Option Addr) (c n0 : Nat) (l : List UInt8) (hl : l.length ≤ 400) (e : l.length ≤ c) (s : Bts w w.heap.size A l) (B : Option Addr) (d : Nat) (l2 : List UInt8) (m2 : l2.length ≤ maxLen) (s2 : Bts w w.heap.size B l2) (hl4 : l.length = 400) (hn0 : 400 < n0) (hn0m : n0 ≤ maxLen) :
    Calls Try.prog 5 #[.slice A n0 c, .slice B l2.length d] w fun e w' => e = .returned (.bool true) ∧ Below w.heap.size w w' := by
  have HS := Lib.hid s
  have HS2 := Lib.hid s2
  have HSP := Lib.hid (fun (W : World) h h2 => spread_t A B c d l l2 W h h2 (by unfold maxLen; omega) m2)
  rw [hl4] at HSP
  have HL4 := Lib.hid hl4
  unfold maxLen at hn0m
  have hni : (400 : Int) < (n0 : Int) := by omega
  have hni2 : (400 : Int) ≤ (c : Int) := by omega
  clear hl4 hn0
  have HL := Lib.hid hl
  clear s s2 hl
  go_enter Try.func5, Try.ntmps5
  go_wp2_with fail
  refine (alive_t _).mono ?_
  rintro e w1 ⟨rfl, hb1⟩
  have HB1 := Lib.hid hb1
  clear hb1
  go_wp2_with fail
  refine (HSP.out _ (HS.out.at_below HB1.out) (HS2.out.at_below HB1.out)).mono ?_
  rintro e w2 ⟨A2, c2, S, rfl, hS, ho2, hb2⟩
  have hc2 := own_cap (show Own w2 w1.heap.size 5 1 A2 S.length c2 (bvs S) from ho2)
  have HB2 := Lib.hid (nextB HB1.out hb2)
  have ht2 : TextIn w2 (.slice A2 S.length c2) := ⟨A2, c2, S, rfl, hS, hc2, OwnB.reads ho2⟩
  have ht1 : TextIn w2 (.slice A 400 c) := ⟨A, c, l, by rw [HL4.out], by have := HL.out; omega, e, (HS.out.at_below HB1.out).at_below hb2⟩
  have HTW := Lib.hid (two_new (t := 22) ht1 ht2)
  clear ho2 hb2 ht1 ht2 hS hc2
  go_wp2_with fail
  go_loopw [23] (fun u wr => ∃ i : Nat, i ≤ 2 ∧ u = .int .i64 (i : Int) ∧ Below w.heap.size w wr ∧ Two wr w2.heap.size (w2.alloc (.cells #[.slice A 400 c, .slice A2 S.length c2] 22))) (fun u _ => 2 - (intOf u).toNat)
  case atStart => exact ⟨0, Nat.zero_le _, rfl, newB HB2.out _, HTW.out⟩
  case round =>
    obtain ⟨i, hi, rfl, hbel, htwo⟩ := hrel
    by_cases hlt : i < 2
    · have hii : (i : Int) < 2 := by omega
      obtain ⟨v, hv, A4, c4, T, rfl, hT, hTc, hTb⟩ := htwo.at_ hlt
      have HB4 := Lib.hid hbel
      have HTT := Lib.hid htwo
      have HT := Lib.hid hTb
      have HI := Lib.hid hlt
      clear hbel htwo hTb hlt hi
      go_wp2_with fail
      refine (find_t A4 c4 T _ HT.out (by omega) hTc).mono ?_
      rintro e w5 ⟨A5, c5, rfl, ho5, hb5⟩
      have hlen := toks_length (b := T) 0 (Nat.zero_le _)
      have hri := toks_right (b := T) (by omega) 0 (Nat.zero_le _)
      have hte := toks_tell (b := T) 0 (Nat.zero_le _)
      rw [List.take_zero] at hri hte
      have HF := Lib.hid (fun W h => rfind_t A4 c4 T W h (by omega))
      unfold RFindPost at HF
      generalize toks T 0 = L at *
      have HTE := Lib.hid (fun W h => tell_t A5 c5 L W h (by omega) hri)
      rw [hte] at HTE
      have HO5 := Lib.hid (OwnT.reads ho5)
      have HB5 := Lib.hid (nextB HB4.out hb5)
      have HT5 := Lib.hid (HT.out.at_below hb5)
      have HTT5 := Lib.hid (htwob_ HTT.out hb5)
      clear ho5 hb5 hte hri HTT HT
      go_wp2_with fail
      refine (HTE.out _ HO5.out).mono ?_
      rintro e w6 ⟨A6, c6, rfl, ho6, hb6⟩
      have HO6 := Lib.hid (HO5.out.at_below hb6)
      have HQ6 := Lib.hid (OwnB.reads ho6)
      have HB6 := Lib.hid (nextB HB5.out hb6)
      have HT6 := Lib.hid (HT5.out.at_below hb6)
      have HTT6 := Lib.hid (htwob_ HTT5.out hb6)
      clear ho6 hb6 HO5 HT5 HTT5 HTE
      go_wp2_with fail
      refine (HF.out _ HT6.out).mono ?_
      rintro e w7 ⟨A7, c7, rfl, ho7, hb7⟩
      have HO7 := Lib.hid (OwnT.reads ho7)
      have HO67 := Lib.hid (HO6.out.at_below hb7)
      have HQ7 := Lib.hid (HQ6.out.at_below hb7)
      have HB7 := Lib.hid (nextB HB6.out hb7)
      have HT7 := Lib.hid (HT6.out.at_below hb7)
      have HTT7 := Lib.hid (htwob_ HTT6.out hb7)
      clear ho7 hb7 HO6 HT6 HTT6 HQ6 HF
      go_wp2_with fail
      refine (msame_t A5 A7 c5 c7 L _ HO67.out HO7.out (by omega)).mono ?_
      rintro e w8 ⟨rfl, q, rfl⟩
      have hs1 : (convert 22 9 (.slice A6 T.length c6)).run Try.prog (w7.drewN q) = .ok (.string (str T)) (w7.drewN q) := text_str rfl (HQ7.out.at_below (below_drewN (Below.refl _ _) q))
      have hs2 : (convert 22 9 (.slice A4 T.length c4)).run Try.prog (w7.drewN q) = .ok (.string (str T)) (w7.drewN q) := text_str rfl (HT7.out.at_below (below_drewN (Below.refl _ _) q))
      go_wp2_with fail
      go_roundw
      case rel => exact ⟨i + 1, HI.out, by go_num, below_drewN HB7.out q, htwob_ HTT7.out (below_drewN (Below.refl _ _) q)⟩
      case measure => have := HI.out; simp [intOf]; omega
    · obtain rfl : 2 = i := by omega
      clear hi hlt htwo
      go_wp2_with fail
      go_ret
      exact ⟨rfl, hbel⟩
theorem matchFinds_walk (w : World) (A : Option Addr) (c : Nat) (l : List UInt8) (m : l.length ≤ maxLen) (e : l.length ≤ c) (s : Bts w w.heap.size A l) (B : Option Addr) (d : Nat) (l2 : List UInt8) (m2 : l2.length ≤ maxLen) (_e2 : l2.length ≤ d) (s2 : Bts w w.heap.size B l2) :
    Calls Try.prog 5 #[.slice A l.length c, .slice B l2.length d] w fun e w' => e = .returned (.bool true) ∧ Below w.heap.size w w' := by
  by_cases h : l.length ≤ 400
  · exact finds_short w A c l h e s B d l2 m2 s2
  · have hl : (l.take 400).length = 400 := by rw [List.length_take]; omega
    have hb : Bts w w.heap.size A (l.take 400) := by
      have := Reads.take s (k := 400) (by omega)
      unfold Bts
      rw [hl, bvs_take]
      simpa using this
    exact finds_long w A c l.length (l.take 400) (by omega) (by omega) hb B d l2 m2 s2 hl (by omega) m
end Go.Proofs.Ytcfmfhkajngknaa
