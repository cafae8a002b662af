/- MatchWeighs walked: how many tokens are bytes, and how many bytes the others tell, are together the text. -/
import Derived.Test.YtcfmfhkajngknaaMatchL
namespace Go.Proofs.Ytcfmfhkajngknaa
open Go.RowKit
open Mt
set_option maxHeartbeats 1600000 in
theorem matchWeighs_walk (w : World) (A : Option Addr) (c : Nat) (l : List UInt8) (m : l.length ≤ maxLen) (_e : l.length ≤ c) (s : Bts w w.heap.size A l) (B : Option Addr) (d : Nat) (l2 : List UInt8) (m2 : l2.length ≤ maxLen) (_e2 : l2.length ≤ d) (s2 : Bts w w.heap.size B l2) :
    Calls Try.prog 4 #[.slice A l.length c, .slice B l2.length d] w fun e w' => e = .returned (.bool true) ∧ Below w.heap.size w w' := by
  have HS := Lib.hid s
  have HS2 := Lib.hid s2
  clear s s2
  go_enter Try.func4, Try.ntmps4
  go_wp2_with fail
  refine (alive_t _).mono ?_
  rintro e w1 ⟨rfl, hb1⟩
  have HB1 := Lib.hid hb1
  clear hb1
  go_wp2_with fail
  refine (spread_t A B c d l l2 _ (HS.out.at_below HB1.out) (HS2.out.at_below HB1.out) m m2).mono ?_
  rintro e w2 ⟨A2, c2, S, rfl, hS, ho2, hb2⟩
  have hc2 := own_cap (show Own w2 w1.heap.size 5 1 A2 S.length c2 (bvs S) from ho2)
  have HO2 := Lib.hid (OwnB.reads ho2)
  have HB2 := Lib.hid (nextB HB1.out hb2)
  clear ho2 hb2
  go_wp2_with fail
  refine (find_t A2 c2 S _ HO2.out (by omega) hc2).mono ?_
  rintro e w3 ⟨A3, c3, rfl, ho3, hb3⟩
  have HO3 := Lib.hid (OwnT.reads ho3)
  have HB3 := Lib.hid (nextB HB2.out hb3)
  clear ho3 hb3
  have hw := toks_weigh (b := S) 0 (Nat.zero_le _)
  have hl := weigh_length (toks S 0)
  have htl := toks_length (b := S) 0 (Nat.zero_le _)
  generalize toks S 0 = L at *
  have HW := Lib.hid (fun W h => weigh_t A3 c3 L W h (by omega) (by omega))
  unfold WeighPost at HW
  generalize (weigh L).1 = x at *
  generalize (weigh L).2.1 = y at *
  generalize (weigh L).2.2 = z at *
  go_wp2_with fail
  refine (HW.out _ HO3.out).mono ?_
  rintro e w4 ⟨rfl, hb4⟩
  have HB4 := Lib.hid (nextB HB3.out hb4)
  obtain ⟨hw1, hw2, hw3⟩ := hw
  have t1 : ((x : Int) + (y : Int) == (L.length : Int)) = true := by simp; omega
  have t2 : ((x : Int) + (z : Int) == (S.length : Int)) = true := by simp; omega
  have t3 : decide (3 * (y : Int) ≤ (z : Int)) = true := by simp; omega
  have t4 : decide ((z : Int) ≤ 258 * (y : Int)) = true := by simp; omega
  have u1 : (x : Int) ≤ 1440 := by omega
  have u2 : (y : Int) ≤ 1440 := by omega
  have u3 : (z : Int) ≤ 1440 := by omega
  have u4 : (0 : Int) ≤ (y : Int) := by omega
  clear hb4 HW hw1 hl htl
  go_wp2_with fail
  go_ret
  exact ⟨rfl, HB4.out⟩
end Go.Proofs.Ytcfmfhkajngknaa
