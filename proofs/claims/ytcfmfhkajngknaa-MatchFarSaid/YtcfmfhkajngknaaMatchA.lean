/- Match: places.same walked. -/
import Derived.Test.YtcfmfhkajngknaaChecked
import Derived.Test.YtcfmfhkajngknaaBase
import Derived.Test.YtcfmfhkajngknaaMatchPlain
import Derived.RegionTactic
import Derived.BigRegion
import Derived.Deep.QuietTactic
import Derived.BigQuiet
import Derived.Deep.LoopGhost
namespace Go.Proofs.Ytcfmfhkajngknaa
open Go.RowKit
open Mt

theorem byte_ne {x y : UInt8} (h : x ≠ y) : ((x.toNat : Int) == (y.toNat : Int)) = false := by
  simp only [beq_eq_false_iff_ne, ne_eq, Int.natCast_inj]
  exact fun e => h (UInt8.toNat_inj.1 e)
theorem drewN_two (w : World) (a b : Nat) : (w.drewN a).drewN b = w.drewN (a + b) := by
  simp [World.drewN, Nat.add_assoc]
set_option maxHeartbeats 1600000 in
theorem psame_t (g : Nat) (A : Option Addr) (c : Nat) (l : List UInt8) (M : Value) (i k : Nat) (w : World) (h : Blk w g 41 #[.slice A l.length c, M]) (hb : Bts w w.heap.size A l) (hm : l.length ≤ 16777216) (hik : i < k) (hkl : k < l.length) :
    Calls Try.prog 18 #[.pointer (some ⟨g, 0, none⟩), .int .i64 (i : Int), .int .i64 (k : Int)] w fun e w' => e = .returned (.int .i64 (sm l i k 258 : Nat)) ∧ ∃ n, w' = w.drewN n := by
  obtain ⟨b, o, rfl, hbl, hcell⟩ := hb.at_ (by omega)
  have c0 : w.cell? ⟨g, 0, none⟩ = some (.slice (some ⟨b, o, none⟩) l.length c) := by rw [h.cell]; rfl
  obtain ⟨R, hR⟩ : ∃ R, R = sm l i k 258 := ⟨_, rfl⟩
  rw [← hR]
  have HR := Lib.hid hR
  have HC := Lib.hid hcell
  clear h hb hcell hR hbl
  go_enter Try.func18, Try.ntmps18
  go_wp2_with fail
  go_loopg [7] (258) (fun gk v wr => ∃ n q : Nat, n + gk = 258 ∧ v = .int .i64 (n : Int) ∧ wr = w.drewN q ∧ n + sm l (i + n) (k + n) (258 - n) = R)
  case atStart => exact ⟨0, 0, rfl, rfl, rfl, by rw [HR.out]; simp⟩
  case round =>
    obtain ⟨n, q, hn, rfl, rfl, hs⟩ := hrel
    have hn8 : (n : Int) ≤ 258 := by omega
    have hn0 : (0 : Int) ≤ (n : Int) := by omega
    have HN := Lib.hid hn
    have HS := Lib.hid hs
    clear hn hs
    by_cases h2 : n < 258
    · have h2i : (n : Int) < 258 := by omega
      obtain ⟨p, hp⟩ : ∃ p, p = i + n := ⟨_, rfl⟩
      obtain ⟨r, hr⟩ : ∃ r, r = k + n := ⟨_, rfl⟩
      have e1 : IntKind.i64.wrap ((i : Int) + (n : Int)) = (p : Int) := by rw [show (i : Int) + (n : Int) = (p : Int) by omega]; exact IntWalk.i64_in _ ⟨by omega, by omega⟩
      have e2 : IntKind.i64.wrap ((k : Int) + (n : Int)) = (r : Int) := by rw [show (k : Int) + (n : Int) = (r : Int) by omega]; exact IntWalk.i64_in _ ⟨by omega, by omega⟩
      have hp0 : (0 : Int) ≤ (p : Int) := by omega
      have hr0 : (0 : Int) ≤ (r : Int) := by omega
      by_cases h3 : r < l.length
      · have h3i : (r : Int) < (l.length : Int) := by omega
        have hpl : (p : Int) < (l.length : Int) := by omega
        have d1 := HC.out p (by omega)
        have d2 := HC.out r h3
        by_cases h4 : l[p]'(by omega) = l[r]
        · rw [← h4] at d2
          have H4 := Lib.hid (show l[i + n]? = l[k + n]? by rw [← hp, ← hr, List.getElem?_eq_getElem (by omega), List.getElem?_eq_getElem h3, h4])
          have H3 := Lib.hid (show k + n < l.length by omega)
          have H2 := Lib.hid h2
          generalize l[p]'(by omega) = x at *
          clear h4 hp hr h3 h2
          go_wp2_with fail
          go_quiet (fail)
          go_wp2_with fail
          go_roundg (258 - (n + 1))
          case measure => have h1 := HN.out; have h2 := H2.out; omega
          case rel => exact ⟨n + 1, _, by have h2 := H2.out; omega, by go_num, rfl, by rw [HR.out]; exact sm_step H2.out H3.out H4.out (HS.out.trans HR.out)⟩
        · have hbe := byte_ne h4
          have H4 := Lib.hid (show l[i + n]? ≠ l[k + n]? by rw [← hp, ← hr, List.getElem?_eq_getElem (by omega), List.getElem?_eq_getElem h3]; simpa using h4)
          generalize l[p]'(by omega) = x at *
          generalize l[r] = y at *
          clear h4 hp hr h3 h2
          go_wp2_with fail
          go_quiet (fail)
          go_wp2_with fail
          go_ret
          obtain rfl : R = n := by rw [HR.out]; exact (sm_end (.inr (.inr H4.out)) (HS.out.trans HR.out)).symm
          exact ⟨rfl, q + nq, drewN_two w q nq⟩
      · have h3i : ¬ (r : Int) < (l.length : Int) := by omega
        have hx : decide (r < l.length) = false := by simp; omega
        have H3 := Lib.hid (show ¬ k + n < l.length by omega)
        clear hp hr h3 h2
        go_wp2_with fail
        go_quiet (fail)
        go_wp2_with fail
        go_ret
        obtain rfl : R = n := by rw [HR.out]; exact (sm_end (.inr (.inl H3.out)) (HS.out.trans HR.out)).symm
        exact ⟨rfl, q + nq, drewN_two w q nq⟩
    · obtain rfl : n = 258 := by have := HN.out; omega
      go_wp2_with fail
      go_quiet (fail)
      go_wp2_with fail
      go_ret
      obtain rfl : R = 258 := by rw [HR.out]; exact (sm_end (.inl rfl) (HS.out.trans HR.out)).symm
      exact ⟨rfl, q + nq, drewN_two w q nq⟩
end Go.Proofs.Ytcfmfhkajngknaa
