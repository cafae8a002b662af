/- Match: the document's same and Find, and spread, walked. -/
import Derived.Test.YtcfmfhkajngknaaMatchH
namespace Go.Proofs.Ytcfmfhkajngknaa
open Go.RowKit
open Mt
theorem best_step {b : List UInt8} {a p : Nat} {P : Nat → Prop} {t : Nat × Nat} (hP : ∀ q, P q → p < q) (h : Best b a P t) : Best b a (fun q => P q ∨ q = p) (if t.1 < sm b p a 258 then (sm b p a 258, a - p) else t) := by
  by_cases hlt : t.1 < sm b p a 258
  · rw [if_pos hlt]
    refine .inr ⟨p, .inr rfl, by simp only; omega, rfl, fun q hq => ?_⟩
    rcases hq with hq | rfl
    · have hpq := hP q hq
      have : sm b q a 258 ≤ t.1 := by
        rcases h with ⟨rfl, h⟩ | ⟨p0, _, _, _, h⟩
        · rw [h q hq]; exact Nat.zero_le _
        · exact (h q hq).1
      simp only
      omega
    · exact ⟨Nat.le_refl _, fun hh => absurd hh (Nat.lt_irrefl _)⟩
  · rw [if_neg hlt]
    rcases h with ⟨rfl, h⟩ | ⟨p0, hp0, h0, e, h⟩
    · refine .inl ⟨rfl, fun q hq => ?_⟩
      rcases hq with hq | rfl
      · exact h q hq
      · simp only at hlt; omega
    · refine .inr ⟨p0, .inl hp0, h0, e, fun q hq => ?_⟩
      rcases hq with hq | rfl
      · exact h q hq
      · have := hP p0 hp0
        exact ⟨by omega, fun hh => by omega⟩
theorem best_down {b : List UInt8} {a m : Nat} {t : Nat × Nat} (h : Best b a (fun p => m + 1 ≤ p ∧ p < a) t) (hm : m < a) : Best b a (fun p => m ≤ p ∧ p < a) (if t.1 < sm b m a 258 then (sm b m a 258, a - m) else t) := by
  have h2 := best_step (p := m) (fun q hq => by omega) h
  have e : (fun q => (m + 1 ≤ q ∧ q < a) ∨ q = m) = (fun p => m ≤ p ∧ p < a) := funext fun q => propext (by omega)
  rw [e] at h2
  exact h2
theorem best_none (b : List UInt8) (a : Nat) : Best b a (fun p => a ≤ p ∧ p < a) (0, 0) := .inl ⟨rfl, fun p hp => by omega⟩
theorem best_out {b : List UInt8} {a m : Nat} {t : Nat × Nat} (h : Best b a (fun p => m ≤ p ∧ p < a) t) (hm : a ≤ m + 32768) (hx : m = 0 ∨ 32768 < a - (m - 1)) : Mt.tok b a = if 3 ≤ t.1 then t else (0, 0) := by
  have e : (fun p => m ≤ p ∧ p < a) = (fun p => p < a ∧ a - p ≤ 32768) := funext fun q => propext (by omega)
  rw [e] at h
  exact tok_best h
set_option maxHeartbeats 1600000 in
theorem rsame_t (A : Option Addr) (c : Nat) (l : List UInt8) (i k : Nat) (w : World) (hb : Bts w w.heap.size A l) (hm : l.length ≤ 16777216) (hik : i < k) (hkl : k < l.length) :
    Calls Try.prog 17 #[.slice A l.length c, .int .i64 (i : Int), .int .i64 (k : Int)] w fun e w' => e = .returned (.int .i64 (sm l i k 258 : Nat)) ∧ ∃ n, w' = w.drewN n := by
  obtain ⟨b, o, rfl, hbl, hcell⟩ := hb.at_ (by omega)
  obtain ⟨R, hR⟩ : ∃ R, R = sm l i k 258 := ⟨_, rfl⟩
  rw [← hR]
  have HR := Lib.hid hR
  have HC := Lib.hid hcell
  clear hb hcell hR hbl
  go_enter Try.func17, Try.ntmps17
  go_wp2_with fail
  go_loopg [7] (258) (fun gk v wr => ∃ n q : Nat, n + gk = 258 ∧ v = .int .i64 (n : Int) ∧ wr = w.drewN q ∧ n + sm l (i + n) (k + n) (258 - n) = R)
  case atStart => exact ⟨0, 0, rfl, rfl, rfl, by rw [HR.out]; simp⟩
  case round =>
    obtain ⟨n, q, hn, rfl, rfl, hs⟩ := hrel
    have hn8 : (n : Int) ≤ 258 := by omega
    have hn0 : (0 : Int) ≤ (n : Int) := by omega
    have HN := Lib.hid hn
    have HS := Lib.hid hs
    clear hn hs
    by_cases h2 : n < 258
    · have h2i : (n : Int) < 258 := by omega
      obtain ⟨p, hp⟩ : ∃ p, p = i + n := ⟨_, rfl⟩
      obtain ⟨r, hr⟩ : ∃ r, r = k + n := ⟨_, rfl⟩
      have e1 : IntKind.i64.wrap ((i : Int) + (n : Int)) = (p : Int) := by rw [show (i : Int) + (n : Int) = (p : Int) by omega]; exact IntWalk.i64_in _ ⟨by omega, by omega⟩
      have e2 : IntKind.i64.wrap ((k : Int) + (n : Int)) = (r : Int) := by rw [show (k : Int) + (n : Int) = (r : Int) by omega]; exact IntWalk.i64_in _ ⟨by omega, by omega⟩
      have hp0 : (0 : Int) ≤ (p : Int) := by omega
      have hr0 : (0 : Int) ≤ (r : Int) := by omega
      by_cases h3 : r < l.length
      · have h3i : (r : Int) < (l.length : Int) := by omega
        have hpl : (p : Int) < (l.length : Int) := by omega
        have d1 := HC.out p (by omega)
        have d2 := HC.out r h3
        by_cases h4 : l[p]'(by omega) = l[r]
        · rw [← h4] at d2
          have H4 := Lib.hid (show l[i + n]? = l[k + n]? by rw [← hp, ← hr, List.getElem?_eq_getElem (by omega), List.getElem?_eq_getElem h3, h4])
          have H3 := Lib.hid (show k + n < l.length by omega)
          have H2 := Lib.hid h2
          generalize l[p]'(by omega) = x at *
          clear h4 hp hr h3 h2
          go_wp2_with fail
          go_quiet (fail)
          go_wp2_with fail
          go_roundg (258 - (n + 1))
          case measure => have h1 := HN.out; have h2 := H2.out; omega
          case rel => exact ⟨n + 1, _, by have h2 := H2.out; omega, by go_num, rfl, by rw [HR.out]; exact sm_step H2.out H3.out H4.out (HS.out.trans HR.out)⟩
        · have hbe := byte_ne h4
          have H4 := Lib.hid (show l[i + n]? ≠ l[k + n]? by rw [← hp, ← hr, List.getElem?_eq_getElem (by omega), List.getElem?_eq_getElem h3]; simpa using h4)
          generalize l[p]'(by omega) = x at *
          generalize l[r] = y at *
          clear h4 hp hr h3 h2
          go_wp2_with fail
          go_quiet (fail)
          go_wp2_with fail
          go_ret
          obtain rfl : R = n := by rw [HR.out]; exact (sm_end (.inr (.inr H4.out)) (HS.out.trans HR.out)).symm
          exact ⟨rfl, q + nq, drewN_two w q nq⟩
      · have h3i : ¬ (r : Int) < (l.length : Int) := by omega
        have hx : decide (r < l.length) = false := by simp; omega
        have H3 := Lib.hid (show ¬ k + n < l.length by omega)
        clear hp hr h3 h2
        go_wp2_with fail
        go_quiet (fail)
        go_wp2_with fail
        go_ret
        obtain rfl : R = n := by rw [HR.out]; exact (sm_end (.inr (.inl H3.out)) (HS.out.trans HR.out)).symm
        exact ⟨rfl, q + nq, drewN_two w q nq⟩
    · obtain rfl : n = 258 := by have := HN.out; omega
      go_wp2_with fail
      go_quiet (fail)
      go_wp2_with fail
      go_ret
      obtain rfl : R = 258 := by rw [HR.out]; exact (sm_end (.inl rfl) (HS.out.trans HR.out)).symm
      exact ⟨rfl, q + nq, drewN_two w q nq⟩
end Go.Proofs.Ytcfmfhkajngknaa
