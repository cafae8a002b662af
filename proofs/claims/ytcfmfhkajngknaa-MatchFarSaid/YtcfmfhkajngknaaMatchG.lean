/- Match: Same, Weigh, right walked. -/
import Derived.Test.YtcfmfhkajngknaaMatchTk
namespace Go.Proofs.Ytcfmfhkajngknaa
open Go.RowKit
open Mt
set_option maxHeartbeats 1600000 in
/-- Two lists that are one are the same. -/
theorem msame_t (A B : Option Addr) (c d : Nat) (L : List Tk) (w : World) (ha : Tks w w.heap.size A L) (hb : Tks w w.heap.size B L) (hm : L.length ≤ 1048576) :
    Calls Try.prog 12 #[.slice A L.length c, .slice B L.length d] w fun e w' => e = .returned (.bool true) ∧ ∃ n, w' = w.drewN n := by
  have HA := Lib.hid ha
  have HB := Lib.hid hb
  have hll : ((L.length : Int) == (L.length : Int)) = true := by simp
  clear ha hb
  go_enter Try.func12, Try.ntmps12
  go_wp2_with fail
  go_loopw [5] (fun v wr => ∃ (i q : Nat), i ≤ L.length ∧ v = .int .i64 (i : Int) ∧ wr = w.drewN q) (fun v _ => L.length - (intOf v).toNat)
  case atStart => exact ⟨0, 0, Nat.zero_le _, rfl, rfl⟩
  case round =>
    obtain ⟨i, q, hi, rfl, rfl⟩ := hrel
    by_cases hlt : i < L.length
    · obtain ⟨t, ht⟩ : ∃ t, L[i]? = some t := ⟨L[i], by simp [hlt]⟩
      obtain ⟨b1, o1, rfl, _, h1⟩ := HA.out.at_ (by omega)
      obtain ⟨b2, o2, rfl, _, h2⟩ := HB.out.at_ (by omega)
      obtain ⟨x0, x1, x2⟩ := h1 i t ht
      obtain ⟨y0, y1, y2⟩ := h2 i t ht
      have hii : (i : Int) < (L.length : Int) := by omega
      have HI := Lib.hid hlt
      clear h1 h2 ht hlt hi
      go_wp2_with fail
      go_quiet (fail)
      go_wp2_with fail
      go_roundw
      case rel => exact ⟨i + 1, q + nq, HI.out, by go_num, rfl⟩
      case measure => have := HI.out; simp [intOf]; omega
    · obtain rfl : L.length = i := by omega
      clear hi hlt
      go_wp2_with fail
      go_ret
      exact ⟨rfl, q, rfl⟩
/-- Where RightT holds, right says so. -/
theorem right_t (t : Tk) (n : Nat) (w : World) (h : RightT t n) :
    Calls Try.prog 16 #[.agg #[.int .u8 (t.1.toNat : Int), .int .i64 (t.2.1 : Nat), .int .i64 (t.2.2 : Nat)], .int .i64 (n : Int)] w fun e w' => e = .returned (.bool true) ∧ Below w.heap.size w w' := by
  obtain ⟨x, k, q⟩ := t
  rcases h with ⟨rfl, rfl, h1⟩ | ⟨h0, h1, h2, h3, h4, h5, h6⟩
  · simp only at h1 ⊢
    have h1d : decide ((n : Int) < 1048576) = true := by simp; omega
    have h1i : (n : Int) < 1048576 := by omega
    go_enter Try.func16, Try.ntmps16
    go_wp2_with fail
    go_ret
    exact ⟨rfl, (Below.refl _ _).alloc (Nat.le_refl _) _⟩
  · simp only at h0 h1 h2 h3 h4 h5 h6 ⊢
    subst h0
    have e0 : ((q : Int) == 0) = false := by simp; omega
    have d1 : decide (0 < q) = true := by simp; omega
    have d2 : decide (q ≤ 32768) = true := by simp; omega
    have d3 : decide (q ≤ n) = true := by simp; omega
    have d4 : decide (3 ≤ k) = true := by simp; omega
    have d5 : decide (k ≤ 258) = true := by simp; omega
    have i1 : (0 : Int) < (q : Int) := by omega
    have i2 : (q : Int) ≤ 32768 := by omega
    have i3 : (q : Int) ≤ (n : Int) := by omega
    have i4 : (3 : Int) ≤ (k : Int) := by omega
    have i5 : (k : Int) ≤ 258 := by omega
    have i6 : (k : Int) ≤ 1048576 - (n : Int) := by omega
    have d6 : decide ((k : Int) ≤ 1048576 - (n : Int)) = true := by simp; omega
    go_enter Try.func16, Try.ntmps16
    go_wp2_with fail
    go_ret
    exact ⟨rfl, (Below.refl _ _).alloc (Nat.le_refl _) _⟩
def WeighPost (w : World) (L : List Tk) (e : Ending) (w' : World) : Prop := e = .returned (.tuple #[.int .i64 ((weigh L).1 : Nat), .int .i64 ((weigh L).2.1 : Nat), .int .i64 ((weigh L).2.2 : Nat)]) ∧ Below w.heap.size w w'
set_option maxHeartbeats 1600000 in
theorem weigh_t (A : Option Addr) (c : Nat) (L : List Tk) (w : World) (ha : Tks w w.heap.size A L) (hm : L.length ≤ 1048576) (hw : (weigh L).2.2 ≤ 1048576) :
    Calls Try.prog 10 #[.slice A L.length c] w (WeighPost w L) := by
  have HA := Lib.hid ha
  have hwl := weigh_length L
  obtain ⟨x, hx⟩ : ∃ x, x = (weigh L).1 := ⟨_, rfl⟩
  obtain ⟨y, hy⟩ : ∃ y, y = (weigh L).2.1 := ⟨_, rfl⟩
  obtain ⟨z, hz⟩ : ∃ z, z = (weigh L).2.2 := ⟨_, rfl⟩
  have HX := Lib.hid hx
  have HY := Lib.hid hy
  have HZ := Lib.hid hz
  rw [← hx, ← hy] at hwl
  rw [← hz] at hw
  have HWL := Lib.hid hwl
  clear ha hx hy hz hwl
  go_enter Try.func10, Try.ntmps10
  go_wp2_with fail
  go_loopw [5, 6, 7, 12] (fun u5 u6 u7 v wr => ∃ (i p q r : Nat), i ≤ L.length ∧ u5 = .int .i64 (p : Int) ∧ u6 = .int .i64 (q : Int) ∧ u7 = .int .i64 (r : Int) ∧ v = .int .i64 (i : Int) ∧ p + (weigh (L.drop i)).1 = x ∧ q + (weigh (L.drop i)).2.1 = y ∧ r + (weigh (L.drop i)).2.2 = z ∧ Below w.heap.size w wr) (fun _ _ _ v _ => L.length - (intOf v).toNat)
  case atStart => exact ⟨0, 0, 0, 0, Nat.zero_le _, rfl, rfl, rfl, rfl, by rw [HX.out]; simp, by rw [HY.out]; simp, by rw [HZ.out]; simp, Below.refl _ _⟩
  case round =>
    obtain ⟨i, p, q, r, hi, rfl, rfl, rfl, rfl, hp, hq, hr, hbel⟩ := hrel
    by_cases hlt : i < L.length
    · obtain ⟨t, ht⟩ : ∃ t, L[i]? = some t := ⟨L[i], by simp [hlt]⟩
      obtain ⟨b1, o1, rfl, hbl, h1⟩ := HA.out.at_ (by omega)
      obtain ⟨x0, x1, x2⟩ := h1 i t ht
      have y0 := (hbel.cell (p := ⟨b1, o1 + i * 3, none⟩) hbl).trans x0
      have y1 := (hbel.cell (p := ⟨b1, o1 + i * 3 + 1, none⟩) hbl).trans x1
      have y2 := (hbel.cell (p := ⟨b1, o1 + i * 3 + 2, none⟩) hbl).trans x2
      have hdr : L.drop i = t :: L.drop (i + 1) := by
        rw [List.drop_eq_getElem_cons hlt]
        congr 1
        rw [List.getElem?_eq_getElem hlt] at ht
        exact Option.some.inj ht
      have hii : (i : Int) < (L.length : Int) := by omega
      rw [hdr] at hp hq hr
      unfold weigh at hp hq hr
      obtain ⟨t1, t2, t3⟩ := t
      simp only at hp hq hr y0 y1 y2
      have hxL : x ≤ 1048576 := by have := HWL.out; omega
      have hyL : y ≤ 1048576 := by have := HWL.out; omega
      have HB := Lib.hid hbel
      have HI := Lib.hid hlt
      clear h1 ht hlt hi hdr hbel x0 x1 x2
      by_cases h0 : t3 = 0
      · subst h0
        rw [if_pos rfl] at hp hq hr
        simp only at hp hq hr
        have hb1 : (p : Int) ≤ 1048576 := by omega
        have HP := Lib.hid hp
        have HQ := Lib.hid hq
        have HR := Lib.hid hr
        clear hp hq hr
        go_wp2_with fail
        go_roundw
        case rel => exact ⟨i + 1, p + 1, q, r, HI.out, by go_num, rfl, rfl, by go_num, by rw [← HP.out]; omega, HQ.out, HR.out, newB HB.out _⟩
        case measure => have := HI.out; simp [intOf]; omega
      · rw [if_neg h0] at hp hq hr
        simp only at hp hq hr
        have e0 : ((t3 : Int) == 0) = false := by simp; omega
        have hb1 : (q : Int) ≤ 1048576 := by omega
        have hb2 : (r : Int) ≤ 1048576 := by omega
        have hb3 : (t2 : Int) ≤ 1048576 := by omega
        have HP := Lib.hid hp
        have HQ := Lib.hid hq
        have HR := Lib.hid hr
        clear hp hq hr h0
        go_wp2_with fail
        go_roundw
        case rel => exact ⟨i + 1, p, q + 1, r + t2, HI.out, rfl, by go_num, by go_num, by go_num, HP.out, by rw [← HQ.out]; omega, by rw [← HR.out]; omega, newB HB.out _⟩
        case measure => have := HI.out; simp [intOf]; omega
    · obtain rfl : L.length = i := by omega
      rw [List.drop_length] at hp hq hr
      simp only [weigh, Nat.add_zero] at hp hq hr
      have HB := Lib.hid hbel
      have HE : Hid (p = (weigh L).1 ∧ q = (weigh L).2.1 ∧ r = (weigh L).2.2) := Lib.hid ⟨by rw [← HX.out]; exact hp, by rw [← HY.out]; exact hq, by rw [← HZ.out]; exact hr⟩
      clear hi hlt hp hq hr hbel
      go_wp2_with fail
      go_ret3
      unfold WeighPost
      obtain ⟨e1, e2, e3⟩ := HE.out
      refine ⟨?_, HB.out⟩
      rw [← e1, ← e2, ← e3]
      rfl
end Go.Proofs.Ytcfmfhkajngknaa
