/- The document's Wide, Add, walked. -/
import Derived.Test.YtmpmjgoipfgfoaaRef13A
namespace Go.Proofs.Ytmpmjgoipfgfoaa
open Go.RowKit
open Pl

/-- How many keys a window has over a list, and a key more. -/
def wideL (L : List Pr) (k : Int) : Int := match L.head?, L.getLast? with
  | some p, some q => max k q.1 - min k p.1 + 1
  | _, _ => 1
def KeysIn (L : List Pr) : Prop := ∀ p ∈ L, -1048576 ≤ p.1 ∧ p.1 ≤ 1048576
set_option maxHeartbeats 800000 in
theorem wide13_t (A : Option Addr) (c B : Nat) (L : List Pr) (k : Int) (w : World) (h : Prs w B A L) (hm : L.length ≤ 16777216) (hk : KeysIn L) (k0 : -1048576 ≤ k) (k1 : k ≤ 1048576) :
    Calls Try.prog 41 #[.slice A L.length c, .int .i64 k] w fun e w' => e = .returned (.int .i64 (wideL L k)) ∧ ∃ n, w' = w.drewN n := by
  by_cases hl : L.length = 0
  · have : L = [] := List.eq_nil_of_length_eq_zero hl
    subst this
    clear h hk
    go_enter Try.func41, Try.ntmps41
    go_wp2_with fail
    go_ret
    exact ⟨rfl, 0, rfl⟩
  · obtain ⟨p, hp⟩ : ∃ p, L[0]? = some p := ⟨L[0]'(by omega), by simp⟩
    obtain ⟨q, hq⟩ : ∃ q, L[L.length - 1]? = some q := ⟨L[L.length - 1]'(by omega), by simp⟩
    obtain ⟨b, o, rfl, _, hcell⟩ := h.at_ (by omega)
    obtain ⟨e1, _⟩ := hcell 0 p hp
    obtain ⟨e2, _⟩ := hcell (L.length - 1) q hq
    have e : wideL L k = max k q.1 - min k p.1 + 1 := by
      unfold wideL
      rw [List.head?_eq_getElem?, hp, List.getLast?_eq_getElem?, hq]
    rw [e]
    have b1 := hk p (List.mem_of_getElem? hp)
    have b2 := hk q (List.mem_of_getElem? hq)
    have hz : ((L.length : Int) == 0) = false := by simp; intro e; exact hl (by rw [e]; rfl)
    obtain ⟨r, hr⟩ : ∃ r : Nat, r = L.length - 1 := ⟨_, rfl⟩
    rw [← hr] at e2
    rw [Nat.zero_mul, Nat.add_zero] at e1
    have hrr : (r : Int) = (L.length : Int) - 1 := by omega
    have s1 : IntKind.i64.wrap ((L.length : Int) - 1) = (r : Int) := by rw [hrr]; exact IntWalk.i64_in _ ⟨by omega, by omega⟩
    have hr0 : (0 : Int) ≤ (r : Int) := by omega
    have hrl : (r : Int) < (L.length : Int) := by omega
    have hl0 : (0 : Int) < (L.length : Int) := by omega
    obtain ⟨x1, x2⟩ := p
    obtain ⟨y1, y2⟩ := q
    simp only at e1 e2 b1 b2
    obtain ⟨b11, b12⟩ := b1
    obtain ⟨b21, b22⟩ := b2
    clear hl h hcell hp hq e hr hrr hk
    go_enter Try.func41, Try.ntmps41
    go_wp2_with fail
    go_quiet (fail)
    go_wp2_with fail
    all_goals (go_ret; exact ⟨ret_int (by omega), _, rfl⟩)
/-- The document's Add: the list, the error's number; window 0: there is none. -/
def radd (L : List Pr) (k : Int) (n W : Nat) : List Pr × Int :=
  if n = 0 then (L, 4) else if k < -1048576 ∨ 1048576 < k then (L, 5) else if 0 < W ∧ (W : Int) < wideL L k then (L, 130) else if 4611686018427387904 - tot L < n then (L, 6) else (put L k n, 0)
def RAdd (base : Nat) (w : World) (R : List Pr × Int) (e : Ending) (w' : World) : Prop :=
  ∃ A c, e = .returned (.tuple #[.slice A R.1.length c, .int .i64 R.2]) ∧ OwnP w' base A c R.1 ∧ Below w.heap.size w w'
set_option maxHeartbeats 800000 in
theorem add13_zero (A : Option Addr) (c base : Nat) (L : List Pr) (k : Int) (n W : Nat) (w : World) (h : OwnP w base A c L) (_hW : W ≤ 16777216) (_hn : n ≤ 18446744073709551615) (h0 : n = 0) :
    Calls Try.prog 22 #[.slice A L.length c, .int .i64 k, .int .u64 (n : Int), .int .i64 (W : Int)] w (RAdd base w (radd L k n W)) := by
  subst h0
  have e : radd L k 0 W = (L, 4) := by simp [radd]
  rw [e]
  have HH := Lib.hid h
  clear h e
  go_enter Try.func22, Try.ntmps22
  go_wp2_with fail
  go_ret2
  exact ⟨A, c, rfl, HH.out, Below.refl _ _⟩
set_option maxHeartbeats 800000 in
theorem add13_low (A : Option Addr) (c base : Nat) (L : List Pr) (k : Int) (n W : Nat) (w : World) (h : OwnP w base A c L) (_hW : W ≤ 16777216) (_hn : n ≤ 18446744073709551615) (h0 : n ≠ 0) (h1 : k < -1048576) :
    Calls Try.prog 22 #[.slice A L.length c, .int .i64 k, .int .u64 (n : Int), .int .i64 (W : Int)] w (RAdd base w (radd L k n W)) := by
  have e : radd L k n W = (L, 5) := by unfold radd; rw [if_neg h0, if_pos (.inl h1)]
  rw [e]
  have b0 : ((n : Int) == 0) = false := by simp; omega
  have HH := Lib.hid h
  clear h e h0
  go_enter Try.func22, Try.ntmps22
  go_wp2_with fail
  go_ret2
  exact ⟨A, c, rfl, HH.out, Below.refl _ _⟩
set_option maxHeartbeats 800000 in
theorem add13_high (A : Option Addr) (c base : Nat) (L : List Pr) (k : Int) (n W : Nat) (w : World) (h : OwnP w base A c L) (_hW : W ≤ 16777216) (_hn : n ≤ 18446744073709551615) (h0 : n ≠ 0) (h1 : 1048576 < k) :
    Calls Try.prog 22 #[.slice A L.length c, .int .i64 k, .int .u64 (n : Int), .int .i64 (W : Int)] w (RAdd base w (radd L k n W)) := by
  have e : radd L k n W = (L, 5) := by unfold radd; rw [if_neg h0, if_pos (.inr h1)]
  rw [e]
  have b0 : ((n : Int) == 0) = false := by simp; omega
  have HH := Lib.hid h
  clear h e h0
  go_enter Try.func22, Try.ntmps22
  go_wp2_with fail
  go_ret2
  exact ⟨A, c, rfl, HH.out, Below.refl _ _⟩
set_option maxHeartbeats 800000 in
theorem add13_wide (A : Option Addr) (c base : Nat) (L : List Pr) (k : Int) (n W : Nat) (w : World) (h : OwnP w base A c L) (_hW : W ≤ 16777216) (_hn : n ≤ 18446744073709551615) (h0 : n ≠ 0) (k0 : -1048576 ≤ k) (k1 : k ≤ 1048576) (hm : L.length ≤ 16777216) (hk : KeysIn L) (h2 : 0 < W) (h3 : (W : Int) < wideL L k) :
    Calls Try.prog 22 #[.slice A L.length c, .int .i64 k, .int .u64 (n : Int), .int .i64 (W : Int)] w (RAdd base w (radd L k n W)) := by
  have e : radd L k n W = (L, 130) := by unfold radd; rw [if_neg h0, if_neg (by omega), if_pos ⟨h2, h3⟩]
  rw [e]
  have b0 : ((n : Int) == 0) = false := by simp; omega
  have HWI := fun B W' h => wide13_t A c B L k W' h hm hk k0 k1
  replace HWI := Lib.hid HWI
  have HH := Lib.hid h
  generalize wideL L k = V at *
  have d1 : decide ((0 : Int) < (W : Int)) = true := by simp; omega
  clear h e h0 hk
  go_enter Try.func22, Try.ntmps22
  go_wp2_with fail
  refine (HWI.out _ _ HH.out.reads).mono ?_
  rintro e w1 ⟨rfl, m, rfl⟩
  go_wp2_with fail
  go_ret2
  exact ⟨A, c, rfl, HH.out, below_drewN (Below.refl _ _) m⟩
set_option maxHeartbeats 800000 in
theorem add13_cap0 (A : Option Addr) (c base : Nat) (L : List Pr) (k : Int) (n W : Nat) (w : World) (h : OwnP w base A c L) (_hW : W ≤ 16777216) (_hn : n ≤ 18446744073709551615) (h0 : n ≠ 0) (k0 : -1048576 ≤ k) (k1 : k ≤ 1048576) (hm : L.length ≤ 16777216) (ht : tot L ≤ 4611686018427387904) (hw0 : W = 0) (h4 : 4611686018427387904 - tot L < n) :
    Calls Try.prog 22 #[.slice A L.length c, .int .i64 k, .int .u64 (n : Int), .int .i64 (W : Int)] w (RAdd base w (radd L k n W)) := by
  have e : radd L k n W = (L, 6) := by unfold radd; rw [if_neg h0, if_neg (by omega), if_neg (by omega), if_pos h4]
  rw [e]
  subst hw0
  have b0 : ((n : Int) == 0) = false := by simp; omega
  have HT := fun B W' h => total13_t A c B L W' h (by unfold maxLen; omega) (by omega)
  replace HT := Lib.hid HT
  have HH := Lib.hid h
  have d4 : decide (4611686018427387904 - ((tot L : Nat) : Int) < (n : Int)) = true := by simp; omega
  have htt : ((tot L : Nat) : Int) ≤ 4611686018427387904 := by omega
  clear h e h0 h4 hm ht
  go_enter Try.func22, Try.ntmps22
  go_wp2_with fail
  refine (HT.out _ _ HH.out.reads).mono ?_
  rintro e w1 ⟨rfl, rfl⟩
  go_wp2_with fail
  go_ret2
  exact ⟨A, c, rfl, HH.out, Below.refl _ _⟩
set_option maxHeartbeats 800000 in
theorem add13_capW (A : Option Addr) (c base : Nat) (L : List Pr) (k : Int) (n W : Nat) (w : World) (h : OwnP w base A c L) (_hW : W ≤ 16777216) (_hn : n ≤ 18446744073709551615) (h0 : n ≠ 0) (k0 : -1048576 ≤ k) (k1 : k ≤ 1048576) (hm : L.length ≤ 16777216) (ht : tot L ≤ 4611686018427387904) (h2 : 0 < W) (h3 : ¬ (W : Int) < wideL L k) (hk : KeysIn L) (h4 : 4611686018427387904 - tot L < n) :
    Calls Try.prog 22 #[.slice A L.length c, .int .i64 k, .int .u64 (n : Int), .int .i64 (W : Int)] w (RAdd base w (radd L k n W)) := by
  have e : radd L k n W = (L, 6) := by unfold radd; rw [if_neg h0, if_neg (by omega), if_neg (fun x => h3 x.2), if_pos h4]
  rw [e]
  have b0 : ((n : Int) == 0) = false := by simp; omega
  have HT := fun B W' h => total13_t A c B L W' h (by unfold maxLen; omega) (by omega)
  replace HT := Lib.hid HT
  have HH := Lib.hid h
  have HWI := fun B W' h => wide13_t A c B L k W' h hm hk k0 k1
  replace HWI := Lib.hid HWI
  generalize wideL L k = V at *
  have d1 : decide ((0 : Int) < (W : Int)) = true := by simp; omega
  have d4 : decide (4611686018427387904 - ((tot L : Nat) : Int) < (n : Int)) = true := by simp; omega
  have htt : ((tot L : Nat) : Int) ≤ 4611686018427387904 := by omega
  clear h e h0 h4 hm ht hk
  go_enter Try.func22, Try.ntmps22
  go_wp2_with fail
  refine (HWI.out _ _ HH.out.reads).mono ?_
  rintro e w1 ⟨rfl, m, rfl⟩
  go_wp2_with fail
  refine (HT.out w.heap.size _ (Reads.drewN HH.out.reads m)).mono ?_
  rintro e w1 ⟨rfl, rfl⟩
  go_wp2_with fail
  go_ret2
  exact ⟨A, c, rfl, HH.out, below_drewN (Below.refl _ _) m⟩
set_option maxHeartbeats 800000 in
theorem add13_ok0 (A : Option Addr) (c base : Nat) (L : List Pr) (k : Int) (n W : Nat) (w : World) (h : OwnP w base A c L) (_hW : W ≤ 16777216) (_hn : n ≤ 18446744073709551615) (h0 : n ≠ 0) (k0 : -1048576 ≤ k) (k1 : k ≤ 1048576) (hm : L.length ≤ 16777216) (ht : tot L ≤ 4611686018427387904) (hw0 : W = 0) (h4 : ¬ 4611686018427387904 - tot L < n) (hbase : base ≤ w.heap.size) :
    Calls Try.prog 22 #[.slice A L.length c, .int .i64 k, .int .u64 (n : Int), .int .i64 (W : Int)] w (RAdd base w (radd L k n W)) := by
  have e : radd L k n W = (put L k n, 0) := by unfold radd; rw [if_neg h0, if_neg (by omega), if_neg (by omega), if_neg h4]
  rw [e]
  subst hw0
  have b0 : ((n : Int) == 0) = false := by simp; omega
  have HT := fun B W' h => total13_t A c B L W' h (by unfold maxLen; omega) (by omega)
  replace HT := Lib.hid HT
  have HH := Lib.hid h
  have HPU := fun W' h => put13_t A c L k n W' h hm (by omega)
  replace HPU := Lib.hid HPU
  have d4 : decide (4611686018427387904 - ((tot L : Nat) : Int) < (n : Int)) = false := by simp; omega
  have htt : ((tot L : Nat) : Int) ≤ 4611686018427387904 := by omega
  clear h e h0 h4 hm ht
  go_enter Try.func22, Try.ntmps22
  go_wp2_with fail
  refine (HT.out _ _ HH.out.reads).mono ?_
  rintro e w1 ⟨rfl, rfl⟩
  go_wp2_with fail
  refine (HPU.out _ HH.out.reads).mono ?_
  rintro e w2 ⟨A2, c2, rfl, ho, hb⟩
  have HO := Lib.hid (Own.mono ho hbase)
  have HB := Lib.hid hb
  clear ho hb
  go_wp2_with fail
  go_ret2
  exact ⟨A2, c2, rfl, HO.out, HB.out⟩
set_option maxHeartbeats 800000 in
theorem add13_okW (A : Option Addr) (c base : Nat) (L : List Pr) (k : Int) (n W : Nat) (w : World) (h : OwnP w base A c L) (_hW : W ≤ 16777216) (_hn : n ≤ 18446744073709551615) (h0 : n ≠ 0) (k0 : -1048576 ≤ k) (k1 : k ≤ 1048576) (hm : L.length ≤ 16777216) (ht : tot L ≤ 4611686018427387904) (h2 : 0 < W) (h3 : ¬ (W : Int) < wideL L k) (hk : KeysIn L) (h4 : ¬ 4611686018427387904 - tot L < n) (hbase : base ≤ w.heap.size) :
    Calls Try.prog 22 #[.slice A L.length c, .int .i64 k, .int .u64 (n : Int), .int .i64 (W : Int)] w (RAdd base w (radd L k n W)) := by
  have e : radd L k n W = (put L k n, 0) := by unfold radd; rw [if_neg h0, if_neg (by omega), if_neg (fun x => h3 x.2), if_neg h4]
  rw [e]
  have b0 : ((n : Int) == 0) = false := by simp; omega
  have HT := fun B W' h => total13_t A c B L W' h (by unfold maxLen; omega) (by omega)
  replace HT := Lib.hid HT
  have HH := Lib.hid h
  have HPU := fun W' h => put13_t A c L k n W' h hm (by omega)
  replace HPU := Lib.hid HPU
  have HWI := fun B W' h => wide13_t A c B L k W' h hm hk k0 k1
  replace HWI := Lib.hid HWI
  generalize wideL L k = V at *
  have d1 : decide ((0 : Int) < (W : Int)) = true := by simp; omega
  have d4 : decide (4611686018427387904 - ((tot L : Nat) : Int) < (n : Int)) = false := by simp; omega
  have htt : ((tot L : Nat) : Int) ≤ 4611686018427387904 := by omega
  clear h e h0 h4 hm ht hk
  go_enter Try.func22, Try.ntmps22
  go_wp2_with fail
  refine (HWI.out _ _ HH.out.reads).mono ?_
  rintro e w1 ⟨rfl, m, rfl⟩
  go_wp2_with fail
  refine (HT.out w.heap.size _ (Reads.drewN HH.out.reads m)).mono ?_
  rintro e w1 ⟨rfl, rfl⟩
  go_wp2_with fail
  refine (HPU.out (w.drewN m) (Reads.drewN HH.out.reads m)).mono ?_
  rintro e w2 ⟨A2, c2, rfl, ho, hb⟩
  have HO := Lib.hid (Own.mono ho hbase)
  have HB := Lib.hid (show Below w.heap.size w w2 from ⟨hb.os, hb.tape, hb.output, hb.size, hb.block⟩)
  clear ho hb
  go_wp2_with fail
  go_ret2
  exact ⟨A2, c2, rfl, HO.out, HB.out⟩
theorem add13_t (A : Option Addr) (c base : Nat) (L : List Pr) (k : Int) (n W : Nat) (w : World) (h : OwnP w base A c L) (hW : W ≤ 16777216) (hn : n ≤ 18446744073709551615) (hm : L.length ≤ 16777216) (ht : tot L ≤ 4611686018427387904) (hk : KeysIn L) (hbase : base ≤ w.heap.size) :
    Calls Try.prog 22 #[.slice A L.length c, .int .i64 k, .int .u64 (n : Int), .int .i64 (W : Int)] w (RAdd base w (radd L k n W)) := by
  by_cases h0 : n = 0
  · exact add13_zero A c base L k n W w h hW hn h0
  by_cases h1 : k < -1048576
  · exact add13_low A c base L k n W w h hW hn h0 h1
  by_cases h1' : 1048576 < k
  · exact add13_high A c base L k n W w h hW hn h0 h1'
  by_cases hw0 : W = 0
  · by_cases h4 : 4611686018427387904 - tot L < n
    · exact add13_cap0 A c base L k n W w h hW hn h0 (by omega) (by omega) hm ht hw0 h4
    · exact add13_ok0 A c base L k n W w h hW hn h0 (by omega) (by omega) hm ht hw0 h4 hbase
  by_cases h3 : (W : Int) < wideL L k
  · exact add13_wide A c base L k n W w h hW hn h0 (by omega) (by omega) hm hk (by omega) h3
  by_cases h4 : 4611686018427387904 - tot L < n
  · exact add13_capW A c base L k n W w h hW hn h0 (by omega) (by omega) hm ht (by omega) h3 hk h4
  · exact add13_okW A c base L k n W w h hW hn h0 (by omega) (by omega) hm ht (by omega) h3 hk h4 hbase
end Go.Proofs.Ytmpmjgoipfgfoaa
