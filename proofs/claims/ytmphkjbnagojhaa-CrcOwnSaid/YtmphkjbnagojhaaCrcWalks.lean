/- CRC-32: each function walked once. -/
import Derived.Test.YtmphkjbnagojhaaChecked
import Derived.Test.YtmphkjbnagojhaaBase
import Derived.Test.YtmphkjbnagojhaaCrcPlain
import Derived.RegionTactic
import Derived.BigRegion
import Derived.Deep.QuietTactic
import Derived.BigQuiet
import Derived.Deep.LoopGhost
import Derived.Deep.RegionWith
namespace Go.Proofs.Ytmphkjbnagojhaa
open Go.RowKit
open Cr (W32)

/-- A number of 32 bits as a value. -/
theorem w32_lt (c : W32) : c.toNat < 4294967296 := c.isLt
theorem xor_w (a b : W32) : bits .xor .u32 (a.toNat : Int) (b.toNat : Int) = ((a ^^^ b).toNat : Int) := by
  rw [u32_xor_nat _ _ a.isLt b.isLt, Cr.toNat_xor]

theorem step_t (c : W32) (w : World) :
    Calls Try.prog 25 #[.int .u32 (c.toNat : Int)] w fun e w' => e = .returned (.int .u32 ((Cr.stp c).toNat : Int)) ∧ w = w' := by
  have hlt := w32_lt c
  have hand : bits .and .u32 (c.toNat : Int) 1 = ((c.toNat % 2 : Nat) : Int) := by
    rw [show (1 : Int) = ((1 : Nat) : Int) from rfl, u32_and_nat _ _ hlt (by omega), nat_mask1]
  by_cases h : c.toNat % 2 = 1
  · have hx : bits .xor .u32 ((c.toNat : Int) / 2) 3988292384 = ((Cr.stp c).toNat : Int) := by
      rw [Cr.stp_odd c h, ← xor_w, Cr.toNat_shr]; rfl
    have ht : (((c.toNat % 2 : Nat) : Int) == 1) = true := by simp; omega
    rw [← hand] at ht
    clear hand
    go_enter Try.func25, Try.ntmps25
    go_wp2
    go_ret
    exact ⟨rfl, rfl⟩
  · have hx : (c.toNat : Int) / 2 = ((Cr.stp c).toNat : Int) := by
      rw [Cr.stp_even c h, Cr.toNat_shr]; rfl
    have ht : (((c.toNat % 2 : Nat) : Int) == 1) = false := by simp; omega
    rw [← hand] at ht
    clear hand
    go_enter Try.func25, Try.ntmps25
    go_wp2
    go_ret
    exact ⟨rfl, rfl⟩
/-- The same at any number. -/
theorem step_n (n : Int) (c : W32) (w : World) (hn : n = (c.toNat : Int)) :
    Calls Try.prog 25 #[.int .u32 n] w fun e w' => e = .returned (.int .u32 ((Cr.stp c).toNat : Int)) ∧ w = w' := by
  subst hn; exact step_t c w

/-- The table, k of whose cells are filled. -/
def tabK : Nat → Array Value
  | 0 => Array.replicate 256 (.int .u32 0)
  | k + 1 => (tabK k).setIfInBounds k (.int .u32 ((Cr.it 8 (BitVec.ofNat 32 k)).toNat : Int))
def tab : Array Value := tabK 256
theorem tabK_size (k : Nat) : (tabK k).size = 256 := by
  induction k with
  | zero => simp [tabK]
  | succ k ih => simp [tabK, ih]
theorem tabK_get (k : Nat) : ∀ i, i < k → i < 256 → (tabK k)[i]? = some (.int .u32 ((Cr.it 8 (BitVec.ofNat 32 i)).toNat : Int)) := by
  induction k with
  | zero => intro i h; omega
  | succ k ih =>
    intro i h h2
    simp only [tabK, Array.getElem?_setIfInBounds, tabK_size]
    by_cases e : k = i
    · subst e; simp [h2]
    · rw [if_neg e]; exact ih i (by omega) h2
theorem tabK_any (k i : Nat) (h : i < 256) : ∃ v, (tabK k)[i]? = some v := by
  rcases hh : (tabK k)[i]? with _ | v
  · have := Array.getElem?_eq_none_iff.1 hh
    rw [tabK_size] at this
    omega
  · exact ⟨v, rfl⟩

set_option maxHeartbeats 400000 in
theorem fill_t (g : Nat) (w : World) (hb : Blk w g 42 (tabK 0)) :
    Calls Try.prog 20 #[.pointer (some ⟨g, 0, none⟩)] w fun e w' => e = .returned (.tuple #[]) ∧ Blk w' g 42 tab ∧ w.grownBy w' (some g) := by
  have HB := Lib.hid hb
  clear hb
  go_enter Try.func20, Try.ntmps20
  go_wp2_with fail
  go_loopw [4] (fun i wr => ∃ k : Nat, k ≤ 256 ∧ i = .int .i64 k ∧ Blk wr g 42 (tabK k) ∧ w.grownBy wr (some g)) (fun i _ => 256 - (intOf i).toNat)
  case atStart => exact ⟨0, Nat.zero_le _, rfl, HB.out, ⟨rfl, rfl, rfl, Nat.le_refl _, fun _ _ _ => rfl⟩⟩
  case round =>
    obtain ⟨k, hk, rfl, hblk, hgr⟩ := hrel
    by_cases hlt : k < 256
    · obtain ⟨v, hv⟩ := tabK_any k k hlt
      have hc : wr.cell? ⟨g, k, none⟩ = some v := by rw [hblk.cell]; exact hv
      have hf := hblk.free k
      have HK := Lib.hid hblk
      clear hblk hv
      have hlt' : (k : Int) < 256 := by omega
      go_wp2_with fail
      have h0 : (k : Int) = ((Cr.it 0 (BitVec.ofNat 32 k)).toNat : Int) := by simp [Cr.it]; omega
      go_loop [3, 9] (fun v j => ∃ m : Nat, m ≤ 8 ∧ j = .int .i64 m ∧ v = .int .u32 ((Cr.it m (BitVec.ofNat 32 k)).toNat : Int)) (fun _ j => 8 - (intOf j).toNat)
      case atStart => exact ⟨0, Nat.zero_le _, rfl, by rw [← h0]⟩
      case round =>
        obtain ⟨m, hm, rfl, rfl⟩ := hrel
        clear h0
        by_cases hmt : m < 8
        · have hm' : (m : Int) < 8 := by omega
          have HS := Lib.hid (Cr.it_succ m (BitVec.ofNat 32 k))
          go_wp2_with fail
          refine (step_t _ _).mono ?_
          rintro e w2 ⟨rfl, rfl⟩
          go_wp2
          go_round
          case rel => exact ⟨m + 1, by omega, by go_num, by rw [HS.out]⟩
          case measure => simp [intOf]; omega
        · obtain rfl : m = 8 := by omega
          go_wp2_with fail
          go_roundw
          case rel => exact ⟨k + 1, by omega, by go_num, HK.out.put k _, onlySet hgr (.inl rfl) _⟩
          case measure => simp [intOf]; omega
    · obtain rfl : k = 256 := by omega
      have HK := Lib.hid hblk
      clear hblk
      go_wp2_with fail
      exact bodyPost_end (v := .tuple #[]) (results_none Try.results20 _ _ _) rfl ⟨rfl, HK.out, hgr⟩

def NewPost (w : World) (e : Ending) (w' : World) : Prop := ∃ g, e = .returned (.pointer (some ⟨g, 0, none⟩)) ∧ w.heap.size ≤ g ∧ Blk w' g 42 tab ∧ Below w.heap.size w w'
theorem zero_tab (w : World) : (zeroValue 42).run Try.prog w = .ok (.agg (tabK 0)) w := by kernel_rfl
set_option maxHeartbeats 400000 in
theorem new_t (w : World) : Calls Try.prog 9 #[] w (NewPost w) := by
  have hz := zero_tab
  go_enter Try.func9, Try.ntmps9
  go_wp2_with fail
  refine (fill_t w.heap.size _ (Blk.new _ _ _)).mono ?_
  rintro e w1 ⟨rfl, hblk, hg⟩
  have hbel := onlyB hg (B := w.heap.size) (Nat.le_refl _) (by simp)
  have hB := (newB (Below.refl _ w) (.cells (tabK 0) 42)).trans hbel
  have HK := Lib.hid hblk
  clear hblk hg hbel
  go_wp2_with fail
  go_ret
  exact ⟨w.heap.size, rfl, Nat.le_refl _, HK.out, hB⟩

theorem xor8 (c : W32) (x : UInt8) : bits .xor .u8 ((c.toNat : Int) % 256) (x.toNat : Int) = (((c.toNat % 256) ^^^ x.toNat : Nat) : Int) := by
  have := x.toNat_lt
  rw [← u8_xor_nat _ _ (Nat.mod_lt _ (by decide)) (by omega)]
  rfl
theorem xor32 (c : W32) (x : UInt8) : bits .xor .u32 ((c.toNat : Int) / 256) ((Cr.it 8 (BitVec.ofNat 32 ((c.toNat % 256) ^^^ x.toNat))).toNat : Int) = ((Cr.it 8 (c ^^^ Cr.bw x)).toNat : Int) := by
  rw [Cr.feed_step, ← xor_w, Cr.toNat_shr]
  rfl

set_option maxHeartbeats 400000 in
theorem feed_t (g : Nat) (c : W32) (A : Option Addr) (cp : Nat) (l : List UInt8) (w : World) (hl : l.length ≤ maxLen) (hb : Blk w g 42 tab) (hr : Bts w w.heap.size A l) :
    Calls Try.prog 21 #[.pointer (some ⟨g, 0, none⟩), .int .u32 (c.toNat : Int), .slice A l.length cp] w fun e w' => e = .returned (.int .u32 ((Cr.feed c l).toNat : Int)) ∧ w = w' := by
  unfold maxLen at hl
  have HB := Lib.hid hb
  have HR := Lib.hid hr
  clear hb hr
  go_enter Try.func21, Try.ntmps21
  go_wp2_with fail
  go_loop [1, 11] (fun v i => ∃ k : Nat, k ≤ l.length ∧ i = .int .i64 k ∧ v = .int .u32 ((Cr.feed c (l.take k)).toNat : Int)) (fun _ i => l.length - (intOf i).toNat)
  case atStart => exact ⟨0, Nat.zero_le _, rfl, by simp [Cr.feed]⟩
  case round =>
    obtain ⟨k, hk, rfl, rfl⟩ := hrel
    by_cases hlt : k < l.length
    · obtain ⟨b, o, rfl, hbb, hcell⟩ := HR.out.at_ (by omega)
      have hc := hcell k hlt
      have HS := Lib.hid (Cr.feed_snoc c l k hlt)
      clear hcell
      have hlt' : (k : Int) < (l.length : Int) := by omega
      generalize Cr.feed c (l.take k) = d at *
      have hd := w32_lt d
      have h8 := xor8 d l[k]
      have h32 := xor32 d l[k]
      have hplt := Cr.place_lt d l[k]
      generalize (d.toNat % 256) ^^^ l[k].toNat = i at *
      have ht : w.cell? ⟨g, i, none⟩ = some (.int .u32 ((Cr.it 8 (BitVec.ofNat 32 i)).toNat : Int)) := by
        rw [HB.out.cell]; exact tabK_get 256 i hplt hplt
      generalize Cr.it 8 (BitVec.ofNat 32 i) = tv at *
      have hx := l[k].toNat_lt
      go_wp2
      go_round
      case rel => exact ⟨k + 1, by omega, by go_num, by rw [HS.out]⟩
      case measure => simp [intOf]; omega
    · have hk' : l.take k = l := List.take_of_length_le (by omega)
      have HK := Lib.hid hk'
      clear hk'
      go_wp2
      go_ret
      exact ⟨by rw [HK.out]; rfl, rfl⟩

theorem not_w (c : W32) : (4294967295 : Int) - (c.toNat : Int) = ((~~~ c).toNat : Int) := by
  have := c.isLt
  rw [BitVec.toNat_not]
  omega

theorem not_x (c : W32) : bits .xor .u32 IntKind.u32.max (c.toNat : Int) = ((~~~ c).toNat : Int) := by
  rw [show IntKind.u32.max = ((Cr.ones.toNat : Nat) : Int) from rfl, xor_w, Cr.not_eq, BitVec.xor_comm]
theorem more_t (g : Nat) (c : W32) (A : Option Addr) (cp : Nat) (l : List UInt8) (w : World) (hl : l.length ≤ maxLen) (hb : Blk w g 42 tab) (hr : Bts w w.heap.size A l) :
    Calls Try.prog 12 #[.pointer (some ⟨g, 0, none⟩), .int .u32 (c.toNat : Int), .slice A l.length cp] w fun e w' => e = .returned (.int .u32 ((Cr.more c l).toNat : Int)) ∧ w = w' := by
  have HB := Lib.hid hb
  have HR := Lib.hid hr
  clear hb hr
  have n1 := not_x c
  have hm : Cr.more c l = ~~~ (Cr.feed (~~~ c) l) := rfl
  rw [hm]
  clear hm
  generalize ~~~ c = d at *
  have n2 := not_x (Cr.feed d l)
  generalize ~~~ (Cr.feed d l) = f at *
  have HL := Lib.hid hl
  clear hl
  go_enter Try.func12, Try.ntmps12
  go_wp2_with fail
  refine (feed_t g _ A cp l _ HL.out HB.out HR.out).mono ?_
  rintro e w1 ⟨rfl, rfl⟩
  go_wp2_with fail
  go_ret
  exact ⟨rfl, rfl⟩
theorem sum_t (g : Nat) (A : Option Addr) (cp : Nat) (l : List UInt8) (w : World) (hl : l.length ≤ maxLen) (hb : Blk w g 42 tab) (hr : Bts w w.heap.size A l) :
    Calls Try.prog 10 #[.pointer (some ⟨g, 0, none⟩), .slice A l.length cp] w fun e w' => e = .returned (.int .u32 ((Cr.sum l).toNat : Int)) ∧ w = w' := by
  have HB := Lib.hid hb
  have HR := Lib.hid hr
  have HL := Lib.hid hl
  clear hb hr hl
  go_enter Try.func10, Try.ntmps10
  go_wp2_with fail
  refine (more_t g 0#32 A cp l _ HL.out HB.out HR.out).mono ?_
  rintro e w1 ⟨rfl, rfl⟩
  go_wp2_with fail
  go_ret
  exact ⟨rfl, rfl⟩

/-- The mask of round k. -/
def mk (k : Nat) : Nat := if k < 32 then 2 ^ (31 - k) else 0
theorem mk_half (k : Nat) (h : k < 32) : mk k / 2 = mk (k + 1) := by
  have : ∀ k, k < 32 → mk k / 2 = mk (k + 1) := by decide
  exact this k h
theorem mk_range (k : Nat) (h : k < 32) : 0 < mk k ∧ mk k ≤ 2147483648 := by
  have : ∀ k, k < 32 → 0 < mk k ∧ mk k ≤ 2147483648 := by decide
  exact this k h
theorem mk_test (a : W32) (k : Nat) (h : k < 32) : (bits .and .u32 (a.toNat : Int) (mk k : Int) != 0) = a.getLsbD (31 - k) := by
  have hr := mk_range k h
  rw [u32_and_nat _ _ a.isLt (by omega)]
  have e : mk k = 2 ^ (31 - k) := by unfold mk; rw [if_pos h]
  have := Cr.bit_test a (31 - k)
  rw [← e] at this
  cases hb : a.getLsbD (31 - k) with
  | false => rw [this.2 hb]; rfl
  | true =>
    have h2 : a.toNat &&& mk k ≠ 0 := fun h0 => by rw [this.1 h0] at hb; cases hb
    simp; omega

set_option maxHeartbeats 400000 in
theorem times_t (a b : W32) (w : World) :
    Calls Try.prog 22 #[.int .u32 (a.toNat : Int), .int .u32 (b.toNat : Int)] w fun e w' => e = .returned (.int .u32 ((Cr.times a b).toNat : Int)) ∧ w = w' := by
  have hal := w32_lt a
  go_enter Try.func22, Try.ntmps22
  go_wp2_with fail
  go_loop [1, 5, 6] (fun bv pv mv => ∃ k : Nat, k ≤ 32 ∧ mv = .int .u32 (mk k : Int) ∧ bv = .int .u32 ((Cr.tmk a k (b, 0#32)).1.toNat : Int) ∧ pv = .int .u32 ((Cr.tmk a k (b, 0#32)).2.toNat : Int)) (fun _ _ m => (intOf m).toNat)
  case atStart => exact ⟨0, by omega, rfl, rfl, rfl⟩
  case round =>
    obtain ⟨k, hk, rfl, rfl, rfl⟩ := hrel
    by_cases hlt : k < 32
    · obtain ⟨r0, r1⟩ := mk_range k hlt
      have HM := Lib.hid (mk_half k hlt)
      have ht := mk_test a k hlt
      have hst : Cr.tmk a (k + 1) (b, 0#32) = (Cr.stp (Cr.tmk a k (b, 0#32)).1, if a.getLsbD (31 - k) then (Cr.tmk a k (b, 0#32)).2 ^^^ (Cr.tmk a k (b, 0#32)).1 else (Cr.tmk a k (b, 0#32)).2) := rfl
      have HS := Lib.hid hst
      clear hst
      generalize Cr.tmk a k (b, 0#32) = s at *
      have hx := xor_w s.2 s.1
      have r0' : (0 : Int) < (mk k : Int) := by omega
      have hl1 := w32_lt s.1
      have hl2 := w32_lt s.2
      cases hb : a.getLsbD (31 - k) with
      | true =>
        rw [hb] at ht HS
        clear hb
        go_wp2_with fail
        refine (step_t _ _).mono ?_
        rintro e w2 ⟨rfl, rfl⟩
        go_wp2
        go_round
        case rel => exact ⟨k + 1, by omega, by rw [← HM.out]; rfl, by rw [HS.out], by rw [HS.out]; rfl⟩
        case measure => simp [intOf]; omega
      | false =>
        rw [hb] at ht HS
        clear hb
        go_wp2_with fail
        refine (step_t _ _).mono ?_
        rintro e w2 ⟨rfl, rfl⟩
        go_wp2
        go_round
        case rel => exact ⟨k + 1, by omega, by rw [← HM.out]; rfl, by rw [HS.out], by rw [HS.out]; rfl⟩
        case measure => simp [intOf]; omega
    · obtain rfl : k = 32 := by omega
      have h0 : (mk 32 : Int) = 0 := rfl
      have HA := Lib.hid (Cr.tmk_all a b)
      generalize Cr.tmk a 32 (b, 0#32) = s at *
      go_wp2
      go_ret
      exact ⟨by rw [← HA.out]; rfl, rfl⟩

theorem wraps_i64 (n : Int) (h0 : 0 ≤ n) (h1 : n < 2 ^ 63) : IntKind.i64.wrap n = n := IntWalk.i64_in n ⟨by omega, by omega⟩
theorem and1 (n : Int) (h0 : 0 ≤ n) (h1 : n ≤ 9223372036854775807) : bits .and .i64 n 1 = n % 2 := bits_mask .i64 63 (by decide) wraps_i64 1 (by decide) n h0 (by omega)

set_option maxHeartbeats 400000 in
theorem shift_t (c : W32) (n : Int) (w : World) (n1 : n ≤ 9223372036854775807) :
    Calls Try.prog 13 #[.int .u32 (c.toNat : Int), .int .i64 n] w fun e w' => e = .returned (.int .u32 ((Cr.it (8 * n.toNat) c).toNat : Int)) ∧ w = w' := by
  by_cases hneg : n ≤ 0
  · have e : n.toNat = 0 := by omega
    have e2 : Cr.it (8 * n.toNat) c = c := by rw [e]; rfl
    rw [e2]
    clear e e2
    go_enter Try.func13, Try.ntmps13
    go_wp2_with fail
    refine wp_loop_rounds 1 ?_
    rw [rounds_succ]
    go_wp2
    go_ret
    exact ⟨rfl, rfl⟩
  · obtain ⟨m0, rfl⟩ : ∃ m : Nat, n = (m : Int) := ⟨n.toNat, by omega⟩
    go_enter Try.func13, Try.ntmps13
    go_wp2_with fail
    go_loop [0, 1, 5] (fun cv nv pv => ∃ (m e : Nat) (d : W32), m ≤ m0 ∧ nv = .int .i64 m ∧ cv = .int .u32 (d.toNat : Int) ∧ pv = .int .u32 ((Cr.it e Cr.one).toNat : Int) ∧ Cr.it (e * m) d = Cr.it (8 * m0) c) (fun _ n _ => (intOf n).toNat)
    case atStart => exact ⟨m0, 8, c, Nat.le_refl _, rfl, rfl, by rw [← Cr.power8]; rfl, rfl⟩
    case round =>
      obtain ⟨m, e, d, hm, rfl, rfl, rfl, hE⟩ := hrel
      have HE := Lib.hid hE
      clear hE
      by_cases hpos : 0 < m
      · have hp' : (0 : Int) < (m : Int) := by omega
        have ha := and1 (m : Int) (by omega) (by omega)
        by_cases hodd : m % 2 = 1
        · have ht : ((m : Int) % 2 == 1) = true := by simp; omega
          rw [← ha] at ht
          clear ha
          go_wp2_with fail
          refine (times_t _ _ _).mono ?_
          rw [Cr.times_it]
          rintro e2 w2 ⟨rfl, rfl⟩
          go_wp2_with fail
          refine (times_t _ _ _).mono ?_
          rw [Cr.square]
          rintro e2 w2 ⟨rfl, rfl⟩
          go_wp2
          go_round
          case rel => exact ⟨m / 2, 2 * e, _, by omega, by go_num, rfl, rfl, by rw [Cr.shift_odd _ _ _ hodd]; exact HE.out⟩
          case measure => simp [intOf]; omega
        · have ht : ((m : Int) % 2 == 1) = false := by simp; omega
          rw [← ha] at ht
          clear ha
          go_wp2_with fail
          refine (times_t _ _ _).mono ?_
          rw [Cr.square]
          rintro e2 w2 ⟨rfl, rfl⟩
          go_wp2
          go_round
          case rel => exact ⟨m / 2, 2 * e, _, by omega, by go_num, rfl, rfl, by rw [Cr.shift_even _ _ _ hodd]; exact HE.out⟩
          case measure => simp [intOf]; omega
      · obtain rfl : m = 0 := by omega
        go_wp2
        go_ret
        exact ⟨by rw [← HE.out]; rfl, rfl⟩

theorem join_t (a b : W32) (n : Int) (w : World) (n1 : n ≤ 9223372036854775807) :
    Calls Try.prog 11 #[.int .u32 (a.toNat : Int), .int .u32 (b.toNat : Int), .int .i64 n] w fun e w' => e = .returned (.int .u32 ((Cr.it (8 * n.toNat) a ^^^ b).toNat : Int)) ∧ w = w' := by
  have hx := xor_w (Cr.it (8 * n.toNat) a) b
  go_enter Try.func11, Try.ntmps11
  go_wp2_with fail
  refine (shift_t a n _ n1).mono ?_
  rintro e w1 ⟨rfl, rfl⟩
  go_wp2_with fail
  go_ret
  exact ⟨rfl, rfl⟩

set_option maxHeartbeats 400000 in
theorem rfeed_t (c : W32) (x : UInt8) (w : World) :
    Calls Try.prog 23 #[.int .u32 (c.toNat : Int), .int .u8 (x.toNat : Int)] w fun e w' => e = .returned (.int .u32 ((Cr.it 8 (c ^^^ Cr.bw x)).toNat : Int)) ∧ w = w' := by
  have hx := xor_w c (Cr.bw x)
  rw [Cr.bw_toNat] at hx
  generalize c ^^^ Cr.bw x = d at *
  have hxl := x.toNat_lt
  have hcl := w32_lt c
  go_enter Try.func23, Try.ntmps23
  go_wp2_with fail
  clear hx hcl
  go_loop [0, 5, 6] (fun v i _ => ∃ k : Nat, k ≤ 8 ∧ i = .int .i64 k ∧ v = .int .u32 ((Cr.it k d).toNat : Int)) (fun _ i _ => 8 - (intOf i).toNat)
  case atStart => exact ⟨0, by omega, rfl, rfl⟩
  case round =>
    obtain ⟨k, hk, rfl, rfl⟩ := hrel
    by_cases hlt : k < 8
    · have hlt' : (k : Int) < 8 := by omega
      have HS := Lib.hid (Cr.it_succ k d)
      generalize Cr.it k d = s at *
      have hs := w32_lt s
      by_cases h : s.toNat % 2 = 1
      · have hst : bits .xor .u32 ((s.toNat : Int) / 2) 3988292384 = ((Cr.stp s).toNat : Int) := by
          rw [Cr.stp_odd s h, ← xor_w, Cr.toNat_shr]; rfl
        have ht : ((s.toNat : Int) % 2 == 1) = true := by simp; omega
        go_wp2
        go_round
        case rel => exact ⟨k + 1, by omega, by go_num, by rw [HS.out]⟩
        case measure => simp [intOf]; omega
      · have hst : (s.toNat : Int) / 2 = ((Cr.stp s).toNat : Int) := by
          rw [Cr.stp_even s h, Cr.toNat_shr]; rfl
        have ht : ((s.toNat : Int) % 2 == 1) = false := by simp; omega
        go_wp2
        go_round
        case rel => exact ⟨k + 1, by omega, by go_num, by rw [HS.out]⟩
        case measure => simp [intOf]; omega
    · obtain rfl : k = 8 := by omega
      go_wp2
      go_ret
      exact ⟨rfl, rfl⟩

set_option maxHeartbeats 400000 in
theorem rmore_t (c : W32) (A : Option Addr) (cp : Nat) (l : List UInt8) (w : World) (hl : l.length ≤ maxLen) (hr : Bts w w.heap.size A l) :
    Calls Try.prog 16 #[.int .u32 (c.toNat : Int), .slice A l.length cp] w fun e w' => e = .returned (.int .u32 ((Cr.more c l).toNat : Int)) ∧ w = w' := by
  unfold maxLen at hl
  have HR := Lib.hid hr
  clear hr
  have hcl := w32_lt c
  have hn := not_w c
  have hm : Cr.more c l = ~~~ (Cr.feed (~~~ c) l) := rfl
  rw [hm]
  clear hm
  generalize ~~~ c = d at *
  have hn2 := not_w (Cr.feed d l)
  generalize ~~~ (Cr.feed d l) = f at *
  have HN2 := Lib.hid hn2
  clear hn2
  go_enter Try.func16, Try.ntmps16
  go_wp2_with fail
  clear hn hcl
  go_loop [0, 5] (fun v i => ∃ k : Nat, k ≤ l.length ∧ i = .int .i64 k ∧ v = .int .u32 ((Cr.feed d (l.take k)).toNat : Int)) (fun _ i => l.length - (intOf i).toNat)
  case atStart => exact ⟨0, Nat.zero_le _, rfl, by simp [Cr.feed]⟩
  case round =>
    obtain ⟨k, hk, rfl, rfl⟩ := hrel
    by_cases hlt : k < l.length
    · obtain ⟨b, o, rfl, hbb, hcell⟩ := HR.out.at_ (by omega)
      have hc := hcell k hlt
      have HS := Lib.hid (Cr.feed_snoc d l k hlt)
      clear hcell
      have hlt' : (k : Int) < (l.length : Int) := by omega
      go_wp2_with fail
      refine (rfeed_t _ _ _).mono ?_
      rintro e w1 ⟨rfl, rfl⟩
      go_wp2
      go_round
      case rel => exact ⟨k + 1, by omega, by go_num, by rw [HS.out]⟩
      case measure => simp [intOf]; omega
    · have hk' : l.take k = l := List.take_of_length_le (by omega)
      have HK := Lib.hid hk'
      clear hk'
      rw [HK.out]
      have hn2 := HN2.out
      have hfl := w32_lt (Cr.feed d l)
      go_wp2
      go_ret
      exact ⟨rfl, rfl⟩

theorem rsum_t (A : Option Addr) (cp : Nat) (l : List UInt8) (w : World) (hl : l.length ≤ maxLen) (hr : Bts w w.heap.size A l) :
    Calls Try.prog 15 #[.slice A l.length cp] w fun e w' => e = .returned (.int .u32 ((Cr.sum l).toNat : Int)) ∧ w = w' := by
  have HR := Lib.hid hr
  have HL := Lib.hid hl
  clear hr hl
  go_enter Try.func15, Try.ntmps15
  go_wp2_with fail
  refine (rmore_t 0#32 A cp l _ HL.out HR.out).mono ?_
  rintro e w1 ⟨rfl, rfl⟩
  go_wp2_with fail
  go_ret
  exact ⟨rfl, rfl⟩

set_option maxHeartbeats 400000 in
theorem rshift_t (c : W32) (n : Int) (w : World) (n0 : -9223372036854775808 ≤ n) (n1 : n ≤ 9223372036854775807) :
    Calls Try.prog 14 #[.int .u32 (c.toNat : Int), .int .i64 n] w fun e w' => e = .returned (.int .u32 ((Cr.it (8 * n.toNat) c).toNat : Int)) ∧ w = w' := by
  go_enter Try.func14, Try.ntmps14
  go_wp2_with fail
  go_loop [0, 5] (fun v i => ∃ k : Nat, k ≤ n.toNat ∧ i = .int .i64 k ∧ v = .int .u32 ((Cr.it (8 * k) c).toNat : Int)) (fun _ i => n.toNat - (intOf i).toNat)
  case atStart => exact ⟨0, Nat.zero_le _, rfl, rfl⟩
  case round =>
    obtain ⟨k, hk, rfl, rfl⟩ := hrel
    by_cases hlt : (k : Int) < n
    · have hs : Cr.it (8 * (k + 1)) c = Cr.it 8 (Cr.it (8 * k) c ^^^ Cr.bw 0) := by
        have : Cr.bw 0 = 0#32 := rfl
        rw [this, BitVec.xor_zero, ← Cr.it_add, Nat.mul_add]
      have HS := Lib.hid hs
      clear hs
      go_wp2_with fail
      refine (rfeed_t _ 0 _).mono ?_
      rintro e w1 ⟨rfl, rfl⟩
      go_wp2
      go_round
      case rel => exact ⟨k + 1, by omega, by go_num, by rw [HS.out]⟩
      case measure => simp [intOf]; omega
    · go_wp2
      go_ret
      obtain rfl : k = n.toNat := by omega
      exact ⟨rfl, rfl⟩

theorem elem_u8 : Elem Try.prog 22 5 1 1 := elem_of Try.underlying22 (z := .int .u8 0) (by kernel_rfl) (by decide) (by decide)
def BytesPost (n : Nat) (l : List UInt8) (w : World) (e : Ending) (w' : World) : Prop := ∃ A c, e = .returned (.slice A n c) ∧ Own w' w.heap.size 5 1 A n c (bvs l) ∧ Below w.heap.size w w'
theorem bv_mod (n : Nat) : bv (UInt8.ofNat n) = .int .u8 ((n : Int) % 256) := by simp [bv]

set_option maxHeartbeats 400000 in
theorem rbytes_t (c : W32) (w : World) :
    Calls Try.prog 24 #[.int .u32 (c.toNat : Int)] w (BytesPost 4 (Cr.le c) w) := by
  go_enter Try.func24, Try.ntmps24
  go_wp2_with fail
  go_loopw [0, 3, 4] (fun v s i wr => ∃ (k : Nat) (A : Option Addr) (cp : Nat), k ≤ 4 ∧ i = .int .i64 k ∧ v = .int .u32 (Cr.pow4 c k : Int) ∧ s = .slice A k cp ∧ Own wr w.heap.size 5 1 A k cp (bvs ((Cr.le c).take k)) ∧ Below w.heap.size w wr) (fun _ _ i _ => 4 - (intOf i).toNat)
  case atStart => exact ⟨0, none, 0, by omega, rfl, by simp [Cr.pow4], rfl, Own.nil _ _ _ _, Below.refl _ _⟩
  case round =>
    obtain ⟨k, A, cp, hk, rfl, rfl, rfl, hown, hbel⟩ := hrel
    by_cases hlt : k < 4
    · have hlt' : (k : Int) < 4 := by omega
      have HN := Lib.hid (Cr.pow4_next c k)
      have HT := Lib.hid (Cr.le_take c k hlt)
      have hp := Cr.pow4_lt c k
      generalize Cr.pow4 c k = N at *
      have ho := hown.alloc (.cells #[.int .u8 ((N : Int) % 256)] 5)
      have HO := Lib.hid ho
      have hb := newB hbel (.cells #[.int .u8 ((N : Int) % 256)] 5)
      have HR := Lib.hid (Reads.lit (size := 1) (n := 1) (xs := [bv (UInt8.ofNat N)]) (newest wr (.cells #[.int .u8 ((N : Int) % 256)] 5)) (by rw [bv_mod]) rfl)
      clear hown ho
      go_wp2_with (at_builtin; refine Hid.out ?_)
      refine wpList_app rfl rfl elem_u8 rfl HO.out rfl HR.out (by intro u hu; simp [bv] at hu; subst hu; rfl) (k + 1) rfl (bvs ((Cr.le c).take (k + 1))) (by rw [HT.out, bvs_append]; rfl) (by unfold maxLen; omega) (by omega) (by have := hbel.size; simp; omega) ?_
      intro A2 c2 w2 o2 g2 p2
      have b2 := appB hb HO.out g2 (Nat.le_refl _) hb.size
      go_wp2
      go_roundw
      case rel => exact ⟨k + 1, A2, c2, by omega, by go_num, by rw [← HN.out]; rfl, rfl, o2, b2⟩
      case measure => simp [intOf]; omega
    · obtain rfl : k = 4 := by omega
      have HO := Lib.hid hown
      clear hown
      go_wp2
      go_ret
      exact ⟨A, cp, rfl, HO.out, hbel⟩

theorem reads_cast {w : World} {B : Nat} {A : Option Addr} {n m : Nat} {l : List UInt8} (h : Reads w B 1 A n (bvs l)) (e : n = m) : Reads w B 1 A m (bvs l) := e ▸ h
set_option maxHeartbeats 400000 in
theorem rseal_t (A : Option Addr) (cp : Nat) (l : List UInt8) (w : World) (hl : l.length ≤ 1000000) (hr : Bts w w.heap.size A l) :
    Calls Try.prog 19 #[.slice A l.length cp] w (BytesPost (l.length + 4) (l ++ Cr.le (Cr.sum l)) w) := by
  have HR := Lib.hid hr
  clear hr
  have HO := Lib.hid (Own.nil w w.heap.size 5 1)
  go_enter Try.func19, Try.ntmps19
  go_wp2_with (at_builtin; refine Hid.out ?_)
  refine wpList_app rfl rfl elem_u8 rfl HO.out rfl HR.out (bvs_one _) l.length (by omega) (bvs l) rfl (by unfold maxLen; omega) (by omega) (Nat.le_refl _) ?_
  intro A2 c2 w2 o2 g2 p2
  have b2 := appB (Below.refl _ _) HO.out g2 (Nat.le_refl _) (Nat.le_refl _)
  have HO2 := Lib.hid o2
  have HL := Lib.hid (show l.length ≤ maxLen by unfold maxLen; omega)
  clear o2 p2 g2
  go_wp2_with fail
  refine (rsum_t A cp l _ HL.out (HR.out.at_below b2)).mono ?_
  rintro e w3 ⟨rfl, rfl⟩
  go_wp2_with fail
  refine (rbytes_t _ _).mono ?_
  rintro e w4 ⟨A4, c4, rfl, o4, b4⟩
  have b5 := nextB b2 b4
  have HO5 := Lib.hid (HO2.out.below b4)
  have HR4 := Lib.hid o4.reads
  clear o4
  go_wp2_with (at_builtin; refine Hid.out ?_)
  refine wpList_app rfl rfl elem_u8 rfl HO5.out rfl HR4.out (bvs_one _) (l.length + 4) rfl (bvs (l ++ Cr.le (Cr.sum l))) (by rw [bvs_append]) (by unfold maxLen; omega) (by omega) b5.size ?_
  intro A6 c6 w6 o6 g6 p6
  have b6 := appB b5 HO5.out g6 (Nat.le_refl _) b5.size
  go_wp2
  go_ret
  exact ⟨A6, c6, rfl, o6, b6⟩

/-- Does a text fit: m, and four bytes behind it. -/
def fitsB (m z : List UInt8) : Bool := decide (z = Cr.le (Cr.sum m))
set_option maxHeartbeats 800000 in
theorem fits_t (g b o cp : Nat) (m : List UInt8) (x0 x1 x2 x3 : UInt8) (w : World) (hm : m.length ≤ 1000000) (hcp : m.length + 4 ≤ cp) (hb : Blk w g 42 tab) (hr : Bts w w.heap.size (some ⟨b, o, none⟩) (m ++ [x0, x1, x2, x3])) :
    Calls Try.prog 17 #[.pointer (some ⟨g, 0, none⟩), .slice (some ⟨b, o, none⟩) (m.length + 4) cp] w fun e w' => e = .returned (.bool (fitsB m [x0, x1, x2, x3])) ∧ w = w' := by
  obtain ⟨b', o', hA, hbl, hcell⟩ := hr.at_ (by simp)
  injection hA with hA
  injection hA with e1 e2 _
  subst e1
  subst e2
  have c0 : w.cell? ⟨b, o + m.length, none⟩ = some (.int .u8 (x0.toNat : Int)) := by rw [hcell m.length (by simp)]; simp
  have c1 : w.cell? ⟨b, o + (m.length + 1), none⟩ = some (.int .u8 (x1.toNat : Int)) := by rw [hcell (m.length + 1) (by simp)]; simp [List.getElem_append_right]
  have c2 : w.cell? ⟨b, o + (m.length + 2), none⟩ = some (.int .u8 (x2.toNat : Int)) := by rw [hcell (m.length + 2) (by simp)]; simp [List.getElem_append_right]
  have c3 : w.cell? ⟨b, o + (m.length + 3), none⟩ = some (.int .u8 (x3.toNat : Int)) := by rw [hcell (m.length + 3) (by simp)]; simp [List.getElem_append_right]
  have hread : Bts w w.heap.size (some ⟨b, o, none⟩) m := ⟨by simp [bvs_length], fun _ => ⟨b, o, rfl, hbl, fun j u hu => by
    have hj : j < m.length := by have := (List.getElem?_eq_some_iff.1 hu).1; rwa [bvs_length] at this
    have e : (bvs m)[j]? = some (bv m[j]) := by simp [bvs, hj]
    rw [e] at hu
    injection hu with hu
    rw [hcell j (by simp; omega), ← hu]
    simp [bv, List.getElem_append_left hj]⟩⟩
  have HB := Lib.hid hb
  have HR := Lib.hid hread
  have HL := Lib.hid (show m.length ≤ maxLen by unfold maxLen; omega)
  clear hr hcell hb hread
  have hx0 := x0.toNat_lt
  have hx1 := x1.toNat_lt
  have hx2 := x2.toNat_lt
  have hx3 := x3.toNat_lt
  have hF : fitsB m [x0, x1, x2, x3] = (decide ((x0.toNat : Int) = ((Cr.sum m).toNat : Int) % 256) && decide ((x1.toNat : Int) = ((Cr.sum m).toNat : Int) / 256 % 256) && decide ((x2.toNat : Int) = ((Cr.sum m).toNat : Int) / 65536 % 256) && decide ((x3.toNat : Int) = ((Cr.sum m).toNat : Int) / 16777216 % 256)) := by
    have key : ∀ (x : UInt8) (N : Nat), (x = UInt8.ofNat N) ↔ ((x.toNat : Int) = (N : Int) % 256) := by
      intro x N
      rw [← UInt8.toNat_inj, UInt8.toNat_ofNat']
      have := x.toNat_lt
      omega
    unfold fitsB Cr.le
    simp only [List.cons.injEq, and_true, key]
    generalize (Cr.sum m).toNat = S
    rw [Bool.eq_iff_iff]
    simp only [Bool.and_eq_true, decide_eq_true_eq, Int.natCast_ediv, and_assoc]
    rfl
  have HF := Lib.hid hF
  clear hF
  have hsl := w32_lt (Cr.sum m)
  generalize hS : Cr.sum m = S at *
  have HS := Lib.hid hS
  clear hS
  go_enter Try.func17, Try.ntmps17
  go_wp2_with fail
  refine (sum_t g _ _ m _ HL.out HB.out HR.out).mono ?_
  rw [HS.out]
  rintro e w1 ⟨rfl, rfl⟩
  by_cases k0 : (x0.toNat : Int) = (S.toNat : Int) % 256
  · have t0 : ((x0.toNat : Int) == (S.toNat : Int) % 256) = true := by simpa using k0
    have K0 := Lib.hid k0
    clear k0
    by_cases k1 : (x1.toNat : Int) = (S.toNat : Int) / 256 % 256
    · have t1 : ((x1.toNat : Int) == (S.toNat : Int) / 256 % 256) = true := by simpa using k1
      have K1 := Lib.hid k1
      clear k1
      by_cases k2 : (x2.toNat : Int) = (S.toNat : Int) / 65536 % 256
      · have t2 : ((x2.toNat : Int) == (S.toNat : Int) / 65536 % 256) = true := by simpa using k2
        have K2 := Lib.hid k2
        clear k2
        by_cases k3 : (x3.toNat : Int) = (S.toNat : Int) / 16777216 % 256
        · have t3 : ((x3.toNat : Int) == (S.toNat : Int) / 16777216 % 256) = true := by simpa using k3
          have K3 := Lib.hid k3
          clear k3
          go_wp2_with fail
          go_ret
          exact ⟨by rw [HF.out]; simp [K0.out, K1.out, K2.out, K3.out]; omega, rfl⟩
        · have t3 : ((x3.toNat : Int) == (S.toNat : Int) / 16777216 % 256) = false := by simpa using k3
          have K3 := Lib.hid k3
          clear k3
          go_wp2_with fail
          go_ret
          exact ⟨by rw [HF.out]; have k := K3.out; simp [k]; omega, rfl⟩
      · have t2 : ((x2.toNat : Int) == (S.toNat : Int) / 65536 % 256) = false := by simpa using k2
        have K2 := Lib.hid k2
        clear k2
        go_wp2_with fail
        go_ret
        exact ⟨by rw [HF.out]; simp [K2.out], rfl⟩
    · have t1 : ((x1.toNat : Int) == (S.toNat : Int) / 256 % 256) = false := by simpa using k1
      have K1 := Lib.hid k1
      clear k1
      go_wp2_with fail
      go_ret
      exact ⟨by rw [HF.out]; simp [K1.out], rfl⟩
  · have t0 : ((x0.toNat : Int) == (S.toNat : Int) % 256) = false := by simpa using k0
    have K0 := Lib.hid k0
    clear k0
    go_wp2_with fail
    go_ret
    exact ⟨by rw [HF.out]; simp [K0.out], rfl⟩

theorem fits_short (g : Nat) (A : Option Addr) (n cp : Nat) (w : World) (hn : n < 4) :
    Calls Try.prog 17 #[.pointer (some ⟨g, 0, none⟩), .slice A n cp] w fun e w' => e = .returned (.bool false) ∧ w = w' := by
  go_enter Try.func17, Try.ntmps17
  go_wp2
  go_ret
  exact ⟨rfl, rfl⟩

end Go.Proofs.Ytmphkjbnagojhaa
