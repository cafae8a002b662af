/- Sketches to which a law's values are added: walked. -/
import Derived.Test.YtbfhiegbgkkgiaaGreatC29
import Derived.Test.YtbfhiegbgkkgiaaGreatC06
import Derived.Test.YtbfhiegbgkkgiaaGreatC07
import Derived.Test.YtbfhiegbgkkgiaaGreatC09
import Derived.Test.YtbfhiegbgkkgiaaGreatC12
namespace Go.Proofs.YtbfhiegbgkkgiaaGreat
open Go.RowKit
open Pl
open Sc
theorem zs_at {w : World} {B : Nat} {A : Option Addr} {k : IntKind} {l : List Int} {i : Nat} {x : Int} (h : Reads w B 1 A l.length (l.map (intv k))) (hi : l[i]? = some x) : ∃ b o, A = some ⟨b, o, none⟩ ∧ b < B ∧ w.cell? ⟨b, o + i, none⟩ = some (.int k x) := by
  have hl := (List.getElem?_eq_some_iff.1 hi).1
  obtain ⟨b, o, e, hb, hc⟩ := h.2 (by omega)
  exact ⟨b, o, e, hb, hc i _ (by simp [hi, intv])⟩
/-- A law's weight. -/
def wtF (ns : List Int) (i : Nat) : Nat := match ns[i]? with
  | some x => 1 + (x % 1000).toNat
  | none => 1
theorem wtF_in (ns : List Int) (i : Nat) : 1 ≤ wtF ns i ∧ wtF ns i ≤ 1000 := by
  unfold wtF
  split <;> omega
theorem weight_t (A : Option Addr) (c B i : Nat) (ns : List Int) (w : World) (h : Reads w B 1 A ns.length (ns.map (intv .u16))) (hz : ∀ x ∈ ns, 0 ≤ x ∧ x ≤ 65535) (hn : ns.length ≤ 9223372036854775807) :
    Calls Tryz.prog 25 #[.slice A ns.length c, .int .i64 (i : Int)] w fun e w' => e = .returned (.int .u64 (wtF ns i : Nat)) ∧ w = w' := by
  have hnl : (ns.length : Int) ≤ 9223372036854775807 := by omega
  by_cases hlt : i < ns.length
  · obtain ⟨x, hx⟩ : ∃ x, ns[i]? = some x := ⟨_, List.getElem?_eq_getElem hlt⟩
    obtain ⟨b, o, rfl, _, hc⟩ := zs_at h hx
    have hxz := hz x (List.mem_of_getElem? hx)
    have hw : wtF ns i = 1 + (x % 1000).toNat := by unfold wtF; rw [hx]
    rw [hw]
    obtain ⟨y, hy⟩ : ∃ y : Nat, y = (x % 1000).toNat := ⟨_, rfl⟩
    rw [← hy]
    have e1 : decide ((ns.length : Int) ≤ (i : Int)) = false := by simp; omega
    have e1b : decide (ns.length ≤ i) = false := by simp; omega
    have e2 : x.tmod 1000 = (y : Int) := by rw [Int.tmod_eq_emod_of_nonneg hxz.1]; omega
    have e3 : x % 1000 = (y : Int) := by omega
    have e4 : IntKind.u64.wrap (y : Int) = (y : Int) := by rw [IntWalk.u64_in _ ⟨by omega, by omega⟩]
    have e5 : (y : Int) ≤ 1000 := by omega
    have e6 : (i : Int) < (ns.length : Int) := by omega
    clear h hz hn hlt hx hw hy hxz
    go_enter Tryz.func25, Tryz.ntmps25
    go_wp2_with fail
    go_ret
    exact ⟨by simp, rfl⟩
  · have hw : wtF ns i = 1 := by unfold wtF; rw [List.getElem?_eq_none (by omega)]
    rw [hw]
    have e1 : decide ((ns.length : Int) ≤ (i : Int)) = true := by simp; omega
    have e1b : decide (ns.length ≤ i) = true := by simp; omega
    clear h hz hn hlt hw
    go_enter Tryz.func25, Tryz.ntmps25
    go_wp2_with fail
    go_ret
    exact ⟨rfl, rfl⟩
def weightF (ns : List Int) (i : Nat) : Nat := wtF ns i * 2 ^ (20 * (i % 3))
theorem weightF_in (ns : List Int) (i : Nat) : 1 ≤ weightF ns i ∧ weightF ns i ≤ 1099511627776000 := by
  have h := wtF_in ns i
  have h3 : i % 3 < 3 := Nat.mod_lt _ (by decide)
  unfold weightF
  generalize wtF ns i = x at *
  have hc : i % 3 = 0 ∨ i % 3 = 1 ∨ i % 3 = 2 := by omega
  rcases hc with e | e | e
  · rw [e, show 2 ^ (20 * 0) = 1 from rfl]; omega
  · rw [e, show 2 ^ (20 * 1) = 1048576 from rfl]; omega
  · rw [e, show 2 ^ (20 * 2) = 1099511627776 from rfl]; omega
/-- All that is counted: the values of a law, with its weights, up to number i. -/
def addZ (a : Nat) (ns : List Int) (all : List Pr) (i : Nat) (v : Int) : List Pr := if v < -9223372036854775807 then all else put all (keyZ a v) (weightF ns i)
def allZ (a : Nat) (l ns : List Int) : Nat → List Pr
  | 0 => []
  | i + 1 => match l[i]? with
    | some v => addZ a ns (allZ a l ns i) i v
    | none => allZ a l ns i
theorem allZ_next {a : Nat} {l ns : List Int} {i : Nat} {v : Int} (h : l[i]? = some v) : allZ a l ns (i + 1) = addZ a ns (allZ a l ns i) i v := by
  show (match l[i]? with
    | some v => addZ a ns (allZ a l ns i) i v
    | none => allZ a l ns i) = _
  rw [h]
/-- What of a law's lists is counted at most. -/
structure Few (all : List Pr) (i : Nat) (a : Nat) : Prop where
  fine : Fine all
  len : all.length ≤ i
  tot : tot all ≤ 1099511627776000 * i
  keys : ∀ p ∈ all, -((spans a).length : Int) ≤ p.1 ∧ p.1 ≤ ((spans a).length : Int)
theorem Few.start (a : Nat) : Few [] 0 a := ⟨Fine.nil, Nat.le_refl _, Nat.le_refl _, fun p hp => by cases hp⟩
theorem ix_lt {a v : Nat} (ha0 : 100 ≤ a) (ha : a ≤ 5000) (hv : v ≤ 9223372036854775807) : ix (spans a) v < (spans a).length := by
  have hne : ∃ T low f, At a T low f ∧ (spanOf a low).2.2 = 9223372036854775807 := by
    have hgo : ∀ f T low, At a T low f → ∃ T low f, At a T low f ∧ (spanOf a low).2.2 = 9223372036854775807 := by
      intro f
      induction f with
      | zero => intro T low h; exact absurd h.pos (by omega)
      | succ f ih =>
        intro T low h
        by_cases he : (spanOf a low).2.2 = 9223372036854775807
        · exact ⟨T, low, f + 1, h, he⟩
        · exact ih _ _ ((h.step ha0 ha).2 he)
    exact hgo _ _ _ (At.start a)
  obtain ⟨T, low, f, hat, he⟩ := hne
  have hs := (hat.step ha0 ha).1 he
  have hi : (spans a)[T.length]? = some (spanOf a low) := by rw [hs]; simp
  have h1 := ix_iff (v := v) (spans_sorted ha0 ha) hi
  rw [he] at h1
  have h2 : T.length < (spans a).length := (List.getElem?_eq_some_iff.1 hi).1
  rcases Nat.lt_or_ge (ix (spans a) v) (spans a).length with h | h
  · exact h
  · exact absurd (h1.2 (by omega)) (by omega)
theorem keyZ_spans {a : Nat} {v : Int} (ha0 : 100 ≤ a) (ha : a ≤ 5000) (hv0 : -9223372036854775807 ≤ v) (hv1 : v ≤ 9223372036854775807) : -((spans a).length : Int) ≤ keyZ a v ∧ keyZ a v ≤ ((spans a).length : Int) := by
  have h1 := ix_lt (v := v.toNat) ha0 ha (by omega)
  have h2 := ix_lt (v := (-v).toNat) ha0 ha (by omega)
  unfold keyZ
  split
  · omega
  · split <;> omega
theorem Few.put {all : List Pr} {i a : Nat} (h : Few all i a) {k : Int} {n : Nat} (hk0 : -((spans a).length : Int) ≤ k) (hk1 : k ≤ ((spans a).length : Int)) (hn : 1 ≤ n) (hn1 : n ≤ 1099511627776000) (hi : i ≤ 100) : Few (put all k n) (i + 1) a ∧ radd all k n 0 = (put all k n, 0) := by
  have hl := spans_len' a
  have ht := h.tot
  have hll := h.len
  have htp : Pl.tot (Pl.put all k n) = Pl.tot all + n := put_tot
  refine ⟨⟨put_fine h.fine (by omega) (by omega) (by omega) (by omega) (by omega), Nat.le_trans put_len (by omega), by rw [htp]; omega, fun p hp => ?_⟩, ?_⟩
  · have hm := put_keys (l := all) (k := k) (n := n) p hp
    rcases hm with h1 | ⟨q, hq, h1⟩
    · rw [h1]; exact ⟨hk0, hk1⟩
    · rw [← h1]; exact h.keys q hq
  · rw [radd0, if_neg (by omega), if_neg (by omega), if_neg (by omega)]
theorem allZ_few {a : Nat} {l ns : List Int} (ha0 : 100 ≤ a) (ha : a ≤ 5000) (zl : ∀ x ∈ l, -9223372036854775808 ≤ x ∧ x ≤ 9223372036854775807) : ∀ i, i ≤ 100 → Few (allZ a l ns i) i a
  | 0, _ => Few.start a
  | i + 1, hi => by
    have ih := allZ_few (ns := ns) ha0 ha zl i (by omega)
    have more : Few (allZ a l ns i) (i + 1) a := ⟨ih.fine, Nat.le_succ_of_le ih.len, by have := ih.tot; omega, ih.keys⟩
    cases hv : l[i]? with
    | none =>
      have e : allZ a l ns (i + 1) = allZ a l ns i := by
        show (match l[i]? with
          | some v => addZ a ns (allZ a l ns i) i v
          | none => allZ a l ns i) = _
        rw [hv]
      rw [e]
      exact more
    | some v =>
      rw [allZ_next hv]
      unfold addZ
      have hz := zl v (List.mem_of_getElem? hv)
      split
      · exact more
      · have hk := keyZ_spans ha0 ha (v := v) (by omega) hz.2
        have hw := weightF_in ns i
        exact (ih.put hk.1 hk.2 hw.1 hw.2 (by omega)).1
end Go.Proofs.YtbfhiegbgkkgiaaGreat
/- Sparse: the reference's Add, Take, Cut: the answer's row lies where the old one lay, or is new. -/

namespace Go.Proofs.YtbfhiegbgkkgiaaGreat
open Go.RowKit
open Pl
def RNew (A : Option Addr) (base : Nat) (w : World) (R : List Pr × Int) (e : Ending) (w' : World) : Prop :=
  ∃ A' c', e = .returned (.tuple #[.slice A' R.1.length c', .int .i64 R.2]) ∧ OwnP w' base A' c' R.1 ∧ Below w.heap.size w w' ∧ ∀ x, blockOf A' = some x → blockOf A = some x ∨ w.heap.size ≤ x
def RNewN (A : Option Addr) (base : Nat) (w : World) (R : List Pr × Nat) (e : Ending) (w' : World) : Prop :=
  ∃ A' c', e = .returned (.tuple #[.slice A' R.1.length c', .int .u64 (R.2 : Nat)]) ∧ OwnP w' base A' c' R.1 ∧ Below w.heap.size w w' ∧ ∀ x, blockOf A' = some x → blockOf A = some x ∨ w.heap.size ≤ x
theorem new_block {w w' : World} {base c : Nat} {A A' : Option Addr} {L : List Pr} (h : OwnP w' base A' c L) (hb : w.heap.size ≤ base) : ∀ x, blockOf A' = some x → blockOf A = some x ∨ w.heap.size ≤ x := fun x hx => by
  have := (Own.block (show Own w' base 64 2 A' L.length c (pcs L) from h) hx).1
  exact .inr (by omega)
set_option maxRecDepth 100000 in
set_option maxHeartbeats 800000 in
theorem addn_zero (A : Option Addr) (c base : Nat) (L : List Pr) (k : Int) (n W : Nat) (w : World) (h : OwnP w base A c L) (_hW : W ≤ 16777216) (_hn : n ≤ 18446744073709551615) (h0 : n = 0) :
    Calls Tryz.prog 57 #[.slice A L.length c, .int .i64 k, .int .u64 (n : Int), .int .i64 (W : Int)] w (RNew A base w (radd L k n W)) := by
  subst h0
  have e : radd L k 0 W = (L, 4) := by simp [radd]
  rw [e]
  have HH := Lib.hid h
  clear h e
  go_enter Tryz.func57, Tryz.ntmps57
  go_wp2_with fail
  go_ret2
  exact ⟨A, c, rfl, HH.out, Below.refl _ _, fun _ h => .inl h⟩
set_option maxRecDepth 100000 in
set_option maxHeartbeats 800000 in
theorem addn_low (A : Option Addr) (c base : Nat) (L : List Pr) (k : Int) (n W : Nat) (w : World) (h : OwnP w base A c L) (_hW : W ≤ 16777216) (_hn : n ≤ 18446744073709551615) (h0 : n ≠ 0) (h1 : k < -1048576) :
    Calls Tryz.prog 57 #[.slice A L.length c, .int .i64 k, .int .u64 (n : Int), .int .i64 (W : Int)] w (RNew A base w (radd L k n W)) := by
  have e : radd L k n W = (L, 5) := by unfold radd; rw [if_neg h0, if_pos (.inl h1)]
  rw [e]
  have b0 : ((n : Int) == 0) = false := by simp; omega
  have HH := Lib.hid h
  clear h e h0
  go_enter Tryz.func57, Tryz.ntmps57
  go_wp2_with fail
  go_ret2
  exact ⟨A, c, rfl, HH.out, Below.refl _ _, fun _ h => .inl h⟩
set_option maxRecDepth 100000 in
set_option maxHeartbeats 800000 in
theorem addn_high (A : Option Addr) (c base : Nat) (L : List Pr) (k : Int) (n W : Nat) (w : World) (h : OwnP w base A c L) (_hW : W ≤ 16777216) (_hn : n ≤ 18446744073709551615) (h0 : n ≠ 0) (h1 : 1048576 < k) :
    Calls Tryz.prog 57 #[.slice A L.length c, .int .i64 k, .int .u64 (n : Int), .int .i64 (W : Int)] w (RNew A base w (radd L k n W)) := by
  have e : radd L k n W = (L, 5) := by unfold radd; rw [if_neg h0, if_pos (.inr h1)]
  rw [e]
  have b0 : ((n : Int) == 0) = false := by simp; omega
  have HH := Lib.hid h
  clear h e h0
  go_enter Tryz.func57, Tryz.ntmps57
  go_wp2_with fail
  go_ret2
  exact ⟨A, c, rfl, HH.out, Below.refl _ _, fun _ h => .inl h⟩
set_option maxRecDepth 100000 in
set_option maxHeartbeats 800000 in
theorem addn_cap0 (A : Option Addr) (c base : Nat) (L : List Pr) (k : Int) (n W : Nat) (w : World) (h : OwnP w base A c L) (_hW : W ≤ 16777216) (_hn : n ≤ 18446744073709551615) (h0 : n ≠ 0) (k0 : -1048576 ≤ k) (k1 : k ≤ 1048576) (hm : L.length ≤ 16777216) (ht : tot L ≤ 4611686018427387904) (hw0 : W = 0) (h4 : 4611686018427387904 - tot L < n) :
    Calls Tryz.prog 57 #[.slice A L.length c, .int .i64 k, .int .u64 (n : Int), .int .i64 (W : Int)] w (RNew A base w (radd L k n W)) := by
  have e : radd L k n W = (L, 6) := by unfold radd; rw [if_neg h0, if_neg (by omega), if_neg (by omega), if_pos h4]
  rw [e]
  subst hw0
  have b0 : ((n : Int) == 0) = false := by simp; omega
  have HT := fun B W' h => total13_t A c B L W' h (by unfold maxLen; omega) (by omega)
  replace HT := Lib.hid HT
  have HH := Lib.hid h
  have d4 : decide (4611686018427387904 - ((tot L : Nat) : Int) < (n : Int)) = true := by simp; omega
  have htt : ((tot L : Nat) : Int) ≤ 4611686018427387904 := by omega
  clear h e h0 h4 hm ht
  go_enter Tryz.func57, Tryz.ntmps57
  go_wp2_with fail
  refine (HT.out _ _ HH.out.reads).mono ?_
  rintro e w1 ⟨rfl, rfl⟩
  go_wp2_with fail
  go_ret2
  exact ⟨A, c, rfl, HH.out, Below.refl _ _, fun _ h => .inl h⟩
set_option maxRecDepth 100000 in
set_option maxHeartbeats 800000 in
theorem addn_ok0 (A : Option Addr) (c base : Nat) (L : List Pr) (k : Int) (n W : Nat) (w : World) (h : OwnP w base A c L) (_hW : W ≤ 16777216) (_hn : n ≤ 18446744073709551615) (h0 : n ≠ 0) (k0 : -1048576 ≤ k) (k1 : k ≤ 1048576) (hm : L.length ≤ 16777216) (ht : tot L ≤ 4611686018427387904) (hw0 : W = 0) (h4 : ¬ 4611686018427387904 - tot L < n) (hbase : base ≤ w.heap.size) :
    Calls Tryz.prog 57 #[.slice A L.length c, .int .i64 k, .int .u64 (n : Int), .int .i64 (W : Int)] w (RNew A base w (radd L k n W)) := by
  have e : radd L k n W = (put L k n, 0) := by unfold radd; rw [if_neg h0, if_neg (by omega), if_neg (by omega), if_neg h4]
  rw [e]
  subst hw0
  have b0 : ((n : Int) == 0) = false := by simp; omega
  have HT := fun B W' h => total13_t A c B L W' h (by unfold maxLen; omega) (by omega)
  replace HT := Lib.hid HT
  have HH := Lib.hid h
  have HPU := fun W' h => put13_t A c L k n W' h hm (by omega)
  replace HPU := Lib.hid HPU
  have d4 : decide (4611686018427387904 - ((tot L : Nat) : Int) < (n : Int)) = false := by simp; omega
  have htt : ((tot L : Nat) : Int) ≤ 4611686018427387904 := by omega
  clear h e h0 h4 hm ht
  go_enter Tryz.func57, Tryz.ntmps57
  go_wp2_with fail
  refine (HT.out _ _ HH.out.reads).mono ?_
  rintro e w1 ⟨rfl, rfl⟩
  go_wp2_with fail
  refine (HPU.out _ HH.out.reads).mono ?_
  rintro e w2 ⟨A2, c2, rfl, ho, hb⟩
  have HNB := Lib.hid (new_block (A := A) ho (Nat.le_refl _))
  have HO := Lib.hid (Own.mono ho hbase)
  have HB := Lib.hid hb
  clear ho hb
  go_wp2_with fail
  go_ret2
  exact ⟨A2, c2, rfl, HO.out, HB.out, HNB.out⟩
set_option maxRecDepth 100000 in
theorem addn_t (A : Option Addr) (c base : Nat) (L : List Pr) (k : Int) (n : Nat) (w : World) (h : OwnP w base A c L) (hn : n ≤ 18446744073709551615) (hm : L.length ≤ 16777216) (ht : tot L ≤ 4611686018427387904) (hbase : base ≤ w.heap.size) :
    Calls Tryz.prog 57 #[.slice A L.length c, .int .i64 k, .int .u64 (n : Int), .int .i64 0] w (RNew A base w (radd L k n 0)) := by
  by_cases h0 : n = 0
  · exact addn_zero A c base L k n 0 w h (by decide) hn h0
  by_cases h1 : k < -1048576
  · exact addn_low A c base L k n 0 w h (by decide) hn h0 h1
  by_cases h1' : 1048576 < k
  · exact addn_high A c base L k n 0 w h (by decide) hn h0 h1'
  by_cases h4 : 4611686018427387904 - tot L < n
  · exact addn_cap0 A c base L k n 0 w h (by decide) hn h0 (by omega) (by omega) hm ht rfl h4
  · exact addn_ok0 A c base L k n 0 w h (by decide) hn h0 (by omega) (by omega) hm ht rfl h4 hbase
set_option maxRecDepth 100000 in
set_option maxHeartbeats 800000 in
theorem taken_none (A A2 : Option Addr) (c c2 base : Nat) (L : List Pr) (W : Nat) (w : World) (h : OwnP w base A c L) :
    Calls Tryz.prog 50 #[.slice A L.length c, .slice A2 ([] : List Pr).length c2, .int .i64 (W : Int)] w (RNew A base w (L, 0)) := by
  have HH := Lib.hid h
  clear h
  go_enter Tryz.func50, Tryz.ntmps50
  go_wp2_with fail
  go_ret2
  exact ⟨A, c, rfl, HH.out, Below.refl _ _, fun _ h => .inl h⟩
set_option maxRecDepth 100000 in
set_option maxHeartbeats 3200000 in
theorem taken_cap_W0 (A A2 : Option Addr) (c c2 base : Nat) (L M : List Pr) (W : Nat) (w : World) (h : OwnP w base A c L) (h2 : Prs w w.heap.size A2 M) (hm : L.length ≤ 1000000) (hm2 : M.length ≤ 1000000) (hM : M ≠ []) (hw0 : W = 0) (ht : tot L ≤ 4611686018427387904) (ht2 : tot M ≤ 4611686018427387904) (hc : 4611686018427387904 - tot L < tot M) :
    Calls Tryz.prog 50 #[.slice A L.length c, .slice A2 M.length c2, .int .i64 (W : Int)] w (RNew A base w (L, 6)) := by
  have HTM := fun B W' h => total13_t A2 c2 B M W' h (by unfold maxLen; omega) (by omega)
  have HTL := fun B W' h => total13_t A c B L W' h (by unfold maxLen; omega) (by omega)
  replace HTM := Lib.hid HTM
  replace HTL := Lib.hid HTL
  have htl : ((tot L : Nat) : Int) ≤ 4611686018427387904 := by omega
  have dd : decide (4611686018427387904 - ((tot L : Nat) : Int) < ((tot M : Nat) : Int)) = true := by simp; omega
  obtain ⟨b0, o0, rfl, hb0, hcell0⟩ := h2.at_ (List.length_pos_iff.2 hM)
  clear hcell0 hb0
  subst hw0
  have HH := Lib.hid h
  have HH2 := Lib.hid h2
  have hzM := nat_len_ne hM
  clear h h2 hc hM
  go_enter Tryz.func50, Tryz.ntmps50
  go_wp2_with fail
  refine (HTM.out w.heap.size _ (HH2.out)).mono ?_
  rintro e w1 ⟨rfl, hw1⟩
  obtain rfl := hw1.symm
  go_wp2_with fail
  refine (HTL.out w.heap.size _ (HH.out.reads)).mono ?_
  rintro e w1 ⟨rfl, hw1⟩
  obtain rfl := hw1.symm
  go_wp2_with fail
  go_ret2
  exact ⟨_, c, rfl, HH.out, Below.refl _ _, fun _ h => .inl h⟩
set_option maxRecDepth 100000 in
set_option maxHeartbeats 3200000 in
theorem taken_ok_W0 (A A2 : Option Addr) (c c2 base : Nat) (L M : List Pr) (W : Nat) (w : World) (h : OwnP w base A c L) (h2 : Prs w w.heap.size A2 M) (hm : L.length ≤ 1000000) (hm2 : M.length ≤ 1000000) (hM : M ≠ []) (hw0 : W = 0) (ht : tot L ≤ 4611686018427387904) (hc : ¬ 4611686018427387904 - tot L < tot M) (hbase : base ≤ w.heap.size) :
    Calls Tryz.prog 50 #[.slice A L.length c, .slice A2 M.length c2, .int .i64 (W : Int)] w (RNew A base w (puts L M, 0)) := by
  have HTM := fun B W' h => total13_t A2 c2 B M W' h (by unfold maxLen; omega) (by omega)
  have HTL := fun B W' h => total13_t A c B L W' h (by unfold maxLen; omega) (by omega)
  replace HTM := Lib.hid HTM
  replace HTL := Lib.hid HTL
  have htl : ((tot L : Nat) : Int) ≤ 4611686018427387904 := by omega
  have htot : tot L + tot M ≤ 4611686018427387904 := by omega
  have HTOT := Lib.hid htot
  have HBASE := Lib.hid hbase
  have hbl0 : Below w.heap.size w w := Below.refl _ _
  have dd : decide (4611686018427387904 - ((tot L : Nat) : Int) < ((tot M : Nat) : Int)) = false := by simp; omega
  obtain ⟨b0, o0, rfl, hb0, hcell0⟩ := h2.at_ (List.length_pos_iff.2 hM)
  clear hcell0 hb0
  subst hw0
  have HH := Lib.hid h
  have HH2 := Lib.hid h2
  have hzM := nat_len_ne hM
  clear h h2 hc hM
  go_enter Tryz.func50, Tryz.ntmps50
  go_wp2_with fail
  refine (HTM.out w.heap.size _ (HH2.out)).mono ?_
  rintro e w1 ⟨rfl, hw1⟩
  obtain rfl := hw1.symm
  go_wp2_with fail
  refine (HTL.out w.heap.size _ (HH.out.reads)).mono ?_
  rintro e w1 ⟨rfl, hw1⟩
  obtain rfl := hw1.symm
  go_wp2_with fail
  go_loopw [10, 11] (fun v i wr => ∃ (k : Nat) (A' : Option Addr) (c' : Nat), k ≤ M.length ∧ i = .int .i64 k ∧ v = .slice A' (puts L (M.take k)).length c' ∧ OwnP wr base A' c' (puts L (M.take k)) ∧ Below w.heap.size w wr ∧ ∀ x, blockOf A' = some x → blockOf A = some x ∨ w.heap.size ≤ x) (fun _ i _ => M.length - (intOf i).toNat)
  case atStart => exact ⟨0, _, c, Nat.zero_le _, rfl, rfl, HH.out, hbl0, fun _ h => .inl h⟩
  case round =>
    obtain ⟨k, A', c', hk, rfl, rfl, hown, hbel, hnb⟩ := hrel
    have HNB := Lib.hid hnb
    clear hnb
    by_cases hlt : k < M.length
    · obtain ⟨b, o, hA2, hbl2, hcell⟩ := Prs.at_ HH2.out (by omega)
      obtain ⟨rfl, rfl⟩ : b = b0 ∧ o = o0 := by
        simp only [Option.some.injEq, Addr.mk.injEq] at hA2
        exact ⟨hA2.1.symm, hA2.2.1.symm⟩
      obtain ⟨⟨x1, x2⟩, hp⟩ : ∃ p, M[k]? = some p := ⟨M[k], by simp [hlt]⟩
      obtain ⟨g1, g2⟩ := hcell k _ hp
      simp only at g1 g2
      have hnx : puts L (M.take (k + 1)) = put (puts L (M.take k)) x1 x2 := by
        obtain ⟨h1, e⟩ := List.getElem?_eq_some_iff.1 hp
        rw [List.take_succ_eq_append_getElem h1, e, puts_snoc]
      have hol := puts_len (l := L) (m := M.take k)
      rw [List.length_take] at hol
      have htt := puts_tot (L := L) (M := M.take k)
      have htk := tot_take_le (L := M) (k := k)
      have htot := HTOT.out
      have htk1 : tot (M.take k) + x2 ≤ tot M := by
        obtain ⟨h1, e⟩ := List.getElem?_eq_some_iff.1 hp
        have t1 := tot_take h1
        have t2 := tot_take_le (L := M) (k := k + 1)
        rw [e] at t1
        simp only at t1
        omega
      have hx2 := tot_le_of_mem (List.mem_of_getElem? hp)
      simp only at hx2
      have HPU := fun W' A' c' h => put13_t A' c' (puts L (M.take k)) x1 x2 W' h (by omega) (by omega)
      replace HPU := Lib.hid HPU
      have hkk : (k : Int) < (M.length : Int) := by omega
      have hk0 : (0 : Int) ≤ (k : Int) := by omega
      have d1 : wr.cell? ⟨b, o + k * 2, none⟩ = some (.int .i64 x1) := (hbel.cell (p := ⟨b, o + k * 2, none⟩) hbl2).trans g1
      have d2 : wr.cell? ⟨b, o + k * 2 + 1, none⟩ = some (.int .u64 (x2 : Nat)) := (hbel.cell (p := ⟨b, o + k * 2 + 1, none⟩) hbl2).trans g2
      have HL := Lib.hid hlt
      have HO := Lib.hid hown
      have HB := Lib.hid hbel
      have HN := Lib.hid hnx
      clear hp g1 g2 hcell hlt hown hbel hk hnx hol htt htk hx2 hA2 htot htk1
      generalize puts L (M.take k) = out at *
      go_wp2_with fail
      refine wp_region_noPanic ?_
      refine wp_region_held_drew (S := (fun w' => w'.cell? ⟨b, o + k * 2, none⟩ = some (.int .i64 x1) ∧ w'.cell? ⟨b, o + k * 2 + 1, none⟩ = some (.int .u64 (x2 : Nat)))) (by kernel_rfl) ⟨d1, d2⟩ (fun hHeld => ?_)
      refine wpAnyH_take (i := 0) (oi := ?_) (v := ?_) ?_ ?_ ?_ ?_ ?_ ?_ ?_ ?_
      rotate_left 2
      · simp only [List.getElem?_toArray, List.getElem?_cons_zero]; rfl
      · kernel_rfl
      · kernel_rfl
      · kernel_rfl
      · exact fun _ _ _ h => h
      · exact Or.inl ⟨by kernel_rfl, by intro w hSw; (try dsimp only at hSw); go_simp; try with_reducible rfl⟩
      · assumption
      try go_simp
      refine wpAnyH_take (i := 1) (oi := ?_) (v := ?_) ?_ ?_ ?_ ?_ ?_ ?_ ?_ ?_
      rotate_left 2
      · simp only [List.getElem?_toArray, List.getElem?_cons_succ, List.getElem?_cons_zero]; rfl
      · kernel_rfl
      · kernel_rfl
      · kernel_rfl
      · exact fun _ _ _ h => h
      · exact Or.inl ⟨by kernel_rfl, by intro w hSw; (try dsimp only at hSw); go_simp; try with_reducible rfl⟩
      · assumption
      try go_simp
      refine wpAnyH_take (i := 2) (oi := ?_) (v := ?_) ?_ ?_ ?_ ?_ ?_ ?_ ?_ ?_
      rotate_left 2
      · simp only [List.getElem?_toArray, List.getElem?_cons_succ, List.getElem?_cons_zero]; rfl
      · kernel_rfl
      · kernel_rfl
      · kernel_rfl
      · exact fun _ _ _ h => h
      · exact Or.inl ⟨by kernel_rfl, by intro w hSw; (try dsimp only at hSw); go_simp; try with_reducible rfl⟩
      · assumption
      try go_simp
      refine wpAnyH_take (i := 3) (oi := ?_) (v := ?_) ?_ ?_ ?_ ?_ ?_ ?_ ?_ ?_
      rotate_left 2
      · simp only [List.getElem?_toArray, List.getElem?_cons_succ, List.getElem?_cons_zero]; rfl
      · kernel_rfl
      · kernel_rfl
      · kernel_rfl
      · exact fun _ _ _ h => h
      · exact Or.inl ⟨by kernel_rfl, by intro w hSw; (try dsimp only at hSw); go_simp; try with_reducible rfl⟩
      · assumption
      try go_simp
      refine wpAnyH_take (i := 4) (oi := ?_) (v := ?_) ?_ ?_ ?_ ?_ ?_ ?_ ?_ ?_
      rotate_left 2
      · simp only [List.getElem?_toArray, List.getElem?_cons_succ, List.getElem?_cons_zero]; rfl
      · kernel_rfl
      · kernel_rfl
      · kernel_rfl
      · exact fun _ _ _ h => h
      · exact Or.inl ⟨by kernel_rfl, by intro w hSw; (try dsimp only at hSw); go_simp; try with_reducible rfl⟩
      · assumption
      try go_simp
      refine wpAnyH_take (i := 5) (oi := ?_) (v := ?_) ?_ ?_ ?_ ?_ ?_ ?_ ?_ ?_
      rotate_left 2
      · simp only [List.getElem?_toArray, List.getElem?_cons_succ, List.getElem?_cons_zero]; rfl
      · kernel_rfl
      · kernel_rfl
      · kernel_rfl
      · exact fun _ _ _ h => h
      · exact Or.inl ⟨by kernel_rfl, by intro w hSw; (try dsimp only at hSw); go_simp; try with_reducible rfl⟩
      · assumption
      try go_simp
      refine wpAnyH_take (i := 6) (oi := ?_) (v := ?_) ?_ ?_ ?_ ?_ ?_ ?_ ?_ ?_
      rotate_left 2
      · simp only [List.getElem?_toArray, List.getElem?_cons_succ, List.getElem?_cons_zero]; rfl
      · kernel_rfl
      · kernel_rfl
      · kernel_rfl
      · exact fun _ _ _ h => h
      · exact Or.inl ⟨by kernel_rfl, by intro w hSw; (try dsimp only at hSw); go_simp; try with_reducible rfl⟩
      · assumption
      try go_simp
      refine wpAnyH_take (i := 7) (oi := ?_) (v := ?_) ?_ ?_ ?_ ?_ ?_ ?_ ?_ ?_
      rotate_left 2
      · simp only [List.getElem?_toArray, List.getElem?_cons_succ, List.getElem?_cons_zero]; rfl
      · kernel_rfl
      · kernel_rfl
      · kernel_rfl
      · exact fun _ _ _ h => h
      · exact Or.inl ⟨by kernel_rfl, by intro w hSw; (try dsimp only at hSw); go_simp; try with_reducible rfl⟩
      · assumption
      try go_simp
      refine wpAnyH_take (i := 8) (oi := ?_) (v := ?_) ?_ ?_ ?_ ?_ ?_ ?_ ?_ ?_
      rotate_left 2
      · simp only [List.getElem?_toArray, List.getElem?_cons_succ, List.getElem?_cons_zero]; rfl
      · kernel_rfl
      · kernel_rfl
      · kernel_rfl
      · exact fun _ _ _ h => h
      · exact Or.inl ⟨by kernel_rfl, by intro w hSw; (try dsimp only at hSw); go_simp; try with_reducible rfl⟩
      · assumption
      try go_simp
      refine wpAnyH_take (i := 9) (oi := ?_) (v := ?_) ?_ ?_ ?_ ?_ ?_ ?_ ?_ ?_
      rotate_left 2
      · simp only [List.getElem?_toArray, List.getElem?_cons_succ, List.getElem?_cons_zero]; rfl
      · kernel_rfl
      · kernel_rfl
      · kernel_rfl
      · exact fun _ _ _ h => h
      · exact Or.inl ⟨by kernel_rfl, by intro w hSw; (try dsimp only at hSw); go_simp; try with_reducible rfl⟩
      · assumption
      try go_simp
      refine wpAnyH_take (i := 10) (oi := ?_) (v := ?_) ?_ ?_ ?_ ?_ ?_ ?_ ?_ ?_
      rotate_left 2
      · simp only [List.getElem?_toArray, List.getElem?_cons_succ, List.getElem?_cons_zero]; rfl
      · kernel_rfl
      · kernel_rfl
      · kernel_rfl
      · exact fun _ _ _ h => h
      · exact Or.inl ⟨by kernel_rfl, by intro w hSw; (try dsimp only at hSw); go_simp; try with_reducible rfl⟩
      · assumption
      try go_simp
      refine wpAnyH_ready (rs := [11]) (by kernel_rfl) (by simp) ?_
      refine AllReadyH.cons (o := ?_) ?_ ?_ AllReadyH.nil
      rotate_left 1
      · simp only [List.getElem?_toArray, List.getElem?_cons_succ, List.getElem?_cons_zero]; rfl
      intro K hK
      go_simp
      refine (HPU.out wr.drew A' c' HO.out.reads).mono ?_
      rintro e w2 ⟨A3, c3, rfl, ho3, hb3⟩
      have hB : Below w.heap.size wr.drew w2 := hb3.mono HB.out.size
      have f1 : w2.cell? ⟨b, o + k * 2, none⟩ = some (.int .i64 x1) := (hB.cell (p := ⟨b, o + k * 2, none⟩) hbl2).trans d1
      have f2 : w2.cell? ⟨b, o + k * 2 + 1, none⟩ = some (.int .u64 (x2 : Nat)) := (hB.cell (p := ⟨b, o + k * 2 + 1, none⟩) hbl2).trans d2
      have HO3 := Lib.hid (Own.mono ho3 (Nat.le_trans HBASE.out HB.out.size))
      have HB3 := Lib.hid (HB.out.trans (show Below w.heap.size wr w2 from ⟨hB.os, hB.tape, hB.output, hB.size, hB.block⟩))
      have HNB3 := Lib.hid (new_block (w := w) (A := A) ho3 (show w.heap.size ≤ wr.heap.size from HB.out.size))
      clear ho3 hb3 hB
      refine hK.out _ _ ?_ (fun hHeld => ?_)
      · exact ⟨f1, f2⟩
      clear hK K
      try go_simp
      refine wpAnyH_take (i := 12) (oi := ?_) (v := ?_) ?_ ?_ ?_ ?_ ?_ ?_ ?_ ?_
      rotate_left 2
      · simp only [List.getElem?_toArray, List.getElem?_cons_succ, List.getElem?_cons_zero]; rfl
      · kernel_rfl
      · kernel_rfl
      · kernel_rfl
      · exact fun _ _ _ h => h
      · exact Or.inl ⟨by kernel_rfl, by intro w hSw; (try dsimp only at hSw); go_simp; try with_reducible rfl⟩
      · assumption
      try go_simp
      refine wpAnyH_done (by kernel_rfl) ?_ _
      refine NoPanic.normal ?_
      go_wp2_with fail
      go_roundw
      case rel => exact ⟨k + 1, A3, c3, HL.out, by go_num, by rw [HN.out], by rw [HN.out]; exact HO3.out, HB3.out, HNB3.out⟩
      case measure => have h1 := HL.out; simp [intOf]; omega
    · obtain rfl : k = M.length := by omega
      rw [List.take_length] at hown ⊢
      have HO := Lib.hid hown
      have HB := Lib.hid hbel
      clear hown hbel
      go_wp2_with fail
      go_ret2
      exact ⟨A', c', rfl, HO.out, HB.out, HNB.out⟩
set_option maxRecDepth 100000 in
theorem taken_0 (A A2 : Option Addr) (c c2 base : Nat) (L M : List Pr) (w : World) (h : OwnP w base A c L) (h2 : Prs w w.heap.size A2 M) (hm : L.length ≤ 1000000) (hm2 : M.length ≤ 1000000) (ht : tot L ≤ 4611686018427387904) (ht2 : tot M ≤ 4611686018427387904) (hbase : base ≤ w.heap.size) :
    Calls Tryz.prog 50 #[.slice A L.length c, .slice A2 M.length c2, .int .i64 0] w (RNew A base w (rtake L M 0)) := by
  rw [rtake0]
  by_cases hM : M = []
  · rw [if_pos hM]
    subst hM
    exact taken_none A A2 c c2 base L 0 w h
  rw [if_neg hM]
  by_cases hc : 4611686018427387904 - tot L < tot M
  · rw [if_pos hc]; exact taken_cap_W0 A A2 c c2 base L M 0 w h h2 hm hm2 hM rfl ht ht2 hc
  · rw [if_neg hc]; exact taken_ok_W0 A A2 c c2 base L M 0 w h h2 hm hm2 hM rfl ht hc hbase
set_option maxRecDepth 100000 in
set_option maxHeartbeats 1600000 in
theorem cutn_no (base : Nat) (A : Option Addr) (c : Nat) (L : List Pr) (m : Int) (w : World) (h : OwnP w base A c L) (hl : (L.length : Int) ≤ max m 1) :
    Calls Tryz.prog 66 #[.slice A L.length c, .int .i64 m] w (RNewN A base w (L, 0)) := by
  have H := Lib.hid h
  have hc : (decide (m < 1) = true ∧ decide ((L.length : Int) ≤ 1) = true ∧ (L.length : Int) ≤ 1) ∨ (decide (m < 1) = false ∧ decide ((L.length : Int) ≤ m) = true ∧ (L.length : Int) ≤ m) := by
    by_cases h1 : m < 1
    · exact .inl ⟨by simp; omega, by simp; omega, by omega⟩
    · exact .inr ⟨by simp; omega, by simp; omega, by omega⟩
  clear h hl
  rcases hc with ⟨e1, e2, e3⟩ | ⟨e1, e2, e3⟩
  all_goals
    go_enter Tryz.func66, Tryz.ntmps66
    go_wp2_with fail
    go_ret2
    exact ⟨A, c, rfl, H.out, Below.refl _ _, fun _ h => .inl h⟩
theorem cutn_of {A : Option Addr} {base : Nat} {w w' : World} {R : List Pr × Nat} {e : Ending} (hb : base ≤ w.heap.size) (h : RCut w.heap.size w R e w') : RNewN A base w R e w' := by
  obtain ⟨A', c', h1, h2, h3⟩ := h
  exact ⟨A', c', h1, Own.mono h2 hb, h3, new_block h2 (Nat.le_refl _)⟩
set_option maxRecDepth 100000 in
theorem cutn_t (base : Nat) (A : Option Addr) (c : Nat) (L : List Pr) (m : Int) (w : World) (h : OwnP w base A c L) (hbase : base ≤ w.heap.size) (hl : L.length ≤ 1000000) (ht : tot L ≤ 4611686018427387904) :
    Calls Tryz.prog 66 #[.slice A L.length c, .int .i64 m] w (RNewN A base w (cutL L m)) := by
  unfold cutL cutN
  split
  · exact cutn_no base A c L m w h (by omega)
  · by_cases hm : m < 1
    · rw [show max m 1 = 1 by omega]
      exact (rcut_yesA w.heap.size A c L m _ w (OwnP.reads h) (Nat.le_refl _) hl ht hm (by omega) (by omega)).mono (fun _ _ h => cutn_of hbase h)
    · rw [show max m 1 = m by omega]
      exact (rcut_yesB w.heap.size A c L m _ w (OwnP.reads h) (Nat.le_refl _) hl ht (by omega) (by omega) (by omega)).mono (fun _ _ h => cutn_of hbase h)
end Go.Proofs.YtbfhiegbgkkgiaaGreat
/- Stores with a budget: the document's example, what a law counts, the reference's Kept and Key, walked. -/

namespace Go.Proofs.YtbfhiegbgkkgiaaGreat
open Go.RowKit
open Pl
theorem stored_below {w0 w w' : World} {g gl c c' : Nat} {A A' : Option Addr} {m : Int} {all all' : List Pr} (hb : Below w0.heap.size w0 w) (hg : w0.heap.size ≤ g) (hgl : w0.heap.size ≤ gl) (h : Sto w g gl A c m all) (k : Stored g gl A m all' w w' A' c') : Below w0.heap.size w0 w' :=
  hb.trans (k.only.below hb.size (fun i hi => by
    rcases hi with rfl | rfl | hi
    · exact hg
    · exact hgl
    · exact Nat.le_trans hgl (Own.block (show Own w gl 64 2 A (cutL all m).1.length c (pcs (cutL all m).1) from h.lst.2) hi).1))
set_option maxRecDepth 100000 in
theorem kept15_t (base : Nat) (A : Option Addr) (c : Nat) (L : List Pr) (m : Int) (w : World) (h : OwnP w base A c L) (hbase : base ≤ w.heap.size) (hl : L.length ≤ 1000000) (ht : tot L ≤ 4611686018427387904) :
    Calls Tryz.prog 44 #[.slice A L.length c, .int .i64 m] w (RNewN A base w (cutL L m)) := by
  have HC := Lib.hid (cutn_t base A c L m w h hbase hl ht)
  clear h hbase hl ht
  generalize cutL L m = R at *
  go_enter Tryz.func44, Tryz.ntmps44
  go_wp2_with fail
  refine HC.out.mono ?_
  rintro e w1 ⟨A', c', rfl, h1, h2, h3⟩
  have H := Lib.hid (And.intro h1 (And.intro h2 h3))
  clear h1 h2 h3
  go_wp2_with fail
  go_ret2
  exact ⟨A', c', rfl, H.out.1, H.out.2.1, H.out.2.2⟩
def Q1 : List Pr := [(1, 1), (5, 1), (9, 1)]
def Q2 : List Pr := [(1, 1), (3, 4), (5, 1), (9, 1)]
theorem fineQ (L : List Pr) (h : Srt L ∧ Pos L ∧ KeysIn L ∧ tot L ≤ 100 ∧ L.length ≤ 100) : Fine L := ⟨h.1, h.2.1, h.2.2.1, by omega, by omega⟩
theorem fineQ1 : Fine Q1 := fineQ _ ⟨by unfold Srt; decide, by unfold Pos; decide, by unfold KeysIn; decide, by decide, by decide⟩
theorem fineQ2 : Fine Q2 := fineQ _ ⟨by unfold Srt; decide, by unfold Pos; decide, by unfold KeysIn; decide, by decide, by decide⟩
theorem fineQa : Fine [((1 : Int), 1)] := fineQ _ ⟨by unfold Srt; decide, by unfold Pos; decide, by unfold KeysIn; decide, by decide, by decide⟩
theorem fineQb : Fine [((1 : Int), 1), (5, 1)] := fineQ _ ⟨by unfold Srt; decide, by unfold Pos; decide, by unfold KeysIn; decide, by decide, by decide⟩
set_option maxRecDepth 100000 in
theorem sadd_lit (w0 w : World) (g gl : Nat) (A : Option Addr) (c : Nat) (k : Int) (n : Nat) (L L' : List Pr) (hb : Below w0.heap.size w0 w) (hg : w0.heap.size ≤ g) (hgl : w0.heap.size ≤ gl) (h : Sto w g gl A c 2 L) (hf : Fine L) (hl : L.length < 100000) (e : radd L k n 0 = (L', 0)) :
    Calls Tryz.prog 54 #[.pointer (some ⟨g, 0, none⟩), .int .i64 k, .int .u64 (n : Int)] w fun e w' => e = .returned (.int .i64 0) ∧ (∃ A' c', Sto w' g gl A' c' 2 L') ∧ Below w0.heap.size w0 w' := by
  refine (sadd_t g gl A c 2 L k n w h hf hl (by decide) (by decide)).mono ?_
  rintro e1 w1 ⟨rfl, A', c', h1⟩
  rw [e] at h1 ⊢
  exact ⟨rfl, ⟨A', c', h1.sto⟩, stored_below hb hg hgl h h1⟩
theorem not_sk {w w' : World} {g gl c cp : Nat} {A Ap : Option Addr} {m : Int} {all C : List Pr} (h : Sto w g gl A c m all) (hp : OwnP w' w.heap.size Ap cp C) : ∀ x, blockOf Ap = some x → ¬ SK g gl A x := fun x hx e => by
  have h1 := (Own.block (show Own w' w.heap.size 64 2 Ap C.length cp (pcs C) from hp) hx).1
  rcases e with rfl | rfl | e
  · have := h.blk.lt; omega
  · have := h.lst.1.lt; omega
  · have := (Own.block (show Own w gl 64 2 A (cutL all m).1.length c (pcs (cutL all m).1) from h.lst.2) e).2; omega
set_option maxRecDepth 100000 in
theorem sadd_keep (w0 w : World) (g gl : Nat) (A : Option Addr) (c : Nat) (k : Int) (n : Nat) (L L' : List Pr) (hb : Below w0.heap.size w0 w) (hg : w0.heap.size ≤ g) (hgl : w0.heap.size ≤ gl) (h : Sto w g gl A c 2 L) (hf : Fine L) (hl : L.length < 100000) (e : radd L k n 0 = (L', 0)) {B cp : Nat} {Ap : Option Addr} {C : List Pr} (hp : OwnP w B Ap cp C) (hn : ∀ x, blockOf Ap = some x → ¬ SK g gl A x) :
    Calls Tryz.prog 54 #[.pointer (some ⟨g, 0, none⟩), .int .i64 k, .int .u64 (n : Int)] w fun e w' => e = .returned (.int .i64 0) ∧ (∃ A' c', Sto w' g gl A' c' 2 L') ∧ Below w0.heap.size w0 w' ∧ OwnP w' B Ap cp C := by
  refine (sadd_t g gl A c 2 L k n w h hf hl (by decide) (by decide)).mono ?_
  rintro e1 w1 ⟨rfl, A', c', h1⟩
  rw [e] at h1 ⊢
  exact ⟨rfl, ⟨A', c', h1.sto⟩, stored_below hb hg hgl h h1, Own.only hp h1.only hn⟩
set_option maxRecDepth 100000 in
theorem pairsQ (L C : List Pr) (e : (cutL L 2).1 = C) (hf : Fine L) (g gl : Nat) (A : Option Addr) (c : Nat) (w : World) (h : Sto w g gl A c 2 L) : Calls Tryz.prog 41 #[.pointer (some ⟨g, 0, none⟩)] w fun e w' => (∃ A c, e = .returned (.slice A C.length c) ∧ OwnP w' w.heap.size A c C) ∧ Below w.heap.size w w' := by
  refine (spairs_t g gl A c 2 L w h hf).mono ?_
  rw [e]
  rintro e w' ⟨A1, c1, rfl, h1, h2⟩
  exact ⟨⟨A1, c1, rfl, h1⟩, h2⟩
set_option maxRecDepth 100000 in
theorem foldedQ (L : List Pr) (n : Nat) (e : (cutL L 2).2 = n) (g gl : Nat) (A : Option Addr) (c : Nat) (w : World) (h : Sto w g gl A c 2 L) : Calls Tryz.prog 42 #[.pointer (some ⟨g, 0, none⟩)] w fun e w' => e = .returned (.int .u64 (n : Int)) ∧ w = w' := by
  rw [← e]
  exact sfolded_t g gl A c 2 L w h
end Go.Proofs.YtbfhiegbgkkgiaaGreat
/- Stores with a budget: what a law counts; the reference's Key; walked. -/

namespace Go.Proofs.YtbfhiegbgkkgiaaGreat
open Go.RowKit
open Pl
def CtS (w : World) (m : Int) (L : List Pr) (e : Ending) (w' : World) : Prop :=
  ∃ g gl A c A2 c2, e = .returned (.tuple #[.pointer (some ⟨g, 0, none⟩), .slice A2 L.length c2]) ∧ w.heap.size ≤ g ∧ w.heap.size ≤ gl ∧ Sto w' g gl A c m L ∧ OwnP w' w.heap.size A2 c2 L ∧ Below w.heap.size w w' ∧ Dj A A2
theorem sto_row {w w' : World} {g gl c c' base cw : Nat} {A A' W : Option Addr} {m : Int} {all all' M : List Pr} (h : Sto w g gl A c m all) (hw : OwnP w base W cw M) (hd : Dj A W) (k : Stored g gl A m all' w w' A' c') : OwnP w' base W cw M ∧ Dj A' W := by
  have hne : blockOf W ≠ some g := Own.ne_blk (show Own w base 64 2 W M.length cw (pcs M) from hw) h.blk (by decide)
  have hnl : blockOf W ≠ some gl := Own.ne_blk (show Own w base 64 2 W M.length cw (pcs M) from hw) h.lst.1 (by decide)
  refine ⟨Own.only hw k.only (fun x hx e => ?_), dj_new hd hw k.new⟩
  rcases e with rfl | rfl | e
  · exact hne hx
  · exact hnl hx
  · exact hd x e hx
end Go.Proofs.YtbfhiegbgkkgiaaGreat
