/- Stores with a budget, read from pairs that no store keeps so: walked. -/
import Derived.Test.YtbfhiegbgkkgiaaGreatC12
import Derived.Test.YtbfhiegbgkkgiaaGreatC01
import Derived.Test.YtbfhiegbgkkgiaaGreatChecked
import Derived.Lib.Slices
import Derived.Lib.Small
import Derived.Lib.Walk
import Derived.Lib.BitFns
import Derived.Deep.Light
namespace Go.Proofs.YtbfhiegbgkkgiaaGreat
open Go.RowKit
open Pl
def LoadBad (m : Int) (l : List Pr) (f : Nat) : Prop := (ofL l []).2 ≠ 0 ∨ 0 < f ∧ ((l.length : Int) < m ∨ ∃ p R, l = p :: R ∧ p.2 ≤ f)
set_option maxHeartbeats 3200000 in
theorem load_no (A : Option Addr) (c : Nat) (m : Int) (l : List Pr) (f : Nat) (w : World) (h : Prs w w.heap.size A l) (hs : Srt l) (hm0 : 2 ≤ m) (hm1 : m ≤ 4096) (hl : (l.length : Int) ≤ m) (hbad : LoadBad m l f) :
    Calls Tryz.prog 63 #[.int .i64 m, .slice A l.length c, .int .u64 (f : Int)] w fun e w' => e = .returned (.tuple #[.pointer none, .int .i64 1]) ∧ Below w.heap.size w w' := by
  have HNEW := Lib.hid (cnew_t m w hm0 hm1)
  have HSO := Lib.hid (fun W (h : Prs W W.heap.size A l) => sorted_t A c l W h (by omega))
  rw [srtB_true.2 hs] at HSO
  have HOF := Lib.hid (fun W (h : Prs W W.heap.size A l) => of_t A c l W h (by omega))
  have HP := Lib.hid h
  have x1 : decide (m < (l.length : Int)) = false := by simp; omega
  have hc : (decide ((0 : Int) < (f : Int)) = true ∧ decide (0 < f) = true ∧ decide ((l.length : Int) < m) = true) ∨
      (decide ((0 : Int) < (f : Int)) = true ∧ decide (0 < f) = true ∧ decide ((l.length : Int) < m) = false ∧ (0 : Int) < (l.length : Int) ∧ ∃ b o n, A = some ⟨b, o, none⟩ ∧ b < w.heap.size ∧ w.cell? ⟨b, o + 1, none⟩ = some (.int .u64 (n : Nat)) ∧ decide ((n : Int) ≤ (f : Int)) = true ∧ decide (n ≤ f) = true) ∨
      (ofL l []).2 ≠ 0 ∧ ((decide ((0 : Int) < (f : Int)) = false ∧ decide (0 < f) = false) ∨ (decide ((0 : Int) < (f : Int)) = true ∧ decide (0 < f) = true ∧ decide ((l.length : Int) < m) = false ∧ (0 : Int) < (l.length : Int) ∧ ∃ b o n, A = some ⟨b, o, none⟩ ∧ b < w.heap.size ∧ w.cell? ⟨b, o + 1, none⟩ = some (.int .u64 (n : Nat)) ∧ decide ((n : Int) ≤ (f : Int)) = false ∧ decide (n ≤ f) = false)) := by
    by_cases h0 : f = 0
    · refine .inr (.inr ⟨?_, .inl ⟨by simp; omega, by simp; omega⟩⟩)
      rcases hbad with h1 | ⟨h1, _⟩
      · exact h1
      · omega
    by_cases h1 : (l.length : Int) < m
    · exact .inl ⟨by simp; omega, by simp; omega, by simp; omega⟩
    obtain ⟨p, R, e⟩ : ∃ p R, l = p :: R := by
      cases l with
      | nil => simp at h1; omega
      | cons p R => exact ⟨p, R, rfl⟩
    have hlp : 0 < l.length := by rw [e]; simp
    obtain ⟨b, o, e2, hb, hc⟩ := h.at_ hlp
    have hq := (hc 0 p (by rw [e]; rfl)).2
    by_cases h2 : p.2 ≤ f
    · exact .inr (.inl ⟨by simp; omega, by simp; omega, by simp; omega, by omega, b, o, p.2, e2, hb, by simpa using hq, by simp; omega, by simp; omega⟩)
    · refine .inr (.inr ⟨?_, .inr ⟨by simp; omega, by simp; omega, by simp; omega, by omega, b, o, p.2, e2, hb, by simpa using hq, by simp; omega, by simp; omega⟩⟩)
      rcases hbad with h3 | ⟨_, h3 | ⟨p', R', e', h3⟩⟩
      · exact h3
      · exact absurd h3 h1
      · rw [e] at e'
        obtain ⟨rfl, rfl⟩ := List.cons.inj e'
        exact absurd h3 h2
  clear h hs hm0 hm1 hl hbad
  rcases hc with ⟨z1, z2, z3⟩ | ⟨z1, z2, z3, z5, b, o, n, rfl, hb, d1, z6, z7⟩ | ⟨hof, ⟨z1, z2⟩ | ⟨z1, z2, z3, z5, b, o, n, rfl, hb, d1, z6, z7⟩⟩
  · go_enter Tryz.func63, Tryz.ntmps63
    go_wp2_with fail
    refine HNEW.out.mono ?_
    rintro e w1 ⟨rfl, s1, b1⟩
    have B1 := Lib.hid b1
    clear s1 b1
    go_wp2_with fail
    refine (HSO.out w1 (HP.out.at_below B1.out)).mono ?_
    rintro e w2 ⟨rfl, b2⟩
    have B2 := Lib.hid (nextB B1.out b2)
    clear b2
    go_wp2_with fail
    go_ret2
    exact ⟨rfl, B2.out⟩
  · go_enter Tryz.func63, Tryz.ntmps63
    go_wp2_with fail
    refine HNEW.out.mono ?_
    rintro e w1 ⟨rfl, s1, b1⟩
    have B1 := Lib.hid b1
    clear s1 b1
    go_wp2_with fail
    refine (HSO.out w1 (HP.out.at_below B1.out)).mono ?_
    rintro e w2 ⟨rfl, b2⟩
    have B2 := Lib.hid (nextB B1.out b2)
    have d2 : w2.cell? ⟨b, o + 1, none⟩ = some (.int .u64 (n : Nat)) := (B2.out.cell (p := ⟨b, o + 1, none⟩) hb).trans d1
    clear b2 d1
    go_wp2_with fail
    go_ret2
    exact ⟨rfl, B2.out⟩
  · go_enter Tryz.func63, Tryz.ntmps63
    go_wp2_with fail
    refine HNEW.out.mono ?_
    rintro e w1 ⟨rfl, s1, b1⟩
    have B1 := Lib.hid b1
    clear s1 b1
    go_wp2_with fail
    refine (HSO.out w1 (HP.out.at_below B1.out)).mono ?_
    rintro e w2 ⟨rfl, b2⟩
    have B2 := Lib.hid (nextB B1.out b2)
    clear b2
    go_wp2_with fail
    refine (HOF.out w2 (HP.out.at_below B2.out)).mono ?_
    rintro e w3 (⟨h0, _⟩ | ⟨h0, rfl, b3⟩)
    case inl => exact absurd h0 hof
    have B3 := Lib.hid (nextB B2.out b3)
    have hbeq : ((ofL l []).2 == 0) = false := by simpa using h0
    clear b3 hof h0
    generalize (ofL l []).2 = E at *
    go_wp2_with fail
    go_ret2
    exact ⟨rfl, B3.out⟩
  · go_enter Tryz.func63, Tryz.ntmps63
    go_wp2_with fail
    refine HNEW.out.mono ?_
    rintro e w1 ⟨rfl, s1, b1⟩
    have B1 := Lib.hid b1
    clear s1 b1
    go_wp2_with fail
    refine (HSO.out w1 (HP.out.at_below B1.out)).mono ?_
    rintro e w2 ⟨rfl, b2⟩
    have B2 := Lib.hid (nextB B1.out b2)
    have d2 : w2.cell? ⟨b, o + 1, none⟩ = some (.int .u64 (n : Nat)) := (B2.out.cell (p := ⟨b, o + 1, none⟩) hb).trans d1
    clear b2 d1
    go_wp2_with fail
    refine (HOF.out w2 (HP.out.at_below B2.out)).mono ?_
    rintro e w3 (⟨h0, _⟩ | ⟨h0, rfl, b3⟩)
    case inl => exact absurd h0 hof
    have B3 := Lib.hid (nextB B2.out b3)
    have hbeq : ((ofL l []).2 == 0) = false := by simpa using h0
    clear b3 hof h0 d2
    generalize (ofL l []).2 = E at *
    go_wp2_with fail
    go_ret2
    exact ⟨rfl, B3.out⟩
end Go.Proofs.YtbfhiegbgkkgiaaGreat
/- Ranges of whole numbers, plain: each begins behind the one before it; they are few. -/

namespace Go.Proofs.YtbfhiegbgkkgiaaGreat
namespace Sc
abbrev Span := Nat × Nat × Nat
def midOf (a low : Nat) : Nat := min (low + low * a / 10000) 9223372036854775807
def highOf (a mid : Nat) : Nat := min (mid * 10000 / (10000 - a)) 9223372036854775807
def spanOf (a low : Nat) : Span := (low, midOf a low, highOf a (midOf a low))
def spansF (a : Nat) : Nat → Nat → List Span
  | 0, _ => []
  | f + 1, low => if (spanOf a low).2.2 = 9223372036854775807 then [spanOf a low] else spanOf a low :: spansF a f ((spanOf a low).2.2 + 1)
def spans (a : Nat) : List Span := spansF a 4410 1
theorem mid_le {a low : Nat} (h : low ≤ 9223372036854775807) : low ≤ midOf a low ∧ midOf a low ≤ 9223372036854775807 := by unfold midOf; omega
theorem high_le {a mid : Nat} (ha : a ≤ 5000) (h : mid ≤ 9223372036854775807) : mid ≤ highOf a mid ∧ highOf a mid ≤ 9223372036854775807 := by
  unfold highOf
  have h1 : mid ≤ mid * 10000 / (10000 - a) := by
    rw [Nat.le_div_iff_mul_le (by omega)]
    exact Nat.mul_le_mul_left _ (by omega)
  omega
theorem span_grows {a low : Nat} (ha0 : 100 ≤ a) (ha : a ≤ 5000) (h : low ≤ 9223372036854775807) (hh : (spanOf a low).2.2 ≠ 9223372036854775807) :
    low < (spanOf a low).2.2 + 1 ∧ (spanOf a low).2.2 + 1 ≤ 9223372036854775807 ∧ 101 * low ≤ 100 * ((spanOf a low).2.2 + 1) := by
  obtain ⟨m1, m2⟩ := mid_le (a := a) h
  obtain ⟨h1, h2⟩ := high_le ha m2
  have hs : (spanOf a low).2.2 = highOf a (midOf a low) := rfl
  rw [hs] at hh ⊢
  have hlt : midOf a low < 9223372036854775807 := by omega
  have hm : midOf a low = low + low * a / 10000 := by
    unfold midOf at hlt ⊢
    omega
  have h3 : low * 100 / 10000 ≤ low * a / 10000 := Nat.div_le_div_right (Nat.mul_le_mul_left _ ha0)
  omega
/-- Where a loop over the ranges stands: those that are done, where the next one begins, and how many more there may be. -/
structure At (a : Nat) (T : List Span) (low f : Nat) : Prop where
  all : spans a = T ++ spansF a f low
  len : T.length + f = 4410
  low1 : 1 ≤ low
  low2 : low ≤ 9223372036854775807
  grow : 101 ^ T.length ≤ low * 100 ^ T.length
theorem At.start (a : Nat) : At a [] 1 4410 := ⟨by unfold spans; rw [List.nil_append], by simp, Nat.le_refl _, by decide, by simp⟩
theorem few (K : Nat) (hK : K = 70 * 63) : 9223372036854775807 * 100 ^ K < 101 ^ K := by
  have h0 : 2 * 100 ^ 70 ≤ 101 ^ 70 := by decide +kernel
  have h1 : (2 * 100 ^ 70) ^ 63 ≤ (101 ^ 70) ^ 63 := Nat.pow_le_pow_left h0 63
  rw [Nat.mul_pow, ← Nat.pow_mul, ← Nat.pow_mul, ← hK] at h1
  have h2 : 9223372036854775807 < 2 ^ 63 := by decide
  have h3 : 0 < 100 ^ K := Nat.pow_pos (by decide)
  exact Nat.lt_of_lt_of_le (Nat.mul_lt_mul_of_pos_right h2 h3) h1
theorem At.pos {a : Nat} {T : List Span} {low f : Nat} (h : At a T low f) : 0 < f := by
  rcases Nat.eq_zero_or_pos f with h0 | h0
  · exfalso
    have h1 := h.len
    have h2 : T.length = 70 * 63 := by omega
    have h3 := h.grow
    have h4 : low * 100 ^ T.length ≤ 9223372036854775807 * 100 ^ T.length := Nat.mul_le_mul_right _ h.low2
    exact absurd (Nat.lt_of_le_of_lt (Nat.le_trans h3 h4) (few _ h2)) (Nat.lt_irrefl _)
  · exact h0
theorem At.step {a : Nat} {T : List Span} {low f : Nat} (h : At a T low f) (ha0 : 100 ≤ a) (ha : a ≤ 5000) :
    ((spanOf a low).2.2 = 9223372036854775807 → spans a = T ++ [spanOf a low]) ∧ ((spanOf a low).2.2 ≠ 9223372036854775807 → At a (T ++ [spanOf a low]) ((spanOf a low).2.2 + 1) (f - 1)) := by
  obtain ⟨g, rfl⟩ : ∃ g, f = g + 1 := ⟨f - 1, by have := h.pos; omega⟩
  have hall := h.all
  unfold spansF at hall
  refine ⟨fun he => by rw [hall, if_pos he], fun he => ?_⟩
  rw [if_neg he] at hall
  obtain ⟨g1, g2, g3⟩ := span_grows ha0 ha h.low2 he
  refine ⟨by rw [hall, List.append_assoc]; rfl, by have := h.len; rw [List.length_append, List.length_singleton]; omega, by omega, g2, ?_⟩
  rw [List.length_append, List.length_singleton, Nat.pow_succ, Nat.pow_succ]
  have h1 : 101 ^ T.length * 101 ≤ low * 100 ^ T.length * 101 := Nat.mul_le_mul_right _ h.grow
  have h2 : 101 * low * 100 ^ T.length ≤ 100 * ((spanOf a low).2.2 + 1) * 100 ^ T.length := Nat.mul_le_mul_right _ g3
  calc 101 ^ T.length * 101 ≤ low * 100 ^ T.length * 101 := h1
    _ = 101 * low * 100 ^ T.length := by rw [Nat.mul_right_comm, Nat.mul_comm low 101]
    _ ≤ 100 * ((spanOf a low).2.2 + 1) * 100 ^ T.length := h2
    _ = ((spanOf a low).2.2 + 1) * (100 ^ T.length * 100) := by rw [Nat.mul_comm 100 ((spanOf a low).2.2 + 1), Nat.mul_assoc, Nat.mul_comm 100]
theorem spans_len {a : Nat} {T : List Span} {low f : Nat} (h : At a T low f) : T.length < 4410 := by have := h.pos; have := h.len; omega
end Sc
end Go.Proofs.YtbfhiegbgkkgiaaGreat
/- bits.Len64: its own text walked, after the shelf's worked text. -/

namespace Go.Proofs.YtbfhiegbgkkgiaaGreat
open Go.RowKit

set_option maxRecDepth 100000 in
theorem len8tab_size : (Lib.len8tab.size : Int) = 256 := by
  have : Lib.len8tab.size = 256 := by decide
  omega
theorem wrap_add (k a b : Nat) (hk : k ≤ 56) (ha : a ≤ 8) (hb : b = k + a) : wrap64 ((k : Int) + wrap64 (a : Int)) = (b : Int) := by
  unfold wrap64
  omega
theorem wrap_wrap (a : Nat) (ha : a ≤ 8) : wrap64 (wrap64 (a : Int)) = (a : Int) := by
  unfold wrap64
  omega
theorem wrap_one (a : Nat) (ha : a ≤ 8) : wrap64 (a : Int) = (a : Int) := by
  unfold wrap64
  omega
theorem len8_get (y : Int) (h : y.toNat < Lib.len8tab.size) : ((Lib.len8tab[y.toNat]'h).toNat : Int) = Lib.len8 y := by
  unfold Lib.len8
  rw [getElem?_pos Lib.len8tab y.toNat h]
  rfl

set_option maxHeartbeats 4000000 in
set_option maxRecDepth 1000000 in
theorem len64_t (x : Int) (w : World) (h0 : 0 ≤ x) (h1 : x ≤ 18446744073709551615) :
    Calls Tryz.prog 132 #[.int .u64 x] w fun e w' => e = .returned (.int .i64 (Lib.bitLen x.toNat)) ∧ w' = w := by
  go_enter Tryz.func132, Tryz.ntmps132
  go_wp2
  all_goals first
    | (go_ret; refine ⟨congrArg Ending.returned (congrArg (Value.int IntKind.i64) ?_), rfl⟩; go_light)
    | (exfalso
       go_light
       have hs := len8tab_size
       omega)
  all_goals first
    | (rw [len8_get (x / 4294967296 / 65536 / 256) _, Lib.len8_of (x / 4294967296 / 65536 / 256) (by omega) (by omega)]
       have e : (x / 4294967296 / 65536 / 256).toNat = x.toNat / 72057594037927936 := by omega
       have l := Lib.bitLen_le8' (x / 4294967296 / 65536 / 256) (by omega) (by omega)
       have s := Lib.bitLen_shift56 x.toNat (by omega) (by omega)
       rw [e] at l ⊢
       exact wrap_add 56 _ _ (by decide) l s)
    | (rw [len8_get (x / 4294967296 / 65536) _, Lib.len8_of (x / 4294967296 / 65536) (by omega) (by omega)]
       have e : (x / 4294967296 / 65536).toNat = x.toNat / 281474976710656 := by omega
       have l := Lib.bitLen_le8' (x / 4294967296 / 65536) (by omega) (by omega)
       have s := Lib.bitLen_shift48 x.toNat (by omega) (by omega)
       rw [e] at l ⊢
       exact wrap_add 48 _ _ (by decide) l s)
    | (rw [len8_get (x / 4294967296 / 256) _, Lib.len8_of (x / 4294967296 / 256) (by omega) (by omega)]
       have e : (x / 4294967296 / 256).toNat = x.toNat / 1099511627776 := by omega
       have l := Lib.bitLen_le8' (x / 4294967296 / 256) (by omega) (by omega)
       have s := Lib.bitLen_shift40 x.toNat (by omega) (by omega)
       rw [e] at l ⊢
       exact wrap_add 40 _ _ (by decide) l s)
    | (rw [len8_get (x / 4294967296) _, Lib.len8_of (x / 4294967296) (by omega) (by omega)]
       have e : (x / 4294967296).toNat = x.toNat / 4294967296 := by omega
       have l := Lib.bitLen_le8' (x / 4294967296) (by omega) (by omega)
       have s := Lib.bitLen_shift32 x.toNat (by omega) (by omega)
       rw [e] at l ⊢
       exact wrap_add 32 _ _ (by decide) l s)
    | (rw [len8_get (x / 65536 / 256) _, Lib.len8_of (x / 65536 / 256) (by omega) (by omega)]
       have e : (x / 65536 / 256).toNat = x.toNat / 16777216 := by omega
       have l := Lib.bitLen_le8' (x / 65536 / 256) (by omega) (by omega)
       have s := Lib.bitLen_shift24 x.toNat (by omega) (by omega)
       rw [e] at l ⊢
       exact wrap_add 24 _ _ (by decide) l s)
    | (rw [len8_get (x / 65536) _, Lib.len8_of (x / 65536) (by omega) (by omega)]
       have e : (x / 65536).toNat = x.toNat / 65536 := by omega
       have l := Lib.bitLen_le8' (x / 65536) (by omega) (by omega)
       have s := Lib.bitLen_shift16 x.toNat (by omega) (by omega)
       rw [e] at l ⊢
       exact wrap_add 16 _ _ (by decide) l s)
    | (rw [len8_get (x / 256) _, Lib.len8_of (x / 256) (by omega) (by omega)]
       have e : (x / 256).toNat = x.toNat / 256 := by omega
       have l := Lib.bitLen_le8' (x / 256) (by omega) (by omega)
       have s := Lib.bitLen_shift8 x.toNat (by omega) (by omega)
       rw [e] at l ⊢
       exact wrap_add 8 _ _ (by decide) l s)
    | (rw [len8_get (x) _, Lib.len8_of (x) (by omega) (by omega)]
       have e : (x).toNat = x.toNat := by omega
       have l := Lib.bitLen_le8' (x) (by omega) (by omega)
       rw [e] at l ⊢
       first | exact wrap_wrap _ l | exact wrap_add 0 _ _ (by decide) l (by omega) | exact wrap_one _ l)
end Go.Proofs.YtbfhiegbgkkgiaaGreat
/- The quotient of a number of 128 bits by a small one, plain. -/

namespace Go.Proofs.YtbfhiegbgkkgiaaGreat
set_option maxRecDepth 100000 in
/-- A quotient by a number of 14 bits, as Go reckons it. -/
theorem div_plain50 (hi lo d : Nat) (h1 : hi < d) (hlo : lo < 18446744073709551616) (hd0 : 8192 ≤ d) (hd1 : d < 16384) :
    ∃ Z un32 un1 un0 q1 r1 q0 r0 : Nat, d * 1125899906842624 = Z * 4294967296 ∧ 2147483648 ≤ Z ∧ Z < 4294967296 ∧ hi * 1125899906842624 + lo / 16384 = un32 ∧ un32 < 18446744073709551616 ∧ lo * 1125899906842624 % 18446744073709551616 = un1 * 4294967296 + un0 ∧ un1 < 4294967296 ∧ un0 < 4294967296 ∧
      un32 / Z = q1 ∧ q1 < 4294967296 ∧ Z * q1 + r1 = un32 ∧ r1 < 4294967296 ∧ (r1 * 4294967296 + un1) / Z = q0 ∧ q0 < 4294967296 ∧ Z * q0 + r0 = r1 * 4294967296 + un1 ∧ r0 < 4294967296 ∧
      q1 * 4294967296 + q0 = (hi * 18446744073709551616 + lo) / d ∧ (r0 * 4294967296 + un0) / 1125899906842624 = (hi * 18446744073709551616 + lo) % d := by
  obtain ⟨Z, hZ⟩ : ∃ Z, Z = d * 262144 := ⟨_, rfl⟩
  obtain ⟨un32, hu⟩ : ∃ u, u = hi * 1125899906842624 + lo / 16384 := ⟨_, rfl⟩
  obtain ⟨un10, hv⟩ : ∃ u, u = lo * 1125899906842624 % 18446744073709551616 := ⟨_, rfl⟩
  obtain ⟨un1, hv1⟩ : ∃ u, u = un10 / 4294967296 := ⟨_, rfl⟩
  obtain ⟨un0, hv0⟩ : ∃ u, u = un10 % 4294967296 := ⟨_, rfl⟩
  have hN : un32 * 18446744073709551616 + (un1 * 4294967296 + un0) = (hi * 18446744073709551616 + lo) * 1125899906842624 := by omega
  have hZ2 : d * 1125899906842624 = Z * 4294967296 := by rw [hZ, Nat.mul_assoc]
  have hul : un32 < Z * 4294967296 := by omega
  have hul2 : un32 < 18446744073709551616 := by omega
  have hv2 : un10 = un1 * 4294967296 + un0 := by omega
  have hv3 : un1 < 4294967296 := by omega
  have hv4 : un0 < 4294967296 := by omega
  have hZ3 : 2147483648 ≤ Z := by omega
  have hZ4 : Z < 4294967296 := by omega
  have hZpos : 0 < Z := by omega
  have e1 := Nat.div_add_mod un32 Z
  have hm1 := Nat.mod_lt un32 hZpos
  have hq1 : un32 / Z < 4294967296 := (Nat.div_lt_iff_lt_mul hZpos).2 (by rw [Nat.mul_comm]; exact hul)
  obtain ⟨q1, hq1e⟩ : ∃ q, un32 / Z = q := ⟨_, rfl⟩
  obtain ⟨r1, hr1e⟩ : ∃ q, un32 % Z = q := ⟨_, rfl⟩
  rw [hq1e] at e1 hq1
  rw [hr1e] at e1 hm1
  obtain ⟨x, hx⟩ : ∃ x, x = r1 * 4294967296 + un1 := ⟨_, rfl⟩
  have hxl : x < Z * 4294967296 := by omega
  have e2 := Nat.div_add_mod x Z
  have hm2 := Nat.mod_lt x hZpos
  have hq0 : x / Z < 4294967296 := (Nat.div_lt_iff_lt_mul hZpos).2 (by rw [Nat.mul_comm]; exact hxl)
  obtain ⟨q0, hq0e⟩ : ∃ q, x / Z = q := ⟨_, rfl⟩
  obtain ⟨r0, hr0e⟩ : ∃ q, x % Z = q := ⟨_, rfl⟩
  rw [hq0e] at e2 hq0
  rw [hr0e] at e2 hm2
  have key : (q1 * 4294967296 + q0) * (d * 1125899906842624) + (r0 * 4294967296 + un0) = (hi * 18446744073709551616 + lo) * 1125899906842624 := by
    rw [← hN, hZ2, ← e1]
    have e3 : (q1 * 4294967296 + q0) * (Z * 4294967296) = Z * q1 * 18446744073709551616 + Z * q0 * 4294967296 := by
      have e4 : q1 * 4294967296 * (Z * 4294967296) = Z * q1 * 18446744073709551616 := by
        rw [Nat.mul_mul_mul_comm, Nat.mul_comm q1 Z]
      have e5 : q0 * (Z * 4294967296) = Z * q0 * 4294967296 := by
        rw [← Nat.mul_assoc, Nat.mul_comm q0 Z]
      rw [Nat.add_mul, e4, e5]
    rw [e3]
    have e2' : Z * q0 + r0 = r1 * 4294967296 + un1 := by rw [e2, hx]
    clear e1 e3 hx hN hv hv1 hv0 hv2 hu hZ hZ2 hxl hul hul2 hd0 hd1 h1 hlo
    generalize Z * q1 = A at *
    generalize Z * q0 = B at *
    omega
  have hR : r0 * 4294967296 + un0 < d * 1125899906842624 := by omega
  obtain ⟨U, hU⟩ : ∃ U, U = hi * 18446744073709551616 + lo := ⟨_, rfl⟩
  obtain ⟨Q, hQ⟩ : ∃ Q, Q = q1 * 4294967296 + q0 := ⟨_, rfl⟩
  obtain ⟨R, hR2⟩ : ∃ R, R = r0 * 4294967296 + un0 := ⟨_, rfl⟩
  rw [← hU, ← hQ, ← hR2] at key
  rw [← hR2] at hR
  have e5 : Q * (d * 1125899906842624) = Q * d * 1125899906842624 := (Nat.mul_assoc _ _ _).symm
  rw [e5] at key
  have hUQ : U = Q * d + R / 1125899906842624 := by generalize Q * d = B at *; omega
  have hRl : R / 1125899906842624 < d := by omega
  have e6 : U / d = Q := by
    rw [hUQ, Nat.add_comm, Nat.add_mul_div_right _ _ (by omega), Nat.div_eq_of_lt hRl, Nat.zero_add]
  have e7 : U % d = R / 1125899906842624 := by
    rw [hUQ, Nat.add_comm, Nat.add_mul_mod_self_right, Nat.mod_eq_of_lt hRl]
  refine ⟨Z, un32, un1, un0, q1, r1, q0, r0, hZ2, hZ3, hZ4, hu.symm, hul2, by rw [← hv]; exact hv2, hv3, hv4, hq1e, hq1, e1, by omega, by rw [← hx]; exact hq0e, hq0, by rw [← hx]; exact e2, by omega, ?_, ?_⟩
  · rw [← hU, e6, hQ]
  · rw [← hU, e7, ← hR2]
set_option maxRecDepth 100000 in
/-- A quotient by a number of 13 bits, as Go reckons it. -/
theorem div_plain51 (hi lo d : Nat) (h1 : hi < d) (hlo : lo < 18446744073709551616) (hd0 : 4096 ≤ d) (hd1 : d < 8192) :
    ∃ Z un32 un1 un0 q1 r1 q0 r0 : Nat, d * 2251799813685248 = Z * 4294967296 ∧ 2147483648 ≤ Z ∧ Z < 4294967296 ∧ hi * 2251799813685248 + lo / 8192 = un32 ∧ un32 < 18446744073709551616 ∧ lo * 2251799813685248 % 18446744073709551616 = un1 * 4294967296 + un0 ∧ un1 < 4294967296 ∧ un0 < 4294967296 ∧
      un32 / Z = q1 ∧ q1 < 4294967296 ∧ Z * q1 + r1 = un32 ∧ r1 < 4294967296 ∧ (r1 * 4294967296 + un1) / Z = q0 ∧ q0 < 4294967296 ∧ Z * q0 + r0 = r1 * 4294967296 + un1 ∧ r0 < 4294967296 ∧
      q1 * 4294967296 + q0 = (hi * 18446744073709551616 + lo) / d ∧ (r0 * 4294967296 + un0) / 2251799813685248 = (hi * 18446744073709551616 + lo) % d := by
  obtain ⟨Z, hZ⟩ : ∃ Z, Z = d * 524288 := ⟨_, rfl⟩
  obtain ⟨un32, hu⟩ : ∃ u, u = hi * 2251799813685248 + lo / 8192 := ⟨_, rfl⟩
  obtain ⟨un10, hv⟩ : ∃ u, u = lo * 2251799813685248 % 18446744073709551616 := ⟨_, rfl⟩
  obtain ⟨un1, hv1⟩ : ∃ u, u = un10 / 4294967296 := ⟨_, rfl⟩
  obtain ⟨un0, hv0⟩ : ∃ u, u = un10 % 4294967296 := ⟨_, rfl⟩
  have hN : un32 * 18446744073709551616 + (un1 * 4294967296 + un0) = (hi * 18446744073709551616 + lo) * 2251799813685248 := by omega
  have hZ2 : d * 2251799813685248 = Z * 4294967296 := by rw [hZ, Nat.mul_assoc]
  have hul : un32 < Z * 4294967296 := by omega
  have hul2 : un32 < 18446744073709551616 := by omega
  have hv2 : un10 = un1 * 4294967296 + un0 := by omega
  have hv3 : un1 < 4294967296 := by omega
  have hv4 : un0 < 4294967296 := by omega
  have hZ3 : 2147483648 ≤ Z := by omega
  have hZ4 : Z < 4294967296 := by omega
  have hZpos : 0 < Z := by omega
  have e1 := Nat.div_add_mod un32 Z
  have hm1 := Nat.mod_lt un32 hZpos
  have hq1 : un32 / Z < 4294967296 := (Nat.div_lt_iff_lt_mul hZpos).2 (by rw [Nat.mul_comm]; exact hul)
  obtain ⟨q1, hq1e⟩ : ∃ q, un32 / Z = q := ⟨_, rfl⟩
  obtain ⟨r1, hr1e⟩ : ∃ q, un32 % Z = q := ⟨_, rfl⟩
  rw [hq1e] at e1 hq1
  rw [hr1e] at e1 hm1
  obtain ⟨x, hx⟩ : ∃ x, x = r1 * 4294967296 + un1 := ⟨_, rfl⟩
  have hxl : x < Z * 4294967296 := by omega
  have e2 := Nat.div_add_mod x Z
  have hm2 := Nat.mod_lt x hZpos
  have hq0 : x / Z < 4294967296 := (Nat.div_lt_iff_lt_mul hZpos).2 (by rw [Nat.mul_comm]; exact hxl)
  obtain ⟨q0, hq0e⟩ : ∃ q, x / Z = q := ⟨_, rfl⟩
  obtain ⟨r0, hr0e⟩ : ∃ q, x % Z = q := ⟨_, rfl⟩
  rw [hq0e] at e2 hq0
  rw [hr0e] at e2 hm2
  have key : (q1 * 4294967296 + q0) * (d * 2251799813685248) + (r0 * 4294967296 + un0) = (hi * 18446744073709551616 + lo) * 2251799813685248 := by
    rw [← hN, hZ2, ← e1]
    have e3 : (q1 * 4294967296 + q0) * (Z * 4294967296) = Z * q1 * 18446744073709551616 + Z * q0 * 4294967296 := by
      have e4 : q1 * 4294967296 * (Z * 4294967296) = Z * q1 * 18446744073709551616 := by
        rw [Nat.mul_mul_mul_comm, Nat.mul_comm q1 Z]
      have e5 : q0 * (Z * 4294967296) = Z * q0 * 4294967296 := by
        rw [← Nat.mul_assoc, Nat.mul_comm q0 Z]
      rw [Nat.add_mul, e4, e5]
    rw [e3]
    have e2' : Z * q0 + r0 = r1 * 4294967296 + un1 := by rw [e2, hx]
    clear e1 e3 hx hN hv hv1 hv0 hv2 hu hZ hZ2 hxl hul hul2 hd0 hd1 h1 hlo
    generalize Z * q1 = A at *
    generalize Z * q0 = B at *
    omega
  have hR : r0 * 4294967296 + un0 < d * 2251799813685248 := by omega
  obtain ⟨U, hU⟩ : ∃ U, U = hi * 18446744073709551616 + lo := ⟨_, rfl⟩
  obtain ⟨Q, hQ⟩ : ∃ Q, Q = q1 * 4294967296 + q0 := ⟨_, rfl⟩
  obtain ⟨R, hR2⟩ : ∃ R, R = r0 * 4294967296 + un0 := ⟨_, rfl⟩
  rw [← hU, ← hQ, ← hR2] at key
  rw [← hR2] at hR
  have e5 : Q * (d * 2251799813685248) = Q * d * 2251799813685248 := (Nat.mul_assoc _ _ _).symm
  rw [e5] at key
  have hUQ : U = Q * d + R / 2251799813685248 := by generalize Q * d = B at *; omega
  have hRl : R / 2251799813685248 < d := by omega
  have e6 : U / d = Q := by
    rw [hUQ, Nat.add_comm, Nat.add_mul_div_right _ _ (by omega), Nat.div_eq_of_lt hRl, Nat.zero_add]
  have e7 : U % d = R / 2251799813685248 := by
    rw [hUQ, Nat.add_comm, Nat.add_mul_mod_self_right, Nat.mod_eq_of_lt hRl]
  refine ⟨Z, un32, un1, un0, q1, r1, q0, r0, hZ2, hZ3, hZ4, hu.symm, hul2, by rw [← hv]; exact hv2, hv3, hv4, hq1e, hq1, e1, by omega, by rw [← hx]; exact hq0e, hq0, by rw [← hx]; exact e2, by omega, ?_, ?_⟩
  · rw [← hU, e6, hQ]
  · rw [← hU, e7, ← hR2]
end Go.Proofs.YtbfhiegbgkkgiaaGreat
