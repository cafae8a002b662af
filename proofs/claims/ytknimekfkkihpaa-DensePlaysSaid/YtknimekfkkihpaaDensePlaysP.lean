/- DensePlays: what holds between the steps of a script: two stores, two lists, each in its slice. -/
import Derived.Test.YtknimekfkkihpaaDenseSame
namespace Go.Proofs.Ytknimekfkkihpaa
open Go.RowKit
open Ds Pl

theorem Sts.set {w : World} {base bw : Nat} {ids : List Nat} {S : Nat → St} (h : Sts w base ids S) {t : TypeId} {cs : Array Value} (hb : Blk w bw t cs) (h1 : t ≠ 28) (h2 : t ≠ 26) (i : Nat) (u : Value) : Sts (w.setCell ⟨bw, i, Option.none⟩ u) base ids S := by
  obtain ⟨A, k1, k2⟩ := h
  refine ⟨A, fun g hg => ⟨(k1 g hg).1, (k1 g hg).2.1, ?_⟩, k2⟩
  have hs := (k1 g hg).2.2
  exact ⟨hs.1.far (p := ⟨bw, i, Option.none⟩) (fun e => by
    simp only at e
    subst e
    exact absurd rfl (Blk.ne hb hs.1 h1)) u, hs.2.setOther (p := ⟨bw, i, Option.none⟩) (hs.2.ne_blk hb (fun e => h2 e.symm)) u⟩
theorem Blk.turned {w w' : World} {i g : Nat} {t : TypeId} {cs cs' : Array Value} (h : Blk w i t cs) (hg : Blk w g 28 cs') (ht : Turned g w w') (h1 : t ≠ 28) (h2 : t ≠ 26) : Blk w' i t cs := by
  refine h.only ht fun hK => ?_
  rcases hK with hK | ⟨cur, hK⟩
  · subst hK
    exact absurd rfl (Blk.ne h hg h1)
  · exact absurd rfl (Blk.ne (t' := 26) h hK h2)
/-- Two lists by their number. -/
def two {α : Type} (x y : α) (a : Nat) : α := if a = 0 then x else y
/-- The stores are as S says, the lists as R says. -/
structure PI (w0 : World) (g bs bw : Nat) (S : Nat → St) (R : Nat → List Pr) (AA : Nat → Option Addr) (CC : Nat → Nat) (wr : World) : Prop where
  sts : Sts wr g [g + 1, g] S
  ends : ∀ a, a < 2 → EndsS (S (g + a))
  bsl : Blk wr bs 24 #[.pointer (some ⟨g, 0, none⟩), .pointer (some ⟨g + 1, 0, none⟩)]
  bwl : Blk wr bw 22 #[.slice (AA 0) (R 0).length (CC 0), .slice (AA 1) (R 1).length (CC 1)]
  own : ∀ a, a < 2 → OwnP wr g (AA a) (CC a) (R a)
  bel : Below w0.heap.size w0 wr
  low : w0.heap.size ≤ g
  high : g ≤ wr.heap.size
  wlow : w0.heap.size ≤ bw
section
variable {w0 wr w2 : World} {g bs bw : Nat} {S : Nat → St} {R : Nat → List Pr} {AA : Nat → Option Addr} {CC : Nat → Nat}
theorem PI.mem (_h : PI w0 g bs bw S R AA CC wr) {a : Nat} (ha : a < 2) : g + a ∈ [g + 1, g] := by
  rcases (by omega : a = 0 ∨ a = 1) with rfl | rfl <;> simp
theorem PI.turn (h : PI w0 g bs bw S R AA CC wr) {a : Nat} (ha : a < 2) {s' : St} (hs : Sts w2 g [g + 1, g] (upd S (g + a) s')) (he : EndsS s') (hb : Below g wr w2) (ht : Turned (g + a) wr w2) : PI w0 g bs bw (upd S (g + a) s') R AA CC w2 := by
  obtain ⟨Ag, cg, hg⟩ := h.sts.get (h.mem ha)
  refine ⟨hs, fun i hi => ?_, h.bsl.turned hg.1 ht (by decide) (by decide), h.bwl.turned hg.1 ht (by decide) (by decide), fun i hi => (h.own i hi).turned hg.1 ht, h.bel.trans (hb.mono h.low), h.low, Nat.le_trans h.high hb.size, h.wlow⟩
  by_cases e : i = a
  · subst e; rw [upd_same]; exact he
  · rw [upd_ne _ _ (by omega)]; exact h.ends i hi
theorem PI.below (h : PI w0 g bs bw S R AA CC wr) (hb : Below wr.heap.size wr w2) : PI w0 g bs bw S R AA CC w2 :=
  ⟨h.sts.below hb, h.ends, h.bsl.below hb h.bsl.lt, h.bwl.below hb h.bwl.lt, fun i hi => Own.below (h.own i hi) hb, nextB h.bel hb, h.low, Nat.le_trans h.high hb.size, h.wlow⟩
theorem PI.drewN (h : PI w0 g bs bw S R AA CC wr) (n : Nat) : PI w0 g bs bw S R AA CC (wr.drewN n) :=
  ⟨h.sts, h.ends, h.bsl, h.bwl, h.own, below_drewN h.bel n, h.low, h.high, h.wlow⟩
theorem PI.put (h : PI w0 g bs bw S R AA CC wr) {a : Nat} (ha : a < 2) {A3 : Option Addr} {c3 : Nat} {R3 : List Pr} (ho : OwnP wr g A3 c3 R3) :
    PI w0 g bs bw S (fun i => if i = a then R3 else R i) (fun i => if i = a then A3 else AA i) (fun i => if i = a then c3 else CC i) (wr.setCell ⟨bw, a, none⟩ (.slice A3 R3.length c3)) := by
  have hsz : (wr.setCell ⟨bw, a, none⟩ (.slice A3 R3.length c3)).heap.size = wr.heap.size := by simp [World.setCell]
  have hbs : bs ≠ bw := Blk.ne h.bsl h.bwl (by decide)
  refine ⟨h.sts.set h.bwl (by decide) (by decide) a _, h.ends, h.bsl.far (p := ⟨bw, a, none⟩) hbs _, ?_, fun i hi => ?_, h.bel.setCell h.wlow _, h.low, by rw [hsz]; exact h.high, h.wlow⟩
  · have h1 := h.bwl.put a (.slice A3 R3.length c3)
    rcases (by omega : a = 0 ∨ a = 1) with rfl | rfl
    · exact h1
    · exact h1
  · by_cases e : i = a
    · subst e
      simp only [if_pos]
      exact Own.setOther ho (Own.ne_blk ho h.bwl (by decide)) _
    · simp only [if_neg e]
      exact Own.setOther (h.own i hi) (Own.ne_blk (h.own i hi) h.bwl (by decide)) _
/-- The cells of the two slices. -/
theorem PI.ptr (h : PI w0 g bs bw S R AA CC wr) {a : Nat} (ha : a < 2) : wr.cell? ⟨bs, a, none⟩ = some (.pointer (some ⟨g + a, 0, none⟩)) := by
  rw [h.bsl.cell]
  rcases (by omega : a = 0 ∨ a = 1) with rfl | rfl <;> rfl
theorem PI.lst (h : PI w0 g bs bw S R AA CC wr) {a : Nat} (ha : a < 2) : wr.cell? ⟨bw, a, none⟩ = some (.slice (AA a) (R a).length (CC a)) := by
  rw [h.bwl.cell]
  rcases (by omega : a = 0 ∨ a = 1) with rfl | rfl <;> rfl
/-- The stores and the lists go side by side. -/
def Side (S : Nat → St) (g : Nat) (R : Nat → List Pr) : Prop := ∀ a, a < 2 → R a = prs (S (g + a)).1 (S (g + a)).2.1
theorem Side.step (h : Side S g R) {a : Nat} (s' : St) {R3 : List Pr} (hR : R3 = prs s'.1 s'.2.1) : Side (upd S (g + a) s') g (fun i => if i = a then R3 else R i) := fun i hi => by
  by_cases e : i = a
  · subst e
    simp only [if_pos]
    rw [upd_same]
    exact hR
  · simp only [if_neg e]
    rw [upd_ne _ _ (by omega)]
    exact h i hi
end
/-- A step of a script. -/
abbrev PlayOp := Nat × Bool × Int × Nat
def opcell (x : PlayOp) : List Value := [.int .u8 (x.1 : Nat), .bool x.2.1, .int .i64 x.2.2.1, .int .u64 (x.2.2.2 : Nat)]
def OpOk (x : PlayOp) : Prop := x.1 ≤ 255 ∧ -9223372036854775808 ≤ x.2.2.1 ∧ x.2.2.1 ≤ 9223372036854775807 ∧ x.2.2.2 ≤ 18446744073709551615
def Ops (w : World) (A : Option Addr) (l : List PlayOp) : Prop := (∀ x ∈ l, OpOk x) ∧ Reads w w.heap.size 4 A l.length (l.flatMap opcell)
theorem ops_cells {w : World} {B : Nat} {A : Option Addr} {l : List PlayOp} {k : Nat} {x : PlayOp} (h : Reads w B 4 A l.length (l.flatMap opcell)) (hp : l[k]? = some x) :
    ∃ b o, A = some ⟨b, o, none⟩ ∧ b < B ∧ w.cell? ⟨b, o + k * 4, none⟩ = some (.int .u8 (x.1 : Nat)) ∧ w.cell? ⟨b, o + k * 4 + 1, none⟩ = some (.bool x.2.1) ∧ w.cell? ⟨b, o + k * 4 + 2, none⟩ = some (.int .i64 x.2.2.1) ∧ w.cell? ⟨b, o + k * 4 + 3, none⟩ = some (.int .u64 (x.2.2.2 : Nat)) := by
  have hk : k < l.length := (List.getElem?_eq_some_iff.1 hp).1
  obtain ⟨b, o, e, hb, hc⟩ := h.2 (by omega)
  have key : ∀ (l : List PlayOp) (k i : Nat) (u : Value), l[k]? = some x → (opcell x)[i]? = some u → i < 4 → (l.flatMap opcell)[k * 4 + i]? = some u := fun l => by
    induction l with
    | nil => intro k i u h; simp at h
    | cons y l ih =>
      intro k i u h h2 h3
      rw [List.flatMap_cons]
      cases k with
      | zero =>
        simp at h
        subst h
        rw [Nat.zero_mul, Nat.zero_add, List.getElem?_append_left (by simp [opcell]; exact h3)]
        exact h2
      | succ k =>
        rw [List.getElem?_append_right (by simp [opcell]; omega), show (k + 1) * 4 + i - (opcell y).length = k * 4 + i by simp [opcell]; omega]
        exact ih k i u (by simpa using h) h2 h3
  refine ⟨b, o, e, hb, ?_, ?_, ?_, ?_⟩
  · have := hc _ _ (key l k 0 _ hp rfl (by decide)); simpa using this
  · have := hc _ _ (key l k 1 _ hp rfl (by decide)); rwa [← Nat.add_assoc] at this
  · have := hc _ _ (key l k 2 _ hp rfl (by decide)); rwa [← Nat.add_assoc] at this
  · have := hc _ _ (key l k 3 _ hp rfl (by decide)); rwa [← Nat.add_assoc] at this
end Go.Proofs.Ytknimekfkkihpaa
