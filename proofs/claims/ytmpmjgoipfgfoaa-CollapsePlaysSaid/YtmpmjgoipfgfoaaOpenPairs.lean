/- A slice of pairs that came in. -/
import Derived.Test.YtmpmjgoipfgfoaaOpenRows
import Derived.Test.YtmpmjgoipfgfoaaPairs
namespace Go.Proofs.Ytmpmjgoipfgfoaa
open Go.ChangeShapes Go.WideShapes Go.ChangeAt Go.RowKit
theorem pcs_flat (l : List Pr) : l.flatMap pcell = pcs l := by
  induction l with
  | nil => rfl
  | cons p l ih => rw [List.flatMap_cons, ih]; rfl
def PairOk (p : Pr) : Prop := -9223372036854775808 ≤ p.1 ∧ p.1 ≤ 9223372036854775807 ∧ p.2 ≤ 18446744073709551615
def Pairs (w : World) (A : Option Addr) (l : List Pr) : Prop := (∀ p ∈ l, PairOk p) ∧ Prs w w.heap.size A l
theorem open_pairs {H : Type} {enc : TypeId × Value → H} {w : World} {base : Nat} {spare : Nat → Bool} {held : Bool} {r : Reach} {b0 : Nat} {v : Value} {d : DataW H} {p : List MemPlace}
    (hv : Value.okWide Try.prog w r b0 23 v) (h : DataW.Trod enc Try.prog w base spare held 23 v d p) :
    ∃ (A : Option Addr) (c : Nat) (l : List Pr), v = .slice A l.length c ∧ l.length ≤ maxLen ∧ Pairs w A l := by
  obtain ⟨A, c, l, h1, h2, _, h3, h4⟩ := open_rows (s := 2) Try.underlying23 (by kernel_rfl) (by decide) hv h pcell (fun _ => rfl) PairOk (fun n cs y hl hy => by
    obtain ⟨y0, y1, m, _, _, t0, t1⟩ := trod_struct2 Try.underlying38 hy
    match cs, hl with
    | [c0, c1], _ =>
      obtain ⟨z0, e0, _, w0⟩ := DataW.trod_int Try.underlying3 t0
      obtain ⟨z1, e1, _, w1⟩ := DataW.trod_int Try.underlying24 t1
      have b0 := WfBounds.i64 w0
      have b1 := WfBounds.u64 w1
      have f0 : c0 = .int .i64 z0 := by simpa [show Try.prog.cellsOf 3 = 1 by kernel_rfl] using e0
      have f1 : c1 = .int .u64 z1 := by simpa [show Try.prog.cellsOf 24 = 1 by kernel_rfl] using e1
      refine ⟨(z0, z1.toNat), ?_, b0.1, b0.2, by simp only; omega⟩
      rw [f0, f1, pcell]
      simp only
      rw [show ((z1.toNat : Nat) : Int) = z1 by omega])
  rw [pcs_flat] at h4
  exact ⟨A, c, l, h1, h2, h3, h4⟩
end Go.Proofs.Ytmpmjgoipfgfoaa
