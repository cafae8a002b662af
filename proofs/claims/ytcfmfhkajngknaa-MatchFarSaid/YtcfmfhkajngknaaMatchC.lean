/- Match: best walked. -/
import Derived.Test.YtcfmfhkajngknaaMatchB
import Derived.Laws.Rows
namespace Go.Proofs.Ytcfmfhkajngknaa
open Go.RowKit
open Mt

/-- A token as a value: a byte, or a length and how far back. -/
def tb (x : Nat) (t : Nat × Nat) : Nat := if t.1 = 0 then x else 0
def tokC (x : Nat) (t : Nat × Nat) : Array Value := #[.int .u8 (tb x t : Nat), .int .i64 (t.1 : Int), .int .i64 (t.2 : Int)]
theorem tokC_new (x : Nat) (t : Nat × Nat) (n q : Nat) (h : 0 < n) : (((tokC x t).setIfInBounds 0 (.int .u8 0)).setIfInBounds 1 (.int .i64 (n : Int))).setIfInBounds 2 (.int .i64 (q : Int)) = tokC x (n, q) := by
  have : n ≠ 0 := by omega
  simp [tokC, tb, this]
def tokV (x : Nat) (t : Nat × Nat) : Value := .agg (tokC x t)
set_option maxHeartbeats 800000 in
theorem best_end (g : Nat) (A : Option Addr) (c : Nat) (l : List UInt8) (M : Value) (a : Nat) (w : World) (h : Blk w g 41 #[.slice A l.length c, M]) (hb : Bts w w.heap.size A l) (hm : l.length ≤ 16777216) (ha : a < l.length) (hn : l.length < a + 3) :
    Calls Try.prog 14 #[.pointer (some ⟨g, 0, none⟩), .int .i64 (a : Int)] w fun e w' => e = .returned (tokV l[a].toNat (0, 0)) ∧ Below w.heap.size w w' := by
  obtain ⟨b, o, rfl, hbl, hcell⟩ := hb.at_ (by omega)
  have c0 : w.cell? ⟨g, 0, none⟩ = some (.slice (some ⟨b, o, none⟩) l.length c) := by rw [h.cell]; rfl
  have d0 := hcell a ha
  have e1 : IntKind.i64.wrap ((a : Int) + 3) = (a : Int) + 3 := IntWalk.i64_in _ ⟨by omega, by omega⟩
  have h1 : (l.length : Int) < (a : Int) + 3 := by omega
  have hai : (a : Int) < (l.length : Int) := by omega
  have hgl := h.lt
  generalize l[a] = x at *
  clear h hb hcell
  go_enter Try.func14, Try.ntmps14
  go_wp2_with fail
  refine bodyPost_ret (v := .agg #[.int .u8 (x.toNat : Int), .int .i64 0, .int .i64 0]) (results_cell_row Try.results14 _ _ w.heap.size 28 _ (0, 0) _ ?_ ?_ Try.underlying28 (by rfl) (by kernel_rfl)) ?_ ?_
  · rfl
  · exact (Below.heap_alloc _ _ w.heap.size (by simp)).trans (heap_alloc_new _ _)
  · rfl
  refine ⟨rfl, ?_⟩
  · exact ((Below.refl _ _).alloc (Nat.le_refl _) _).alloc (by simp) _
end Go.Proofs.Ytcfmfhkajngknaa
