/- Wire: the letters' forms walked. -/
import Derived.Test.YtfeoalimkolebaaChecked
import Derived.Test.YtfeoalimkolebaaBase
import Derived.Test.YtfeoalimkolebaaRegion
import Derived.RegionTactic
import Derived.BigRegion
import Derived.Deep.QuietTactic
import Derived.BigQuiet
import Derived.Deep.LoopGhost
import Derived.StillTailTactics
import Derived.Laws.CopyOwn
namespace Go.Proofs.Ytfeoalimkolebaa
open Go.RowKit
def fn0 (i : Nat) : Value := .func (.func i) #[] #[]
/-- What is known of a letter's form: letter, size, writer, reader. -/
abbrev Frm := Nat × Nat × Nat × Nat
def frms : List Frm := [
  (98, 1, 29, 30), (104, 2, 29, 30),
  (72, 2, 31, 32), (119, 4, 29, 30),
  (87, 4, 31, 32), (113, 8, 29, 30),
  (81, 8, 31, 32), (118, 0, 33, 34),
  (122, 0, 35, 36), (110, 0, 37, 38)]
def frmC (f : Frm) : List Value := [.int .u8 (f.1 : Int), .int .i64 (f.2.1 : Int), fn0 f.2.2.1, fn0 f.2.2.2]
def frmV (f : Frm) : Value := .agg (frmC f).toArray
def frmsC : Array Value := (frms.flatMap frmC).toArray
theorem wpList_buildC {P : Program} {ops : Array Oper} {rest : List Oper} {o : Oper} {a : Act} {w : World} {Q : Exit → Act → World → Prop} (hg : o.guard = none) (t : TypeId) (parts : Array (Nat × Operand)) (ho : o.op = .build t parts) (cells : Array Value)
    (hc : P.built t (parts.map fun (i, x) => (i, a.eval x)).toList = some cells) (h : wpList P ops Q rest (a.put o.dst (.agg cells)) w) : wpList P ops Q (o :: rest) a w :=
  wpList_build hg t parts ho (by rw [hc]; rfl) (by rw [hc]; exact h)
set_option maxRecDepth 20000 in
set_option maxHeartbeats 1600000 in
theorem forms_t (w : World) : Calls Try.prog 24 #[] w fun e w' => e = .returned (.agg frmsC) ∧ Below w.heap.size w w' := by
  go_enter Try.func24, Try.ntmps24
  go_wp2_with (first | (refine wpList_buildC rfl 60 _ rfl frmsC (by as_aux_lemma => kernel_rfl) ?_) | (refine wpList_store_row rfl 60 _ _ rfl w.heap.size frmsC rfl rfl 60 _ (heap_alloc_new _ _) (by kernel_rfl) (by kernel_rfl) (by kernel_rfl) ?_) | fail)
  go_wp2_with fail
  refine bodyPost_ret (v := .agg frmsC) (results_cell_row Try.results24 _ _ w.heap.size 60 frmsC (0, 0) _ ?_ (setRow_heap _ _ _ _ 60 _ (heap_alloc_new _ _)) Try.underlying60 (by rfl) (by kernel_rfl)) ?_ ?_
  · rfl
  · rfl
  exact ⟨rfl, below_setRow ((Below.refl _ _).alloc (Nat.le_refl _) _) (Nat.le_refl _) _⟩
end Go.Proofs.Ytfeoalimkolebaa
