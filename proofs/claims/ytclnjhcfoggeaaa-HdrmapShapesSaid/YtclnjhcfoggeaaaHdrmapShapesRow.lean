/- The row of HdrmapShapes: its arguments opened, its walk met, the arguments shut again. -/
import Derived.Test.YtclnjhcfoggeaaaRows
import Derived.Test.YtclnjhcfoggeaaaOpen
import Derived.Lib.SmallJoins
import Derived.Test.YtclnjhcfoggeaaaHdrLaws
namespace Go.Proofs.Ytclnjhcfoggeaaa.hdrmapShapes
open Go.ChangeShapes Go.WideShapes Go.ChangeAt Go.RowKit
open Go.ChangeMaps (open_string shut_string)

theorem own : ownKnob Try.prog.godebug = none := by kernel_rfl
theorem laidOut : laidOutB Try.prog = true := by kernel_rfl

set_option maxRecDepth 100000 in
theorem lifted (os : Os) (started : os.Started) (H : Type) (enc : TypeId × Value → H) :
    ReturnsInHanded {} Try.checked os 3 .any (Rows.hdrmapShapesSpec.pre6 enc Try.prog Try.f3 Rows.hdrmapShapesRow.domain false) (Rows.hdrmapShapesSpec.post enc Try.prog Try.f3 false true false false) := by
  refine returnsInHanded_of_change (C := Try.checked) own started (by kernel_rfl) Try.func3
    (ChangeSpec.witness6 (enc := enc) (C := Try.checked) false ⟨#[], #[.agg #[.int .i64 0, .int .i64 0, .int .i64 0]], []⟩ 8 (by kernel_rfl) (by kernel_rfl) (by kernel_rfl) (by kernel_rfl)) ?_
  intro W base args ds gs before hval0 hW _ _
  have hval : ∀ (j : Nat) t v, Try.f3.params[j]? = some t → args[j]? = some v → Value.okWide Try.prog W .any base t v := hval0
  have hW' := hW
  obtain ⟨p, q, hA0, hV, rfl, _, _⟩ := hW
  have hA : DataW.TrodAll enc Try.prog W 0 (fun _ => true) true Try.f3.params.toList args.toList ds p := hA0
  rw [Try.params3] at hA hval
  obtain ⟨v0, vs0, d0, ds0, p0, q0, hargs, rfl, rfl, h0, r0⟩ := trodAll_cons hA
  obtain ⟨rfl, rfl, rfl⟩ := trodAll_nil r0
  obtain rfl : args = #[v0] := by cases args; simp_all
  obtain ⟨rfl, rfl⟩ := trodVars_none hV
  obtain ⟨x0_0, x0_1, x0_2, y0_0, y0_1, y0_2, _, rfl, rfl, rfl, t0_0, t0_1, t0_2⟩ := Joins.open_agg3 Try.underlying23 (by kernel_rfl) (by kernel_rfl) (hval 0 23 v0 rfl rfl) h0
  obtain ⟨a0_0, e0_0, rfl, w0_0⟩ := DataW.trod_int Try.underlying2 t0_0
  obtain rfl : x0_0 = .int .i64 a0_0 := by simpa using e0_0
  have b0_0 := WfBounds.i64 w0_0
  obtain ⟨a0_1, e0_1, rfl, w0_1⟩ := DataW.trod_int Try.underlying2 t0_1
  obtain rfl : x0_1 = .int .i64 a0_1 := by simpa using e0_1
  have b0_1 := WfBounds.i64 w0_1
  obtain ⟨a0_2, e0_2, rfl, w0_2⟩ := DataW.trod_int Try.underlying3 t0_2
  obtain rfl : x0_2 = .int .i64 a0_2 := by simpa using e0_2
  have b0_2 := WfBounds.i64 w0_2
  clear hA0 hval0
  refine (hdrmapShapes_walk W a0_0 a0_1 a0_2 (b0_0).1 (b0_0).2 (b0_1).1 (b0_1).2 (b0_2).1 (b0_2).2).mono fun e W' ⟨he, bel⟩ => ?_
  subst he
  exact ⟨_, rfl, _, _, _, [], _, [], hW', trodAll_mk1 (shut_bool Try.underlying4 _), (trodAll_cons_mk (Joins.shut_agg3 Try.underlying23 (by kernel_rfl) (by kernel_rfl) (Joins.field_of_Trod (shut_int Try.underlying2 w0_0) rfl) (Joins.field_of_Trod (shut_int Try.underlying2 w0_1) rfl) (Joins.field_of_Trod (shut_int Try.underlying3 w0_2) rfl)) trodAll_mk0), rfl, bel.frame _, fun h => by cases h⟩

theorem over : Rows.hdrmapShapesRow.holds Try.pinned (OpenSpec.ofChange Rows.hdrmapShapesSpec) :=
  OpenClaim.holds_of_wide 3 Try.f3 rfl rfl rfl rfl rfl rfl rfl ⟨rfl, rfl, rfl, rfl, rfl⟩ rfl rfl rfl rfl rfl (by kernel_rfl) Try.func3 (by kernel_rfl)
    (of_decide_eq_true (by kernel_rfl)) (by unfold Func.isWrapper; first | (rw [if_pos (by decide +kernel)]; kernel_rfl) | (rw [if_neg (by decide +kernel)]; exact ⟨rfl, rfl⟩))
    (fun os started H enc _ => lifted os started H enc)

/-- The given statement. -/
theorem proved : Rows.HdrmapShapesSaid := over
#print axioms proved
end Go.Proofs.Ytclnjhcfoggeaaa.hdrmapShapes
