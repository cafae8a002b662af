/- A part of a slice of bytes, over any world. -/
import Derived.Test.YtboakhhmbjomfaaChecked
import Derived.Test.YtboakhhmbjomfaaBase
namespace Go.Proofs.Ytboakhhmbjomfaa
open Go.RowKit
theorem elem_at : Try.prog.elem 25 = 5 := by kernel_rfl
theorem size_u8 (W : World) : (sizeOf 5).run Try.prog W = .ok 1 W := by kernel_rfl
/-- Where b[i:..] begins. -/
def sliceA (A : Option Addr) (c i : Nat) : Option Addr := if c = i then A else A.map (·.add i)
/-- b[i:j], whatever the memory. -/
theorem slice_run (A : Option Addr) (n c i j : Nat) (h1 : i ≤ j) (h3 : j ≤ c) (W : World) :
    (Instr.slice 25 (.slice A n c) (some (.int .i64 (i : Int))) (some (.int .i64 (j : Int))) none).run Try.prog W = .ok (.slice (sliceA A c i) (j - i) (c - i)) W := by
  have hu : Try.prog.underlying 25 = some (.slice (Try.prog.elem 25)) := by rw [elem_at]; exact Try.underlying25
  rw [run_slice_lh (w := W) 25 A n c hu .i64 .i64 (i : Int) (j : Int) (by omega) (by omega) (by omega), elem_at, size_u8]
  simp [Result.andThen, sliced, sliceA]
theorem slice_len {l : List UInt8} {i j : Nat} (h2 : j ≤ l.length) : ((l.drop i).take (j - i)).length = j - i := by simp; omega
/-- It reads as that part. -/
theorem slice_bts {w : World} {B : Nat} {A : Option Addr} {l : List UInt8} (h : Bts w B A l) (c i j : Nat) (h2 : j ≤ l.length) (h3 : l.length ≤ c) : Bts w B (sliceA A c i) ((l.drop i).take (j - i)) := by
  unfold Bts sliceA
  rw [slice_len h2]
  refine ⟨by rw [bvs_length, slice_len h2]; simp, fun hn => ?_⟩
  obtain ⟨b, o, hA, hb, hc⟩ := h.2 (by omega)
  subst hA
  rw [if_neg (by omega)]
  refine ⟨b, o + i, ?_, hb, fun k u hu => ?_⟩
  · simp only [Option.map_some, add_lit]
  · rw [Nat.add_assoc]
    refine hc (i + k) u ?_
    rw [bvs_take, bvs_drop, List.getElem?_take] at hu
    split at hu
    · rw [List.getElem?_drop] at hu
      exact hu
    · cases hu
end Go.Proofs.Ytboakhhmbjomfaa
