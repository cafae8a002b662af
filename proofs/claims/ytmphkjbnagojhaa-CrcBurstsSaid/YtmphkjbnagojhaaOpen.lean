/- What the row's reading of an argument gives to the walks: bytes, integers. Over any program. -/
import Derived.Test.YtmphkjbnagojhaaBase
import Derived.ProofKit
import Derived.OpenShut
import Derived.ShutString
import Derived.ChangeOld
import Derived.Below
namespace Go.Proofs.Ytmphkjbnagojhaa
open Go.ChangeShapes Go.WideShapes Go.ChangeAt Go.RowKit
namespace WfBounds
theorem u8 {n : Int} (h : (Lit.int .u8 n).wf = true) : 0 ≤ n ∧ n ≤ 255 := by
  have hmin : IntKind.u8.min = 0 := rfl
  have hmax : IntKind.u8.max = 255 := rfl
  simp only [Lit.wf, Bool.and_eq_true, decide_eq_true_eq, hmin, hmax] at h
  exact h
theorem u16 {n : Int} (h : (Lit.int .u16 n).wf = true) : 0 ≤ n ∧ n ≤ 65535 := by
  have hmin : IntKind.u16.min = 0 := rfl
  have hmax : IntKind.u16.max = 65535 := rfl
  simp only [Lit.wf, Bool.and_eq_true, decide_eq_true_eq, hmin, hmax] at h
  exact h
theorem u32 {n : Int} (h : (Lit.int .u32 n).wf = true) : 0 ≤ n ∧ n ≤ 4294967295 := by
  have hmin : IntKind.u32.min = 0 := rfl
  have hmax : IntKind.u32.max = 4294967295 := rfl
  simp only [Lit.wf, Bool.and_eq_true, decide_eq_true_eq, hmin, hmax] at h
  exact h
theorem u64 {n : Int} (h : (Lit.int .u64 n).wf = true) : 0 ≤ n ∧ n ≤ 18446744073709551615 := by
  have hmin : IntKind.u64.min = 0 := rfl
  have hmax : IntKind.u64.max = 18446744073709551615 := rfl
  simp only [Lit.wf, Bool.and_eq_true, decide_eq_true_eq, hmin, hmax] at h
  exact h
theorem i64 {n : Int} (h : (Lit.int .i64 n).wf = true) : -9223372036854775808 ≤ n ∧ n ≤ 9223372036854775807 := by
  have hmin : IntKind.i64.min = -9223372036854775808 := rfl
  have hmax : IntKind.i64.max = 9223372036854775807 := rfl
  simp only [Lit.wf, Bool.and_eq_true, decide_eq_true_eq, hmin, hmax] at h
  exact h
theorem i32 {n : Int} (h : (Lit.int .i32 n).wf = true) : -2147483648 ≤ n ∧ n ≤ 2147483647 := by
  have hmin : IntKind.i32.min = -2147483648 := rfl
  have hmax : IntKind.i32.max = 2147483647 := rfl
  simp only [Lit.wf, Bool.and_eq_true, decide_eq_true_eq, hmin, hmax] at h
  exact h
end WfBounds
section
variable {H : Type} {enc : TypeId × Value → H} {P : Program} {w : World} {base : Nat} {spare : Nat → Bool} {held : Bool}

theorem u8_of (n : Int) (h : (Lit.int .u8 n).wf = true) : ((UInt8.ofNat n.toNat).toNat : Int) = n := by
  have hmin : IntKind.u8.min = 0 := rfl
  have hmax : IntKind.u8.max = 255 := rfl
  simp only [Lit.wf, Bool.and_eq_true, decide_eq_true_eq, hmin, hmax] at h
  simp only [UInt8.toNat_ofNat']
  omega

/-- A slice of bytes that came in. -/
theorem open_bytes {t e : TypeId} {r : Reach} {b0 : Nat} {v : Value} {d : DataW H} {p : List MemPlace} (ht : P.underlying t = some (.slice e)) (he : P.underlying e = some (.int .u8)) (hC : P.cellsOf e = 1)
    (hv : Value.okWide P w r b0 t v) (h : DataW.Trod enc P w base spare held t v d p) :
    ∃ (A : Option Addr) (c : Nat) (l : List UInt8), v = .slice A l.length c ∧ l.length ≤ maxLen ∧ l.length ≤ c ∧ Bts w w.heap.size A l := by
  obtain ⟨a, len, cap, rfl⟩ := okWide_slice ht hv
  obtain ⟨fuel, hf⟩ := h
  rcases open_ints ht he hC hf with ⟨hcs, _⟩ | ⟨x, l, c, zs, hcs, _, hl, hm, hz, _, hcell, hwz⟩
  · simp [Value.cells] at hcs
    obtain ⟨rfl, rfl, rfl⟩ := hcs
    exact ⟨none, 0, [], rfl, by simp, by simp, Bts.empty _ _ _⟩
  · simp [Value.cells] at hcs
    obtain ⟨rfl, rfl, rfl⟩ := hcs
    have hcl : ∀ i, i < zs.length → w.cell? (x.add i) = some (.int .u8 (zs.getD i 0)) := hcell
    have hlen : len ≤ zs.length := by rw [hz]; split <;> omega
    let L : List UInt8 := (zs.take len).map fun n => UInt8.ofNat n.toNat
    have hL : L.length = len := by simp [L]; omega
    refine ⟨some x, cap, L, by rw [hL], by rw [hL]; omega, by rw [hL]; omega, by rw [bvs_length]; simp, fun hn => ?_⟩
    have hn0 : 0 < zs.length := by omega
    have h0 := hcl 0 hn0
    obtain ⟨b, o, sp⟩ := x
    have hsp : sp = none := by
      have := World.cell?_spot h0
      simpa [Addr.add] using this
    subst hsp
    refine ⟨b, o, rfl, ?_, fun j u hu => ?_⟩
    · have := World.block_lt_of_cell? w _ h0
      rwa [block_add] at this
    · have hj : j < L.length := by
        have := (List.getElem?_eq_some_iff.1 hu).1
        rwa [bvs_length] at this
      have hj2 : j < zs.length := by omega
      have e1 := hcl j hj2
      rw [add_lit] at e1
      rw [e1]
      have e2 : (bvs L)[j]? = some (bv L[j]) := by simp [bvs, hj]
      rw [e2] at hu
      injection hu with hu
      rw [← hu]
      have e3 : L[j] = UInt8.ofNat (zs[j]).toNat := by simp [L]
      have e4 : zs.getD j 0 = zs[j] := by simp [List.getD, hj2]
      rw [bv, e3, u8_of _ (hwz _ (List.getElem_mem hj2)), e4]
end
end Go.Proofs.Ytmphkjbnagojhaa
