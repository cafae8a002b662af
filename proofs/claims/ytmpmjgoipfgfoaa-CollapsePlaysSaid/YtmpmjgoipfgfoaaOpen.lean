/- What the row's reading of an argument gives to the walks: bytes, integers. Over any program. -/
import Derived.Test.YtmpmjgoipfgfoaaBase
import Derived.ProofKit
import Derived.OpenShut
import Derived.ShutString
import Derived.ChangeOld
import Derived.Below
import Derived.Deep.Slices
namespace Go.Proofs.Ytmpmjgoipfgfoaa
open Go.ChangeShapes Go.WideShapes Go.ChangeAt Go.RowKit
namespace WfBounds
theorem u8 {n : Int} (h : (Lit.int .u8 n).wf = true) : 0 ≤ n ∧ n ≤ 255 := by
  have hmin : IntKind.u8.min = 0 := rfl
  have hmax : IntKind.u8.max = 255 := rfl
  simp only [Lit.wf, Bool.and_eq_true, decide_eq_true_eq, hmin, hmax] at h
  exact h
theorem u16 {n : Int} (h : (Lit.int .u16 n).wf = true) : 0 ≤ n ∧ n ≤ 65535 := by
  have hmin : IntKind.u16.min = 0 := rfl
  have hmax : IntKind.u16.max = 65535 := rfl
  simp only [Lit.wf, Bool.and_eq_true, decide_eq_true_eq, hmin, hmax] at h
  exact h
theorem u32 {n : Int} (h : (Lit.int .u32 n).wf = true) : 0 ≤ n ∧ n ≤ 4294967295 := by
  have hmin : IntKind.u32.min = 0 := rfl
  have hmax : IntKind.u32.max = 4294967295 := rfl
  simp only [Lit.wf, Bool.and_eq_true, decide_eq_true_eq, hmin, hmax] at h
  exact h
theorem u64 {n : Int} (h : (Lit.int .u64 n).wf = true) : 0 ≤ n ∧ n ≤ 18446744073709551615 := by
  have hmin : IntKind.u64.min = 0 := rfl
  have hmax : IntKind.u64.max = 18446744073709551615 := rfl
  simp only [Lit.wf, Bool.and_eq_true, decide_eq_true_eq, hmin, hmax] at h
  exact h
theorem i64 {n : Int} (h : (Lit.int .i64 n).wf = true) : -9223372036854775808 ≤ n ∧ n ≤ 9223372036854775807 := by
  have hmin : IntKind.i64.min = -9223372036854775808 := rfl
  have hmax : IntKind.i64.max = 9223372036854775807 := rfl
  simp only [Lit.wf, Bool.and_eq_true, decide_eq_true_eq, hmin, hmax] at h
  exact h
theorem i32 {n : Int} (h : (Lit.int .i32 n).wf = true) : -2147483648 ≤ n ∧ n ≤ 2147483647 := by
  have hmin : IntKind.i32.min = -2147483648 := rfl
  have hmax : IntKind.i32.max = 2147483647 := rfl
  simp only [Lit.wf, Bool.and_eq_true, decide_eq_true_eq, hmin, hmax] at h
  exact h
end WfBounds
section
variable {H : Type} {enc : TypeId × Value → H} {P : Program} {w : World} {base : Nat} {spare : Nat → Bool} {held : Bool}

theorem u8_of (n : Int) (h : (Lit.int .u8 n).wf = true) : ((UInt8.ofNat n.toNat).toNat : Int) = n := by
  have hmin : IntKind.u8.min = 0 := rfl
  have hmax : IntKind.u8.max = 255 := rfl
  simp only [Lit.wf, Bool.and_eq_true, decide_eq_true_eq, hmin, hmax] at h
  simp only [UInt8.toNat_ofNat']
  omega

/-- A slice of bytes, cell by cell. -/
theorem open_bytes_core {t e : TypeId} {fuel : Nat} {cs : List Value} {x : DataW H × List MemPlace} (ht : P.underlying t = some (.slice e)) (he : P.underlying e = some (.int .u8)) (hC : P.cellsOf e = 1)
    (hf : DataW.trod enc P w base spare held fuel t cs = some x) :
    ∃ (A : Option Addr) (c : Nat) (l : List UInt8), cs = [.slice A l.length c] ∧ l.length ≤ maxLen ∧ l.length ≤ c ∧ Bts w w.heap.size A l := by
  rcases open_ints ht he hC hf with ⟨hcs, _⟩ | ⟨x, len, cap, zs, hcs, _, hl, hm, hz, _, hcell, hwz⟩
  · exact ⟨none, 0, [], hcs, by simp, by simp, Bts.empty _ _ _⟩
  · have hcl : ∀ i, i < zs.length → w.cell? (x.add i) = some (.int .u8 (zs.getD i 0)) := hcell
    have hlen : len ≤ zs.length := by rw [hz]; split <;> omega
    let L : List UInt8 := (zs.take len).map fun n => UInt8.ofNat n.toNat
    have hL : L.length = len := by simp [L]; omega
    refine ⟨some x, cap, L, by rw [hcs, hL], by rw [hL]; omega, by rw [hL]; omega, by rw [bvs_length]; simp, fun hn => ?_⟩
    have hn0 : 0 < zs.length := by omega
    have h0 := hcl 0 hn0
    obtain ⟨b, o, sp⟩ := x
    have hsp : sp = none := by
      have := World.cell?_spot h0
      simpa [Addr.add] using this
    subst hsp
    refine ⟨b, o, rfl, ?_, fun j u hu => ?_⟩
    · have := World.block_lt_of_cell? w _ h0
      rwa [block_add] at this
    · have hj : j < L.length := by
        have := (List.getElem?_eq_some_iff.1 hu).1
        rwa [bvs_length] at this
      have hj2 : j < zs.length := by omega
      have e1 := hcl j hj2
      rw [add_lit] at e1
      rw [e1]
      have e2 : (bvs L)[j]? = some (bv L[j]) := by simp [bvs, hj]
      rw [e2] at hu
      injection hu with hu
      rw [← hu]
      have e3 : L[j] = UInt8.ofNat (zs[j]).toNat := by simp [L]
      have e4 : zs.getD j 0 = zs[j] := by simp [List.getD, hj2]
      rw [bv, e3, u8_of _ (hwz _ (List.getElem_mem hj2)), e4]
/-- A slice of bytes that came in. -/
theorem open_bytes {t e : TypeId} {r : Reach} {b0 : Nat} {v : Value} {d : DataW H} {p : List MemPlace} (ht : P.underlying t = some (.slice e)) (he : P.underlying e = some (.int .u8)) (hC : P.cellsOf e = 1)
    (hv : Value.okWide P w r b0 t v) (h : DataW.Trod enc P w base spare held t v d p) :
    ∃ (A : Option Addr) (c : Nat) (l : List UInt8), v = .slice A l.length c ∧ l.length ≤ maxLen ∧ l.length ≤ c ∧ Bts w w.heap.size A l := by
  obtain ⟨a, len, cap, rfl⟩ := okWide_slice ht hv
  obtain ⟨fuel, hf⟩ := h
  obtain ⟨A, c, l, hcs, h1, h2, h3⟩ := open_bytes_core ht he hC hf
  simp only [Value.cells] at hcs
  exact ⟨A, c, l, by simpa using hcs, h1, h2, h3⟩

/-- A slice that came in, one cell an element: the cells that are read, and each one's own reading. -/
theorem open_cells {t e : TypeId} {r : Reach} {b0 : Nat} {v : Value} {d : DataW H} {p : List MemPlace} (ht : P.underlying t = some (.slice e)) (hC : P.cellsOf e = 1)
    (hv : Value.okWide P w r b0 t v) (h : DataW.Trod enc P w base spare held t v d p) {α : Type} (val : α → Value) (ok : α → Prop)
    (hel : ∀ (n : Nat) (u : Value) (y : DataW H × List MemPlace), DataW.trod enc P w base spare held n e [u] = some y → ∃ a, u = val a ∧ ok a) :
    ∃ (A : Option Addr) (c : Nat) (l : List α), v = .slice A l.length c ∧ l.length ≤ maxLen ∧ l.length ≤ c ∧ (∀ a ∈ l, ok a) ∧ Reads w w.heap.size 1 A l.length (l.map val) := by
  obtain ⟨a, len, cap, rfl⟩ := okWide_slice ht hv
  obtain ⟨fuel, hf⟩ := h
  rcases Go.Deep.open_slice1 ht hC hf with ⟨hcs, _⟩ | ⟨x, l, c, m, n, V, D, Pl, hcs, _, hl, hm, hmm, _, hV⟩
  · simp [Value.cells] at hcs
    obtain ⟨rfl, rfl, rfl⟩ := hcs
    exact ⟨none, 0, [], rfl, by simp, by simp, by simp, Reads.empty _ _ _ _⟩
  · simp [Value.cells] at hcs
    obtain ⟨rfl, rfl, rfl⟩ := hcs
    have hlm : len ≤ m := by rw [hmm]; split <;> omega
    have hpick : ∀ i, i < len → ∃ a, V i = val a ∧ ok a := fun i hi => hel n (V i) _ (hV i (by omega)).2
    classical
    by_cases h0 : len = 0
    · subst h0
      exact ⟨some x, cap, [], rfl, by simp, by simp, by simp, Reads.empty _ _ _ _⟩
    · obtain ⟨a0, _, _⟩ := hpick 0 (by omega)
      haveI : Inhabited α := ⟨a0⟩
      obtain ⟨F, hF⟩ := Go.Deep.choose_lt hpick
      have h0c := (hV 0 (by omega)).1
      obtain ⟨b, o, sp⟩ := x
      have hsp : sp = none := by
        have := World.cell?_spot h0c
        simpa [Addr.add] using this
      subst hsp
      refine ⟨some ⟨b, o, none⟩, cap, (List.range len).map F, by simp, by simp; omega, by simp; omega, ?_, by simp, fun _ => ⟨b, o, rfl, ?_, fun j u hu => ?_⟩⟩
      · intro a ha
        obtain ⟨i, hi, rfl⟩ := List.mem_map.1 ha
        exact (hF i (by simpa using hi)).2
      · have := World.block_lt_of_cell? w _ h0c
        rwa [block_add] at this
      · have hj : j < len := by
          have := (List.getElem?_eq_some_iff.1 hu).1
          simpa using this
        have e1 := (hV j (by omega)).1
        rw [add_lit, (hF j hj).1] at e1
        rw [e1, ← hu]
        simp [hj]
/-- A slice of integers of one kind that came in. -/
def intv (k : IntKind) (n : Int) : Value := .int k n
theorem open_intsL {t e : TypeId} {k : IntKind} {r : Reach} {b0 : Nat} {v : Value} {d : DataW H} {p : List MemPlace} (ht : P.underlying t = some (.slice e)) (he : P.underlying e = some (.int k)) (hC : P.cellsOf e = 1)
    (hv : Value.okWide P w r b0 t v) (h : DataW.Trod enc P w base spare held t v d p) :
    ∃ (A : Option Addr) (c : Nat) (l : List Int), v = .slice A l.length c ∧ l.length ≤ maxLen ∧ l.length ≤ c ∧ (∀ n ∈ l, (Lit.int k n).wf = true) ∧ Reads w w.heap.size 1 A l.length (l.map (intv k)) :=
  open_cells ht hC hv h (intv k) (fun n => (Lit.int k n).wf = true) fun n u y hy => by
    obtain ⟨z, e0, _, hw⟩ := DataW.trod_int he hy
    exact ⟨z, by simpa [intv] using e0, hw⟩
/-- A slice of slices of bytes that came in: each row's address, capacity, bytes. -/
def rowv (x : Option Addr × Nat × List UInt8) : Value := .slice x.1 x.2.2.length x.2.1
def RowOk (w : World) (x : Option Addr × Nat × List UInt8) : Prop := x.2.2.length ≤ maxLen ∧ x.2.2.length ≤ x.2.1 ∧ Bts w w.heap.size x.1 x.2.2
theorem open_bytess {t e e2 : TypeId} {r : Reach} {b0 : Nat} {v : Value} {d : DataW H} {p : List MemPlace} (ht : P.underlying t = some (.slice e)) (he : P.underlying e = some (.slice e2)) (he2 : P.underlying e2 = some (.int .u8)) (hC : P.cellsOf e = 1) (hC2 : P.cellsOf e2 = 1)
    (hv : Value.okWide P w r b0 t v) (h : DataW.Trod enc P w base spare held t v d p) :
    ∃ (A : Option Addr) (c : Nat) (l : List (Option Addr × Nat × List UInt8)), v = .slice A l.length c ∧ l.length ≤ maxLen ∧ l.length ≤ c ∧ (∀ x ∈ l, RowOk w x) ∧ Reads w w.heap.size 1 A l.length (l.map rowv) :=
  open_cells ht hC hv h rowv (RowOk w) fun n u y hy => by
    obtain ⟨A, c, l, hcs, h1, h2, h3⟩ := open_bytes_core he he2 hC2 hy
    exact ⟨(A, c, l), by simpa [rowv] using hcs, h1, h2, h3⟩
end
end Go.Proofs.Ytmpmjgoipfgfoaa
