/- 'append(s, make([]T, m)...)' onto a slice of the call's own: the translation hands the builtin the number m. Elements of one cell. Over any program. -/
import Derived.Test.YtknimekfkkihpaaBase
namespace Go.Proofs.Ytknimekfkkihpaa
open Go.RowKit
section
variable {P : Program} {w : World}
theorem zeroCells_one (z : Value) (hz : z.cells = #[z]) (m : Nat) : Builtin.zeroCells z.cells m = (List.replicate m z).toArray := by
  rw [hz]
  apply Array.ext
  · simp [Builtin.zeroCells]
  · intro i h1 h2
    simp [Builtin.zeroCells, Nat.mod_one]
theorem run_app_zeros {base : Nat} {t ti ty e : TypeId} {i : TypeInfo} {z : Value} {bytes : Nat} (ht : P.underlying t = some (.slice e)) (hti : P.underlying ti = some (.int .i64)) (hi : P.info? e = some i) (hz : i.zero = some z) (hsize : i.size = 1) (hby : i.bytes = bytes) (hb8 : bytes ≤ 16) (hzs : z.cells = #[z]) (hz1 : z.oneCell' = true)
    {A : Option Addr} {n c : Nat} {xs : List Value} (hown : Own w base e 1 A n c xs) (m : Nat) (hm : 1 ≤ m) (h63 : n + m ≤ 140737488355328) (hbytes : (n + m) * bytes ≤ 140737488355328) (hbase : base ≤ w.heap.size) :
    ∃ A' c' w', (Builtin.append_ #[t, ti] ty #[.slice A n c, .int .i64 (m : Int)]).run P w = .ok (.slice A' (n + m) c') w' ∧ Own w' base e 1 A' (n + m) c' (xs ++ List.replicate m z) ∧ w.grownBy w' (blockOf A) ∧
      (blockOf A' = blockOf A ∨ blockOf A' = some w.heap.size) := by
  subst hby
  have hml : n + m ≤ maxLen := by unfold maxLen; omega
  have hmb : m * i.bytes ≤ 140737488355328 := Nat.le_trans (Nat.mul_le_mul_right _ (by omega)) hbytes
  have hwrap : IntKind.i64.wrap (m : Int) = (m : Int) := IntWalk.i64_in _ ⟨by omega, by omega⟩
  have hmb2 : ¬ (281474976710656 : Int) < (m : Int) * (i.bytes : Int) := by
    have : ((m * i.bytes : Nat) : Int) ≤ 140737488355328 := by omega
    rw [Int.natCast_mul] at this
    omega
  have hneg : ¬ ((m : Int) < 0) := by omega
  have hm0 : m ≠ 0 := by omega
  have hzc := zeroCells_one z hzs m
  have hlen : (xs ++ List.replicate m z).length = (n + m) * 1 := by have := hown.len; simp; omega
  have h63' : ¬ (9223372036854775807 < ((n : Int) + (m : Int))) := by omega
  have h1 : ∀ u ∈ List.replicate m z, u.oneCell' = true := by
    intro u hu
    rw [(List.mem_replicate.1 hu).2]
    exact hz1
  have grown : ∀ (A0 : Option Addr) (old : Nat), old < n + m → (Builtin.firstCells 1 n (.slice A0 n old)).run P w.drew = .ok xs.toArray w.drew → Builtin.nextslicecap (n + m) old * i.bytes ≤ 281474976710656 → ∀ (row : Option Nat),
      ∃ A' c' w', (Builtin.append_ #[t, ti] ty #[.slice A0 n old, .int .i64 (m : Int)]).run P w = .ok (.slice A' (n + m) c') w' ∧ Own w' base e 1 A' (n + m) c' (xs ++ List.replicate m z) ∧ w.grownBy w' row ∧ blockOf A' = some w.heap.size := by
    intro A0 old ho hold hnx row
    have hge := grownCap_ge w (n + m) old e
    have hcm : grownCap w (n + m) old e ≤ maxLen := grownCap_le_maxLen w (n + m) old e hml
    have hn : ¬ (n + m ≤ old) := by omega
    have h48' : ¬ (281474976710656 < Builtin.nextslicecap (n + m) old * i.bytes) := by omega
    refine ⟨some ⟨w.heap.size, 0, none⟩, grownCap w (n + m) old e, w.drew.alloc (.cells ((xs ++ List.replicate m z).toArray ++ Builtin.zeroCells z.cells (grownCap w (n + m) old e - (n + m))) e), ?_, ⟨hlen, .inr ⟨w.heap.size, _, _, rfl, hbase, heap_alloc_new w.drew _, hge, hcm, ?_, ?_⟩⟩, ⟨rfl, rfl, rfl, by simp, fun k hk _ => Below.heap_alloc w.drew _ k hk⟩, rfl⟩
    · simp [Builtin.append_, run_underlying ht, run_underlying hti, sizeOf, typeInfo, zeroValue, hi, hz, hsize, asInt, asIntOf, hwrap, hneg, hmb2, hn, h63', h48', Question.forced, hold, hm0, hzc, newRow, grownCap]
      congr 2
      apply Array.ext'
      simp [List.append_assoc]
    · simp only [Array.size_append, List.size_toArray, size_zeroCells, hzs, hlen]
      simp
      omega
    · simp only [Array.toList_append]
      rw [← hlen]
      exact List.take_left
  rcases hown.2 with ⟨hv, h0⟩ | ⟨g, cap, cur, hv, hbg, hg, hnc, hcm, hcs, htake⟩
  · injection hv with hA _ hc
    subst hA
    subst hc
    subst h0
    have hx : xs = [] := List.eq_nil_of_length_eq_zero (by have := hown.1; simpa using this)
    subst hx
    obtain ⟨A', c', w', r1, r2, r3, r4⟩ := grown none 0 (by omega) (run_firstCells_none w.drew 1 0 0 0) (by unfold Builtin.nextslicecap; rw [if_pos (by omega)]; omega) (blockOf none)
    exact ⟨A', c', w', r1, r2, r3, .inr r4⟩
  · injection hv with hA _ hc
    subst hA
    subst hc
    by_cases hroom : n + m ≤ c
    · have hfit : n + m ≤ cur.size := by omega
      have hst := run_storeCells_at P g n e (List.replicate m z) 0 cur w hg (by simpa using hfit) h1
      simp only [Nat.add_zero] at hst
      refine ⟨some ⟨g, 0, none⟩, c, w.setRow g (cur.toList.take n ++ List.replicate m z ++ cur.toList.drop (n + (List.replicate m z).length)).toArray, ?_, ⟨hlen, .inr ⟨g, c, _, rfl, hbg, setRow_heap w g cur _ e _ hg, hroom, hcm, ?_, ?_⟩⟩, ⟨rfl, rfl, rfl, by simp, fun k _ hk => setRow_other w g k _ (fun e => hk (by simp [blockOf, e]))⟩, .inl rfl⟩
      · simp [Builtin.append_, run_underlying ht, run_underlying hti, sizeOf, typeInfo, zeroValue, hi, hz, hsize, asInt, asIntOf, hwrap, hneg, hmb2, hroom, hm0, hzc, Addr.add_lit, hst]
      · simp only [List.size_toArray, List.length_append, List.length_take, List.length_drop, Array.length_toList, List.length_replicate]
        omega
      · rw [Nat.mul_one] at htake
        rw [htake, ← hlen]
        exact List.take_left
    · have holds : ∀ j u, xs[j]? = some u → w.cell? ((⟨g, 0, none⟩ : Addr).add j) = some u := World.ownsRow.cells hown (g := g) rfl
      obtain ⟨A', c', w', r1, r2, r3, r4⟩ := grown (some ⟨g, 0, none⟩) c (by omega) (run_firstCells_some w.drew 1 n ⟨g, 0, none⟩ n c xs hown.1 (by simpa using holds)) (growslice_fits (by omega) hbytes) (blockOf (some ⟨g, 0, none⟩))
      exact ⟨A', c', w', r1, r2, r3, .inr r4⟩
/-- At a step of a region that draws its order. -/
theorem step_zeros {ops : Array Oper} {o : Oper} {a : Act} {K : Act → World → Prop} {Q : Exit → Act → World → Prop} {E : Prop} (hgd : o.guard = none) {s x : Operand} {t ti : TypeId}
    (ho : o.op = .call { callee := .builtin .append, args := #[s, x], argTypes := #[t, ti] })
    {base : Nat} {e : TypeId} {i : TypeInfo} {z : Value} {bytes : Nat} (ht : P.underlying t = some (.slice e)) (hti : P.underlying ti = some (.int .i64)) (hi : P.info? e = some i) (hz : i.zero = some z) (hsize : i.size = 1) (hby : i.bytes = bytes) (hb8 : bytes ≤ 16) (hzs : z.cells = #[z]) (hz1 : z.oneCell' = true)
    {A : Option Addr} {n c : Nat} {xs : List Value} (hs : a.eval s = .slice A n c) (hown : Own w base e 1 A n c xs) (m : Nat) (hx : a.eval x = .int .i64 (m : Int)) (hm : 1 ≤ m) (h63 : n + m ≤ 140737488355328) (hbytes : (n + m) * bytes ≤ 140737488355328) (hbase : base ≤ w.heap.size)
    (h : ∀ A' c' w', Own w' base e 1 A' (n + m) c' (xs ++ List.replicate m z) → w.grownBy w' (blockOf A) → (blockOf A' = blockOf A ∨ blockOf A' = some w.heap.size) → K (a.put o.dst (.slice A' (n + m) c')) w') :
    if Region.wanted o (yielded ops a.tmps) = true then Oper.wp P o a w K Q else E := by
  have hw : Region.wanted o (yielded ops a.tmps) = true := by simp [Region.wanted, hgd]
  rw [if_pos hw]
  obtain ⟨A', c', w', hrun, h2, h3, h4⟩ := run_app_zeros (ty := o.type) ht hti hi hz hsize hby hb8 hzs hz1 hown m hm h63 hbytes hbase
  unfold Oper.wp execOp
  simp only [ho, resolve, invoke, builtin, Sem.run_bind, Sem.run_pure, Result.andThen_ok, List.map_toArray, List.map_cons, List.map_nil, hs, hx, hrun]
  exact h A' c' w' h2 h3 h4
end
end Go.Proofs.Ytknimekfkkihpaa
