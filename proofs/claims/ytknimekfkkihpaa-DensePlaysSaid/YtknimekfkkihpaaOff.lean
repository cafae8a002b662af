/- A slice of the call's own that may begin in the midst of its block (behind 's = s[i:]'); one cell an element. Over any program. -/
import Derived.Test.YtknimekfkkihpaaZeros
namespace Go.Proofs.Ytknimekfkkihpaa
open Go.RowKit
def OwnO (w : World) (base : Nat) (e : TypeId) (A : Option Addr) (n c : Nat) (xs : List Value) : Prop :=
  xs.length = n ∧ ((A = none ∧ n = 0 ∧ c = 0) ∨ ∃ g o cur, A = some ⟨g, o, none⟩ ∧ base ≤ g ∧ w.heap[g]? = some (.cells cur e (0, 0)) ∧ n ≤ c ∧ c ≤ maxLen ∧ o + c ≤ cur.size ∧ ∀ j, j < n → cur[o + j]? = xs[j]?)
section
variable {w w' : World} {base : Nat} {e : TypeId} {A : Option Addr} {n c : Nat} {xs : List Value}
theorem OwnO.nil (w : World) (base : Nat) (e : TypeId) : OwnO w base e none 0 0 [] := ⟨rfl, .inl ⟨rfl, rfl, rfl⟩⟩
theorem OwnO.of_own (h : Own w base e 1 A n c xs) : OwnO w base e A n c xs := by
  have hl : xs.length = n := by have := h.len; omega
  refine ⟨hl, ?_⟩
  rcases h.2 with ⟨hv, h0⟩ | ⟨g, cap, cur, hv, hb, hg, hnc, hcm, hcs, htake⟩
  · injection hv with hA _ hc
    exact .inl ⟨hA, h0, hc⟩
  · injection hv with hA _ hc
    subst hc
    refine .inr ⟨g, 0, cur, hA, hb, hg, hnc, hcm, by omega, fun j hj => ?_⟩
    rw [← htake, List.getElem?_take, if_pos (by omega)]
    simp
theorem OwnO.len (h : OwnO w base e A n c xs) : xs.length = n := h.1
theorem OwnO.form (h : OwnO w base e A n c xs) (hn : 0 < n) : ∃ g o, A = some ⟨g, o, none⟩ ∧ base ≤ g ∧ g < w.heap.size ∧ n ≤ c ∧ (∀ j u, xs[j]? = some u → w.cell? ⟨g, o + j, none⟩ = some u) ∧ ∀ j, w.frozen? ⟨g, j, none⟩ = false := by
  rcases h.2 with ⟨_, h0, _⟩ | ⟨g, o, cur, hA, hb, hg, hnc, _, _, hc⟩
  · omega
  · refine ⟨g, o, hA, hb, lt_of_block hg, hnc, fun j u hu => ?_, fun j => ?_⟩
    · have hj : j < n := by rw [← h.1]; exact (List.getElem?_eq_some_iff.1 hu).1
      rw [cell_of_row w g (o + j) cur e (0, 0) hg, hc j hj, hu]
    · simp [World.frozen?, hg]
theorem OwnO.reads (h : OwnO w base e A n c xs) : Reads w w.heap.size 1 A n xs := by
  refine ⟨by rw [h.1, Nat.mul_one], fun hn => ?_⟩
  obtain ⟨g, o, hA, _, hlt, _, hc, _⟩ := h.form hn
  exact ⟨g, o, hA, hlt, hc⟩
theorem OwnO.block (h : OwnO w base e A n c xs) {g : Nat} (hg : blockOf A = some g) : base ≤ g ∧ g < w.heap.size := by
  rcases h.2 with ⟨hA, _, _⟩ | ⟨g', o, cur, hA, hb, hh, _⟩
  · subst hA; simp [blockOf] at hg
  · subst hA
    have : g' = g := by simpa [blockOf] using hg
    subst this
    exact ⟨hb, lt_of_block hh⟩
theorem OwnO.keep (h : OwnO w base e A n c xs) (hk : ∀ g, blockOf A = some g → w'.heap[g]? = w.heap[g]?) : OwnO w' base e A n c xs := by
  refine ⟨h.1, ?_⟩
  rcases h.2 with h0 | ⟨g, o, cur, hA, hb, hg, r⟩
  · exact .inl h0
  · exact .inr ⟨g, o, cur, hA, hb, by rw [hk g (by rw [hA]; rfl)]; exact hg, r⟩
theorem OwnO.drew (h : OwnO w base e A n c xs) : OwnO w.drew base e A n c xs := h
theorem OwnO.drewN (h : OwnO w base e A n c xs) (k : Nat) : OwnO (w.drewN k) base e A n c xs := h
theorem OwnO.alloc (h : OwnO w base e A n c xs) (o : Obj) : OwnO (w.alloc o) base e A n c xs := h.keep fun g hg => Below.heap_alloc w o g (h.block hg).2
theorem OwnO.below (h : OwnO w base e A n c xs) (hb : Below w.heap.size w w') : OwnO w' base e A n c xs := h.keep fun g hg => hb.block g (h.block hg).2
theorem OwnO.grown {row : Option Nat} (h : OwnO w base e A n c xs) (hg : w.grownBy w' row) (hne : ∀ g, blockOf A = some g → some g ≠ row) : OwnO w' base e A n c xs := h.keep fun g h1 => hg.block g (h.block h1).2 (hne g h1)
theorem OwnO.only {K : Nat → Prop} (h : OwnO w base e A n c xs) (hk : Only K w w') (hne : ∀ g, blockOf A = some g → ¬ K g) : OwnO w' base e A n c xs := h.keep fun g h1 => hk.block g (h.block h1).2 (hne g h1)
theorem OwnO.setOther (h : OwnO w base e A n c xs) {p : Addr} (hp : blockOf A ≠ some p.block) (u : Value) : OwnO (w.setCell p u) base e A n c xs :=
  h.keep fun g hg => Below.heap_setCell w p u g (fun e => hp (by rw [hg, e]))
theorem OwnO.ne_blk {g : Nat} {t : TypeId} {cs : Array Value} (h : OwnO w base e A n c xs) (hg : Blk w g t cs) (hne : e ≠ t) : blockOf A ≠ some g := by
  rcases h.2 with ⟨hA, _, _⟩ | ⟨g', o, cur, hA, _, hh, _⟩
  · subst hA; simp [blockOf]
  · subst hA
    intro he
    have : g' = g := by simpa [blockOf] using he
    subst this
    exact Blk.ne (t := e) hh hg hne rfl
theorem OwnO.mono {base' : Nat} (h : OwnO w base e A n c xs) (hb : base' ≤ base) : OwnO w base' e A n c xs := by
  refine ⟨h.1, ?_⟩
  rcases h.2 with h0 | ⟨g, o, cur, hA, hg, r⟩
  · exact .inl h0
  · exact .inr ⟨g, o, cur, hA, by omega, r⟩
theorem OwnO.stored {g o : Nat} (h : OwnO w base e (some ⟨g, o, none⟩) n c xs) (j : Nat) (hj : j < n) (u : Value) : OwnO (w.setCell ⟨g, o + j, none⟩ u) base e (some ⟨g, o, none⟩) n c (xs.set j u) := by
  refine ⟨by rw [List.length_set]; exact h.1, ?_⟩
  rcases h.2 with ⟨hA, _, _⟩ | ⟨g', o', cur, hA, hb, hg, hnc, hcm, hcs, hc⟩
  · cases hA
  · simp only [Option.some.injEq, Addr.mk.injEq] at hA
    obtain ⟨rfl, rfl, _⟩ := hA
    refine .inr ⟨g, o, cur.setIfInBounds (o + j) u, rfl, hb, Blk.put (t := e) hg (o + j) u, hnc, hcm, by simpa using hcs, fun i hi => ?_⟩
    rw [Array.getElem?_setIfInBounds, List.getElem?_set]
    by_cases hij : i = j
    · subst hij
      rw [if_pos rfl, if_pos (by omega), if_pos rfl, if_pos (by rw [h.1]; exact hi)]
    · rw [if_neg (by omega), if_neg (fun e => hij e.symm)]
      exact hc i hi
/-- s[i:] -/
theorem OwnO.from {g o : Nat} (h : OwnO w base e (some ⟨g, o, none⟩) n c xs) (i : Nat) (hi : i ≤ n) : OwnO w base e (some ⟨g, o + i, none⟩) (n - i) (c - i) (xs.drop i) := by
  refine ⟨by rw [List.length_drop, h.1], ?_⟩
  rcases h.2 with ⟨hA, _, _⟩ | ⟨g', o', cur, hA, hb, hg, hnc, hcm, hcs, hc⟩
  · cases hA
  · simp only [Option.some.injEq, Addr.mk.injEq] at hA
    obtain ⟨rfl, rfl, _⟩ := hA
    refine .inr ⟨g, o + i, cur, rfl, hb, hg, by omega, by omega, by omega, fun j hj => ?_⟩
    rw [List.getElem?_drop, ← hc (i + j) (by omega), Nat.add_assoc]
/-- s[:k] -/
theorem OwnO.upto {g o : Nat} (h : OwnO w base e (some ⟨g, o, none⟩) n c xs) (k : Nat) (hk : k ≤ n) : OwnO w base e (some ⟨g, o, none⟩) k c (xs.take k) := by
  refine ⟨by rw [List.length_take, h.1]; omega, ?_⟩
  rcases h.2 with ⟨hA, _, _⟩ | ⟨g', o', cur, hA, hb, hg, hnc, hcm, hcs, hc⟩
  · cases hA
  · simp only [Option.some.injEq, Addr.mk.injEq] at hA
    obtain ⟨rfl, rfl, _⟩ := hA
    refine .inr ⟨g, o, cur, rfl, hb, hg, by omega, hcm, hcs, fun j hj => ?_⟩
    rw [List.getElem?_take, if_pos hj, hc j (by omega)]
end
section
variable {P : Program} {w : World}
theorem run_appO_zeros {base : Nat} {t ti ty e : TypeId} {i : TypeInfo} {z : Value} {bytes : Nat} (ht : P.underlying t = some (.slice e)) (hti : P.underlying ti = some (.int .i64)) (hi : P.info? e = some i) (hz : i.zero = some z) (hsize : i.size = 1) (hby : i.bytes = bytes) (hb8 : bytes ≤ 16) (hzs : z.cells = #[z]) (hz1 : z.oneCell' = true)
    {A : Option Addr} {n c : Nat} {xs : List Value} (hown : OwnO w base e A n c xs) (m : Nat) (hm : 1 ≤ m) (h63 : n + m ≤ 140737488355328) (hbytes : (n + m) * bytes ≤ 140737488355328) (hbase : base ≤ w.heap.size) :
    ∃ A' c' w', (Builtin.append_ #[t, ti] ty #[.slice A n c, .int .i64 (m : Int)]).run P w = .ok (.slice A' (n + m) c') w' ∧ OwnO w' base e A' (n + m) c' (xs ++ List.replicate m z) ∧ w.grownBy w' (blockOf A) ∧
      (blockOf A' = blockOf A ∨ blockOf A' = some w.heap.size) := by
  subst hby
  have hml : n + m ≤ maxLen := by unfold maxLen; omega
  have hmb : m * i.bytes ≤ 140737488355328 := Nat.le_trans (Nat.mul_le_mul_right _ (by omega)) hbytes
  have hwrap : IntKind.i64.wrap (m : Int) = (m : Int) := IntWalk.i64_in _ ⟨by omega, by omega⟩
  have hmb2 : ¬ (281474976710656 : Int) < (m : Int) * (i.bytes : Int) := by
    have : ((m * i.bytes : Nat) : Int) ≤ 140737488355328 := by omega
    rw [Int.natCast_mul] at this
    omega
  have hneg : ¬ ((m : Int) < 0) := by omega
  have hm0 : m ≠ 0 := by omega
  have hzc := zeroCells_one z hzs m
  have hlen : (xs ++ List.replicate m z).length = n + m := by have := hown.len; simp; omega
  have h63' : ¬ (9223372036854775807 < ((n : Int) + (m : Int))) := by omega
  have h1 : ∀ u ∈ List.replicate m z, u.oneCell' = true := by
    intro u hu
    rw [(List.mem_replicate.1 hu).2]
    exact hz1
  have grown : ∀ (A0 : Option Addr) (old : Nat), old < n + m → (Builtin.firstCells 1 n (.slice A0 n old)).run P w.drew = .ok xs.toArray w.drew → Builtin.nextslicecap (n + m) old * i.bytes ≤ 281474976710656 → ∀ (row : Option Nat),
      ∃ A' c' w', (Builtin.append_ #[t, ti] ty #[.slice A0 n old, .int .i64 (m : Int)]).run P w = .ok (.slice A' (n + m) c') w' ∧ OwnO w' base e A' (n + m) c' (xs ++ List.replicate m z) ∧ w.grownBy w' row ∧ blockOf A' = some w.heap.size := by
    intro A0 old ho hold hnx row
    have hge := grownCap_ge w (n + m) old e
    have hcm : grownCap w (n + m) old e ≤ maxLen := grownCap_le_maxLen w (n + m) old e hml
    have hn : ¬ (n + m ≤ old) := by omega
    have h48' : ¬ (281474976710656 < Builtin.nextslicecap (n + m) old * i.bytes) := by omega
    refine ⟨some ⟨w.heap.size, 0, none⟩, grownCap w (n + m) old e, w.drew.alloc (.cells ((xs ++ List.replicate m z).toArray ++ Builtin.zeroCells z.cells (grownCap w (n + m) old e - (n + m))) e), ?_, ⟨hlen, .inr ⟨w.heap.size, 0, _, rfl, hbase, heap_alloc_new w.drew _, hge, hcm, ?_, ?_⟩⟩, ⟨rfl, rfl, rfl, by simp, fun k hk _ => Below.heap_alloc w.drew _ k hk⟩, rfl⟩
    · simp [Builtin.append_, run_underlying ht, run_underlying hti, sizeOf, typeInfo, zeroValue, hi, hz, hsize, asInt, asIntOf, hwrap, hneg, hmb2, hn, h63', h48', Question.forced, hold, hm0, hzc, newRow, grownCap]
      congr 2
      apply Array.ext'
      simp [List.append_assoc]
    · simp only [Array.size_append, List.size_toArray, size_zeroCells, hzs, hlen]
      simp
      omega
    · intro j hj
      rw [Nat.zero_add, Array.getElem?_append_left (by rw [List.size_toArray, hlen]; exact hj)]
      simp
  rcases hown.2 with ⟨hA, h0, hc⟩ | ⟨g, o, cur, hA, hbg, hg, hnc, hcm, hcs, hcc⟩
  · subst hA
    subst hc
    subst h0
    have hx : xs = [] := List.eq_nil_of_length_eq_zero hown.1
    subst hx
    obtain ⟨A', c', w', r1, r2, r3, r4⟩ := grown none 0 (by omega) (run_firstCells_none w.drew 1 0 0 0) (by unfold Builtin.nextslicecap; rw [if_pos (by omega)]; omega) (blockOf none)
    exact ⟨A', c', w', r1, r2, r3, .inr r4⟩
  · subst hA
    by_cases hroom : n + m ≤ c
    · have hfit : o + n + m ≤ cur.size := by omega
      have hst := run_storeCells_at P g (o + n) e (List.replicate m z) 0 cur w hg (by simpa using hfit) h1
      simp only [Nat.add_zero] at hst
      refine ⟨some ⟨g, o, none⟩, c, w.setRow g (cur.toList.take (o + n) ++ List.replicate m z ++ cur.toList.drop (o + n + (List.replicate m z).length)).toArray, ?_, ⟨hlen, .inr ⟨g, o, _, rfl, hbg, setRow_heap w g cur _ e _ hg, hroom, hcm, ?_, ?_⟩⟩, ⟨rfl, rfl, rfl, by simp, fun k _ hk => setRow_other w g k _ (fun e => hk (by simp [blockOf, e]))⟩, .inl rfl⟩
      · simp [Builtin.append_, run_underlying ht, run_underlying hti, sizeOf, typeInfo, zeroValue, hi, hz, hsize, asInt, asIntOf, hwrap, hneg, hmb2, hroom, hm0, hzc, Addr.add_lit, hst]
      · simp only [List.size_toArray, List.length_append, List.length_take, List.length_drop, Array.length_toList, List.length_replicate]
        omega
      · intro j hj
        have hn : xs.length = n := hown.1
        rw [List.getElem?_toArray, List.append_assoc]
        by_cases hjn : j < n
        · rw [List.getElem?_append_left (by simp; omega), List.getElem?_take, if_pos (by omega), List.getElem?_append_left (by omega), ← hcc j hjn]
          simp
        · rw [List.getElem?_append_right (by simp; omega), List.getElem?_append_left (by simp; omega), List.getElem?_append_right (by omega)]
          rw [List.getElem?_replicate, List.getElem?_replicate, if_pos (by simp; omega), if_pos (by omega)]
    · have holds : ∀ j u, xs[j]? = some u → w.cell? ((⟨g, o, none⟩ : Addr).add j) = some u := fun j u hu => by
        have hj : j < n := by rw [← hown.1]; exact (List.getElem?_eq_some_iff.1 hu).1
        rw [add_lit, cell_of_row w g (o + j) cur e (0, 0) hg, hcc j hj, hu]
      obtain ⟨A', c', w', r1, r2, r3, r4⟩ := grown (some ⟨g, o, none⟩) c (by omega) (run_firstCells_some w.drew 1 n ⟨g, o, none⟩ n c xs (by rw [hown.1, Nat.mul_one]) (by simpa using holds)) (growslice_fits (by omega) hbytes) (blockOf (some ⟨g, o, none⟩))
      exact ⟨A', c', w', r1, r2, r3, .inr r4⟩
/-- At a step of a region that draws its order. -/
theorem stepO_zeros {ops : Array Oper} {o : Oper} {a : Act} {K : Act → World → Prop} {Q : Exit → Act → World → Prop} {E : Prop} (hgd : o.guard = none) {s x : Operand} {t ti : TypeId}
    (ho : o.op = .call { callee := .builtin .append, args := #[s, x], argTypes := #[t, ti] })
    {base : Nat} {e : TypeId} {i : TypeInfo} {z : Value} {bytes : Nat} (ht : P.underlying t = some (.slice e)) (hti : P.underlying ti = some (.int .i64)) (hi : P.info? e = some i) (hz : i.zero = some z) (hsize : i.size = 1) (hby : i.bytes = bytes) (hb8 : bytes ≤ 16) (hzs : z.cells = #[z]) (hz1 : z.oneCell' = true)
    {A : Option Addr} {n c : Nat} {xs : List Value} (hs : a.eval s = .slice A n c) (hown : OwnO w base e A n c xs) (m : Nat) (hx : a.eval x = .int .i64 (m : Int)) (hm : 1 ≤ m) (h63 : n + m ≤ 140737488355328) (hbytes : (n + m) * bytes ≤ 140737488355328) (hbase : base ≤ w.heap.size)
    (h : ∀ A' c' w', OwnO w' base e A' (n + m) c' (xs ++ List.replicate m z) → w.grownBy w' (blockOf A) → (blockOf A' = blockOf A ∨ blockOf A' = some w.heap.size) → K (a.put o.dst (.slice A' (n + m) c')) w') :
    if Region.wanted o (yielded ops a.tmps) = true then Oper.wp P o a w K Q else E := by
  have hw : Region.wanted o (yielded ops a.tmps) = true := by simp [Region.wanted, hgd]
  rw [if_pos hw]
  obtain ⟨A', c', w', hrun, h2, h3, h4⟩ := run_appO_zeros (ty := o.type) ht hti hi hz hsize hby hb8 hzs hz1 hown m hm h63 hbytes hbase
  unfold Oper.wp execOp
  simp only [ho, resolve, invoke, builtin, Sem.run_bind, Sem.run_pure, Result.andThen_ok, List.map_toArray, List.map_cons, List.map_nil, hs, hx, hrun]
  exact h A' c' w' h2 h3 h4
end
end Go.Proofs.Ytknimekfkkihpaa
