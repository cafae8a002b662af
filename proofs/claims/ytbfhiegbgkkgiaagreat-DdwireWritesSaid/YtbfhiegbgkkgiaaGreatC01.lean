/- Words for memory, over any program: a slice that reads as a list of cells, a block that is known whole, what an append leaves. -/
import Derived.WalkKit
import Derived.WalkLawsBesides
import Derived.WalkSpells
import Derived.Laws.OwnMore
import Derived.Deep.AppendLies
import Derived.Deep.Draws
import Derived.Maps.AppendAt
import Derived.Lib.Hide
import Derived.Lib.SlBytesConst
import Derived.Lib.Strings
import Derived.Laws.BytesArg
import Derived.Handy
import Derived.Test.YtbfhiegbgkkgiaaGreatChecked
namespace Go.Proofs.YtbfhiegbgkkgiaaGreat
open Go.RowKit

theorem block_add (a : Addr) (n : Nat) : (a.add n).block = a.block := by unfold Addr.add; split <;> rfl
theorem add_assoc (a : Addr) (i j : Nat) : (a.add i).add j = a.add (i + j) := by
  unfold Addr.add
  by_cases hi : i = 0 <;> by_cases hj : j = 0 <;> simp [hi, hj, Nat.add_assoc]
theorem add_lit (b o j : Nat) : (⟨b, o, none⟩ : Addr).add j = ⟨b, o + j, none⟩ := by simp [Addr.add_lit]

/-- Block g is just the cells cs of type t, none frozen. -/
def Blk (w : World) (g : Nat) (t : TypeId) (cs : Array Value) : Prop := w.heap[g]? = some (.cells cs t (0, 0))
section
variable {w w' : World} {g : Nat} {t : TypeId} {cs : Array Value}
theorem Blk.lt (h : Blk w g t cs) : g < w.heap.size := lt_of_block h
theorem Blk.cell (h : Blk w g t cs) (i : Nat) : w.cell? ⟨g, i, none⟩ = cs[i]? := cell_of_row w g i cs t (0, 0) h
theorem Blk.free (h : Blk w g t cs) (i : Nat) : w.frozen? ⟨g, i, none⟩ = false := by
  unfold Blk at h
  simp [World.frozen?, h]
theorem Blk.new (w : World) (t : TypeId) (cs : Array Value) : Blk (w.alloc (.cells cs t)) w.heap.size t cs := heap_alloc_new w _
theorem Blk.drew (h : Blk w g t cs) : Blk w.drew g t cs := h
theorem Blk.drewN (h : Blk w g t cs) (n : Nat) : Blk (w.drewN n) g t cs := h
theorem Blk.alloc (h : Blk w g t cs) (o : Obj) : Blk (w.alloc o) g t cs := (Below.heap_alloc w o g h.lt).trans h
theorem Blk.put (h : Blk w g t cs) (i : Nat) (u : Value) : Blk (w.setCell ⟨g, i, none⟩ u) g t (cs.setIfInBounds i u) := by
  unfold Blk at h ⊢
  simp [World.setCell, Array.getElem?_modify, h]
theorem Blk.far (h : Blk w g t cs) {p : Addr} (hp : g ≠ p.block) (u : Value) : Blk (w.setCell p u) g t cs := (Below.heap_setCell w p u g hp).trans h
theorem Blk.below {B : Nat} (h : Blk w g t cs) (hb : Below B w w') (hg : g < B) : Blk w' g t cs := (hb.block g hg).trans h
theorem Blk.grown {row : Option Nat} (h : Blk w g t cs) (hb : w.grownBy w' row) (hg : some g ≠ row) : Blk w' g t cs := (hb.block g h.lt hg).trans h
theorem Blk.ne {g' : Nat} {t' : TypeId} {cs' : Array Value} (h : Blk w g t cs) (h' : Blk w g' t' cs') (hne : t ≠ t') : g ≠ g' := by
  rintro rfl
  unfold Blk at h h'
  rw [h] at h'
  injection h' with h'
  injection h' with _ ht
  exact hne ht
end

/-- The slice value '.slice A n _' holds the cells xs ('size' to an element) and lies below block B. -/
def Reads (w : World) (B size : Nat) (A : Option Addr) (n : Nat) (xs : List Value) : Prop :=
  xs.length = n * size ∧ (0 < n → ∃ b o, A = some ⟨b, o, none⟩ ∧ b < B ∧ ∀ j u, xs[j]? = some u → w.cell? ⟨b, o + j, none⟩ = some u)
section
variable {w w' : World} {B B' size n : Nat} {A : Option Addr} {xs : List Value}
theorem Reads.empty (w : World) (B size : Nat) (A : Option Addr) : Reads w B size A 0 [] := ⟨by simp, fun h => absurd h (by omega)⟩
theorem Reads.keep (h : Reads w B size A n xs) (hk : ∀ p : Addr, p.block < B → w'.cell? p = w.cell? p) : Reads w' B size A n xs :=
  ⟨h.1, fun hn => by
    obtain ⟨b, o, e, hb, hc⟩ := h.2 hn
    exact ⟨b, o, e, hb, fun j u hu => (hk _ hb).trans (hc j u hu)⟩⟩
theorem Reads.more (h : Reads w B size A n xs) (hB : B ≤ B') : Reads w B' size A n xs :=
  ⟨h.1, fun hn => by
    obtain ⟨b, o, e, hb, hc⟩ := h.2 hn
    exact ⟨b, o, e, by omega, hc⟩⟩
theorem Reads.below (h : Reads w B size A n xs) (hb : Below B w w') : Reads w' B size A n xs := h.keep fun _ hp => hb.cell hp
theorem Reads.drew (h : Reads w B size A n xs) : Reads w.drew B size A n xs := h
theorem Reads.drewN (h : Reads w B size A n xs) (k : Nat) : Reads (w.drewN k) B size A n xs := h
theorem Reads.alloc (h : Reads w B size A n xs) (hB : B ≤ w.heap.size) (o : Obj) : Reads (w.alloc o) B size A n xs := h.keep fun p hp => World.cell?_alloc_lt w o p (by omega)
theorem Reads.grown (h : Reads w B size A n xs) {row : Option Nat} (hg : w.grownBy w' row) (hB : B ≤ w.heap.size) (hr : ∀ g, row = some g → B ≤ g) : Reads w' B size A n xs :=
  h.keep fun p hp => World.cell?_of_block (hg.block p.block (by omega) (fun e => by have := hr _ e.symm; omega))
end

theorem Reads.at_below {w w' : World} {size n : Nat} {A : Option Addr} {xs : List Value} (h : Reads w w.heap.size size A n xs) (hb : Below w.heap.size w w') : Reads w' w'.heap.size size A n xs := (h.below hb).more hb.size
theorem Reads.take {w : World} {B size n k : Nat} {A : Option Addr} {xs : List Value} (h : Reads w B size A n xs) (hk : k ≤ n) : Reads w B size A k (xs.take (k * size)) := by
  refine ⟨?_, fun hn => ?_⟩
  · rw [List.length_take, h.1, Nat.min_eq_left (Nat.mul_le_mul_right _ hk)]
  · obtain ⟨b, o, e, hb, hc⟩ := h.2 (by omega)
    refine ⟨b, o, e, hb, fun j u hu => hc j u ?_⟩
    rw [List.getElem?_take] at hu
    split at hu
    · exact hu
    · cases hu
/-- A byte, bytes, as values. -/
def bv (b : UInt8) : Value := .int .u8 (b.toNat : Int)
def bvs (l : List UInt8) : List Value := l.map bv
theorem bvs_length (l : List UInt8) : (bvs l).length = l.length := by simp [bvs]
theorem bvs_append (l m : List UInt8) : bvs (l ++ m) = bvs l ++ bvs m := by simp [bvs]
theorem bvs_take (l : List UInt8) (k : Nat) : bvs (l.take k) = (bvs l).take k := by simp [bvs]
theorem bvs_drop (l : List UInt8) (k : Nat) : bvs (l.drop k) = (bvs l).drop k := by simp [bvs]
theorem bvs_one (l : List UInt8) : ∀ u ∈ bvs l, u.oneCell' = true := by
  intro u hu
  obtain ⟨_, _, rfl⟩ := List.mem_map.1 hu
  rfl
/-- The slice '.slice A l.length _' holds the bytes l and lies below block B. -/
def Bts (w : World) (B : Nat) (A : Option Addr) (l : List UInt8) : Prop := Reads w B 1 A l.length (bvs l)
section
variable {w w' : World} {B B' : Nat} {A : Option Addr} {l : List UInt8}
theorem Bts.at_ (h : Bts w B A l) (hn : 0 < l.length) : ∃ b o, A = some ⟨b, o, none⟩ ∧ b < B ∧ ∀ j (hj : j < l.length), w.cell? ⟨b, o + j, none⟩ = some (.int .u8 (l[j].toNat : Int)) := by
  obtain ⟨b, o, e, hb, hc⟩ := h.2 hn
  exact ⟨b, o, e, hb, fun j hj => hc j _ (by simp [bvs, bv, hj])⟩
theorem Bts.empty (w : World) (B : Nat) (A : Option Addr) : Bts w B A [] := Reads.empty ..
theorem Bts.keep (h : Bts w B A l) (hk : ∀ p : Addr, p.block < B → w'.cell? p = w.cell? p) : Bts w' B A l := Reads.keep h hk
theorem Bts.more (h : Bts w B A l) (hB : B ≤ B') : Bts w B' A l := Reads.more h hB
theorem Bts.below (h : Bts w B A l) (hb : Below B w w') : Bts w' B A l := Reads.below h hb
theorem Bts.alloc (h : Bts w B A l) (hB : B ≤ w.heap.size) (o : Obj) : Bts (w.alloc o) B A l := Reads.alloc h hB o
theorem Bts.grown (h : Bts w B A l) {row : Option Nat} (hg : w.grownBy w' row) (hB : B ≤ w.heap.size) (hr : ∀ g, row = some g → B ≤ g) : Bts w' B A l := Reads.grown h hg hB hr
end

theorem Bts.new (w : World) (t : TypeId) (cs : Array Value) (l : List UInt8) (h : cs.toList = bvs l) : Bts (w.alloc (.cells cs t)) (w.alloc (.cells cs t)).heap.size (some ⟨w.heap.size, 0, none⟩) l :=
  ⟨by simp [bvs_length], fun _ => ⟨w.heap.size, 0, rfl, by simp, fun j u hu => by
    rw [Nat.zero_add, (Blk.new w t cs).cell, ← hu, ← h]; simp⟩⟩
theorem Bts.lit {w : World} {g : Nat} {cs : Array Value} {t : TypeId} {m : Nat × Nat} {l : List UInt8} (h : w.heap[g]? = some (.cells cs t m)) (hcs : cs.toList = bvs l) : Bts w w.heap.size (some ⟨g, 0, none⟩) l :=
  ⟨by simp [bvs_length], fun _ => ⟨g, 0, rfl, lt_of_block h, fun j u hu => by
    rw [Nat.zero_add, cell_of_row w g j cs t m h, ← hu, ← hcs]; simp⟩⟩
theorem Reads.lit {w : World} {g size n : Nat} {cs : Array Value} {t : TypeId} {m : Nat × Nat} {xs : List Value} (h : w.heap[g]? = some (.cells cs t m)) (hcs : cs.toList = xs) (hn : xs.length = n * size) : Reads w w.heap.size size (some ⟨g, 0, none⟩) n xs :=
  ⟨hn, fun _ => ⟨g, 0, rfl, lt_of_block h, fun j u hu => by
    rw [Nat.zero_add, cell_of_row w g j cs t m h, ← hu, ← hcs]; simp⟩⟩
theorem newest (w : World) (o : Obj) : (w.alloc o).heap[w.heap.size]? = some o := heap_alloc_new w o
theorem Bts.up {w w' : World} {B : Nat} {A : Option Addr} {l : List UInt8} (h : Bts w B A l) (hB : B ≤ w.heap.size) (hb : Below w.heap.size w w') : Bts w' w'.heap.size A l :=
  ((h.more hB).below hb).more hb.size
/-- What belongs to the caller, seen from a later world. -/
theorem Bts.at_below {w w' : World} {A : Option Addr} {l : List UInt8} (h : Bts w w.heap.size A l) (hb : Below w.heap.size w w') : Bts w' w'.heap.size A l := h.up (Nat.le_refl _) hb
/-- A slice of the call's own: '.slice A n c' owns the cells xs, in a block from 'base' on. -/
def Own (w : World) (base : Nat) (e : TypeId) (size : Nat) (A : Option Addr) (n c : Nat) (xs : List Value) : Prop := w.ownsRow base e size (.slice A n c) n xs
/-- The block in which it lies. -/
def blockOf (A : Option Addr) : Option Nat := A.map (·.block)
theorem ownBlock_slice (A : Option Addr) (n c : Nat) : (Value.slice A n c).ownBlock = blockOf A := by cases A <;> rfl
section
variable {w w' : World} {base : Nat} {e : TypeId} {size : Nat} {A : Option Addr} {n c : Nat} {xs : List Value}
theorem own_shape {v : Value} (h : w.ownsRow base e size v n xs) : ∃ A c, v = .slice A n c := by
  rcases h.2 with ⟨rfl, rfl⟩ | ⟨g, cap, cur, rfl, _⟩
  · exact ⟨none, 0, rfl⟩
  · exact ⟨_, _, rfl⟩
theorem Own.nil (w : World) (base : Nat) (e : TypeId) (size : Nat) : Own w base e size none 0 0 [] := World.ownsRow_nil w base e size
theorem Own.made (w : World) (base : Nat) (e : TypeId) (size : Nat) (cs : Array Value) (n : Nat) (hb : base ≤ w.heap.size) (hm : n ≤ maxLen) (hs : cs.size = n * size) :
    Own (w.alloc (.cells cs e)) base e size (some ⟨w.heap.size, 0, none⟩) n n cs.toList := World.ownsRow_lit w cs n hb hm hs
theorem Own.len (h : Own w base e size A n c xs) : xs.length = n * size := h.1
theorem Own.reads (h : Own w base e size A n c xs) : Reads w w.heap.size size A n xs := by
  refine ⟨h.1, fun hn => ?_⟩
  rcases h.2 with ⟨_, h0⟩ | ⟨g, cap, cur, hv, _, hg, hnc, hcm, hcs, htake⟩
  · omega
  · injection hv with hA _ _
    subst hA
    exact ⟨g, 0, rfl, lt_of_block hg, fun j u hu => by
      rw [Nat.zero_add, cell_of_row w g j cur e (0, 0) hg]
      rw [← htake, List.getElem?_take] at hu
      split at hu
      · simpa using hu
      · cases hu⟩
/-- Where there is an element: the block, its cells, none frozen. -/
theorem Own.form (h : Own w base e size A n c xs) (hn : 0 < n) : ∃ g, A = some ⟨g, 0, none⟩ ∧ base ≤ g ∧ g < w.heap.size ∧ n ≤ c ∧ (∀ j u, xs[j]? = some u → w.cell? ⟨g, j, none⟩ = some u) ∧ ∀ j, w.frozen? ⟨g, j, none⟩ = false := by
  have hh := h
  rcases h.2 with ⟨_, h0⟩ | ⟨g, cap, cur, hv, hb, hg, hnc, hcm, hcs, htake⟩
  · omega
  · injection hv with hA _ hc
    subst hA
    subst hc
    refine ⟨g, rfl, hb, lt_of_block hg, hnc, fun j u hu => ?_, World.ownsRow.frozenAt hh⟩
    rw [cell_of_row w g j cur e (0, 0) hg]
    rw [← htake, List.getElem?_take] at hu
    split at hu
    · simpa using hu
    · cases hu
theorem Own.stored {g : Nat} (h : Own w base e size (some ⟨g, 0, none⟩) n c xs) (j : Nat) (u : Value) : Own (w.setCell ⟨g, j, none⟩ u) base e size (some ⟨g, 0, none⟩) n c (xs.set j u) := (World.ownsRow.stored h j u).1
theorem Own.kept {row : Option Nat} (h : Own w base e size A n c xs) (hg : w.grownBy w' row) (hne : blockOf A = none ∨ blockOf A ≠ row) : Own w' base e size A n c xs :=
  World.ownsRow.kept h hg (by rw [ownBlock_slice]; exact hne)
theorem Own.alloc (h : Own w base e size A n c xs) (o : Obj) : Own (w.alloc o) base e size A n c xs := World.ownsRow.alloc h o
theorem Own.drew (h : Own w base e size A n c xs) : Own w.drew base e size A n c xs := h
theorem Own.block (h : Own w base e size A n c xs) {g : Nat} (hg : blockOf A = some g) : base ≤ g ∧ g < w.heap.size := World.ownsRow.lt h g (by rw [ownBlock_slice]; exact hg)
theorem Own.below (h : Own w base e size A n c xs) (hb : Below w.heap.size w w') : Own w' base e size A n c xs :=
  h.kept (row := none) ⟨hb.os, hb.tape, hb.output, hb.size, fun k hk _ => hb.block k hk⟩ (by cases A <;> simp [blockOf])
theorem Own.setOther (h : Own w base e size A n c xs) {p : Addr} (hp : blockOf A ≠ some p.block) (u : Value) : Own (w.setCell p u) base e size A n c xs :=
  ownsRow_setCell_other h (by rw [ownBlock_slice]; exact hp) u
theorem Own.ne_blk {g : Nat} {t : TypeId} {cs : Array Value} (h : Own w base e size A n c xs) (hg : Blk w g t cs) (hne : e ≠ t) : blockOf A ≠ some g := by
  rcases h.2 with ⟨hv, _⟩ | ⟨g', cap, cur, hv, _, hh, _⟩
  · injection hv with hA _ _
    subst hA
    simp [blockOf]
  · injection hv with hA _ _
    subst hA
    intro he
    have : g' = g := by simpa [blockOf] using he
    subst this
    exact Blk.ne (t := e) hh hg hne rfl
theorem Own.mono {base' : Nat} (h : Own w base e size A n c xs) (hb : base' ≤ base) : Own w base' e size A n c xs := by
  refine ⟨h.1, ?_⟩
  rcases h.2 with h0 | ⟨g, cap, cur, hv, hg, r⟩
  · exact .inl h0
  · exact .inr ⟨g, cap, cur, hv, by omega, r⟩
end

/-- All that an append asks of the element's type. -/
def Elem (P : Program) (t e : TypeId) (size bytes : Nat) : Prop :=
  P.underlying t = some (.slice e) ∧ ∃ i z, P.info? e = some i ∧ i.zero = some z ∧ i.size = size ∧ i.bytes = bytes ∧ z.cells.size = size ∧ 0 < size
theorem elem_of {P : Program} {t e : TypeId} {z : Value} {size bytes : Nat} (ht : P.underlying t = some (.slice e)) (h : (P.info? e).map (fun i => (i.zero, i.size, i.bytes)) = some (some z, size, bytes)) (hz : z.cells.size = size) (hs : 0 < size) : Elem P t e size bytes := by
  obtain ⟨i, hi, h0, h1, h2⟩ := info_parts h
  exact ⟨ht, i, z, hi, h0, h1, h2, hz, hs⟩
section
variable {P : Program} {w : World}
theorem run_app_nil {base : Nat} {t ty e : TypeId} {size bytes : Nat} (hE : Elem P t e size bytes) {v : Value} {n : Nat} {xs : List Value} (hown : w.ownsRow base e size v n xs) (c : Nat) : (Builtin.append_ #[t, t] ty #[v, .slice none 0 c]).run P w = .ok v w := by
  obtain ⟨ht, i, z, hi, hz, hsize, hby, hzs, hsz⟩ := hE
  rcases hown.2 with ⟨rfl, rfl⟩ | ⟨g, cap, cur, rfl, _, _, hnc, _⟩
  · simp [Builtin.append_, run_underlying ht, sizeOf, typeInfo, hi, Builtin.lenOf, Builtin.firstCells]
  · simp [Builtin.append_, run_underlying ht, sizeOf, typeInfo, hi, Builtin.lenOf, Builtin.firstCells, hnc, storeCells]
/-- append onto a slice of the call's own, from whatever reads as a list. -/
theorem run_app {base : Nat} {t ty e : TypeId} {size bytes : Nat} (hE : Elem P t e size bytes) {A : Option Addr} {n c : Nat} {xs : List Value} (hown : Own w base e size A n c xs)
    {B : Nat} {D : Option Addr} {m c2 : Nat} {news : List Value} (hr : Reads w B size D m news) (h1 : ∀ u ∈ news, u.oneCell' = true)
    (h63 : n + m ≤ maxLen) (hbytes : (n + m) * bytes ≤ 140737488355328) (hbase : base ≤ w.heap.size) :
    ∃ A' c' w', (Builtin.append_ #[t, t] ty #[.slice A n c, .slice D m c2]).run P w = .ok (.slice A' (n + m) c') w' ∧ Own w' base e size A' (n + m) c' (xs ++ news) ∧ w.grownBy w' (blockOf A) ∧
      (blockOf A' = blockOf A ∨ blockOf A' = some w.heap.size) := by
  have hE' := hE
  obtain ⟨ht, i, z, hi, hz, hsize, hby, hzs, hsz⟩ := hE'
  have core : ∃ v' w', (Builtin.append_ #[t, t] ty #[.slice A n c, .slice D m c2]).run P w = .ok v' w' ∧ w'.ownsRow base e size v' (n + m) (xs ++ news) ∧ w.grownBy w' (blockOf A) ∧ (v'.ownBlock = blockOf A ∨ v'.ownBlock = some w.heap.size) := by
    rcases D with _ | ad
    · have hm : m = 0 := by
        rcases Nat.eq_zero_or_pos m with h0 | h0
        · exact h0
        · obtain ⟨_, _, h, _⟩ := hr.2 h0
          cases h
      subst hm
      have hn : news = [] := List.eq_nil_of_length_eq_zero (by simpa using hr.1)
      subst hn
      exact ⟨_, w, run_app_nil hE hown c2, by simpa [Own] using hown, ⟨rfl, rfl, rfl, Nat.le_refl _, fun _ _ _ => rfl⟩, .inl (ownBlock_slice _ _ _)⟩
    · have hcells : ∀ j u, news[j]? = some u → w.cell? (ad.add j) = some u := by
        intro j u hu
        rcases Nat.eq_zero_or_pos m with h0 | h0
        · subst h0
          have hn : news = [] := List.eq_nil_of_length_eq_zero (by simpa using hr.1)
          subst hn
          simp at hu
        · obtain ⟨b, o, h, _, hc⟩ := hr.2 h0
          injection h with h
          subst h
          rw [add_lit]
          exact hc j u hu
      obtain ⟨v', w', hrun, h2, h3, _, h5⟩ := run_append_own_at (P := P) w base t ty e i z size bytes ht hi hz hsize hby hzs hsz _ n xs hown ad m c2 news hr.1 hcells h1 h63 hbytes hbase
      rw [ownBlock_slice] at h3 h5
      exact ⟨v', w', hrun, h2, h3, h5⟩
  obtain ⟨v', w', hrun, h2, h3, h4⟩ := core
  obtain ⟨A', c', rfl⟩ := own_shape h2
  rw [ownBlock_slice] at h4
  exact ⟨A', c', w', hrun, h2, h3, h4⟩
theorem wp_app {o : Oper} {a : Act} {K : Act → World → Prop} {Q : Exit → Act → World → Prop} {s x : Operand} {t : TypeId}
    (ho : o.op = .call { callee := .builtin .append, args := #[s, x], argTypes := #[t, t] })
    {base : Nat} {e : TypeId} {size bytes : Nat} (hE : Elem P t e size bytes) {A : Option Addr} {n c : Nat} {xs : List Value} (hs : a.eval s = .slice A n c) (hown : Own w base e size A n c xs)
    {B : Nat} {D : Option Addr} {m c2 : Nat} {news : List Value} (hx : a.eval x = .slice D m c2) (hr : Reads w B size D m news) (h1 : ∀ u ∈ news, u.oneCell' = true)
    (k : Nat) (hk : n + m = k) (ys : List Value) (hy : xs ++ news = ys) (h63 : k ≤ maxLen) (hbytes : k * bytes ≤ 140737488355328) (hbase : base ≤ w.heap.size)
    (h : ∀ A' c' w', Own w' base e size A' k c' ys → w.grownBy w' (blockOf A) → (blockOf A' = blockOf A ∨ blockOf A' = some w.heap.size) → K (a.put o.dst (.slice A' k c')) w') : o.wp P a w K Q := by
  subst hk
  subst hy
  obtain ⟨A', c', w', hrun, h2, h3, h4⟩ := run_app (ty := o.type) hE hown (c2 := c2) hr h1 h63 hbytes hbase
  unfold Oper.wp execOp
  simp only [ho, resolve, invoke, builtin, Sem.run_bind, Sem.run_pure, Result.andThen_ok, List.map_toArray, List.map_cons, List.map_nil, hs, hx, hrun]
  exact h A' c' w' h2 h3 h4
theorem wpList_app {ops : Array Oper} {rest : List Oper} {o : Oper} {a : Act} {Q : Exit → Act → World → Prop} (hgd : o.guard = none) {s x : Operand} {t : TypeId}
    (ho : o.op = .call { callee := .builtin .append, args := #[s, x], argTypes := #[t, t] })
    {base : Nat} {e : TypeId} {size bytes : Nat} (hE : Elem P t e size bytes) {A : Option Addr} {n c : Nat} {xs : List Value} (hs : a.eval s = .slice A n c) (hown : Own w base e size A n c xs)
    {B : Nat} {D : Option Addr} {m c2 : Nat} {news : List Value} (hx : a.eval x = .slice D m c2) (hr : Reads w B size D m news) (h1 : ∀ u ∈ news, u.oneCell' = true)
    (k : Nat) (hk : n + m = k) (ys : List Value) (hy : xs ++ news = ys) (h63 : k ≤ maxLen) (hbytes : k * bytes ≤ 140737488355328) (hbase : base ≤ w.heap.size)
    (h : ∀ A' c' w', Own w' base e size A' k c' ys → w.grownBy w' (blockOf A) → (blockOf A' = blockOf A ∨ blockOf A' = some w.heap.size) → wpList P ops Q rest (a.put o.dst (.slice A' k c')) w') : Hid (wpList P ops Q (o :: rest) a w) :=
  Lib.hid (wpList_plain hgd fun _ hK => wp_app ho hE hs hown hx hr h1 k hk ys hy h63 hbytes hbase fun A' c' w' h2 h3 h4 => hK _ _ (h A' c' w' h2 h3 h4))
end
/-- Behind an append: what lies below the call's own blocks is as it was. -/
theorem appB {B : Nat} {a w w' : World} {base : Nat} {e : TypeId} {size : Nat} {A : Option Addr} {n c : Nat} {xs : List Value} (h : Below B a w) (hown : Own w base e size A n c xs) (hg : w.grownBy w' (blockOf A)) (hB : B ≤ base) (hw : B ≤ w.heap.size) : Below B a w' :=
  h.grown hg hw (fun _ hk => Nat.le_trans hB (hown.block hk).1)
/-- A text as a string. -/
def str (l : List UInt8) : ByteArray := ⟨l.toArray⟩
theorem str_toList (l : List UInt8) : (str l).toList = l := by rw [Lib.toList_data]; simp [str]
theorem str_eq (l m : List UInt8) : ((str l).toList == (str m).toList) = (l == m) := by rw [str_toList, str_toList]
theorem run_str {P : Program} {w : World} {src dst e : TypeId} {B : Nat} {A : Option Addr} {l : List UInt8} {n c : Nat} (hs : P.underlying src = some (.slice e)) (he : P.underlying e = some (.int .u8)) (hd : P.underlying dst = some .string)
    (hr : Reads w B 1 A n (bvs l)) : (convert src dst (.slice A n c)).run P w = .ok (.string (str l)) w := by
  have hn : l.length = n := by have := hr.1; rw [bvs_length] at this; omega
  subst hn
  rcases Nat.eq_zero_or_pos l.length with h0 | h0
  · have hl : l = [] := List.eq_nil_of_length_eq_zero h0
    subst hl
    rcases A with _ | a
    · exact run_convert_bytes_nil w src e hs he _ _ dst hd
    · exact run_convert_bytes_back w src dst e a c [] hs he hd (fun j hj => absurd hj (by simp))
  · obtain ⟨b, o, rfl, _, hc⟩ := hr.2 h0
    refine run_convert_bytes_back w src dst e _ c l hs he hd fun j hj => ?_
    rw [add_lit]
    exact hc j _ (by simp [bvs, bv, hj])
/-- Chains from the world in which the call began. -/
theorem nextB {a b c : World} (h : Below a.heap.size a b) (k : Below b.heap.size b c) : Below a.heap.size a c := h.trans (k.mono h.size)
theorem newB {a w : World} (h : Below a.heap.size a w) (o : Obj) : Below a.heap.size a (w.alloc o) := h.alloc h.size _
/-- Only block g, and what is new, has turned. -/
theorem onlySelf (w : World) (row : Option Nat) : w.grownBy w row := ⟨rfl, rfl, rfl, Nat.le_refl _, fun _ _ _ => rfl⟩
theorem onlyDrew {a w : World} {row : Option Nat} (h : a.grownBy w row) : a.grownBy w.drew row := ⟨h.os, h.tape, h.output, h.size, h.block⟩
theorem onlyDrewN {a w : World} {row : Option Nat} (h : a.grownBy w row) (n : Nat) : a.grownBy (w.drewN n) row := ⟨h.os, h.tape, h.output, h.size, h.block⟩
theorem onlyNew {a w : World} {row : Option Nat} (h : a.grownBy w row) (o : Obj) : a.grownBy (w.alloc o) row :=
  ⟨h.os, h.tape, h.output, Nat.le_trans h.size (by simp), fun i hi hne => (Below.heap_alloc w o i (Nat.lt_of_lt_of_le hi h.size)).trans (h.block i hi hne)⟩
theorem onlySet {a w : World} {g : Nat} (h : a.grownBy w (some g)) {p : Addr} (hp : p.block = g ∨ a.heap.size ≤ p.block) (u : Value) : a.grownBy (w.setCell p u) (some g) :=
  ⟨h.os, h.tape, h.output, by simpa [World.setCell] using h.size, fun i hi hne => (Below.heap_setCell w p u i (by
    rintro rfl
    rcases hp with hp | hp
    · exact hne (by rw [hp])
    · omega)).trans (h.block i hi hne)⟩
theorem onlySetNew {a w : World} {row : Option Nat} (h : a.grownBy w row) {p : Addr} (hp : a.heap.size ≤ p.block) (u : Value) : a.grownBy (w.setCell p u) row :=
  ⟨h.os, h.tape, h.output, by simpa [World.setCell] using h.size, fun i hi hne => (Below.heap_setCell w p u i (by omega)).trans (h.block i hi hne)⟩
theorem onlyBelow {a b w : World} {row : Option Nat} (h : a.grownBy b row) (k : Below b.heap.size b w) : a.grownBy w row :=
  ⟨k.os.trans h.os, k.tape.trans h.tape, k.output.trans h.output, Nat.le_trans h.size k.size, fun i hi hne => (k.block i (Nat.lt_of_lt_of_le hi h.size)).trans (h.block i hi hne)⟩
theorem onlyTrans {a b w : World} {row : Option Nat} (h : a.grownBy b row) (k : b.grownBy w row) : a.grownBy w row :=
  ⟨k.os.trans h.os, k.tape.trans h.tape, k.output.trans h.output, Nat.le_trans h.size k.size, fun i hi hne => (k.block i (Nat.lt_of_lt_of_le hi h.size) hne).trans (h.block i hi hne)⟩
/-- A row of the call's own, seen from where the call began. -/
theorem onlyMine {a b w : World} {row r2 : Option Nat} (h : a.grownBy b row) (k : b.grownBy w r2) (hr : ∀ g, r2 = some g → a.heap.size ≤ g ∨ row = some g) : a.grownBy w row :=
  ⟨k.os.trans h.os, k.tape.trans h.tape, k.output.trans h.output, Nat.le_trans h.size k.size, fun i hi hne => (k.block i (Nat.lt_of_lt_of_le hi h.size) (fun e => by
    rcases hr i e.symm with h1 | h1
    · omega
    · exact hne h1.symm)).trans (h.block i hi hne)⟩
theorem onlyB {a w : World} {g : Nat} (h : a.grownBy w (some g)) {B : Nat} (hB : B ≤ g) (hB2 : B ≤ a.heap.size) : Below B a w :=
  ⟨h.os, h.tape, h.output, h.size, fun k hk => h.block k (by omega) (fun e => by injection e with e; omega)⟩
theorem ret_int {k : IntKind} {a b : Int} (h : a = b) : Ending.returned (.int k a) = .returned (.int k b) := by rw [h]
theorem below_drewN {B : Nat} {a w : World} (h : Below B a w) (n : Nat) : Below B a (w.drewN n) := ⟨h.os, h.tape, h.output, h.size, h.block⟩

/-- Only the blocks of K, and what is new, have turned. -/
structure Only (K : Nat → Prop) (w w' : World) : Prop where
  os : w'.os = w.os
  tape : w'.tape = w.tape
  output : w'.output = w.output
  size : w.heap.size ≤ w'.heap.size
  block : ∀ k, k < w.heap.size → ¬ K k → w'.heap[k]? = w.heap[k]?
section
variable {K J : Nat → Prop} {a b w : World}
theorem Only.refl (K : Nat → Prop) (w : World) : Only K w w := ⟨rfl, rfl, rfl, Nat.le_refl _, fun _ _ _ => rfl⟩
theorem Only.trans (h : Only K a b) (k : Only K b w) : Only K a w :=
  ⟨k.os.trans h.os, k.tape.trans h.tape, k.output.trans h.output, Nat.le_trans h.size k.size, fun i hi hn => (k.block i (Nat.lt_of_lt_of_le hi h.size) hn).trans (h.block i hi hn)⟩
/-- A step whose blocks are among K or new. -/
theorem Only.step (h : Only K a b) (k : Only J b w) (hJ : ∀ i, J i → K i ∨ a.heap.size ≤ i) : Only K a w :=
  ⟨k.os.trans h.os, k.tape.trans h.tape, k.output.trans h.output, Nat.le_trans h.size k.size, fun i hi hn => (k.block i (Nat.lt_of_lt_of_le hi h.size) (fun hj => by
    rcases hJ i hj with h1 | h1
    · exact hn h1
    · omega)).trans (h.block i hi hn)⟩
theorem Only.mono (h : Only J a b) (hJ : ∀ i, J i → K i) : Only K a b := ⟨h.os, h.tape, h.output, h.size, fun i hi hn => h.block i hi (fun hj => hn (hJ i hj))⟩
theorem Only.drew (h : Only K a w) : Only K a w.drew := ⟨h.os, h.tape, h.output, h.size, h.block⟩
theorem Only.drewN (h : Only K a w) (n : Nat) : Only K a (w.drewN n) := ⟨h.os, h.tape, h.output, h.size, h.block⟩
theorem Only.alloc (h : Only K a w) (o : Obj) : Only K a (w.alloc o) :=
  ⟨h.os, h.tape, h.output, Nat.le_trans h.size (by simp), fun i hi hn => (Below.heap_alloc w o i (Nat.lt_of_lt_of_le hi h.size)).trans (h.block i hi hn)⟩
theorem Only.set (h : Only K a w) {p : Addr} (hp : K p.block ∨ a.heap.size ≤ p.block) (u : Value) : Only K a (w.setCell p u) :=
  ⟨h.os, h.tape, h.output, by simpa [World.setCell] using h.size, fun i hi hn => (Below.heap_setCell w p u i (by
    rintro rfl
    rcases hp with hp | hp
    · exact hn hp
    · omega)).trans (h.block i hi hn)⟩
theorem Only.of_grown {row : Option Nat} (h : a.grownBy w row) : Only (fun i => row = some i) a w := ⟨h.os, h.tape, h.output, h.size, fun i hi hn => h.block i hi (fun e => hn e.symm)⟩
theorem Only.of_below (h : Below a.heap.size a w) : Only K a w := ⟨h.os, h.tape, h.output, h.size, fun i hi _ => h.block i hi⟩
theorem Only.below {B : Nat} (h : Only K a w) (hB : B ≤ a.heap.size) (hK : ∀ i, K i → B ≤ i) : Below B a w := ⟨h.os, h.tape, h.output, h.size, fun i hi => h.block i (by omega) (fun hk => by have := hK i hk; omega)⟩
theorem Blk.only {g : Nat} {t : TypeId} {cs : Array Value} (h : Blk a g t cs) (k : Only K a w) (hg : ¬ K g) : Blk w g t cs := (k.block g h.lt hg).trans h
theorem Own.only {base : Nat} {e : TypeId} {size : Nat} {A : Option Addr} {n c : Nat} {xs : List Value} (h : Own a base e size A n c xs) (k : Only K a w) (hA : ∀ g, blockOf A = some g → ¬ K g) : Own w base e size A n c xs := by
  refine ⟨h.1, ?_⟩
  rcases h.2 with h0 | ⟨g, cap, cur, hv, hg, hh, r⟩
  · exact .inl h0
  · refine .inr ⟨g, cap, cur, hv, hg, ?_, r⟩
    injection hv with hA2 _ _
    rw [k.block g (lt_of_block hh) (hA g (by rw [hA2]; rfl))]
    exact hh
theorem Reads.only {B size n : Nat} {A : Option Addr} {xs : List Value} (h : Reads a B size A n xs) (hB : B ≤ a.heap.size) (k : Only K a w) (hK : ∀ g, blockOf A = some g → ¬ K g) : Reads w B size A n xs :=
  ⟨h.1, fun hn => by
    obtain ⟨b, o, e, hb, hc⟩ := h.2 hn
    subst e
    exact ⟨b, o, rfl, hb, fun j u hu => (World.cell?_of_block (k.block b (by omega) (hK b rfl))).trans (hc j u hu)⟩⟩
end
/-- An append in a region that draws its order. -/
theorem step_app {P : Program} {w : World} {ops : Array Oper} {o : Oper} {a : Act} {K : Act → World → Prop} {Q : Exit → Act → World → Prop} {E : Prop} (hgd : o.guard = none) {s x : Operand} {t : TypeId}
    (ho : o.op = .call { callee := .builtin .append, args := #[s, x], argTypes := #[t, t] })
    {base : Nat} {e : TypeId} {size bytes : Nat} (hE : Elem P t e size bytes) {A : Option Addr} {n c : Nat} {xs : List Value} (hs : a.eval s = .slice A n c) (hown : Own w base e size A n c xs)
    {B : Nat} {D : Option Addr} {m c2 : Nat} {news : List Value} (hx : a.eval x = .slice D m c2) (hr : Reads w B size D m news) (h1 : ∀ u ∈ news, u.oneCell' = true)
    (k : Nat) (hk : n + m = k) (ys : List Value) (hy : xs ++ news = ys) (h63 : k ≤ maxLen) (hbytes : k * bytes ≤ 140737488355328) (hbase : base ≤ w.heap.size)
    (h : ∀ A' c' w', Own w' base e size A' k c' ys → w.grownBy w' (blockOf A) → (blockOf A' = blockOf A ∨ blockOf A' = some w.heap.size) → K (a.put o.dst (.slice A' k c')) w') :
    if Region.wanted o (yielded ops a.tmps) = true then Oper.wp P o a w K Q else E := by
  have hw : Region.wanted o (yielded ops a.tmps) = true := by simp [Region.wanted, hgd]
  rw [if_pos hw]
  exact wp_app ho hE hs hown hx hr h1 k hk ys hy h63 hbytes hbase h

/-- make of n elements, as an equation for every world. -/
theorem run_makeN {P : Program} {t e : TypeId} {z : Value} {size bytes : Nat} (ht : P.underlying t = some (.slice e)) (h : (P.info? e).map (fun i => (i.zero, i.size, i.bytes)) = some (some z, size, bytes))
    (kl kc : IntKind) (n : Nat) (hb : bytes * n ≤ 281474976710656) (h63 : n ≤ 9223372036854775807) (w : World) :
    (Instr.makeSlice t (.int kl (n : Int)) (.int kc (n : Int))).run P w = .ok (.slice (some ⟨w.heap.size, 0, none⟩) n n) (w.alloc (.cells (madeCells z.cells (n * size)) e)) := by
  obtain ⟨i, hi, h0, h1, h2⟩ := info_parts h
  subst h1
  subst h2
  have hb2 : (i.bytes : Int) * (n : Int) ≤ 281474976710656 := by
    have hh : ((i.bytes * n : Nat) : Int) ≤ 281474976710656 := by omega
    rwa [Int.natCast_mul] at hh
  have hr := run_make (P := P) w t e i z ht hi h0 kl kc n n (by omega) (by omega) hb2 (by omega)
  simp only [Int.toNat_natCast] at hr
  exact hr
theorem Own.made' {W : World} {n : Nat} (base : Nat) (e : TypeId) (size : Nat) (cs : Array Value) (k : Nat) (hn : W.heap.size = n) (hb : base ≤ n) (hm : k ≤ maxLen) (hs : cs.size = k * size) :
    Own (W.alloc (.cells cs e)) base e size (some ⟨n, 0, none⟩) k k cs.toList := by
  subst hn
  exact Own.made W base e size cs k hb hm hs
end Go.Proofs.YtbfhiegbgkkgiaaGreat
/- A part of a slice of bytes, over any world. -/

namespace Go.Proofs.YtbfhiegbgkkgiaaGreat
open Go.RowKit
theorem elem_at : Tryz.prog.elem 24 = 5 := by kernel_rfl
theorem size_u8 (W : World) : (sizeOf 5).run Tryz.prog W = .ok 1 W := by kernel_rfl
/-- Where b[i:..] begins. -/
def sliceA (A : Option Addr) (c i : Nat) : Option Addr := if c = i then A else A.map (·.add i)
/-- b[i:j], whatever the memory. -/
theorem slice_run (A : Option Addr) (n c i j : Nat) (h1 : i ≤ j) (h3 : j ≤ c) (W : World) :
    (Instr.slice 24 (.slice A n c) (some (.int .i64 (i : Int))) (some (.int .i64 (j : Int))) none).run Tryz.prog W = .ok (.slice (sliceA A c i) (j - i) (c - i)) W := by
  have hu : Tryz.prog.underlying 24 = some (.slice (Tryz.prog.elem 24)) := by rw [elem_at]; exact Tryz.underlying24
  rw [run_slice_lh (w := W) 24 A n c hu .i64 .i64 (i : Int) (j : Int) (by omega) (by omega) (by omega), elem_at, size_u8]
  simp [Result.andThen, sliced, sliceA]
theorem slice_len {l : List UInt8} {i j : Nat} (h2 : j ≤ l.length) : ((l.drop i).take (j - i)).length = j - i := by simp; omega
/-- It reads as that part. -/
theorem slice_bts {w : World} {B : Nat} {A : Option Addr} {l : List UInt8} (h : Bts w B A l) (c i j : Nat) (h2 : j ≤ l.length) (h3 : l.length ≤ c) : Bts w B (sliceA A c i) ((l.drop i).take (j - i)) := by
  unfold Bts sliceA
  rw [slice_len h2]
  refine ⟨by rw [bvs_length, slice_len h2]; simp, fun hn => ?_⟩
  obtain ⟨b, o, hA, hb, hc⟩ := h.2 (by omega)
  subst hA
  rw [if_neg (by omega)]
  refine ⟨b, o + i, ?_, hb, fun k u hu => ?_⟩
  · simp only [Option.map_some, add_lit]
  · rw [Nat.add_assoc]
    refine hc (i + k) u ?_
    rw [bvs_take, bvs_drop, List.getElem?_take] at hu
    split at hu
    · rw [List.getElem?_drop] at hu
      exact hu
    · cases hu
end Go.Proofs.YtbfhiegbgkkgiaaGreat
