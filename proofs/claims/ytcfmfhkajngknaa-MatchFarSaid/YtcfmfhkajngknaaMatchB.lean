/- Match: note walked. -/
import Derived.Test.YtcfmfhkajngknaaMatchA
import Derived.Test.YtcfmfhkajngknaaMatchPs
import Derived.RegionTactic
import Derived.BigRegion
import Derived.Deep.QuietTactic
import Derived.BigQuiet
import Derived.Deep.LoopGhost
import Derived.Laws.Cover3
import Derived.Test.YtcfmfhkajngknaaRegion
import Derived.Deep.RegionHeld3
namespace Go.Proofs.Ytcfmfhkajngknaa
open Go.RowKit
open Mt

set_option maxHeartbeats 400000 in
theorem note_no (g : Nat) (A : Option Addr) (c : Nat) (l : List UInt8) (M : Value) (n : Nat) (w : World) (h : Blk w g 41 #[.slice A l.length c, M]) (hm : l.length ≤ 16777216) (hnl : n ≤ l.length) (hn : l.length < n + 3) :
    Calls Try.prog 15 #[.pointer (some ⟨g, 0, none⟩), .int .i64 (n : Int)] w fun e w' => e = .returned (.tuple #[]) ∧ ∃ q, w' = w.drewN q := by
  have c0 : w.cell? ⟨g, 0, none⟩ = some (.slice A l.length c) := by rw [h.cell]; rfl
  have e1 : IntKind.i64.wrap ((n : Int) + 3) = (n : Int) + 3 := IntWalk.i64_in _ ⟨by omega, by omega⟩
  have h1 : ¬ (n : Int) + 3 ≤ (l.length : Int) := by omega
  clear h
  go_enter Try.func15, Try.ntmps15
  go_wp2_with fail
  exact bodyPost_end (v := .tuple #[]) (results_none Try.results15 _ _ _) rfl ⟨rfl, 0, rfl⟩
theorem step_entry {P : Program} {w w1 : World} {ops : Array Oper} {o : Oper} {a : Act} {K : Act → World → Prop} {Q : Exit → Act → World → Prop} {E : Prop} (hgd : o.guard = none) {m x : Operand} {t : TypeId} (ho : o.op = .mapEntry t m x) {M key v : Value} (hm : a.eval m = M) (hx : a.eval x = key)
    (hrun : (Instr.mapEntry t M key).run P w = .ok v w1) (h : K (a.put o.dst v) w1) : if Region.wanted o (yielded ops a.tmps) = true then Oper.wp P o a w K Q else E := by
  have hw : Region.wanted o (yielded ops a.tmps) = true := by simp [Region.wanted, hgd]
  rw [if_pos hw]
  unfold Oper.wp
  simp [execOp, ho, hm, hx, hrun, Result.andThen]
  exact h
theorem step_estore {P : Program} {w w1 : World} {ops : Array Oper} {o : Oper} {a : Act} {K : Act → World → Prop} {Q : Exit → Act → World → Prop} {E : Prop} (hgd : o.guard = none) {m x s : Operand} {t : TypeId} (ho : o.op = .entryStore t m x s) {M st v : Value} (hm : a.eval m = M) (hx : a.eval x = st) (hs : a.eval s = v)
    (hrun : (Instr.entryStore t M st v).run P w = .ok () w1) (h : K (a.put o.dst undef) w1) : if Region.wanted o (yielded ops a.tmps) = true then Oper.wp P o a w K Q else E := by
  have hw : Region.wanted o (yielded ops a.tmps) = true := by simp [Region.wanted, hgd]
  rw [if_pos hw]
  unfold Oper.wp
  simp [execOp, ho, hm, hx, hs, hrun, Result.andThen]
  exact h
/-- What note may turn: the map, and rows of numbers from base on. -/
def NK (Bm base : Nat) (w : World) (i : Nat) : Prop := i = Bm ∨ (base ≤ i ∧ ∃ cs, Blk w i 3 cs)
theorem elem_int : Elem Try.prog 46 3 1 8 := elem_of Try.underlying46 (z := .int .i64 0) (by kernel_rfl) (by decide) (by decide)
set_option maxHeartbeats 1600000 in
theorem note_yes (g : Nat) (A : Option Addr) (c : Nat) (l : List UInt8) (Bm base n : Nat) (w : World) (h : Blk w g 41 #[.slice A l.length c, .map (some Bm)]) (hb : Bts w w.heap.size A l) (hM : MapIs w Bm base l n) (hm : l.length ≤ 16777216) (hn : n + 3 ≤ l.length) (hcl : l.length ≤ c) (hbase : base ≤ w.heap.size) :
    Calls Try.prog 15 #[.pointer (some ⟨g, 0, none⟩), .int .i64 (n : Int)] w fun e w' => e = .returned (.tuple #[]) ∧ MapIs w' Bm base l (n + 1) ∧ Only (NK Bm base w) w w' := by
  have c0 : w.cell? ⟨g, 0, none⟩ = some (.slice A l.length c) := by rw [h.cell]; rfl
  have c1 : w.cell? ⟨g, 1, none⟩ = some (.map (some Bm)) := by rw [h.cell]; rfl
  have e1 : IntKind.i64.wrap ((n : Int) + 3) = (n : Int) + 3 := IntWalk.i64_in _ ⟨by omega, by omega⟩
  have h1 : (n : Int) + 3 ≤ (l.length : Int) := by omega
  have h0 : (0 : Int) ≤ (n : Int) := by omega
  obtain ⟨b, o, rfl, hbl, hcell⟩ := hb.at_ (by omega)
  have d0 := hcell n (by omega)
  have d1 := hcell (n + 1) (by omega)
  have d2 := hcell (n + 2) (by omega)
  rw [← Nat.add_assoc] at d1 d2
  have h3 : at3 l n l[n] l[n + 1] l[n + 2] = true := by simp [at3]
  generalize l[n] = x at *
  generalize l[n + 1] = y at *
  generalize l[n + 2] = z at *
  have hgB : g ≠ Bm := by
    obtain ⟨D, ⟨es, clock, hmb, _⟩, _⟩ := hM
    intro e
    subst e
    have h' : w.heap[g]? = some (.cells #[.slice (some ⟨b, o, none⟩) l.length c, .map (some g)] 41 (0, 0)) := h
    rw [h'] at hmb
    cases hmb
  have hgl := h.lt
  have hBl : Bm < w.heap.size := by
    obtain ⟨D, ⟨es, clock, hmb, _⟩, _⟩ := hM
    exact (Array.getElem?_eq_some_iff.1 hmb).1
  have HB := Lib.hid h
  have HM := Lib.hid hM
  have H3 := Lib.hid h3
  clear hM h3
  have h5 : ((n : Int) + 3 ≤ (c : Int)) := by omega
  have harr : ∀ W : World, (Instr.arrayAt TK (.slice (some ⟨b, o + n, none⟩) 3 (c - n))).run Try.prog W = .ok (.pointer (some ⟨b, o + n, none⟩)) W := fun W => run_arrayAt W TK _ 3 _ 3 (c - n) Try.underlying47 (Nat.le_refl _)
  clear h hb hcell
  go_enter Try.func15, Try.ntmps15
  go_wp2_with fail
  have hS : ∀ W : World, Blk W g 41 #[.slice (some ⟨b, o, none⟩) l.length c, .map (some Bm)] → Blk W w.heap.size TK #[bv x, bv y, bv z] → (fun w' => w'.cell? ⟨g, 1, none⟩ = some (.map (some Bm)) ∧ w'.cell? ⟨w.heap.size, 0, none⟩ = some (.int .u8 (x.toNat : Int)) ∧ w'.cell? ⟨w.heap.size, 1, none⟩ = some (.int .u8 (y.toNat : Int)) ∧ w'.cell? ⟨w.heap.size, 2, none⟩ = some (.int .u8 (z.toNat : Int))) W := fun W h1 h2 => ⟨by rw [h1.cell]; rfl, by rw [h2.cell]; rfl, by rw [h2.cell]; rfl, by rw [h2.cell]; rfl⟩
  have B1 : Blk (w.alloc (.cells #[bv x, bv y, bv z] TK)) g 41 #[.slice (some ⟨b, o, none⟩) l.length c, .map (some Bm)] := HB.out.alloc _
  have K1 : Blk (w.alloc (.cells #[bv x, bv y, bv z] TK)) w.heap.size TK #[bv x, bv y, bv z] := Blk.new _ _ _
  obtain ⟨W2, hW2⟩ : ∃ W2, W2 = ((w.alloc (.cells #[bv x, bv y, bv z] TK)).alloc (.cells #[.int .i64 (n : Int)] 3)).drew := ⟨_, rfl⟩
  have hW2s : W2.heap.size = w.heap.size + 2 := by rw [hW2]; simp [World.drew]
  have B2 : Hid (Blk W2 g 41 #[.slice (some ⟨b, o, none⟩) l.length c, .map (some Bm)]) := Lib.hid (by rw [hW2]; exact (B1.alloc _).drew)
  have K2 : Hid (Blk W2 w.heap.size TK #[bv x, bv y, bv z]) := Lib.hid (by rw [hW2]; exact (K1.alloc _).drew)
  have N2 : Blk W2 (w.heap.size + 1) 3 #[.int .i64 (n : Int)] := by
    have h := Blk.new (w.alloc (.cells #[bv x, bv y, bv z] TK)) 3 #[.int .i64 (n : Int)]
    rw [hW2]
    simp only [World.size_alloc] at h
    exact h.drew
  have M2 : MapIs W2 Bm base l n := by
    rw [hW2]
    exact ((HM.out.grown (World.grownBy_alloc w (.cells #[bv x, bv y, bv z] TK) none)).grown (World.grownBy_alloc (w.alloc (.cells #[bv x, bv y, bv z] TK)) (.cells #[.int .i64 (n : Int)] 3) none)).grown ⟨rfl, rfl, rfl, Nat.le_refl _, fun _ _ _ => rfl⟩
  obtain ⟨v, st, w1, hrun, hg1, hsz, hoi, hbb, hback⟩ := M2.entry (by unfold maxLen; omega) H3.out
  obtain ⟨A', c', hv⟩ := own_shape hoi.1
  subst hv
  have B3 : Hid (Blk w1 g 41 #[.slice (some ⟨b, o, none⟩) l.length c, .map (some Bm)]) := Lib.hid (B2.out.grown hg1 (by simpa using hgB))
  have K3 : Hid (Blk w1 w.heap.size TK #[bv x, bv y, bv z]) := Lib.hid (K2.out.grown hg1 (by simp; omega))
  have N3 : Blk w1 (w.heap.size + 1) 3 #[.int .i64 (n : Int)] := N2.grown hg1 (by simp; omega)
  have hrd : Reads w1 (w.heap.size + 2) 1 (some ⟨w.heap.size + 1, 0, none⟩) 1 [.int .i64 (n : Int)] := ⟨rfl, fun _ => ⟨_, _, rfl, by omega, fun j u hj => by
    rw [N3.cell]
    cases j with
    | zero => simpa using hj
    | succ j => simp at hj⟩⟩
  have o1 : Only (NK Bm base w) w w1 := by
    have h : Only (NK Bm base w) w W2 := by rw [hW2]; exact (((Only.refl _ w).alloc _).alloc _).drew
    exact h.step (Only.of_grown hg1) (fun i e => .inl (.inl (by simpa using e.symm)))
  have hrow : ∀ i, blockOf A' = some i → NK Bm base w i ∨ w.heap.size ≤ i := fun i hi => by
    by_cases hlt : w.heap.size ≤ i
    · exact .inr hlt
    · refine .inl (.inr ?_)
      rcases hoi.1.2 with ⟨hv, _⟩ | ⟨gg, cap, cur, hv, hbg, hh, _⟩
      · injection hv with hA _ _
        subst hA
        cases hi
      · injection hv with hA _ _
        subst hA
        simp only [blockOf, Option.map_some, Option.some.injEq] at hi
        subst hi
        have e1 := hg1.block gg (by rw [hW2s]; omega) (by simp; omega)
        rw [e1, hW2] at hh
        refine ⟨hbg, cur, ?_⟩
        have e2 : w.heap[gg]? = (((w.alloc (.cells #[bv x, bv y, bv z] TK)).alloc (.cells #[.int .i64 (n : Int)] 3)).drew).heap[gg]? := by
          have h : Only (fun _ => False) w (((w.alloc (.cells #[bv x, bv y, bv z] TK)).alloc (.cells #[.int .i64 (n : Int)] 3)).drew) := (((Only.refl _ w).alloc _).alloc _).drew
          exact (h.block gg (by omega) (fun h => h)).symm
        exact e2.trans hh
  rw [hW2] at hrun
  rw [hW2] at B2 K2
  refine wp_region_noPanic ?_
  refine wp_region_T (S := (fun w' => w'.cell? ⟨g, 1, none⟩ = some (.map (some Bm)) ∧ w'.cell? ⟨w.heap.size, 0, none⟩ = some (.int .u8 (x.toNat : Int)) ∧ w'.cell? ⟨w.heap.size, 1, none⟩ = some (.int .u8 (y.toNat : Int)) ∧ w'.cell? ⟨w.heap.size, 2, none⟩ = some (.int .u8 (z.toNat : Int)))) (L := 11) (by kernel_rfl) (hS _ B1.drew K1.drew) (fun hHeld => ?_)
  refine wpAnyT_take (i := 0) (oi := ?_) (v := ?_) ?_ ?_ ?_ ?_ ?_ ?_ ?_ ?_ ?_
  rotate_left 2
  · simp only [List.getElem?_toArray, List.getElem?_cons_zero]; rfl
  · kernel_rfl
  · kernel_rfl
  · kernel_rfl
  · kernel_rfl
  · exact fun _ _ _ h => h
  · exact Or.inl ⟨by kernel_rfl, by intro w hSw; (try dsimp only at hSw); go_simp; try with_reducible rfl⟩
  · assumption
  try go_simp
  refine wpAnyT_take (i := 1) (oi := ?_) (v := ?_) ?_ ?_ ?_ ?_ ?_ ?_ ?_ ?_ ?_
  rotate_left 2
  · simp only [List.getElem?_toArray, List.getElem?_cons_succ, List.getElem?_cons_zero]; rfl
  · kernel_rfl
  · kernel_rfl
  · kernel_rfl
  · kernel_rfl
  · exact fun _ _ _ h => h
  · exact Or.inl ⟨by kernel_rfl, by intro w hSw; (try dsimp only at hSw); go_simp; try with_reducible rfl⟩
  · assumption
  try go_simp
  refine wpAnyT_take (i := 2) (oi := ?_) (v := ?_) ?_ ?_ ?_ ?_ ?_ ?_ ?_ ?_ ?_
  rotate_left 2
  · simp only [List.getElem?_toArray, List.getElem?_cons_succ, List.getElem?_cons_zero]; rfl
  · kernel_rfl
  · kernel_rfl
  · kernel_rfl
  · kernel_rfl
  · exact fun _ _ _ h => h
  · exact Or.inl ⟨by kernel_rfl, by intro w hSw; (try dsimp only at hSw); go_simp; try with_reducible rfl⟩
  · assumption
  try go_simp
  refine wpAnyT_take (i := 3) (oi := ?_) (v := ?_) ?_ ?_ ?_ ?_ ?_ ?_ ?_ ?_ ?_
  rotate_left 2
  · simp only [List.getElem?_toArray, List.getElem?_cons_succ, List.getElem?_cons_zero]; rfl
  · kernel_rfl
  · kernel_rfl
  · kernel_rfl
  · kernel_rfl
  · exact fun _ _ _ h => h
  · exact Or.inl ⟨by kernel_rfl, by intro w hSw; (try dsimp only at hSw); go_simp; try with_reducible rfl⟩
  · assumption
  try go_simp
  refine wpAnyT_take (i := 4) (oi := ?_) (v := ?_) ?_ ?_ ?_ ?_ ?_ ?_ ?_ ?_ ?_
  rotate_left 2
  · simp only [List.getElem?_toArray, List.getElem?_cons_succ, List.getElem?_cons_zero]; rfl
  · kernel_rfl
  · kernel_rfl
  · kernel_rfl
  · kernel_rfl
  · exact fun _ _ _ h => h
  · exact Or.inl ⟨by kernel_rfl, by intro w hSw; (try dsimp only at hSw); go_simp; try with_reducible rfl⟩
  · assumption
  try go_simp
  refine wpAnyT_take (i := 5) (oi := ?_) (v := ?_) ?_ ?_ ?_ ?_ ?_ ?_ ?_ ?_ ?_
  rotate_left 2
  · simp only [List.getElem?_toArray, List.getElem?_cons_succ, List.getElem?_cons_zero]; rfl
  · kernel_rfl
  · kernel_rfl
  · kernel_rfl
  · kernel_rfl
  · exact fun _ _ _ h => h
  · exact Or.inl ⟨by kernel_rfl, by intro w hSw; (try dsimp only at hSw); go_simp; try with_reducible rfl⟩
  · assumption
  try go_simp
  refine wpAnyT_one (i := 6) (o := ?_) ?_ ?_ ?_
  rotate_left 1
  · simp only [List.getElem?_toArray, List.getElem?_cons_succ, List.getElem?_cons_zero]; rfl
  · kernel_rfl
  intro K hK
  go_simp
  refine hK.out _ _ ?_ (fun hHeld => ?_)
  · exact fun _ => hS _ B2.out K2.out
  clear hK K
  replace hHeld := hHeld (by decide)
  try go_simp
  refine wpAnyT_one (i := 7) (o := ?_) ?_ ?_ ?_
  rotate_left 1
  · simp only [List.getElem?_toArray, List.getElem?_cons_succ, List.getElem?_cons_zero]; rfl
  · kernel_rfl
  intro K hK
  refine step_entry (by rfl) (by rfl) (by rfl) (by rfl) hrun ?_
  refine hK.out _ _ ?_ (fun hHeld => ?_)
  · exact fun _ => hS _ B3.out K3.out
  clear hK K
  replace hHeld := hHeld (by decide)
  try go_simp
  refine wpAnyT_take (i := 8) (oi := ?_) (v := ?_) ?_ ?_ ?_ ?_ ?_ ?_ ?_ ?_ ?_
  rotate_left 2
  · simp only [List.getElem?_toArray, List.getElem?_cons_succ, List.getElem?_cons_zero]; rfl
  · kernel_rfl
  · kernel_rfl
  · kernel_rfl
  · kernel_rfl
  · exact fun _ _ _ h => h
  · exact Or.inl ⟨by kernel_rfl, by intro w hSw; (try dsimp only at hSw); go_simp; try with_reducible rfl⟩
  · assumption
  try go_simp
  refine wpAnyT_take (i := 10) (oi := ?_) (v := ?_) ?_ ?_ ?_ ?_ ?_ ?_ ?_ ?_ ?_
  rotate_left 2
  · simp only [List.getElem?_toArray, List.getElem?_cons_succ, List.getElem?_cons_zero]; rfl
  · kernel_rfl
  · kernel_rfl
  · kernel_rfl
  · kernel_rfl
  · exact fun _ _ _ h => h
  · exact Or.inl ⟨by kernel_rfl, by intro w hSw; (try dsimp only at hSw); go_simp; try with_reducible rfl⟩
  · assumption
  try go_simp
  refine wpAnyT_one (i := 9) (o := ?_) ?_ ?_ ?_
  rotate_left 1
  · simp only [List.getElem?_toArray, List.getElem?_cons_succ, List.getElem?_cons_zero]; rfl
  · kernel_rfl
  intro K hK
  refine step_app (by rfl) (by rfl) elem_int (by rfl) (show Own w1 base 3 1 A' _ c' _ from hoi.1) (by rfl) hrd (by simp [Value.oneCell']) _ rfl _ rfl (by simp [psI, maxLen]; have := ps_len l n x y z; omega) (by simp [psI]; have := ps_len l n x y z; omega) (by rw [hsz, hW2s]; omega) ?_
  intro A2 c2 w3 ho3 hg3 hl3
  have hoi3 : w3.ownsInts base 3 .i64 (.slice A2 ((psI l n x y z).length + 1) c2) (psI l n x y z ++ [(n : Int)]) := hoi.appended ho3 (by simp [Lit.wf, IntKind.min, IntKind.max, IntKind.bits, IntKind.signed]; omega)
  have hloc : (Value.slice A2 ((psI l n x y z).length + 1) c2).ownBlock = (Value.slice A' (psI l n x y z).length c').ownBlock ∨ ∃ g, (Value.slice A2 ((psI l n x y z).length + 1) c2).ownBlock = some g ∧ W2.heap.size ≤ g := by
    rw [ownBlock_slice, ownBlock_slice]
    exact hl3.imp id (fun e => ⟨_, e, by rw [hsz]; exact Nat.le_refl _⟩)
  have o3 : Only (NK Bm base w) w w3 := o1.step (Only.of_grown hg3) hrow
  obtain ⟨w4, hr4, hM4, hg4⟩ := hback w3 _ (by rw [ownBlock_slice]; exact hg3) hoi3 hloc
  have o4 : Only (NK Bm base w) w w4 := o3.step (Only.of_grown hg4) (fun i e => .inl (.inl (by simpa using e.symm)))
  have B4 := Blk.grown B3.out hg3 (fun e => Own.ne_blk (show Own w1 base 3 1 A' _ c' _ from hoi.1) B3.out (by decide) e.symm)
  have K4 := Blk.grown K3.out hg3 (fun e => Own.ne_blk (show Own w1 base 3 1 A' _ c' _ from hoi.1) K3.out (by decide) e.symm)
  refine hK.out _ _ ?_ (fun hHeld => ?_)
  · exact fun _ => hS _ B4 K4
  clear hK K
  replace hHeld := hHeld (by decide)
  try go_simp
  refine wpAnyT_one (i := 11) (o := ?_) ?_ ?_ ?_
  rotate_left 1
  · simp only [List.getElem?_toArray, List.getElem?_cons_succ, List.getElem?_cons_zero]; rfl
  · kernel_rfl
  intro K hK
  refine step_estore (by rfl) (by rfl) (by rfl) (by rfl) (by rfl) hr4 ?_
  refine hK.out _ _ ?_ (fun hHeld => ?_)
  · exact fun h => absurd rfl h
  clear hK K
  try go_simp
  refine wpAnyT_done (by kernel_rfl) ?_ _
  refine NoPanic.normal ?_
  go_wp2_with fail
  exact bodyPost_end (v := .tuple #[]) (results_none Try.results15 _ _ _) rfl ⟨rfl, hM4, o4⟩
/-- note, whatever is left of the text. -/
theorem note_t (g : Nat) (A : Option Addr) (c : Nat) (l : List UInt8) (Bm base n : Nat) (w : World) (h : Blk w g 41 #[.slice A l.length c, .map (some Bm)]) (hb : Bts w w.heap.size A l) (hM : MapIs w Bm base l n) (hm : l.length ≤ 16777216) (hnl : n ≤ l.length) (hcl : l.length ≤ c) (hbase : base ≤ w.heap.size) :
    Calls Try.prog 15 #[.pointer (some ⟨g, 0, none⟩), .int .i64 (n : Int)] w fun e w' => e = .returned (.tuple #[]) ∧ MapIs w' Bm base l (n + 1) ∧ Only (NK Bm base w) w w' := by
  by_cases hn : n + 3 ≤ l.length
  · exact note_yes g A c l Bm base n w h hb hM hm hn hcl hbase
  · refine (note_no g A c l _ n w h hm hnl (by omega)).mono ?_
    rintro e w' ⟨rfl, q, rfl⟩
    exact ⟨rfl, (hM.skip (by omega)).grown ⟨rfl, rfl, rfl, Nat.le_refl _, fun _ _ _ => rfl⟩, (Only.refl _ w).drewN q⟩
end Go.Proofs.Ytcfmfhkajngknaa
