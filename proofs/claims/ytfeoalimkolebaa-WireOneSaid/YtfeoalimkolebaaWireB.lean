/- Wire: the search of a letter's form walked. -/
import Derived.Test.YtfeoalimkolebaaWireA
namespace Go.Proofs.Ytfeoalimkolebaa
open Go.RowKit
def isL (x : Nat) (f : Frm) : Bool := decide (f.1 = x)
def fi (x : Nat) : Nat := frms.findIdx (isL x)
theorem fi_le (x : Nat) : fi x ≤ 10 := List.findIdx_le_length
theorem fi_next {x k : Nat} {f : Frm} (hk : k ≤ fi x) (hf : frms[k]? = some f) (h : f.1 ≠ x) : k + 1 ≤ fi x := by
  rcases Nat.lt_or_ge k (fi x) with h1 | h1
  · exact h1
  · obtain rfl : k = fi x := by omega
    obtain ⟨hl, e⟩ := List.getElem?_eq_some_iff.1 hf
    have h2 := List.findIdx_getElem (p := isL x) (w := hl)
    have h3 : isL x f = true := by rw [← e]; exact h2
    exact absurd (of_decide_eq_true h3) h
theorem fi_stop {x k : Nat} {f : Frm} (hk : k ≤ fi x) (hf : frms[k]? = some f) (h : f.1 = x) : k = fi x := by
  rcases Nat.lt_or_ge k (fi x) with h1 | h1
  · obtain ⟨hl, e⟩ := List.getElem?_eq_some_iff.1 hf
    have h2 := List.not_of_lt_findIdx h1
    have h3 : isL x f = false := by rw [← e]; simpa using h2
    simp [isL, h] at h3
  · omega
def fii (x : Nat) : Int := if fi x < 10 then (fi x : Int) else -1
theorem isf_t (f : Frm) (x g : Nat) (w : World) (h : Blk w g 5 #[.int .u8 (x : Int)]) :
    Calls Try.prog 26 #[frmV f, .pointer (some ⟨g, 0, none⟩)] w fun e w' => e = .returned (.bool (isL x f)) ∧ Below w.heap.size w w' := by
  have c0 : w.cell? ⟨g, 0, none⟩ = some (.int .u8 (x : Int)) := by rw [h.cell]; rfl
  have hg := h.lt
  obtain ⟨a, b, c, d⟩ := f
  have hr : isL x (a, b, c, d) = ((a : Int) == (x : Int)) := by
    unfold isL
    rw [Bool.eq_iff_iff, decide_eq_true_iff, beq_iff_eq]
    show a = x ↔ _
    omega
  rw [hr]
  clear h hr
  unfold frmV frmC fn0
  go_enter Try.func26, Try.ntmps26
  go_wp2_with fail
  go_ret
  exact ⟨rfl, (Below.refl _ _).alloc (Nat.le_refl _) _⟩
/-- Cells from ⟨b, o⟩ on that are all the forms. -/
def Forms (w : World) (b o : Nat) : Prop := ∀ j u, (frms.flatMap frmC)[j]? = some u → w.cell? ⟨b, o + j, none⟩ = some u
theorem flat_at {k : Nat} {f : Frm} (h : frms[k]? = some f) (i : Nat) (hi : i < 4) : (frms.flatMap frmC)[k * 4 + i]? = (frmC f)[i]? := by
  have hk : k < 10 := (List.getElem?_eq_some_iff.1 h).1
  rcases k with _ | _ | _ | _ | _ | _ | _ | _ | _ | _ | k <;> first | omega | (injection h with h; subst h; rcases i with _ | _ | _ | _ | i <;> first | omega | rfl)
theorem Forms.at_ {w : World} {b o k : Nat} {f : Frm} (h : Forms w b o) (hf : frms[k]? = some f) :
    w.cell? ⟨b, o + k * 4, none⟩ = some (.int .u8 (f.1 : Int)) ∧ w.cell? ⟨b, o + k * 4 + 1, none⟩ = some (.int .i64 (f.2.1 : Int)) ∧ w.cell? ⟨b, o + k * 4 + 2, none⟩ = some (fn0 f.2.2.1) ∧ w.cell? ⟨b, o + k * 4 + 3, none⟩ = some (fn0 f.2.2.2) := by
  refine ⟨?_, ?_, ?_, ?_⟩
  · exact h (k * 4 + 0) _ (by rw [flat_at hf 0 (by omega)]; rfl)
  · have := h (k * 4 + 1) _ (by rw [flat_at hf 1 (by omega)]; rfl); rw [← Nat.add_assoc] at this; exact this
  · have := h (k * 4 + 2) _ (by rw [flat_at hf 2 (by omega)]; rfl); rw [← Nat.add_assoc] at this; exact this
  · have := h (k * 4 + 3) _ (by rw [flat_at hf 3 (by omega)]; rfl); rw [← Nat.add_assoc] at this; exact this
theorem Forms.below {w w' : World} {b o B : Nat} (h : Forms w b o) (hb : b < B) (hw : Below B w w') : Forms w' b o := fun j u hu => (hw.cell (p := ⟨b, o + j, none⟩) hb).trans (h j u hu)
theorem frm_small {k : Nat} {f : Frm} (h : frms[k]? = some f) : f.1 < 256 := by
  have hk : k < 10 := (List.getElem?_eq_some_iff.1 h).1
  rcases k with _ | _ | _ | _ | _ | _ | _ | _ | _ | _ | k <;> first | omega | (injection h with h; subst h; decide)
set_option maxHeartbeats 800000 in
theorem index_t (b o g x : Nat) (w : World) (h : Blk w g 5 #[.int .u8 (x : Int)]) (hF : Forms w b o) (hb : b < w.heap.size) :
    Calls Try.prog 25 #[.slice (some ⟨b, o, none⟩) 10 10, .func (Fn.func 26) #[] #[.pointer (some ⟨g, 0, none⟩)]] w fun e w' => e = .returned (.int .i64 (fii x)) ∧ Below w.heap.size w w' := by
  have H := Lib.hid h
  have HF := Lib.hid hF
  clear h hF
  go_enter Try.func25, Try.ntmps25
  go_wp2_with fail
  go_loopw [8] (fun i wr => ∃ k : Nat, k ≤ fi x ∧ i = .int .i64 (k : Int) ∧ Below w.heap.size w wr) (fun i _ => 10 - (intOf i).toNat)
  case atStart => exact ⟨0, Nat.zero_le _, rfl, Below.refl _ _⟩
  case round =>
    obtain ⟨k, hk, rfl, hbel⟩ := hrel
    obtain ⟨wo, rfl⟩ : ∃ wo : World, wo = wr := ⟨_, rfl⟩
    have hle := fi_le x
    by_cases hlt : k < 10
    · obtain ⟨f, hf⟩ : ∃ f, frms[k]? = some f := ⟨_, List.getElem?_eq_getElem hlt⟩
      obtain ⟨c0, c1, c2, c3⟩ := (HF.out.below hb hbel).at_ hf
      have hB := H.out.below hbel H.out.lt
      have hkk : (k : Int) < 10 := by omega
      have hk0 : (0 : Int) ≤ (k : Int) := by omega
      have HC := Lib.hid (isf_t f x g wo hB)
      have HW := Lib.hid hbel
      unfold frmV frmC fn0 at HC
      unfold fn0 at c2 c3
      by_cases he : f.1 = x
      · have HK : Hid (fii x = (k : Int)) := Lib.hid (by unfold fii; rw [← fi_stop hk hf he, if_pos hlt])
        have hi : isL x f = true := by simp [isL, he]
        rw [hi] at HC
        obtain ⟨fa, fb, fc, fd⟩ := f
        dsimp only at c0 c1 c2 c3 HC
        clear hk hle hf hB hbel he hlt hi
        go_wp2_with fail
        refine HC.out.mono ?_
        rintro e w1 ⟨rfl, h1⟩
        have H1 := Lib.hid h1
        clear h1
        go_wp2_with fail
        go_ret
        exact ⟨by rw [HK.out]; rfl, HW.out.trans (H1.out.mono HW.out.size)⟩
      · have HK := Lib.hid (fi_next hk hf he)
        have hi : isL x f = false := by simp [isL, he]
        rw [hi] at HC
        obtain ⟨fa, fb, fc, fd⟩ := f
        dsimp only at c0 c1 c2 c3 HC
        have HL := Lib.hid hlt
        clear hk hle hf hB hbel he hlt hi
        go_wp2_with fail
        refine HC.out.mono ?_
        rintro e w1 ⟨rfl, h1⟩
        have H1 := Lib.hid h1
        clear h1
        go_wp2_with fail
        go_roundw
        case rel => exact ⟨k + 1, HK.out, by go_num, HW.out.trans (H1.out.mono HW.out.size)⟩
        case measure => have := HL.out; simp [intOf]; omega
    · obtain rfl : k = 10 := by omega
      have hfi : fi x = 10 := by omega
      have HK : Hid (fii x = -1) := Lib.hid (by unfold fii; rw [hfi]; rfl)
      clear hk hle hfi hlt
      go_wp2_with fail
      go_ret
      exact ⟨by rw [HK.out]; rfl, hbel⟩
theorem Forms.new {w : World} {g : Nat} {t : TypeId} (h : w.heap[g]? = some (.cells frmsC t (0, 0))) : Forms w g 0 := fun j u hu => by
  rw [Nat.zero_add, cell_of_row w g j frmsC t (0, 0) h, ← hu]
  unfold frmsC
  simp
theorem Blk.setRow {w : World} {g g' : Nat} {t : TypeId} {cs cs' : Array Value} (h : Blk w g t cs) (hne : g ≠ g') : Blk (w.setRow g' cs') g t cs := (setRow_other w g' g cs' hne).trans h
/-- A value that is a form. -/
def zeroC : List Value := [.int .u8 0, .int .i64 0, .nilFunc, .nilFunc]
def FormPost (x : Nat) (w : World) (e : Ending) (w' : World) : Prop :=
  ((∃ f, frms[fi x]? = some f ∧ e = .returned (.tuple #[frmV f, .bool true])) ∨ (fi x = 10 ∧ e = .returned (.tuple #[.agg zeroC.toArray, .bool false]))) ∧ Below w.heap.size w w'
theorem results_cell2 {P : Program} {fn : Func} {p u : Tmp} {ty : TypeId} (h : fn.results = #[.cell p ty, .tmp u]) (tmps : Array Value) (w : World) (g : Nat) (t : TypeId) (cs : Array Value) (fr : Nat × Nat) (d : TypeDesc)
    (hp : tmps.getD p undef = .pointer (some ⟨g, 0, none⟩)) (hg : w.heap[g]? = some (.cells cs t fr))
    (hu : P.underlying ty = some d) (hd : (match d with | .struct _ | .array _ _ => true | _ => false) = true) (hi : (P.info? ty).map (·.size) = some cs.size) :
    (results fn tmps).run P w = .ok (.tuple #[.agg cs, tmps.getD u undef]) w := by
  rw [results_cell_tmp h, hp]
  simp [asAddr, run_loadVar_row w g t ty cs fr d hg hu hd hi, Result.andThen]
theorem frmC_one (f : Frm) : (frmC f).toArray.all (·.oneCell') = true := by
  obtain ⟨a, b, c, d⟩ := f
  simp [frmC, fn0, Value.oneCell']
theorem zeroC_one : zeroC.toArray.all (·.oneCell') = true := by kernel_rfl
theorem frm_info : (Try.prog.info? 49).map (·.size) = some 4 := by kernel_rfl
theorem formOf_mid {w w1 w2 w4 : World} {x : Nat} {cs0 : Array Value} (B0 : Blk w1 w.heap.size 5 #[.int .u8 (x : Int)]) (B1 : Blk w1 (w.heap.size + 1) 49 zeroC.toArray) (S1 : w1.heap.size = w.heap.size + 2)
    (W1 : Below w.heap.size w w1) (H2 : Below w1.heap.size w1 w2) :
    Blk ((w2.alloc (.cells cs0 60)).setRow w2.heap.size frmsC) w.heap.size 5 #[.int .u8 (x : Int)] ∧ Forms ((w2.alloc (.cells cs0 60)).setRow w2.heap.size frmsC) w2.heap.size 0 ∧ w2.heap.size < ((w2.alloc (.cells cs0 60)).setRow w2.heap.size frmsC).heap.size ∧
      (Below ((w2.alloc (.cells cs0 60)).setRow w2.heap.size frmsC).heap.size ((w2.alloc (.cells cs0 60)).setRow w2.heap.size frmsC) w4 → Blk w4 (w.heap.size + 1) 49 zeroC.toArray ∧ Forms w4 w2.heap.size 0 ∧ Below w.heap.size w w4 ∧ w.heap.size + 2 ≤ w2.heap.size) := by
  have s2 := H2.size
  have hF : Forms ((w2.alloc (.cells cs0 60)).setRow w2.heap.size frmsC) w2.heap.size 0 := Forms.new (setRow_heap _ _ _ _ 60 _ (heap_alloc_new _ _))
  have hl : w2.heap.size < ((w2.alloc (.cells cs0 60)).setRow w2.heap.size frmsC).heap.size := by simp
  have hb3 : Below w.heap.size w ((w2.alloc (.cells cs0 60)).setRow w2.heap.size frmsC) := below_setRow ((W1.trans (H2.mono W1.size)).alloc (by omega) _) (by omega) _
  have b3 := ((B1.below H2 (by omega)).alloc (.cells cs0 60)).setRow (g' := w2.heap.size) (cs' := frmsC) (by omega)
  refine ⟨((B0.below H2 (by omega)).alloc _).setRow (by omega), hF, hl, fun h4 => ?_⟩
  exact ⟨b3.below h4 b3.lt, hF.below hl h4, hb3.trans (h4.mono hb3.size), by omega⟩
set_option maxRecDepth 20000 in
set_option maxHeartbeats 1600000 in
theorem formOf_t (x : Nat) (w : World) :
    Calls Try.prog 18 #[.int .u8 (x : Int)] w (FormPost x w) := by
  go_enter Try.func18, Try.ntmps18
  go_wp2_with fail
  obtain ⟨w1, hw1⟩ : ∃ w1, w1 = (w.alloc (Obj.cells #[Value.int IntKind.u8 (x : Int)] 5)).alloc (Obj.cells #[Value.int IntKind.u8 0, Value.int IntKind.i64 0, Value.nilFunc, Value.nilFunc] 49) := ⟨_, rfl⟩
  have b0 : Blk w1 w.heap.size 5 #[.int .u8 (x : Int)] := by rw [hw1]; exact (Blk.new _ _ _).alloc _
  have b1 : Blk w1 (w.heap.size + 1) 49 zeroC.toArray := by
    rw [hw1]
    have := Blk.new (w.alloc (Obj.cells #[Value.int IntKind.u8 (x : Int)] 5)) 49 zeroC.toArray
    rw [World.size_alloc] at this
    exact this
  have hs1 : w1.heap.size = w.heap.size + 2 := by rw [hw1]; simp
  have hb1 : Below w.heap.size w w1 := by rw [hw1]; exact ((Below.refl _ _).alloc (Nat.le_refl _) _).alloc (by simp) _
  rw [← hw1]
  have B0 := Lib.hid b0
  have B1 := Lib.hid b1
  have S1 := Lib.hid hs1
  have W1 := Lib.hid hb1
  clear b0 b1 hs1 hb1 hw1
  refine (forms_t w1).mono ?_
  rintro e w2 ⟨rfl, h2⟩
  have H2 := Lib.hid h2
  clear h2
  go_wp2_with (first | (refine wpList_store_row rfl 60 _ _ rfl w2.heap.size frmsC rfl rfl 60 _ (heap_alloc_new _ _) (by kernel_rfl) (by kernel_rfl) (by kernel_rfl) ?_) | fail)
  refine (index_t w2.heap.size 0 w.heap.size x _ (formOf_mid (w4 := w) B0.out B1.out S1.out W1.out H2.out).1 (formOf_mid (w4 := w) B0.out B1.out S1.out W1.out H2.out).2.1 (formOf_mid (w4 := w) B0.out B1.out S1.out W1.out H2.out).2.2.1).mono ?_
  rintro e w4 ⟨rfl, h4⟩
  obtain ⟨hb4, hF4, hw4, hs4⟩ := (formOf_mid (w4 := w4) B0.out B1.out S1.out W1.out H2.out).2.2.2 h4
  clear h4 B0 B1 S1 W1 H2
  have HB := Lib.hid hb4
  have HW := Lib.hid hw4
  generalize w2.heap.size = gf at *
  have hle := fi_le x
  by_cases hlt : fi x < 10
  · obtain ⟨f, hf⟩ : ∃ f, frms[fi x]? = some f := ⟨_, List.getElem?_eq_getElem hlt⟩
    obtain ⟨c0, c1, c2, c3⟩ := hF4.at_ hf
    rw [Nat.zero_add] at c0 c1 c2 c3
    have hi : fii x = (fi x : Int) := by unfold fii; rw [if_pos hlt]
    have HFK := Lib.hid hf
    rw [hi]
    generalize hk9 : fi x = k at hf c0 c1 c2 c3 hlt hi ⊢
    clear hk9
    have hk : (k : Int) < 10 := by omega
    have hn : decide ((k : Int) < 0) = false := by simp
    clear hF4 hb4 hw4 hi hf hlt hle
    unfold fn0 at c2 c3
    obtain ⟨fa, fb, fc, fd⟩ := f
    dsimp only at c0 c1 c2 c3
    go_wp2_with (first | (refine wpList_store_row rfl 49 _ _ rfl (w.heap.size + 1) (frmC (fa, fb, fc, fd)).toArray rfl rfl 49 zeroC.toArray HB.out frm_info rfl (frmC_one _) ?_) | fail)
    go_wp2_with fail
    refine bodyPost_ret (v := .tuple #[frmV (fa, fb, fc, fd), .bool true]) (results_cell2 Try.results18 _ _ (w.heap.size + 1) 49 (frmC (fa, fb, fc, fd)).toArray (0, 0) _ rfl (setRow_heap _ _ _ _ _ _ HB.out) Try.underlying49 (by rfl) (by kernel_rfl)) rfl ?_
    exact ⟨.inl ⟨_, HFK.out, rfl⟩, below_setRow HW.out (by omega) _⟩
  · have hi : fii x = -1 := by unfold fii; rw [if_neg hlt]
    rw [hi]
    go_wp2_with (first | (refine wpList_store_row rfl 49 _ _ rfl (w.heap.size + 1) zeroC.toArray rfl rfl 49 zeroC.toArray HB.out frm_info rfl zeroC_one ?_) | fail)
    go_wp2_with fail
    refine bodyPost_ret (v := .tuple #[.agg zeroC.toArray, .bool false]) (results_cell2 Try.results18 _ _ (w.heap.size + 1) 49 zeroC.toArray (0, 0) _ rfl (setRow_heap _ _ _ _ _ _ HB.out) Try.underlying49 (by rfl) (by kernel_rfl)) rfl ?_
    exact ⟨.inr ⟨by omega, rfl⟩, below_setRow HW.out (by omega) _⟩
end Go.Proofs.Ytfeoalimkolebaa
