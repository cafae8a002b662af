/- Wire: the search of a letter's form walked. -/
import Derived.Test.YtbfhiegbgkkgiaaM11
import Derived.Test.YtbfhiegbgkkgiaaM01
import Derived.Laws.DeepNot64
namespace Go.Proofs.Ytbfhiegbgkkgiaa
open Go.RowKit
def isL (x : Nat) (f : Frm) : Bool := decide (f.1 = x)
def fi (x : Nat) : Nat := frms.findIdx (isL x)
theorem fi_le (x : Nat) : fi x ≤ 10 := List.findIdx_le_length
theorem fi_next {x k : Nat} {f : Frm} (hk : k ≤ fi x) (hf : frms[k]? = some f) (h : f.1 ≠ x) : k + 1 ≤ fi x := by
  rcases Nat.lt_or_ge k (fi x) with h1 | h1
  · exact h1
  · obtain rfl : k = fi x := by omega
    obtain ⟨hl, e⟩ := List.getElem?_eq_some_iff.1 hf
    have h2 := List.findIdx_getElem (p := isL x) (w := hl)
    have h3 : isL x f = true := by rw [← e]; exact h2
    exact absurd (of_decide_eq_true h3) h
theorem fi_stop {x k : Nat} {f : Frm} (hk : k ≤ fi x) (hf : frms[k]? = some f) (h : f.1 = x) : k = fi x := by
  rcases Nat.lt_or_ge k (fi x) with h1 | h1
  · obtain ⟨hl, e⟩ := List.getElem?_eq_some_iff.1 hf
    have h2 := List.not_of_lt_findIdx h1
    have h3 : isL x f = false := by rw [← e]; simpa using h2
    simp [isL, h] at h3
  · omega
def fii (x : Nat) : Int := if fi x < 10 then (fi x : Int) else -1
set_option maxRecDepth 100000 in
theorem isf_t (f : Frm) (x g : Nat) (w : World) (h : Blk w g 5 #[.int .u8 (x : Int)]) :
    Calls Try.prog 59 #[frmV f, .pointer (some ⟨g, 0, none⟩)] w fun e w' => e = .returned (.bool (isL x f)) ∧ Below w.heap.size w w' := by
  have c0 : w.cell? ⟨g, 0, none⟩ = some (.int .u8 (x : Int)) := by rw [h.cell]; rfl
  have hg := h.lt
  obtain ⟨a, b, c, d⟩ := f
  have hr : isL x (a, b, c, d) = ((a : Int) == (x : Int)) := by
    unfold isL
    rw [Bool.eq_iff_iff, decide_eq_true_iff, beq_iff_eq]
    show a = x ↔ _
    omega
  rw [hr]
  clear h hr
  unfold frmV frmC fn0
  go_enter Try.func59, Try.ntmps59
  go_wp2_with fail
  go_ret
  exact ⟨rfl, (Below.refl _ _).alloc (Nat.le_refl _) _⟩
/-- Cells from ⟨b, o⟩ on that are all the forms. -/
def Forms (w : World) (b o : Nat) : Prop := ∀ j u, (frms.flatMap frmC)[j]? = some u → w.cell? ⟨b, o + j, none⟩ = some u
theorem flat_at {k : Nat} {f : Frm} (h : frms[k]? = some f) (i : Nat) (hi : i < 4) : (frms.flatMap frmC)[k * 4 + i]? = (frmC f)[i]? := by
  have hk : k < 10 := (List.getElem?_eq_some_iff.1 h).1
  rcases k with _ | _ | _ | _ | _ | _ | _ | _ | _ | _ | k <;> first | omega | (injection h with h; subst h; rcases i with _ | _ | _ | _ | i <;> first | omega | rfl)
theorem Forms.at_ {w : World} {b o k : Nat} {f : Frm} (h : Forms w b o) (hf : frms[k]? = some f) :
    w.cell? ⟨b, o + k * 4, none⟩ = some (.int .u8 (f.1 : Int)) ∧ w.cell? ⟨b, o + k * 4 + 1, none⟩ = some (.int .i64 (f.2.1 : Int)) ∧ w.cell? ⟨b, o + k * 4 + 2, none⟩ = some (fn0 f.2.2.1) ∧ w.cell? ⟨b, o + k * 4 + 3, none⟩ = some (fn0 f.2.2.2) := by
  refine ⟨?_, ?_, ?_, ?_⟩
  · exact h (k * 4 + 0) _ (by rw [flat_at hf 0 (by omega)]; rfl)
  · have := h (k * 4 + 1) _ (by rw [flat_at hf 1 (by omega)]; rfl); rw [← Nat.add_assoc] at this; exact this
  · have := h (k * 4 + 2) _ (by rw [flat_at hf 2 (by omega)]; rfl); rw [← Nat.add_assoc] at this; exact this
  · have := h (k * 4 + 3) _ (by rw [flat_at hf 3 (by omega)]; rfl); rw [← Nat.add_assoc] at this; exact this
theorem Forms.below {w w' : World} {b o B : Nat} (h : Forms w b o) (hb : b < B) (hw : Below B w w') : Forms w' b o := fun j u hu => (hw.cell (p := ⟨b, o + j, none⟩) hb).trans (h j u hu)
theorem frm_small {k : Nat} {f : Frm} (h : frms[k]? = some f) : f.1 < 256 := by
  have hk : k < 10 := (List.getElem?_eq_some_iff.1 h).1
  rcases k with _ | _ | _ | _ | _ | _ | _ | _ | _ | _ | k <;> first | omega | (injection h with h; subst h; decide)
set_option maxRecDepth 100000 in
set_option maxHeartbeats 800000 in
theorem index_t (b o g x : Nat) (w : World) (h : Blk w g 5 #[.int .u8 (x : Int)]) (hF : Forms w b o) (hb : b < w.heap.size) :
    Calls Try.prog 58 #[.slice (some ⟨b, o, none⟩) 10 10, .func (Fn.func 59) #[] #[.pointer (some ⟨g, 0, none⟩)]] w fun e w' => e = .returned (.int .i64 (fii x)) ∧ Below w.heap.size w w' := by
  have H := Lib.hid h
  have HF := Lib.hid hF
  clear h hF
  go_enter Try.func58, Try.ntmps58
  go_wp2_with fail
  go_loopw [8] (fun i wr => ∃ k : Nat, k ≤ fi x ∧ i = .int .i64 (k : Int) ∧ Below w.heap.size w wr) (fun i _ => 10 - (intOf i).toNat)
  case atStart => exact ⟨0, Nat.zero_le _, rfl, Below.refl _ _⟩
  case round =>
    obtain ⟨k, hk, rfl, hbel⟩ := hrel
    obtain ⟨wo, rfl⟩ : ∃ wo : World, wo = wr := ⟨_, rfl⟩
    have hle := fi_le x
    by_cases hlt : k < 10
    · obtain ⟨f, hf⟩ : ∃ f, frms[k]? = some f := ⟨_, List.getElem?_eq_getElem hlt⟩
      obtain ⟨c0, c1, c2, c3⟩ := (HF.out.below hb hbel).at_ hf
      have hB := H.out.below hbel H.out.lt
      have hkk : (k : Int) < 10 := by omega
      have hk0 : (0 : Int) ≤ (k : Int) := by omega
      have HC := Lib.hid (isf_t f x g wo hB)
      have HW := Lib.hid hbel
      unfold frmV frmC fn0 at HC
      unfold fn0 at c2 c3
      by_cases he : f.1 = x
      · have HK : Hid (fii x = (k : Int)) := Lib.hid (by unfold fii; rw [← fi_stop hk hf he, if_pos hlt])
        have hi : isL x f = true := by simp [isL, he]
        rw [hi] at HC
        obtain ⟨fa, fb, fc, fd⟩ := f
        dsimp only at c0 c1 c2 c3 HC
        clear hk hle hf hB hbel he hlt hi
        go_wp2_with fail
        refine HC.out.mono ?_
        rintro e w1 ⟨rfl, h1⟩
        have H1 := Lib.hid h1
        clear h1
        go_wp2_with fail
        go_ret
        exact ⟨by rw [HK.out]; rfl, HW.out.trans (H1.out.mono HW.out.size)⟩
      · have HK := Lib.hid (fi_next hk hf he)
        have hi : isL x f = false := by simp [isL, he]
        rw [hi] at HC
        obtain ⟨fa, fb, fc, fd⟩ := f
        dsimp only at c0 c1 c2 c3 HC
        have HL := Lib.hid hlt
        clear hk hle hf hB hbel he hlt hi
        go_wp2_with fail
        refine HC.out.mono ?_
        rintro e w1 ⟨rfl, h1⟩
        have H1 := Lib.hid h1
        clear h1
        go_wp2_with fail
        go_roundw
        case rel => exact ⟨k + 1, HK.out, by go_num, HW.out.trans (H1.out.mono HW.out.size)⟩
        case measure => have := HL.out; simp [intOf]; omega
    · obtain rfl : k = 10 := by omega
      have hfi : fi x = 10 := by omega
      have HK : Hid (fii x = -1) := Lib.hid (by unfold fii; rw [hfi]; rfl)
      clear hk hle hfi hlt
      go_wp2_with fail
      go_ret
      exact ⟨by rw [HK.out]; rfl, hbel⟩
theorem Forms.new {w : World} {g : Nat} {t : TypeId} (h : w.heap[g]? = some (.cells frmsC t (0, 0))) : Forms w g 0 := fun j u hu => by
  rw [Nat.zero_add, cell_of_row w g j frmsC t (0, 0) h, ← hu]
  unfold frmsC
  simp
theorem Blk.setRow {w : World} {g g' : Nat} {t : TypeId} {cs cs' : Array Value} (h : Blk w g t cs) (hne : g ≠ g') : Blk (w.setRow g' cs') g t cs := (setRow_other w g' g cs' hne).trans h
/-- A value that is a form. -/
def zeroC : List Value := [.int .u8 0, .int .i64 0, .nilFunc, .nilFunc]
def FormPost (x : Nat) (w : World) (e : Ending) (w' : World) : Prop :=
  ((∃ f, frms[fi x]? = some f ∧ e = .returned (.tuple #[frmV f, .bool true])) ∨ (fi x = 10 ∧ e = .returned (.tuple #[.agg zeroC.toArray, .bool false]))) ∧ Below w.heap.size w w'
theorem results_cell2 {P : Program} {fn : Func} {p u : Tmp} {ty : TypeId} (h : fn.results = #[.cell p ty, .tmp u]) (tmps : Array Value) (w : World) (g : Nat) (t : TypeId) (cs : Array Value) (fr : Nat × Nat) (d : TypeDesc)
    (hp : tmps.getD p undef = .pointer (some ⟨g, 0, none⟩)) (hg : w.heap[g]? = some (.cells cs t fr))
    (hu : P.underlying ty = some d) (hd : (match d with | .struct _ | .array _ _ => true | _ => false) = true) (hi : (P.info? ty).map (·.size) = some cs.size) :
    (results fn tmps).run P w = .ok (.tuple #[.agg cs, tmps.getD u undef]) w := by
  rw [results_cell_tmp h, hp]
  simp [asAddr, run_loadVar_row w g t ty cs fr d hg hu hd hi, Result.andThen]
theorem frmC_one (f : Frm) : (frmC f).toArray.all (·.oneCell') = true := by
  obtain ⟨a, b, c, d⟩ := f
  simp [frmC, fn0, Value.oneCell']
theorem zeroC_one : zeroC.toArray.all (·.oneCell') = true := by kernel_rfl
set_option maxRecDepth 100000 in
theorem frm_info : (Try.prog.info? 86).map (·.size) = some 4 := by kernel_rfl
theorem formOf_mid {w w1 w2 w4 : World} {x : Nat} {cs0 : Array Value} (B0 : Blk w1 w.heap.size 5 #[.int .u8 (x : Int)]) (B1 : Blk w1 (w.heap.size + 1) 86 zeroC.toArray) (S1 : w1.heap.size = w.heap.size + 2)
    (W1 : Below w.heap.size w w1) (H2 : Below w1.heap.size w1 w2) :
    Blk ((w2.alloc (.cells cs0 114)).setRow w2.heap.size frmsC) w.heap.size 5 #[.int .u8 (x : Int)] ∧ Forms ((w2.alloc (.cells cs0 114)).setRow w2.heap.size frmsC) w2.heap.size 0 ∧ w2.heap.size < ((w2.alloc (.cells cs0 114)).setRow w2.heap.size frmsC).heap.size ∧
      (Below ((w2.alloc (.cells cs0 114)).setRow w2.heap.size frmsC).heap.size ((w2.alloc (.cells cs0 114)).setRow w2.heap.size frmsC) w4 → Blk w4 (w.heap.size + 1) 86 zeroC.toArray ∧ Forms w4 w2.heap.size 0 ∧ Below w.heap.size w w4 ∧ w.heap.size + 2 ≤ w2.heap.size) := by
  have s2 := H2.size
  have hF : Forms ((w2.alloc (.cells cs0 114)).setRow w2.heap.size frmsC) w2.heap.size 0 := Forms.new (setRow_heap _ _ _ _ 114 _ (heap_alloc_new _ _))
  have hl : w2.heap.size < ((w2.alloc (.cells cs0 114)).setRow w2.heap.size frmsC).heap.size := by simp
  have hb3 : Below w.heap.size w ((w2.alloc (.cells cs0 114)).setRow w2.heap.size frmsC) := below_setRow ((W1.trans (H2.mono W1.size)).alloc (by omega) _) (by omega) _
  have b3 := ((B1.below H2 (by omega)).alloc (.cells cs0 114)).setRow (g' := w2.heap.size) (cs' := frmsC) (by omega)
  refine ⟨((B0.below H2 (by omega)).alloc _).setRow (by omega), hF, hl, fun h4 => ?_⟩
  exact ⟨b3.below h4 b3.lt, hF.below hl h4, hb3.trans (h4.mono hb3.size), by omega⟩
set_option maxRecDepth 100000 in
set_option maxHeartbeats 1600000 in
theorem formOf_t (x : Nat) (w : World) :
    Calls Try.prog 44 #[.int .u8 (x : Int)] w (FormPost x w) := by
  go_enter Try.func44, Try.ntmps44
  go_wp2_with fail
  obtain ⟨w1, hw1⟩ : ∃ w1, w1 = (w.alloc (Obj.cells #[Value.int IntKind.u8 (x : Int)] 5)).alloc (Obj.cells #[Value.int IntKind.u8 0, Value.int IntKind.i64 0, Value.nilFunc, Value.nilFunc] 86) := ⟨_, rfl⟩
  have b0 : Blk w1 w.heap.size 5 #[.int .u8 (x : Int)] := by rw [hw1]; exact (Blk.new _ _ _).alloc _
  have b1 : Blk w1 (w.heap.size + 1) 86 zeroC.toArray := by
    rw [hw1]
    have := Blk.new (w.alloc (Obj.cells #[Value.int IntKind.u8 (x : Int)] 5)) 86 zeroC.toArray
    rw [World.size_alloc] at this
    exact this
  have hs1 : w1.heap.size = w.heap.size + 2 := by rw [hw1]; simp
  have hb1 : Below w.heap.size w w1 := by rw [hw1]; exact ((Below.refl _ _).alloc (Nat.le_refl _) _).alloc (by simp) _
  rw [← hw1]
  have B0 := Lib.hid b0
  have B1 := Lib.hid b1
  have S1 := Lib.hid hs1
  have W1 := Lib.hid hb1
  clear b0 b1 hs1 hb1 hw1
  refine (forms_t w1).mono ?_
  rintro e w2 ⟨rfl, h2⟩
  have H2 := Lib.hid h2
  clear h2
  go_wp2_with (first | (refine wpList_store_row rfl 114 _ _ rfl w2.heap.size frmsC rfl rfl 114 _ (heap_alloc_new _ _) (by kernel_rfl) (by kernel_rfl) (by kernel_rfl) ?_) | fail)
  refine (index_t w2.heap.size 0 w.heap.size x _ (formOf_mid (w4 := w) B0.out B1.out S1.out W1.out H2.out).1 (formOf_mid (w4 := w) B0.out B1.out S1.out W1.out H2.out).2.1 (formOf_mid (w4 := w) B0.out B1.out S1.out W1.out H2.out).2.2.1).mono ?_
  rintro e w4 ⟨rfl, h4⟩
  obtain ⟨hb4, hF4, hw4, hs4⟩ := (formOf_mid (w4 := w4) B0.out B1.out S1.out W1.out H2.out).2.2.2 h4
  clear h4 B0 B1 S1 W1 H2
  have HB := Lib.hid hb4
  have HW := Lib.hid hw4
  generalize w2.heap.size = gf at *
  have hle := fi_le x
  by_cases hlt : fi x < 10
  · obtain ⟨f, hf⟩ : ∃ f, frms[fi x]? = some f := ⟨_, List.getElem?_eq_getElem hlt⟩
    obtain ⟨c0, c1, c2, c3⟩ := hF4.at_ hf
    rw [Nat.zero_add] at c0 c1 c2 c3
    have hi : fii x = (fi x : Int) := by unfold fii; rw [if_pos hlt]
    have HFK := Lib.hid hf
    rw [hi]
    generalize hk9 : fi x = k at hf c0 c1 c2 c3 hlt hi ⊢
    clear hk9
    have hk : (k : Int) < 10 := by omega
    have hn : decide ((k : Int) < 0) = false := by simp
    clear hF4 hb4 hw4 hi hf hlt hle
    unfold fn0 at c2 c3
    obtain ⟨fa, fb, fc, fd⟩ := f
    dsimp only at c0 c1 c2 c3
    go_wp2_with (first | (refine wpList_store_row rfl 86 _ _ rfl (w.heap.size + 1) (frmC (fa, fb, fc, fd)).toArray rfl rfl 86 zeroC.toArray HB.out frm_info rfl (frmC_one _) ?_) | fail)
    go_wp2_with fail
    refine bodyPost_ret (v := .tuple #[frmV (fa, fb, fc, fd), .bool true]) (results_cell2 Try.results44 _ _ (w.heap.size + 1) 86 (frmC (fa, fb, fc, fd)).toArray (0, 0) _ rfl (setRow_heap _ _ _ _ _ _ HB.out) Try.underlying86 (by rfl) (by kernel_rfl)) rfl ?_
    exact ⟨.inl ⟨_, HFK.out, rfl⟩, below_setRow HW.out (by omega) _⟩
  · have hi : fii x = -1 := by unfold fii; rw [if_neg hlt]
    rw [hi]
    go_wp2_with (first | (refine wpList_store_row rfl 86 _ _ rfl (w.heap.size + 1) zeroC.toArray rfl rfl 86 zeroC.toArray HB.out frm_info rfl zeroC_one ?_) | fail)
    go_wp2_with fail
    refine bodyPost_ret (v := .tuple #[.agg zeroC.toArray, .bool false]) (results_cell2 Try.results44 _ _ (w.heap.size + 1) 86 zeroC.toArray (0, 0) _ rfl (setRow_heap _ _ _ _ _ _ HB.out) Try.underlying86 (by rfl) (by kernel_rfl)) rfl ?_
    exact ⟨.inr ⟨by omega, rfl⟩, below_setRow HW.out (by omega) _⟩
end Go.Proofs.Ytbfhiegbgkkgiaa
/- Wire: the bytes of numbers, in plain Lean. -/

namespace Go.Proofs.Ytbfhiegbgkkgiaa
namespace Wi
def by8 (n : Nat) : UInt8 := UInt8.ofNat n
theorem by8_nat {n : Nat} (h : n < 256) : (by8 n).toNat = n := by simp only [by8, UInt8.toNat_ofNat']; omega
theorem by8_mod (n : Nat) : (by8 n).toNat = n % 256 := by simp only [by8, UInt8.toNat_ofNat']
/-- A number in groups of seven bits, the lowest first. -/
def leb (n : Nat) : List UInt8 := if h : n < 128 then [by8 n] else by8 (128 + n % 128) :: leb (n / 128)
termination_by n
decreasing_by omega
theorem leb_last {n : Nat} (h : n < 128) : leb n = [by8 n] := by rw [leb, dif_pos h]
theorem leb_more {n : Nat} (h : 128 ≤ n) : leb n = by8 (128 + n % 128) :: leb (n / 128) := by rw [leb, dif_neg (by omega)]
theorem leb_pos (n : Nat) : 0 < (leb n).length := by rw [leb]; split <;> simp
theorem leb_len : ∀ (k n : Nat), n < 128 ^ (k + 1) → (leb n).length ≤ k + 1
  | 0, n, h => by rw [leb_last (by simpa using h)]; simp
  | k + 1, n, h => by
    rcases Nat.lt_or_ge n 128 with h1 | h1
    · rw [leb_last h1]; simp
    · rw [leb_more h1, List.length_cons]
      have := leb_len k (n / 128) (by rw [Nat.pow_succ] at h; omega)
      omega
theorem leb_len64 {n : Nat} (h : n < 18446744073709551616) : (leb n).length ≤ 10 := leb_len 9 n (by omega)
/-- The same, but the ninth byte (k = 0) holds eight bits. -/
def nine : Nat → Nat → List UInt8
  | 0, n => [by8 n]
  | k + 1, n => if n < 128 then [by8 n] else by8 (128 + n % 128) :: nine k (n / 128)
theorem nine_len : ∀ (k n : Nat), (nine k n).length ≤ k + 1
  | 0, _ => by simp [nine]
  | k + 1, n => by
    rw [nine]
    split
    · simp
    · rw [List.length_cons]; have := nine_len k (n / 128); omega
/-- A number that is meant with a sign, as one without. -/
def sign (n : Nat) : Nat := if n < 9223372036854775808 then 2 * n else 2 * (18446744073709551615 - n) + 1
def unsign (n : Nat) : Nat := if n % 2 = 0 then n / 2 else 18446744073709551615 - n / 2
theorem sign_lt {n : Nat} (h : n < 18446744073709551616) : sign n < 18446744073709551616 := by unfold sign; split <;> omega
theorem unsign_lt {n : Nat} (h : n < 18446744073709551616) : unsign n < 18446744073709551616 := by unfold unsign; split <;> omega
theorem unsign_sign {n : Nat} (h : n < 18446744073709551616) : unsign (sign n) = n := by unfold sign unsign; split <;> split <;> omega
theorem sign_unsign {n : Nat} (h : n < 18446744073709551616) : sign (unsign n) = n := by unfold sign unsign; split <;> split <;> omega
/-- k bytes, the lowest first; the highest first. -/
def low : Nat → Nat → List UInt8
  | 0, _ => []
  | k + 1, n => by8 (n % 256) :: low k (n / 256)
theorem low_len (k n : Nat) : (low k n).length = k := by
  induction k generalizing n with
  | zero => rfl
  | succ k ih => rw [low, List.length_cons, ih]
def high (k n : Nat) : List UInt8 := (low k n).reverse
theorem high_len (k n : Nat) : (high k n).length = k := by unfold high; rw [List.length_reverse, low_len]
end Wi
end Go.Proofs.Ytbfhiegbgkkgiaa
/- Wire: the writers walked (leb, zig, nine). -/

namespace Go.Proofs.Ytbfhiegbgkkgiaa
open Go.RowKit
open Wi
set_option maxRecDepth 100000 in
theorem elem_u8 : Elem Try.prog 22 5 1 1 := elem_of Try.underlying22 (z := .int .u8 0) (by kernel_rfl) (by decide) (by decide)
theorem byte_new (w : World) (x : UInt8) : Reads (w.alloc (.cells #[.int .u8 (x.toNat : Int)] 5)) (w.alloc (.cells #[.int .u8 (x.toNat : Int)] 5)).heap.size 1 (some ⟨w.heap.size, 0, none⟩) 1 (bvs [x]) :=
  Reads.lit (newest _ _) rfl rfl
def OwnB (w : World) (base : Nat) (A : Option Addr) (c : Nat) (l : List UInt8) : Prop := Own w base 5 1 A l.length c (bvs l)
theorem OwnB.reads {w : World} {base : Nat} {A : Option Addr} {c : Nat} {l : List UInt8} (h : OwnB w base A c l) : Bts w w.heap.size A l := Own.reads h
/-- Block g is a writer that has written the bytes L. -/
def Wr (w : World) (g : Nat) (A : Option Addr) (c : Nat) (L : List UInt8) : Prop := Blk w g 113 #[.slice A L.length c] ∧ OwnB w g A c L
def WK (g : Nat) (A : Option Addr) (i : Nat) : Prop := i = g ∨ blockOf A = some i
def Wrote (g : Nat) (A : Option Addr) (L : List UInt8) (w w' : World) : Prop := ∃ A' c', Wr w' g A' c' L ∧ Only (WK g A) w w' ∧ (blockOf A' = blockOf A ∨ ∃ i, blockOf A' = some i ∧ w.heap.size ≤ i)
theorem Wrote.refl {w : World} {g : Nat} {A : Option Addr} {c : Nat} {L : List UInt8} (h : Wr w g A c L) : Wrote g A L w w := ⟨A, c, h, Only.refl _ _, .inl rfl⟩
theorem Wrote.then {g : Nat} {A : Option Addr} {L : List UInt8} {w w' w'' : World} {A' : Option Addr} (ho : Only (WK g A) w w') (hl : blockOf A' = blockOf A ∨ ∃ i, blockOf A' = some i ∧ w.heap.size ≤ i) (h : Wrote g A' L w' w'') : Wrote g A L w w'' := by
  obtain ⟨A2, c2, h1, h2, h3⟩ := h
  refine ⟨A2, c2, h1, ho.step h2 (fun i hi => ?_), ?_⟩
  · rcases hi with rfl | hi
    · exact .inl (.inl rfl)
    · rcases hl with hl | ⟨j, hj, hw⟩
      · exact .inl (.inr (hl ▸ hi))
      · rw [hj] at hi
        injection hi with hi
        exact .inr (by omega)
  · rcases h3 with h3 | ⟨j, hj, hw⟩
    · rcases hl with hl | ⟨j, hj, hw⟩
      · exact .inl (h3.trans hl)
      · exact .inr ⟨j, h3.trans hj, hw⟩
    · exact .inr ⟨j, hj, Nat.le_trans ho.size hw⟩
/-- One more byte, appended and stored. -/
theorem wr_step {wo w3 : World} {g c c3 : Nat} {A A3 : Option Addr} {S : List UInt8} {x : UInt8} {cs : Array Value} (h : Wr wo g A c S) (o3 : Own w3 g 5 1 A3 (S.length + 1) c3 (bvs (S ++ [x])))
    (g3 : (wo.alloc (.cells cs 5)).grownBy w3 (blockOf A)) (q3 : blockOf A3 = blockOf A ∨ blockOf A3 = some (wo.alloc (.cells cs 5)).heap.size) :
    Blk w3 g 113 #[.slice A S.length c] ∧ Wrote g A (S ++ [x]) wo (w3.setCell ⟨g, 0, none⟩ (.slice A3 (S.length + 1) c3)) := by
  obtain ⟨hb, ho⟩ := h
  have hO2 := Own.alloc (show Own wo g 5 1 A S.length c (bvs S) from ho) (.cells cs 5)
  have hb3 := (hb.alloc (.cells cs 5)).grown g3 (fun e => Own.ne_blk hO2 (hb.alloc _) (by decide) e.symm)
  have hon3 : Only (WK g A) wo w3 := ((Only.refl (WK g A) wo).alloc _).step (Only.of_grown g3) (fun i hi => .inl (.inr hi))
  have hbn : blockOf A3 ≠ some g := Own.ne_blk o3 hb3 (by decide)
  refine ⟨hb3, A3, c3, ⟨?_, ?_⟩, hon3.set (p := ⟨g, 0, none⟩) (.inl (.inl rfl)) _, q3.imp id (fun e => ⟨_, e, by simp⟩)⟩
  · have := hb3.put 0 (.slice A3 (S.length + 1) c3)
    rw [List.length_append]
    simpa using this
  · have := Own.setOther o3 (p := ⟨g, 0, none⟩) hbn (.slice A3 (S.length + 1) c3)
    unfold OwnB
    rw [List.length_append]
    exact this
set_option maxRecDepth 4000 in
theorem nat_or128 : ∀ a, a < 256 → a ||| 128 = 128 + a % 128 := by decide
theorem or128 {n : Nat} : bits .or .u8 ((n : Int) % 256) 128 = ((by8 (128 + n % 128)).toNat : Int) := by
  rw [show (n : Int) % 256 = ((n % 256 : Nat) : Int) by omega, show (128 : Int) = ((128 : Nat) : Int) from rfl, u8_or_nat _ _ (by omega) (by omega), nat_or128 _ (by omega), by8_nat (by omega)]
  omega
set_option maxRecDepth 100000 in
set_option maxHeartbeats 800000 in
theorem wleb_t (g : Nat) (A : Option Addr) (c : Nat) (L : List UInt8) (n : Nat) (k : Int) (w : World) (h : Wr w g A c L) (hn : n < 18446744073709551616) (hL : (L ++ leb n).length ≤ 100000000) :
    Calls Try.prog 77 #[.pointer (some ⟨g, 0, none⟩), .int .u64 (n : Int), .int .i64 k] w fun e w' => e = .returned (.tuple #[]) ∧ Wrote g A (L ++ leb n) w w' := by
  obtain ⟨T, hT⟩ : ∃ T, T = L ++ leb n := ⟨_, rfl⟩
  rw [← hT] at hL ⊢
  have H := Lib.hid h
  have HT := Lib.hid hT
  clear h hT
  go_enter Try.func77, Try.ntmps77
  go_wp2_with fail
  go_loopw [1] (fun u wr => ∃ (m : Nat) (S : List UInt8) (A2 : Option Addr) (c2 : Nat), u = .int .u64 (m : Int) ∧ m < 18446744073709551616 ∧ T = S ++ leb m ∧ Wr wr g A2 c2 S ∧ Only (WK g A) w wr ∧ (blockOf A2 = blockOf A ∨ ∃ i, blockOf A2 = some i ∧ w.heap.size ≤ i)) (fun u _ => (intOf u).toNat)
  case atStart => exact ⟨n, L, A, c, rfl, hn, HT.out, H.out, Only.refl _ _, .inl rfl⟩
  case round =>
    obtain ⟨m, S, A2, c2, rfl, hm, hT, hw, hon, hbl⟩ := hrel
    obtain ⟨wo, rfl⟩ : ∃ wo : World, wo = wr := ⟨_, rfl⟩
    have hp := leb_pos m
    have hSl : S.length + 1 ≤ 100000000 := by rw [hT, List.length_append] at hL; omega
    have c0 : wo.cell? ⟨g, 0, none⟩ = some (.slice A2 S.length c2) := by rw [hw.1.cell]; rfl
    have fr := hw.1.free
    have HW := Lib.hid hw
    have HON := Lib.hid hon
    have HBL := Lib.hid hbl
    have hgl : g < wo.heap.size := hw.1.lt
    by_cases hlt : m < 128
    · have hd : decide ((127 : Int) < (m : Int)) = false := by simp; omega
      have hx : IntKind.u8.wrap (m : Int) = ((by8 m).toNat : Int) := by rw [by8_nat (by omega), IntWalk.u8_in _ (by omega)]
      rw [leb_last hlt] at hT
      have HT2 := Lib.hid hT
      clear hT hw hon hbl hlt hp HT H hn
      generalize by8 m = x at *
      go_wp2_with (at_builtin; refine Hid.out ?_)
      have hO2 := Own.alloc (show Own wo g 5 1 A2 S.length c2 (bvs S) from HW.out.2) (.cells #[.int .u8 (x.toNat : Int)] 5)
      refine wpList_app (xs := bvs S) rfl rfl elem_u8 rfl hO2 rfl (byte_new wo x) (bvs_one _) (S.length + 1) rfl (bvs (S ++ [x])) (bvs_append _ _).symm (by unfold maxLen; omega) (by omega) (by have := HW.out.1.lt; simp; omega) ?_
      intro A3 c3 w3 o3 g3 q3
      obtain ⟨hb3, hwr⟩ := wr_step HW.out o3 g3 q3
      have c03 : w3.cell? ⟨g, 0, none⟩ = some (.slice A2 S.length c2) := by rw [hb3.cell]; rfl
      have fr3 := hb3.free
      have hgl3 : g < w3.heap.size := hb3.lt
      have HR := Lib.hid (Wrote.then HON.out HBL.out hwr)
      clear hO2 o3 g3 q3 hb3 hwr c0 fr hgl
      go_wp2_with fail
      exact bodyPost_end (v := .tuple #[]) (results_none Try.results77 _ _ _) rfl ⟨rfl, by rw [HT2.out]; exact HR.out⟩
    · have hd : decide ((127 : Int) < (m : Int)) = true := by simp; omega
      have hx : bits .or .u8 ((m : Int) % 256) 128 = ((by8 (128 + m % 128)).toNat : Int) := or128
      rw [leb_more (by omega)] at hT
      have HT2 := Lib.hid hT
      have HLT := Lib.hid hlt
      have HM := Lib.hid hm
      clear hT hw hon hbl hlt hp HT H hn hm
      generalize by8 (128 + m % 128) = x at *
      go_wp2_with (at_builtin; refine Hid.out ?_)
      have hO2 := Own.alloc (show Own wo g 5 1 A2 S.length c2 (bvs S) from HW.out.2) (.cells #[.int .u8 (x.toNat : Int)] 5)
      refine wpList_app (xs := bvs S) rfl rfl elem_u8 rfl hO2 rfl (byte_new wo x) (bvs_one _) (S.length + 1) rfl (bvs (S ++ [x])) (bvs_append _ _).symm (by unfold maxLen; omega) (by omega) (by have := HW.out.1.lt; simp; omega) ?_
      intro A3 c3 w3 o3 g3 q3
      obtain ⟨hb3, hwr⟩ := wr_step HW.out o3 g3 q3
      have c03 : w3.cell? ⟨g, 0, none⟩ = some (.slice A2 S.length c2) := by rw [hb3.cell]; rfl
      have fr3 := hb3.free
      have hgl3 : g < w3.heap.size := hb3.lt
      have HR := Lib.hid (Wrote.then HON.out HBL.out hwr)
      clear hO2 o3 g3 q3 hb3 hwr c0 fr hgl
      go_wp2_with fail
      go_roundw
      case rel =>
        obtain ⟨A4, c4, k1, k2, k3⟩ := HR.out
        exact ⟨m / 128, S ++ [x], A4, c4, by go_num, by have := HM.out; omega, by rw [HT2.out]; simp, k1, k2, k3⟩
      case measure => have := HLT.out; simp [intOf]; omega
end Go.Proofs.Ytbfhiegbgkkgiaa
/- Wire: signs walked. -/

namespace Go.Proofs.Ytbfhiegbgkkgiaa
open Go.RowKit
open Wi
/-- The number as one with a sign. -/
def sg (n : Nat) : Int := if n < 9223372036854775808 then (n : Int) else (n : Int) - 18446744073709551616
theorem xor_ones {a : Nat} (h : a < 18446744073709551616) : a ^^^ 18446744073709551615 = 18446744073709551615 - a := by
  have := congrArg BitVec.toNat (BitVec.xor_allOnes (x := BitVec.ofNat 64 a))
  rw [BitVec.toNat_xor, BitVec.toNat_allOnes, BitVec.toNat_not, BitVec.toNat_ofNat, Nat.mod_eq_of_lt (show a < 2 ^ 64 from h)] at this
  exact this
theorem xor_i64_comm (a b : Int) : bits .xor .i64 a b = bits .xor .i64 b a := by
  show IntKind.i64.wrap ((BitVec.ofInt 64 a ^^^ BitVec.ofInt 64 b).toNat : Int) = IntKind.i64.wrap ((BitVec.ofInt 64 b ^^^ BitVec.ofInt 64 a).toNat : Int)
  rw [BitVec.xor_comm]
theorem xor_i64_zero (a : Nat) (h : a < 9223372036854775808) : bits .xor .i64 (a : Int) 0 = (a : Int) := by
  show IntKind.i64.wrap ((BitVec.ofInt 64 (a : Int) ^^^ BitVec.ofInt 64 0).toNat : Int) = _
  rw [show BitVec.ofInt 64 0 = 0#64 from rfl, BitVec.xor_zero, ofInt_u64 a (by omega)]
  exact IntWalk.i64_in _ ⟨by omega, by omega⟩
set_option maxRecDepth 100000 in
theorem sign_t (n : Nat) (w : World) (hn : n < 18446744073709551616) :
    Calls Try.prog 90 #[.int .i64 (sg n)] w fun e w' => e = .returned (.int .u64 (sign n : Nat)) ∧ w = w' := by
  unfold sg sign
  split
  · have hx : bits .xor .u64 ((n : Int) * 2) ((n : Int) / 9223372036854775808) = ((2 * n : Nat) : Int) := by
      rw [show (n : Int) * 2 = ((2 * n : Nat) : Int) by omega, show (n : Int) / 9223372036854775808 = ((0 : Nat) : Int) by omega, u64_xor_nat _ _ (by omega) (by omega), Nat.xor_zero]
    have hx2 := Lib.hid hx
    clear hx
    go_enter Try.func90, Try.ntmps90
    go_wp2_with fail
    go_ret
    exact ⟨congrArg (fun z => Ending.returned (.int .u64 z)) hx2.out, rfl⟩
  · have hx : bits .xor .u64 (IntKind.u64.wrap (IntKind.u64.wrap ((n : Int) - 18446744073709551616) * 2)) (IntKind.u64.wrap (((n : Int) - 18446744073709551616) / 9223372036854775808)) = ((2 * (18446744073709551615 - n) + 1 : Nat) : Int) := by
      rw [IntKind.wrap_u64, IntKind.wrap_u64, IntKind.wrap_u64, show ((n : Int) - 18446744073709551616) % 18446744073709551616 * 2 % 18446744073709551616 = ((2 * n - 18446744073709551616 : Nat) : Int) by omega,
        show ((n : Int) - 18446744073709551616) / 9223372036854775808 % 18446744073709551616 = ((18446744073709551615 : Nat) : Int) by omega, u64_xor_nat _ _ (by omega) (by omega), xor_ones (by omega)]
      omega
    have hx2 := Lib.hid hx
    clear hx
    go_enter Try.func90, Try.ntmps90
    go_wp2_with fail
    go_ret
    exact ⟨congrArg (fun z => Ending.returned (.int .u64 z)) hx2.out, rfl⟩
theorem and1 (n : Nat) (hn : n < 18446744073709551616) : bits .and .u64 (n : Int) 1 = ((n % 2 : Nat) : Int) := by
  rw [show (1 : Int) = ((1 : Nat) : Int) from rfl, u64_and_nat _ _ hn (by omega), nat_mask1]
set_option maxRecDepth 100000 in
theorem unsign_t (n : Nat) (w : World) (hn : n < 18446744073709551616) :
    Calls Try.prog 91 #[.int .u64 (n : Int)] w fun e w' => e = .returned (.int .i64 (sg (unsign n))) ∧ w = w' := by
  have hx : bits .xor .i64 ((n : Int) / 2) (wrap64 (-wrap64 (bits .and .u64 (n : Int) 1))) = sg (unsign n) := by
    rw [and1 n hn]
    unfold unsign
    split
    · rename_i h
      rw [h, show wrap64 (-wrap64 ((0 : Nat) : Int)) = 0 by unfold wrap64; omega, show (n : Int) / 2 = ((n / 2 : Nat) : Int) by omega, xor_i64_zero _ (by omega)]
      unfold sg
      rw [if_pos (by omega)]
    · rename_i h
      rw [show n % 2 = 1 by omega, show wrap64 (-wrap64 ((1 : Nat) : Int)) = -1 by unfold wrap64; omega, show (n : Int) / 2 = ((n / 2 : Nat) : Int) by omega, xor_i64_comm, i64_not _ (by omega)]
      unfold sg
      rw [if_neg (by omega)]
      omega
  have hx2 := Lib.hid hx
  clear hx
  go_enter Try.func91, Try.ntmps91
  go_wp2_with fail
  go_ret
  exact ⟨congrArg (fun z => Ending.returned (.int .i64 z)) hx2.out, rfl⟩
set_option maxRecDepth 100000 in
theorem rsign_t (n : Nat) (w : World) (hn : n < 18446744073709551616) :
    Calls Try.prog 66 #[.int .u64 (n : Int)] w fun e w' => e = .returned (.int .u64 (sign n : Nat)) ∧ w = w' := by
  unfold sign
  split
  · have hd : (n : Int) < 9223372036854775808 := by omega
    go_enter Try.func66, Try.ntmps66
    go_wp2_with fail
    go_ret
    exact ⟨by go_num, rfl⟩
  · have hd : ¬ (n : Int) < 9223372036854775808 := by omega
    go_enter Try.func66, Try.ntmps66
    go_wp2_with fail
    go_ret
    exact ⟨by go_num, rfl⟩
set_option maxRecDepth 100000 in
theorem runsign_t (n : Nat) (w : World) (hn : n < 18446744073709551616) :
    Calls Try.prog 42 #[.int .u64 (n : Int)] w fun e w' => e = .returned (.int .u64 (unsign n : Nat)) ∧ w = w' := by
  unfold unsign
  split
  · have hd : ((n : Int) % 2 == 0) = true := by simp; omega
    go_enter Try.func42, Try.ntmps42
    go_wp2_with fail
    go_ret
    exact ⟨by go_num, rfl⟩
  · have hd : ((n : Int) % 2 == 0) = false := by simp; omega
    go_enter Try.func42, Try.ntmps42
    go_wp2_with fail
    go_ret
    exact ⟨by go_num, rfl⟩
end Go.Proofs.Ytbfhiegbgkkgiaa
/- Wire: the writers zig and nine walked. -/

namespace Go.Proofs.Ytbfhiegbgkkgiaa
open Go.RowKit
open Wi
theorem wrap_sg {n : Nat} (hn : n < 18446744073709551616) : wrap64 (n : Int) = sg n := by
  unfold wrap64 sg
  split <;> omega
set_option maxRecDepth 100000 in
theorem wzig_t (g : Nat) (A : Option Addr) (c : Nat) (L : List UInt8) (n : Nat) (k : Int) (w : World) (h : Wr w g A c L) (hn : n < 18446744073709551616) (hL : L.length ≤ 99999000) :
    Calls Try.prog 79 #[.pointer (some ⟨g, 0, none⟩), .int .u64 (n : Int), .int .i64 k] w fun e w' => e = .returned (.tuple #[]) ∧ Wrote g A (L ++ leb (sign n)) w w' := by
  have hsg := wrap_sg hn
  have HS := Lib.hid (fun W => sign_t n W hn)
  have HL := Lib.hid (wleb_t g A c L (sign n) k w h (sign_lt hn) (by have := leb_len64 (sign_lt hn); rw [List.length_append]; omega))
  clear h hL hn
  go_enter Try.func79, Try.ntmps79
  go_wp2_with fail
  refine (HS.out _).mono ?_
  rintro e w1 ⟨rfl, rfl⟩
  go_wp2_with fail
  refine HL.out.mono ?_
  rintro e w2 ⟨rfl, h2⟩
  have H2 := Lib.hid h2
  clear h2
  go_wp2_with fail
  exact bodyPost_end (v := .tuple #[]) (results_none Try.results79 _ _ _) rfl ⟨rfl, H2.out⟩
set_option maxRecDepth 100000 in
set_option maxHeartbeats 1600000 in
theorem wnine_t (g : Nat) (A : Option Addr) (c : Nat) (L : List UInt8) (n : Nat) (k : Int) (w : World) (h : Wr w g A c L) (hn : n < 18446744073709551616) (hL : L.length ≤ 99999000) :
    Calls Try.prog 81 #[.pointer (some ⟨g, 0, none⟩), .int .u64 (n : Int), .int .i64 k] w fun e w' => e = .returned (.tuple #[]) ∧ Wrote g A (L ++ nine 8 (sign n)) w w' := by
  have hsg := wrap_sg hn
  have HS := Lib.hid (fun W => sign_t n W hn)
  have HSL := Lib.hid (sign_lt hn)
  obtain ⟨T, hT⟩ : ∃ T, T = L ++ nine 8 (sign n) := ⟨_, rfl⟩
  have hTl : T.length ≤ 99999100 := by have := nine_len 8 (sign n); rw [hT, List.length_append]; omega
  rw [← hT]
  have H := Lib.hid h
  have HT := Lib.hid hT
  have HTL := Lib.hid hTl
  clear h hT hn hL hTl
  go_enter Try.func81, Try.ntmps81
  go_wp2_with fail
  refine (HS.out _).mono ?_
  rintro e w1 ⟨rfl, rfl⟩
  go_wp2_with fail
  go_loopw [1, 9] (fun u v wr => ∃ (m i : Nat) (S : List UInt8) (A2 : Option Addr) (c2 : Nat), u = .int .u64 (m : Int) ∧ v = .int .i64 (i : Int) ∧ i ≤ 8 ∧ m < 18446744073709551616 ∧ T = S ++ nine (8 - i) m ∧ Wr wr g A2 c2 S ∧ Only (WK g A) w wr ∧ (blockOf A2 = blockOf A ∨ ∃ i, blockOf A2 = some i ∧ w.heap.size ≤ i)) (fun _ v _ => 8 - (intOf v).toNat)
  case atStart => exact ⟨sign n, 0, L, A, c, rfl, rfl, by omega, HSL.out, HT.out, H.out, Only.refl _ _, .inl rfl⟩
  case round =>
    obtain ⟨m, i, S, A2, c2, rfl, rfl, hi, hm, hT, hw, hon, hbl⟩ := hrel
    obtain ⟨wo, rfl⟩ : ∃ wo : World, wo = wr := ⟨_, rfl⟩
    have hSl : S.length ≤ 99999100 := by have := HTL.out; rw [hT, List.length_append] at this; omega
    have c0 : wo.cell? ⟨g, 0, none⟩ = some (.slice A2 S.length c2) := by rw [hw.1.cell]; rfl
    have fr := hw.1.free
    have HW := Lib.hid hw
    have HON := Lib.hid hon
    have HBL := Lib.hid hbl
    have hgl : g < wo.heap.size := hw.1.lt
    by_cases h8 : i < 8
    · have hii : (i : Int) < 8 := by omega
      obtain ⟨j, hj⟩ : ∃ j, 8 - i = j + 1 := ⟨7 - i, by omega⟩
      have hj2 : 8 - (i + 1) = j := by omega
      rw [hj, nine] at hT
      by_cases hlt : m < 128
      · have hd : decide ((m : Int) ≤ 127) = true := by simp; omega
        have hx : IntKind.u8.wrap (m : Int) = ((by8 m).toNat : Int) := by rw [by8_nat (by omega), IntWalk.u8_in _ (by omega)]
        rw [if_pos hlt] at hT
        have HT2 := Lib.hid hT
        clear hT hw hon hbl hlt HT H hj hj2 hi h8 hm
        generalize by8 m = x at *
        go_wp2_with (at_builtin; refine Hid.out ?_)
        have hO2 := Own.alloc (show Own wo g 5 1 A2 S.length c2 (bvs S) from HW.out.2) (.cells #[.int .u8 (x.toNat : Int)] 5)
        refine wpList_app (xs := bvs S) rfl rfl elem_u8 rfl hO2 rfl (byte_new wo x) (bvs_one _) (S.length + 1) rfl (bvs (S ++ [x])) (bvs_append _ _).symm (by unfold maxLen; omega) (by omega) (by have := HW.out.1.lt; simp; omega) ?_
        intro A3 c3 w3 o3 g3 q3
        obtain ⟨hb3, hwr⟩ := wr_step HW.out o3 g3 q3
        have c03 : w3.cell? ⟨g, 0, none⟩ = some (.slice A2 S.length c2) := by rw [hb3.cell]; rfl
        have fr3 := hb3.free
        have hgl3 : g < w3.heap.size := hb3.lt
        have HR := Lib.hid (Wrote.then HON.out HBL.out hwr)
        clear hO2 o3 g3 q3 hb3 hwr c0 fr hgl
        go_wp2_with fail
        refine bodyPost_ret (v := .tuple #[]) (results_none Try.results81 _ _ _) rfl ?_
        exact ⟨rfl, by rw [HT2.out]; exact HR.out⟩
      · have hd : decide ((m : Int) ≤ 127) = false := by simp; omega
        have hx : bits .or .u8 ((m : Int) % 256) 128 = ((by8 (128 + m % 128)).toNat : Int) := or128
        rw [if_neg hlt] at hT
        have HT2 := Lib.hid hT
        have HJ := Lib.hid hj2
        have HI := Lib.hid h8
        have HM := Lib.hid hm
        clear hT hw hon hbl hlt HT H hj hj2 hi h8 hm
        generalize by8 (128 + m % 128) = x at *
        go_wp2_with (at_builtin; refine Hid.out ?_)
        have hO2 := Own.alloc (show Own wo g 5 1 A2 S.length c2 (bvs S) from HW.out.2) (.cells #[.int .u8 (x.toNat : Int)] 5)
        refine wpList_app (xs := bvs S) rfl rfl elem_u8 rfl hO2 rfl (byte_new wo x) (bvs_one _) (S.length + 1) rfl (bvs (S ++ [x])) (bvs_append _ _).symm (by unfold maxLen; omega) (by omega) (by have := HW.out.1.lt; simp; omega) ?_
        intro A3 c3 w3 o3 g3 q3
        obtain ⟨hb3, hwr⟩ := wr_step HW.out o3 g3 q3
        have c03 : w3.cell? ⟨g, 0, none⟩ = some (.slice A2 S.length c2) := by rw [hb3.cell]; rfl
        have fr3 := hb3.free
        have hgl3 : g < w3.heap.size := hb3.lt
        have HR := Lib.hid (Wrote.then HON.out HBL.out hwr)
        clear hO2 o3 g3 q3 hb3 hwr c0 fr hgl
        go_wp2_with fail
        go_roundw
        case rel =>
          obtain ⟨A4, c4, k1, k2, k3⟩ := HR.out
          exact ⟨m / 128, i + 1, S ++ [x], A4, c4, by go_num, by go_num, HI.out, by have := HM.out; omega, by rw [HT2.out, HJ.out]; simp, k1, k2, k3⟩
        case measure => have := HI.out; simp [intOf]; omega
    · obtain rfl : i = 8 := by omega
      have hx : (m : Int) % 256 = ((by8 m).toNat : Int) := by rw [by8_mod]; omega
      rw [show 8 - 8 = 0 from rfl, nine] at hT
      have HT2 := Lib.hid hT
      clear hT hw hon hbl HT H hi h8 hm
      generalize by8 m = x at *
      go_wp2_with (at_builtin; refine Hid.out ?_)
      have hO2 := Own.alloc (show Own wo g 5 1 A2 S.length c2 (bvs S) from HW.out.2) (.cells #[.int .u8 (x.toNat : Int)] 5)
      refine wpList_app (xs := bvs S) rfl rfl elem_u8 rfl hO2 rfl (byte_new wo x) (bvs_one _) (S.length + 1) rfl (bvs (S ++ [x])) (bvs_append _ _).symm (by unfold maxLen; omega) (by omega) (by have := HW.out.1.lt; simp; omega) ?_
      intro A3 c3 w3 o3 g3 q3
      obtain ⟨hb3, hwr⟩ := wr_step HW.out o3 g3 q3
      have c03 : w3.cell? ⟨g, 0, none⟩ = some (.slice A2 S.length c2) := by rw [hb3.cell]; rfl
      have fr3 := hb3.free
      have hgl3 : g < w3.heap.size := hb3.lt
      have HR := Lib.hid (Wrote.then HON.out HBL.out hwr)
      clear hO2 o3 g3 q3 hb3 hwr c0 fr hgl
      go_wp2_with fail
      refine bodyPost_end (v := .tuple #[]) (results_none Try.results81 _ _ _) rfl ?_
      exact ⟨rfl, by rw [HT2.out]; exact HR.out⟩
end Go.Proofs.Ytbfhiegbgkkgiaa
