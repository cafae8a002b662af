/- What the row's reading of an argument gives to the walks: slices whose elements have several cells. Over any program. -/
import Derived.Test.YtbfhiegbgkkgiaaM01
import Derived.Deep.Strs
import Derived.Test.YtbfhiegbgkkgiaaM02
import Derived.Test.YtbfhiegbgkkgiaaM04
import Derived.Deep.RegionHeld3
namespace Go.Proofs.Ytbfhiegbgkkgiaa
open Go.ChangeShapes Go.WideShapes Go.ChangeAt Go.RowKit
section
variable {H : Type} {enc : TypeId × Value → H} {P : Program} {w : World} {base : Nat} {spare : Nat → Bool} {held : Bool}
theorem flatMap_get {α : Type} {val : α → List Value} {s : Nat} (hlen : ∀ a, (val a).length = s) {l : List α} {j : Nat} {u : Value} (h : (l.flatMap val)[j]? = some u) : ∃ a, l[j / s]? = some a ∧ (val a)[j % s]? = some u := by
  induction l generalizing j with
  | nil => simp at h
  | cons a l ih =>
    rw [List.flatMap_cons] at h
    by_cases hj : j < s
    · rw [List.getElem?_append_left (by rw [hlen]; exact hj)] at h
      rw [Nat.div_eq_of_lt hj, Nat.mod_eq_of_lt hj]
      exact ⟨a, rfl, h⟩
    · have hs : 0 < s := by
        rcases Nat.eq_zero_or_pos s with h0 | h0
        · subst h0
          have hnil : ∀ b, val b = [] := fun b => List.eq_nil_of_length_eq_zero (hlen b)
          have : (val a ++ l.flatMap val) = [] := by
            rw [hnil a]
            have e : ∀ m : List α, m.flatMap val = [] := fun m => by
              induction m with
              | nil => rfl
              | cons b m ihm => rw [List.flatMap_cons, hnil b, ihm]; rfl
            rw [e]; rfl
          rw [this] at h
          simp at h
        · exact h0
      rw [List.getElem?_append_right (by rw [hlen]; omega), hlen] at h
      obtain ⟨b, h1, h2⟩ := ih h
      have e1 : j / s = (j - s) / s + 1 := by
        rw [show j = (j - s) + s by omega, Nat.add_div_right _ hs]
        simp
      have e2 : j % s = (j - s) % s := by
        rw [show j = (j - s) + s by omega, Nat.add_mod_right]
        simp
      rw [e1, e2]
      exact ⟨b, by simpa using h1, h2⟩
theorem flatMap_len {α : Type} {val : α → List Value} {s : Nat} (hlen : ∀ a, (val a).length = s) (l : List α) : (l.flatMap val).length = l.length * s := by
  induction l with
  | nil => simp
  | cons a l ih => rw [List.flatMap_cons, List.length_append, hlen, ih, List.length_cons, Nat.add_mul, Nat.one_mul, Nat.add_comm]
set_option maxRecDepth 100000 in
theorem open_rows {t e : TypeId} {s : Nat} {r : Reach} {b0 : Nat} {v : Value} {d : DataW H} {p : List MemPlace} (ht : P.underlying t = some (.slice e)) (hC : P.cellsOf e = s) (hs : 0 < s)
    (hv : Value.okWide P w r b0 t v) (h : DataW.Trod enc P w base spare held t v d p) {α : Type} (val : α → List Value) (hlen : ∀ a, (val a).length = s) (ok : α → Prop)
    (hel : ∀ (n : Nat) (cs : List Value) (y : DataW H × List MemPlace), cs.length = s → DataW.trod enc P w base spare held n e cs = some y → ∃ a, cs = val a ∧ ok a) :
    ∃ (A : Option Addr) (c : Nat) (l : List α), v = .slice A l.length c ∧ l.length ≤ maxLen ∧ l.length ≤ c ∧ (∀ a ∈ l, ok a) ∧ Reads w w.heap.size s A l.length (l.flatMap val) := by
  obtain ⟨a, len, cap, rfl⟩ := okWide_slice ht hv
  obtain ⟨fuel, hf⟩ := h
  rcases Go.Deep.open_slice ht hf with ⟨hcs, _⟩ | ⟨x, l, c, m, n, D, Pl, hcs, _, hl, hm, hmm, _, hV⟩
  · simp [Value.cells] at hcs
    obtain ⟨rfl, rfl, rfl⟩ := hcs
    exact ⟨none, 0, [], rfl, by simp, by simp, by simp, Reads.empty _ _ _ _⟩
  · simp [Value.cells] at hcs
    obtain ⟨rfl, rfl, rfl⟩ := hcs
    rw [hC] at hV
    have hlm : len ≤ m := by rw [hmm]; split <;> omega
    have hpick : ∀ i, i < len → ∃ a, ok a ∧ ∀ k, k < s → w.cell? ((x.add (i * s)).add k) = (val a)[k]? := fun i hi => by
      obtain ⟨cs', h1, h2⟩ := hV i (by omega)
      obtain ⟨_, hl2, hc2⟩ := World.cells?_some h1
      obtain ⟨a, rfl, hok⟩ := hel n cs' _ hl2 h2
      exact ⟨a, hok, hc2⟩
    by_cases h0 : len = 0
    · subst h0
      exact ⟨some x, cap, [], rfl, by simp, by simp, by simp, Reads.empty _ _ _ _⟩
    · obtain ⟨a0, _, h0c⟩ := hpick 0 (by omega)
      haveI : Inhabited α := ⟨a0⟩
      obtain ⟨F, hF⟩ := Go.Deep.choose_lt hpick
      have h00 := h0c 0 hs
      have h0v : ∃ u, (val a0)[0]? = some u := ⟨(val a0)[0]'(by rw [hlen]; exact hs), by simp [hlen, hs]⟩
      obtain ⟨u0, hu0⟩ := h0v
      rw [hu0, add_assoc] at h00
      obtain ⟨b, o, sp⟩ := x
      have hsp : sp = none := by
        have := World.cell?_spot h00
        simpa [Addr.add] using this
      subst hsp
      refine ⟨some ⟨b, o, none⟩, cap, (List.range len).map F, by simp, by simp <;> omega, by simp <;> omega, ?_, by rw [flatMap_len hlen]; try simp, fun _ => ⟨b, o, rfl, ?_, fun j u hu => ?_⟩⟩
      · intro a ha
        obtain ⟨i, hi, rfl⟩ := List.mem_map.1 ha
        exact (hF i (by simpa using hi)).1
      · have := World.block_lt_of_cell? w _ h00
        rwa [block_add] at this
      · obtain ⟨a, h1, h2⟩ := flatMap_get hlen hu
        have hj : j / s < len := by
          have := (List.getElem?_eq_some_iff.1 h1).1
          simpa using this
        have e1 := (hF (j / s) hj).2 (j % s) (Nat.mod_lt _ hs)
        rw [add_lit, add_lit] at e1
        have e2 : o + j / s * s + j % s = o + j := by
          have := Nat.div_add_mod j s
          rw [Nat.mul_comm] at this
          omega
        rw [e2] at e1
        rw [e1, ← h2]
        have e3 : ((List.range len).map F)[j / s]? = some (F (j / s)) := by simp [hj]
        rw [e3] at h1
        injection h1 with h1
        rw [h1]
end
end Go.Proofs.Ytbfhiegbgkkgiaa
/- A slice of pairs that came in. -/

namespace Go.Proofs.Ytbfhiegbgkkgiaa
open Go.ChangeShapes Go.WideShapes Go.ChangeAt Go.RowKit
theorem pcs_flat (l : List Pr) : l.flatMap pcell = pcs l := by
  induction l with
  | nil => rfl
  | cons p l ih => rw [List.flatMap_cons, ih]; rfl
def PairOk (p : Pr) : Prop := -9223372036854775808 ≤ p.1 ∧ p.1 ≤ 9223372036854775807 ∧ p.2 ≤ 18446744073709551615
def Pairs (w : World) (A : Option Addr) (l : List Pr) : Prop := (∀ p ∈ l, PairOk p) ∧ Prs w w.heap.size A l
set_option maxRecDepth 100000 in
theorem open_pairs {H : Type} {enc : TypeId × Value → H} {w : World} {base : Nat} {spare : Nat → Bool} {held : Bool} {r : Reach} {b0 : Nat} {v : Value} {d : DataW H} {p : List MemPlace}
    (hv : Value.okWide Try.prog w r b0 34 v) (h : DataW.Trod enc Try.prog w base spare held 34 v d p) :
    ∃ (A : Option Addr) (c : Nat) (l : List Pr), v = .slice A l.length c ∧ l.length ≤ maxLen ∧ Pairs w A l := by
  obtain ⟨A, c, l, h1, h2, _, h3, h4⟩ := open_rows (s := 2) Try.underlying34 (by kernel_rfl) (by decide) hv h pcell (fun _ => rfl) PairOk (fun n cs y hl hy => by
    obtain ⟨y0, y1, m, _, _, t0, t1⟩ := trod_struct2 Try.underlying62 hy
    match cs, hl with
    | [c0, c1], _ =>
      obtain ⟨z0, e0, _, w0⟩ := DataW.trod_int Try.underlying3 t0
      obtain ⟨z1, e1, _, w1⟩ := DataW.trod_int Try.underlying36 t1
      have b0 := WfBounds.i64 w0
      have b1 := WfBounds.u64 w1
      have f0 : c0 = .int .i64 z0 := by simpa [show Try.prog.cellsOf 3 = 1 by kernel_rfl] using e0
      have f1 : c1 = .int .u64 z1 := by simpa [show Try.prog.cellsOf 36 = 1 by kernel_rfl] using e1
      refine ⟨(z0, z1.toNat), ?_, b0.1, b0.2, by simp only; omega⟩
      rw [f0, f1, pcell]
      simp only
      rw [show ((z1.toNat : Nat) : Int) = z1 by omega])
  rw [pcs_flat] at h4
  exact ⟨A, c, l, h1, h2, h3, h4⟩
end Go.Proofs.Ytbfhiegbgkkgiaa
/- Sparse: Of walked; what pairs of a law become. -/

namespace Go.Proofs.Ytbfhiegbgkkgiaa
open Go.RowKit
open Pl
theorem keysIn_put {L : List Pr} {k : Int} {n : Nat} (h : KeysIn L) (h0 : -1048576 ≤ k) (h1 : k ≤ 1048576) : KeysIn (put L k n) := by
  intro q hq
  rcases put_keys q hq with e | ⟨p, hp, e⟩
  · omega
  · have := h p hp; omega
theorem put_fine {L : List Pr} {k : Int} {n : Nat} (hf : Fine L) (hn : n ≠ 0) (h0 : -1048576 ≤ k) (h1 : k ≤ 1048576) (hc : tot L + n ≤ 4611686018427387904) (hl : L.length < 100000) : Fine (put L k n) :=
  ⟨put_srt hf.srt, put_pos hf.pos (by omega), keysIn_put hf.keys h0 h1, by rw [put_tot]; exact hc, by have := put_len (l := L) (k := k) (n := n); omega⟩
theorem radd_fine {L : List Pr} {k : Int} {n : Nat} (hf : Fine L) (hl : L.length < 100000) : Fine (radd L k n 0).1 ∧ (radd L k n 0).1.length ≤ L.length + 1 := by
  rw [radd0]
  split
  · exact ⟨hf, by simp⟩
  · split
    · exact ⟨hf, by simp⟩
    · split
      · exact ⟨hf, by simp⟩
      · have := hf.tot
        exact ⟨put_fine hf (by assumption) (by omega) (by omega) (by omega) hl, put_len⟩
theorem radd_err (L : List Pr) (k : Int) (n : Nat) : (radd L k n 0).2 = 0 ∨ (radd L k n 0).2 = 4 ∨ (radd L k n 0).2 = 5 ∨ (radd L k n 0).2 = 6 := by
  rw [radd0]
  split
  · exact .inr (.inl rfl)
  · split
    · exact .inr (.inr (.inl rfl))
    · split
      · exact .inr (.inr (.inr rfl))
      · exact .inl rfl
/-- A list of pairs counted one by one, till one may not be. -/
def ofL : List Pr → List Pr → List Pr × Int
  | [], L => (L, 0)
  | p :: l, L => if (radd L p.1 p.2 0).2 = 0 then ofL l (radd L p.1 p.2 0).1 else ([], (radd L p.1 p.2 0).2)
def OfPost (w : World) (R : List Pr × Int) (e : Ending) (w' : World) : Prop :=
  (R.2 = 0 ∧ (∃ g A c, e = .returned (.tuple #[.pointer (some ⟨g, 0, none⟩), .int .i64 0]) ∧ w.heap.size ≤ g ∧ Lst w' g A c R.1) ∧ Below w.heap.size w w') ∨
  (R.2 ≠ 0 ∧ e = .returned (.tuple #[.pointer none, .int .i64 R.2]) ∧ Below w.heap.size w w')
theorem drop_next {l : List Pr} {i : Nat} {p : Pr} (h : l[i]? = some p) : l.drop i = p :: l.drop (i + 1) := by
  obtain ⟨h1, h2⟩ := List.getElem?_eq_some_iff.1 h
  rw [List.drop_eq_getElem_cons h1, h2]
theorem counted_below {w wo w' : World} {g : Nat} {A : Option Addr} {c : Nat} {L L' : List Pr} (hbel : Below w.heap.size w wo) (hg : w.heap.size ≤ g) (h : Lst wo g A c L) (hc : Counted g A L' wo w') : (∃ A' c', Lst w' g A' c' L') ∧ Below w.heap.size w w' := by
  obtain ⟨A', c', h1, h2, _⟩ := hc
  refine ⟨⟨A', c', h1⟩, hbel.trans (h2.below hbel.size (fun i hi => ?_))⟩
  rcases hi with rfl | hi
  · exact hg
  · exact Nat.le_trans hg (Own.block (show Own wo g 62 2 A L.length c (pcs L) from h.2) hi).1
set_option maxRecDepth 100000 in
set_option maxHeartbeats 3200000 in
theorem of_t (A0 : Option Addr) (c0 : Nat) (l : List Pr) (w : World) (hb : Prs w w.heap.size A0 l) (hl : l.length ≤ 50000) :
    Calls Try.prog 64 #[.slice A0 l.length c0] w (OfPost w (ofL l [])) := by
  obtain ⟨R, hR⟩ : ∃ R, R = ofL l [] := ⟨_, rfl⟩
  rw [← hR]
  have HR := Lib.hid hR
  have HB := Lib.hid hb
  have hll : (l.length : Int) ≤ 50000 := by omega
  clear hR hb
  go_enter Try.func64, Try.ntmps64
  go_wp2_with fail
  have HL1 := Lib.hid (show Lst (w.alloc (.cells #[.slice none 0 0, .int .u64 0] 105)) w.heap.size none 0 [] from ⟨Blk.new _ _ _, Own.nil _ _ _ _⟩)
  have HB1 := Lib.hid ((Below.refl w.heap.size w).alloc (Nat.le_refl _) (.cells #[.slice none 0 0, .int .u64 0] 105))
  go_loopw [12] (fun v wr => ∃ (i : Nat) (L : List Pr) (A : Option Addr) (c : Nat), v = .int .i64 (i : Int) ∧ i ≤ l.length ∧ L.length ≤ i ∧ Fine L ∧ R = ofL (l.drop i) L ∧ Lst wr w.heap.size A c L ∧ Below w.heap.size w wr) (fun v _ => l.length - (intOf v).toNat)
  case atStart => exact ⟨0, [], none, 0, rfl, Nat.zero_le _, Nat.le_refl _, Fine.nil, HR.out, HL1.out, HB1.out⟩
  case round =>
    obtain ⟨i, L, A, c, rfl, hi, hLl, hf, hRi, hlst, hbel⟩ := hrel
    obtain ⟨wo, rfl⟩ : ∃ wo : World, wo = wr := ⟨_, rfl⟩
    have HLS := Lib.hid hlst
    have HBE := Lib.hid hbel
    have HF := Lib.hid hf
    have HRI := Lib.hid hRi
    have HLL := Lib.hid hLl
    clear hlst hbel hf hRi hLl
    by_cases hlt : i < l.length
    · have hii : (i : Int) < (l.length : Int) := by omega
      have hi0 : (0 : Int) ≤ (i : Int) := by omega
      obtain ⟨p, hp⟩ : ∃ p, l[i]? = some p := ⟨_, List.getElem?_eq_getElem hlt⟩
      obtain ⟨b, o, rfl, hbb, hc⟩ := (HB.out.below HBE.out).at_ (by omega)
      obtain ⟨d1, d2⟩ := hc i p hp
      have hRn : R = if (radd L p.1 p.2 0).2 = 0 then ofL (l.drop (i + 1)) (radd L p.1 p.2 0).1 else ([], (radd L p.1 p.2 0).2) := by
        rw [HRI.out, drop_next hp]
        rfl
      have HI := Lib.hid hlt
      have hrf := radd_fine (k := p.1) (n := p.2) HF.out (by have := HLL.out; omega)
      have HAD := Lib.hid (fun W (h : Lst W w.heap.size A c L) => add_t w.heap.size A c L p.1 p.2 W h HF.out)
      obtain ⟨x, n⟩ := p
      dsimp only at d1 d2 hRn HAD hrf
      generalize radd L x n 0 = r at *
      obtain ⟨r1, r2⟩ := r
      dsimp only at hRn HAD hrf
      have HRF := Lib.hid hrf
      by_cases h0 : r2 = 0
      · rw [if_pos h0] at hRn
        subst h0
        have HRN := Lib.hid hRn
        clear hc hp hRn hbb hi hlt hrf
        go_wp2_with fail
        have hbA := (Below.refl wo.heap.size wo).alloc (Nat.le_refl _) (.cells #[.int .i64 x, .int .u64 (n : Int)] 62)
        refine (HAD.out _ (HLS.out.below hbA)).mono ?_
        rintro e w3 ⟨rfl, h3⟩
        obtain ⟨⟨A3, c3, hl3⟩, hb3⟩ := counted_below (newB HBE.out (.cells #[.int .i64 x, .int .u64 (n : Int)] 62)) (Nat.le_refl _) (HLS.out.below hbA) h3
        have HL3 := Lib.hid hl3
        have HB3 := Lib.hid hb3
        clear hbA h3 hl3 hb3
        go_wp2_with fail
        go_roundw
        case rel => exact ⟨i + 1, r1, A3, c3, by go_num, HI.out, by have := HRF.out.2; have := HLL.out; omega, HRF.out.1, HRN.out, HL3.out, HB3.out⟩
        case measure => have := HI.out; simp [intOf]; omega
      · rw [if_neg h0] at hRn
        have HRN := Lib.hid hRn
        have e1 : (r2 != 0) = true := by simp; omega
        have e2 : (r2 == 0) = false := by simp; omega
        have H0 := Lib.hid h0
        clear hc hp hRn hbb hi hlt hrf h0
        go_wp2_with fail
        have hbA := (Below.refl wo.heap.size wo).alloc (Nat.le_refl _) (.cells #[.int .i64 x, .int .u64 (n : Int)] 62)
        refine (HAD.out _ (HLS.out.below hbA)).mono ?_
        rintro e w3 ⟨rfl, h3⟩
        obtain ⟨_, hb3⟩ := counted_below (newB HBE.out (.cells #[.int .i64 x, .int .u64 (n : Int)] 62)) (Nat.le_refl _) (HLS.out.below hbA) h3
        have HB3 := Lib.hid hb3
        clear hbA h3 hb3
        go_wp2_with fail
        go_ret2
        rw [HRN.out]
        exact .inr ⟨H0.out, rfl, HB3.out⟩
    · have hX : R = (L, 0) := by rw [HRI.out, List.drop_of_length_le (by omega)]; rfl
      have HX := Lib.hid hX
      have hge : ¬ (i : Int) < (l.length : Int) := by omega
      clear hi hlt hX
      go_wp2_with fail
      go_ret2
      rw [HX.out]
      exact .inl ⟨rfl, ⟨w.heap.size, A, c, rfl, Nat.le_refl _, HLS.out⟩, HBE.out⟩
/-- What the law's own pairs become. -/
def ck (k : Int) : Int := k.tmod 1048577
def cn (n : Nat) : Nat := 1 + n % 1000
theorem ck_in (k : Int) : -1048576 ≤ ck k ∧ ck k ≤ 1048576 := by
  unfold ck
  have h1 := Int.tmod_lt_of_pos k (show (0 : Int) < 1048577 by decide)
  have h2 := Int.lt_tmod_of_pos k (show (0 : Int) < 1048577 by decide)
  omega
def cntL (l : List Pr) : List Pr := l.foldl (fun L p => put L (ck p.1) (cn p.2)) []
theorem cntL_snoc {l : List Pr} {i : Nat} {p : Pr} (h : l[i]? = some p) : cntL (l.take (i + 1)) = put (cntL (l.take i)) (ck p.1) (cn p.2) := by
  unfold cntL
  rw [List.take_add_one, h, List.foldl_append]
  rfl
theorem radd_ct {L : List Pr} {k : Int} {n : Nat} (ht : tot L ≤ 1000000) : radd L (ck k) (cn n) 0 = (put L (ck k) (cn n), 0) := by
  have h := ck_in k
  have hn : 1 ≤ cn n ∧ cn n ≤ 1000 := by unfold cn; omega
  rw [radd0, if_neg (by omega), if_neg (by omega), if_neg (by omega)]
theorem ct_fine : ∀ (l L : List Pr), Fine L → tot L + 1000 * l.length ≤ 1000000 → L.length + l.length ≤ 1000 → Fine (l.foldl (fun L p => put L (ck p.1) (cn p.2)) L) ∧ tot (l.foldl (fun L p => put L (ck p.1) (cn p.2)) L) ≤ tot L + 1000 * l.length ∧ (l.foldl (fun L p => put L (ck p.1) (cn p.2)) L).length ≤ L.length + l.length
  | [], L, hf, _, _ => ⟨hf, by simp, by simp⟩
  | p :: l, L, hf, ht, hl => by
    rw [List.length_cons] at ht hl
    have hn : 1 ≤ cn p.2 ∧ cn p.2 ≤ 1000 := by unfold cn; omega
    have h1 : Fine (put L (ck p.1) (cn p.2)) := put_fine hf (by omega) (ck_in _).1 (ck_in _).2 (by omega) (by omega)
    have h2 : tot (put L (ck p.1) (cn p.2)) = tot L + cn p.2 := put_tot
    have h3 := put_len (l := L) (k := ck p.1) (n := cn p.2)
    obtain ⟨a1, a2, a3⟩ := ct_fine l _ h1 (by omega) (by omega)
    rw [List.foldl_cons, List.length_cons]
    exact ⟨a1, by omega, by omega⟩
theorem cntL_fine (l : List Pr) : Fine (cntL (l.take 100)) ∧ tot (cntL (l.take 100)) ≤ 100000 ∧ (cntL (l.take 100)).length ≤ 100 := by
  have hl : (l.take 100).length ≤ 100 := List.length_take_le _ _
  obtain ⟨a1, a2, a3⟩ := ct_fine (l.take 100) [] Fine.nil (by rw [tot_nil]; omega) (by simp only [List.length_nil]; omega)
  refine ⟨a1, ?_, ?_⟩
  · rw [tot_nil] at a2
    unfold cntL
    omega
  · simp only [List.length_nil] at a3
    unfold cntL
    omega
theorem rank_split : ∀ (L : List Pr) (r : Nat), 1 ≤ r → r ≤ tot L → ∃ (i : Nat) (p : Pr), L[i]? = some p ∧ tot (L.take i) < r ∧ r ≤ tot (L.take (i + 1)) ∧ rank L r = p.1
  | [], r, h1, h2 => by rw [tot_nil] at h2; omega
  | p :: L, r, h1, h2 => by
    rw [tot_cons] at h2
    by_cases h : r ≤ p.2
    · refine ⟨0, p, rfl, by rw [List.take_zero, tot_nil]; omega, by rw [List.take_succ_cons, tot_cons]; omega, by rw [rank, if_pos h]⟩
    · obtain ⟨i, q, a1, a2, a3, a4⟩ := rank_split L (r - p.2) (by omega) (by omega)
      exact ⟨i + 1, q, by rw [List.getElem?_cons_succ]; exact a1, by rw [List.take_succ_cons, tot_cons]; omega, by rw [List.take_succ_cons, tot_cons]; omega, by rw [rank, if_neg h]; exact a4⟩
theorem lo_at {L : List Pr} (hs : Srt L) {i : Nat} {p : Pr} (hp : L[i]? = some p) : lo L p.1 = i := by
  have h1 := lo_iff hs (k := p.1) hp
  have h2 := lo_iff hs (k := p.1 + 1) hp
  have hk : hasK L p.1 = true := (hasK_iff hs).2 ⟨p, List.mem_of_getElem? hp, rfl⟩
  have h3 := lo_succ hs p.1
  rw [if_pos hk] at h3
  have : ¬ i < lo L p.1 := fun h => by have := h1.2 h; omega
  have := h2.1 (by omega)
  omega
theorem rank_below {L : List Pr} (hs : Srt L) {r : Nat} (h1 : 1 ≤ r) (h2 : r ≤ tot L) : below L (rank L r) < r ∧ r ≤ below L (rank L r + 1) := by
  obtain ⟨i, p, a1, a2, a3, a4⟩ := rank_split L r h1 h2
  rw [a4, below_at hs a1, below_take hs, lo_at hs a1]
  exact ⟨a2, a3⟩
theorem ct_at {w : World} {A0 : Option Addr} {l : List Pr} (hb : Pairs w A0 l) {w1 : World} (h : Below w.heap.size w w1) : Pairs w1 A0 l := ⟨hb.1, hb.2.at_below h⟩
end Go.Proofs.Ytbfhiegbgkkgiaa
/- Sparse: Take walked. -/

namespace Go.Proofs.Ytbfhiegbgkkgiaa
open Go.RowKit
open Pl
namespace Pl
/-- Two lists gone through side by side. -/
def mrg : List Pr → List Pr → List Pr
  | [], M => M
  | p :: L, [] => p :: L
  | p :: L, q :: M => if p.1 < q.1 then p :: mrg L (q :: M) else if q.1 < p.1 then q :: mrg (p :: L) M else (p.1, p.2 + q.2) :: mrg L M
termination_by L M => L.length + M.length
theorem mrg_nil (L : List Pr) : mrg L [] = L := by cases L <;> simp [mrg]
theorem mrg_cons (p q : Pr) (L M : List Pr) : mrg (p :: L) (q :: M) = if p.1 < q.1 then p :: mrg L (q :: M) else if q.1 < p.1 then q :: mrg (p :: L) M else (p.1, p.2 + q.2) :: mrg L M := by rw [mrg]
theorem cnt_cons (p : Pr) (L : List Pr) (j : Int) : cnt (p :: L) j = if p.1 = j then p.2 else cnt L j := rfl
theorem mrg_fine (k : Nat) : ∀ (L M : List Pr), L.length + M.length ≤ k → Srt L → Pos L → Srt M → Pos M →
    Srt (mrg L M) ∧ Pos (mrg L M) ∧ (∀ j, cnt (mrg L M) j = cnt L j + cnt M j) ∧ (∀ r ∈ mrg L M, (∃ p ∈ L, p.1 = r.1) ∨ (∃ q ∈ M, q.1 = r.1)) := by
  induction k with
  | zero =>
    intro L M hk _ _ hm hmp
    have h1 : L = [] := List.eq_nil_of_length_eq_zero (by omega)
    subst h1
    rw [mrg]
    exact ⟨hm, hmp, fun j => by simp [cnt], fun r hr => .inr ⟨r, hr, rfl⟩⟩
  | succ k ih =>
    intro L M hk hl hlp hm hmp
    cases L with
    | nil =>
      rw [mrg]
      exact ⟨hm, hmp, fun j => by simp [cnt], fun r hr => .inr ⟨r, hr, rfl⟩⟩
    | cons p L =>
      cases M with
      | nil =>
        rw [mrg_nil]
        exact ⟨hl, hlp, fun j => by simp [cnt], fun r hr => .inl ⟨r, hr, rfl⟩⟩
      | cons q M =>
        simp only [List.length_cons] at hk
        obtain ⟨a1, a2⟩ := srt_cons.1 hl
        obtain ⟨b1, b2⟩ := srt_cons.1 hm
        obtain ⟨a3, a4⟩ := pos_cons.1 hlp
        obtain ⟨b3, b4⟩ := pos_cons.1 hmp
        rw [mrg_cons]
        by_cases h1 : p.1 < q.1
        · rw [if_pos h1]
          obtain ⟨c1, c2, c3, c4⟩ := ih L (q :: M) (by simp only [List.length_cons]; omega) a2 a4 hm hmp
          refine ⟨srt_cons.2 ⟨fun r hr => ?_, c1⟩, pos_cons.2 ⟨a3, c2⟩, fun j => ?_, fun r hr => ?_⟩
          · rcases c4 r hr with ⟨x, hx, e⟩ | ⟨x, hx, e⟩
            · have := a1 x hx; omega
            · rcases List.mem_cons.1 hx with rfl | hx
              · omega
              · have := b1 x hx; omega
          · rw [cnt_cons p (mrg L (q :: M)), c3, cnt_cons p L]
            by_cases hj : p.1 = j
            · have hz : cnt (q :: M) j = 0 := cnt_lt (fun x hx => by
                rcases List.mem_cons.1 hx with rfl | hx
                · omega
                · have := b1 x hx; omega)
              rw [if_pos hj, if_pos hj, hz]
              rfl
            · rw [if_neg hj, if_neg hj]
          · rcases List.mem_cons.1 hr with rfl | hr
            · exact .inl ⟨r, by simp, rfl⟩
            · rcases c4 r hr with ⟨x, hx, e⟩ | h
              · exact .inl ⟨x, by simp [hx], e⟩
              · exact .inr h
        · rw [if_neg h1]
          by_cases h2 : q.1 < p.1
          · rw [if_pos h2]
            obtain ⟨c1, c2, c3, c4⟩ := ih (p :: L) M (by simp only [List.length_cons]; omega) hl hlp b2 b4
            refine ⟨srt_cons.2 ⟨fun r hr => ?_, c1⟩, pos_cons.2 ⟨b3, c2⟩, fun j => ?_, fun r hr => ?_⟩
            · rcases c4 r hr with ⟨x, hx, e⟩ | ⟨x, hx, e⟩
              · rcases List.mem_cons.1 hx with rfl | hx
                · omega
                · have := a1 x hx; omega
              · have := b1 x hx; omega
            · rw [cnt_cons q (mrg (p :: L) M), c3, cnt_cons q M]
              by_cases hj : q.1 = j
              · have hz : cnt (p :: L) j = 0 := cnt_lt (fun x hx => by
                  rcases List.mem_cons.1 hx with rfl | hx
                  · omega
                  · have := a1 x hx; omega)
                rw [if_pos hj, if_pos hj, hz, Nat.zero_add]
              · rw [if_neg hj, if_neg hj]
            · rcases List.mem_cons.1 hr with rfl | hr
              · exact .inr ⟨r, by simp, rfl⟩
              · rcases c4 r hr with h | ⟨x, hx, e⟩
                · exact .inl h
                · exact .inr ⟨x, by simp [hx], e⟩
          · rw [if_neg h2]
            obtain ⟨c1, c2, c3, c4⟩ := ih L M (by omega) a2 a4 b2 b4
            refine ⟨srt_cons.2 ⟨fun r hr => ?_, c1⟩, pos_cons.2 ⟨by simp only; omega, c2⟩, fun j => ?_, fun r hr => ?_⟩
            · simp only
              rcases c4 r hr with ⟨x, hx, e⟩ | ⟨x, hx, e⟩
              · have := a1 x hx; omega
              · have := b1 x hx; omega
            · rw [cnt_cons (p.1, p.2 + q.2) (mrg L M), c3, cnt_cons p L, cnt_cons q M]
              simp only
              by_cases hj : p.1 = j
              · rw [if_pos hj, if_pos hj, if_pos (by omega)]
              · rw [if_neg hj, if_neg hj, if_neg (by omega)]
            · rcases List.mem_cons.1 hr with rfl | hr
              · exact .inl ⟨p, by simp, rfl⟩
              · rcases c4 r hr with ⟨x, hx, e⟩ | ⟨x, hx, e⟩
                · exact .inl ⟨x, by simp [hx], e⟩
                · exact .inr ⟨x, by simp [hx], e⟩
theorem mrg_puts {L M : List Pr} (hl : Srt L) (hlp : Pos L) (hm : Srt M) (hmp : Pos M) : mrg L M = puts L M := by
  obtain ⟨a, b, c, _⟩ := mrg_fine _ L M (Nat.le_refl _) hl hlp hm hmp
  obtain ⟨d, e, _⟩ := puts_facts hl hlp hmp
  exact ext a b d e (fun k => by rw [c, puts_cnt hl hm])
end Pl
def TK (g : Nat) (i : Nat) : Prop := i = g
/-- The list at g has taken another one. -/
def Took (g : Nat) (A : Option Addr) (L : List Pr) (w w' : World) : Prop := ∃ A' c', Lst w' g A' c' L ∧ Only (TK g) w w' ∧ (blockOf A' = blockOf A ∨ ∀ j, blockOf A' = some j → w.heap.size ≤ j)
theorem Took.counted {g : Nat} {A : Option Addr} {L : List Pr} {w w' : World} (h : Took g A L w w') : ∃ A' c', Lst w' g A' c' L ∧ Only (LK g A) w w' := by
  obtain ⟨A', c', h1, h2, _⟩ := h
  exact ⟨A', c', h1, h2.mono (fun i hi => .inl hi)⟩
theorem prs_tail {w : World} {B : Nat} {b o : Nat} {p : Pr} {D : List Pr} (h : Prs w B (some ⟨b, o, none⟩) (p :: D)) : Prs w B (some ⟨b, o + 2, none⟩) D := by
  refine ⟨pcs_length _, fun hn => ?_⟩
  obtain ⟨b', o', e, hb, hc⟩ := h.2 (by simp)
  injection e with e
  injection e with e1 e2 _
  subst e1
  subst e2
  refine ⟨b, o + 2, rfl, hb, fun j u hj => ?_⟩
  have := hc (j + 2) u (by simpa [pcs] using hj)
  rwa [show o + (j + 2) = o + 2 + j by omega] at this
theorem prs_nil {w : World} {B : Nat} {A : Option Addr} : Prs w B A [] := Reads.empty ..
theorem Prs.below' {w wo w3 : World} {B : Nat} {A : Option Addr} {D : List Pr} (h : Prs wo B A D) (h3 : Below B w w3) (ho : Below B w wo) : Prs w3 B A D :=
  Reads.keep h (fun _ hp => (h3.cell hp).trans (ho.cell hp).symm)
def lenV : Value → Nat
  | .slice _ n _ => n
  | _ => 0
theorem took_fine {L M : List Pr} (hf : Fine L) (hfm : Fine M) (hlm : L.length + M.length ≤ 100000) : Fine (rtake L M 0).1 ∧ (rtake L M 0).1.length ≤ L.length + M.length := by
  rw [rtake0]
  split
  · exact ⟨hf, by simp⟩
  · split
    · exact ⟨hf, by simp⟩
    · have hp := mrg_puts hf.srt hf.pos hfm.srt hfm.pos
      obtain ⟨a, b, _, d⟩ := mrg_fine _ L M (Nat.le_refl _) hf.srt hf.pos hfm.srt hfm.pos
      rw [hp] at a b d
      have h1 := hf.tot
      refine ⟨⟨a, b, fun r hr => ?_, by simp only [puts_tot]; omega, by have := puts_len (l := L) (m := M); simp only; omega⟩, puts_len⟩
      rcases d r hr with ⟨x, hx, e⟩ | ⟨x, hx, e⟩
      · have := hf.keys x hx; omega
      · have := hfm.keys x hx; omega
end Go.Proofs.Ytbfhiegbgkkgiaa
