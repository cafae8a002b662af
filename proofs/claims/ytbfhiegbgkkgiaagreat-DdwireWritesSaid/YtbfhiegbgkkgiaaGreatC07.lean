/- Sparse: Of walked; what pairs of a law become. -/
import Derived.Test.YtbfhiegbgkkgiaaGreatC06
namespace Go.Proofs.YtbfhiegbgkkgiaaGreat
open Go.RowKit
open Pl
theorem keysIn_put {L : List Pr} {k : Int} {n : Nat} (h : KeysIn L) (h0 : -1048576 ≤ k) (h1 : k ≤ 1048576) : KeysIn (put L k n) := by
  intro q hq
  rcases put_keys q hq with e | ⟨p, hp, e⟩
  · omega
  · have := h p hp; omega
theorem put_fine {L : List Pr} {k : Int} {n : Nat} (hf : Fine L) (hn : n ≠ 0) (h0 : -1048576 ≤ k) (h1 : k ≤ 1048576) (hc : tot L + n ≤ 4611686018427387904) (hl : L.length < 100000) : Fine (put L k n) :=
  ⟨put_srt hf.srt, put_pos hf.pos (by omega), keysIn_put hf.keys h0 h1, by rw [put_tot]; exact hc, by have := put_len (l := L) (k := k) (n := n); omega⟩
theorem radd_fine {L : List Pr} {k : Int} {n : Nat} (hf : Fine L) (hl : L.length < 100000) : Fine (radd L k n 0).1 ∧ (radd L k n 0).1.length ≤ L.length + 1 := by
  rw [radd0]
  split
  · exact ⟨hf, by simp⟩
  · split
    · exact ⟨hf, by simp⟩
    · split
      · exact ⟨hf, by simp⟩
      · have := hf.tot
        exact ⟨put_fine hf (by assumption) (by omega) (by omega) (by omega) hl, put_len⟩
theorem radd_err (L : List Pr) (k : Int) (n : Nat) : (radd L k n 0).2 = 0 ∨ (radd L k n 0).2 = 4 ∨ (radd L k n 0).2 = 5 ∨ (radd L k n 0).2 = 6 := by
  rw [radd0]
  split
  · exact .inr (.inl rfl)
  · split
    · exact .inr (.inr (.inl rfl))
    · split
      · exact .inr (.inr (.inr rfl))
      · exact .inl rfl
/-- A list of pairs counted one by one, till one may not be. -/
def ofL : List Pr → List Pr → List Pr × Int
  | [], L => (L, 0)
  | p :: l, L => if (radd L p.1 p.2 0).2 = 0 then ofL l (radd L p.1 p.2 0).1 else ([], (radd L p.1 p.2 0).2)
def OfPost (w : World) (R : List Pr × Int) (e : Ending) (w' : World) : Prop :=
  (R.2 = 0 ∧ (∃ g A c, e = .returned (.tuple #[.pointer (some ⟨g, 0, none⟩), .int .i64 0]) ∧ w.heap.size ≤ g ∧ Lst w' g A c R.1) ∧ Below w.heap.size w w') ∨
  (R.2 ≠ 0 ∧ e = .returned (.tuple #[.pointer none, .int .i64 R.2]) ∧ Below w.heap.size w w')
theorem drop_next {l : List Pr} {i : Nat} {p : Pr} (h : l[i]? = some p) : l.drop i = p :: l.drop (i + 1) := by
  obtain ⟨h1, h2⟩ := List.getElem?_eq_some_iff.1 h
  rw [List.drop_eq_getElem_cons h1, h2]
theorem counted_below {w wo w' : World} {g : Nat} {A : Option Addr} {c : Nat} {L L' : List Pr} (hbel : Below w.heap.size w wo) (hg : w.heap.size ≤ g) (h : Lst wo g A c L) (hc : Counted g A L' wo w') : (∃ A' c', Lst w' g A' c' L') ∧ Below w.heap.size w w' := by
  obtain ⟨A', c', h1, h2, _⟩ := hc
  refine ⟨⟨A', c', h1⟩, hbel.trans (h2.below hbel.size (fun i hi => ?_))⟩
  rcases hi with rfl | hi
  · exact hg
  · exact Nat.le_trans hg (Own.block (show Own wo g 64 2 A L.length c (pcs L) from h.2) hi).1
set_option maxRecDepth 100000 in
set_option maxHeartbeats 3200000 in
theorem of_t (A0 : Option Addr) (c0 : Nat) (l : List Pr) (w : World) (hb : Prs w w.heap.size A0 l) (hl : l.length ≤ 50000) :
    Calls Tryz.prog 88 #[.slice A0 l.length c0] w (OfPost w (ofL l [])) := by
  obtain ⟨R, hR⟩ : ∃ R, R = ofL l [] := ⟨_, rfl⟩
  rw [← hR]
  have HR := Lib.hid hR
  have HB := Lib.hid hb
  have hll : (l.length : Int) ≤ 50000 := by omega
  clear hR hb
  go_enter Tryz.func88, Tryz.ntmps88
  go_wp2_with fail
  have HL1 := Lib.hid (show Lst (w.alloc (.cells #[.slice none 0 0, .int .u64 0] 138)) w.heap.size none 0 [] from ⟨Blk.new _ _ _, Own.nil _ _ _ _⟩)
  have HB1 := Lib.hid ((Below.refl w.heap.size w).alloc (Nat.le_refl _) (.cells #[.slice none 0 0, .int .u64 0] 138))
  go_loopw [12] (fun v wr => ∃ (i : Nat) (L : List Pr) (A : Option Addr) (c : Nat), v = .int .i64 (i : Int) ∧ i ≤ l.length ∧ L.length ≤ i ∧ Fine L ∧ R = ofL (l.drop i) L ∧ Lst wr w.heap.size A c L ∧ Below w.heap.size w wr) (fun v _ => l.length - (intOf v).toNat)
  case atStart => exact ⟨0, [], none, 0, rfl, Nat.zero_le _, Nat.le_refl _, Fine.nil, HR.out, HL1.out, HB1.out⟩
  case round =>
    obtain ⟨i, L, A, c, rfl, hi, hLl, hf, hRi, hlst, hbel⟩ := hrel
    obtain ⟨wo, rfl⟩ : ∃ wo : World, wo = wr := ⟨_, rfl⟩
    have HLS := Lib.hid hlst
    have HBE := Lib.hid hbel
    have HF := Lib.hid hf
    have HRI := Lib.hid hRi
    have HLL := Lib.hid hLl
    clear hlst hbel hf hRi hLl
    by_cases hlt : i < l.length
    · have hii : (i : Int) < (l.length : Int) := by omega
      have hi0 : (0 : Int) ≤ (i : Int) := by omega
      obtain ⟨p, hp⟩ : ∃ p, l[i]? = some p := ⟨_, List.getElem?_eq_getElem hlt⟩
      obtain ⟨b, o, rfl, hbb, hc⟩ := (HB.out.below HBE.out).at_ (by omega)
      obtain ⟨d1, d2⟩ := hc i p hp
      have hRn : R = if (radd L p.1 p.2 0).2 = 0 then ofL (l.drop (i + 1)) (radd L p.1 p.2 0).1 else ([], (radd L p.1 p.2 0).2) := by
        rw [HRI.out, drop_next hp]
        rfl
      have HI := Lib.hid hlt
      have hrf := radd_fine (k := p.1) (n := p.2) HF.out (by have := HLL.out; omega)
      have HAD := Lib.hid (fun W (h : Lst W w.heap.size A c L) => add_t w.heap.size A c L p.1 p.2 W h HF.out)
      obtain ⟨x, n⟩ := p
      dsimp only at d1 d2 hRn HAD hrf
      generalize radd L x n 0 = r at *
      obtain ⟨r1, r2⟩ := r
      dsimp only at hRn HAD hrf
      have HRF := Lib.hid hrf
      by_cases h0 : r2 = 0
      · rw [if_pos h0] at hRn
        subst h0
        have HRN := Lib.hid hRn
        clear hc hp hRn hbb hi hlt hrf
        go_wp2_with fail
        have hbA := (Below.refl wo.heap.size wo).alloc (Nat.le_refl _) (.cells #[.int .i64 x, .int .u64 (n : Int)] 64)
        refine (HAD.out _ (HLS.out.below hbA)).mono ?_
        rintro e w3 ⟨rfl, h3⟩
        obtain ⟨⟨A3, c3, hl3⟩, hb3⟩ := counted_below (newB HBE.out (.cells #[.int .i64 x, .int .u64 (n : Int)] 64)) (Nat.le_refl _) (HLS.out.below hbA) h3
        have HL3 := Lib.hid hl3
        have HB3 := Lib.hid hb3
        clear hbA h3 hl3 hb3
        go_wp2_with fail
        go_roundw
        case rel => exact ⟨i + 1, r1, A3, c3, by go_num, HI.out, by have := HRF.out.2; have := HLL.out; omega, HRF.out.1, HRN.out, HL3.out, HB3.out⟩
        case measure => have := HI.out; simp [intOf]; omega
      · rw [if_neg h0] at hRn
        have HRN := Lib.hid hRn
        have e1 : (r2 != 0) = true := by simp; omega
        have e2 : (r2 == 0) = false := by simp; omega
        have H0 := Lib.hid h0
        clear hc hp hRn hbb hi hlt hrf h0
        go_wp2_with fail
        have hbA := (Below.refl wo.heap.size wo).alloc (Nat.le_refl _) (.cells #[.int .i64 x, .int .u64 (n : Int)] 64)
        refine (HAD.out _ (HLS.out.below hbA)).mono ?_
        rintro e w3 ⟨rfl, h3⟩
        obtain ⟨_, hb3⟩ := counted_below (newB HBE.out (.cells #[.int .i64 x, .int .u64 (n : Int)] 64)) (Nat.le_refl _) (HLS.out.below hbA) h3
        have HB3 := Lib.hid hb3
        clear hbA h3 hb3
        go_wp2_with fail
        go_ret2
        rw [HRN.out]
        exact .inr ⟨H0.out, rfl, HB3.out⟩
    · have hX : R = (L, 0) := by rw [HRI.out, List.drop_of_length_le (by omega)]; rfl
      have HX := Lib.hid hX
      have hge : ¬ (i : Int) < (l.length : Int) := by omega
      clear hi hlt hX
      go_wp2_with fail
      go_ret2
      rw [HX.out]
      exact .inl ⟨rfl, ⟨w.heap.size, A, c, rfl, Nat.le_refl _, HLS.out⟩, HBE.out⟩
/-- What the law's own pairs become. -/
def ck (k : Int) : Int := k.tmod 1048577
def cn (n : Nat) : Nat := 1 + n % 1000
theorem ck_in (k : Int) : -1048576 ≤ ck k ∧ ck k ≤ 1048576 := by
  unfold ck
  have h1 := Int.tmod_lt_of_pos k (show (0 : Int) < 1048577 by decide)
  have h2 := Int.lt_tmod_of_pos k (show (0 : Int) < 1048577 by decide)
  omega
def cntL (l : List Pr) : List Pr := l.foldl (fun L p => put L (ck p.1) (cn p.2)) []
theorem cntL_snoc {l : List Pr} {i : Nat} {p : Pr} (h : l[i]? = some p) : cntL (l.take (i + 1)) = put (cntL (l.take i)) (ck p.1) (cn p.2) := by
  unfold cntL
  rw [List.take_add_one, h, List.foldl_append]
  rfl
theorem radd_ct {L : List Pr} {k : Int} {n : Nat} (ht : tot L ≤ 1000000) : radd L (ck k) (cn n) 0 = (put L (ck k) (cn n), 0) := by
  have h := ck_in k
  have hn : 1 ≤ cn n ∧ cn n ≤ 1000 := by unfold cn; omega
  rw [radd0, if_neg (by omega), if_neg (by omega), if_neg (by omega)]
theorem ct_fine : ∀ (l L : List Pr), Fine L → tot L + 1000 * l.length ≤ 1000000 → L.length + l.length ≤ 1000 → Fine (l.foldl (fun L p => put L (ck p.1) (cn p.2)) L) ∧ tot (l.foldl (fun L p => put L (ck p.1) (cn p.2)) L) ≤ tot L + 1000 * l.length ∧ (l.foldl (fun L p => put L (ck p.1) (cn p.2)) L).length ≤ L.length + l.length
  | [], L, hf, _, _ => ⟨hf, by simp, by simp⟩
  | p :: l, L, hf, ht, hl => by
    rw [List.length_cons] at ht hl
    have hn : 1 ≤ cn p.2 ∧ cn p.2 ≤ 1000 := by unfold cn; omega
    have h1 : Fine (put L (ck p.1) (cn p.2)) := put_fine hf (by omega) (ck_in _).1 (ck_in _).2 (by omega) (by omega)
    have h2 : tot (put L (ck p.1) (cn p.2)) = tot L + cn p.2 := put_tot
    have h3 := put_len (l := L) (k := ck p.1) (n := cn p.2)
    obtain ⟨a1, a2, a3⟩ := ct_fine l _ h1 (by omega) (by omega)
    rw [List.foldl_cons, List.length_cons]
    exact ⟨a1, by omega, by omega⟩
theorem cntL_fine (l : List Pr) : Fine (cntL (l.take 100)) ∧ tot (cntL (l.take 100)) ≤ 100000 ∧ (cntL (l.take 100)).length ≤ 100 := by
  have hl : (l.take 100).length ≤ 100 := List.length_take_le _ _
  obtain ⟨a1, a2, a3⟩ := ct_fine (l.take 100) [] Fine.nil (by rw [tot_nil]; omega) (by simp only [List.length_nil]; omega)
  refine ⟨a1, ?_, ?_⟩
  · rw [tot_nil] at a2
    unfold cntL
    omega
  · simp only [List.length_nil] at a3
    unfold cntL
    omega
theorem rank_split : ∀ (L : List Pr) (r : Nat), 1 ≤ r → r ≤ tot L → ∃ (i : Nat) (p : Pr), L[i]? = some p ∧ tot (L.take i) < r ∧ r ≤ tot (L.take (i + 1)) ∧ rank L r = p.1
  | [], r, h1, h2 => by rw [tot_nil] at h2; omega
  | p :: L, r, h1, h2 => by
    rw [tot_cons] at h2
    by_cases h : r ≤ p.2
    · refine ⟨0, p, rfl, by rw [List.take_zero, tot_nil]; omega, by rw [List.take_succ_cons, tot_cons]; omega, by rw [rank, if_pos h]⟩
    · obtain ⟨i, q, a1, a2, a3, a4⟩ := rank_split L (r - p.2) (by omega) (by omega)
      exact ⟨i + 1, q, by rw [List.getElem?_cons_succ]; exact a1, by rw [List.take_succ_cons, tot_cons]; omega, by rw [List.take_succ_cons, tot_cons]; omega, by rw [rank, if_neg h]; exact a4⟩
theorem lo_at {L : List Pr} (hs : Srt L) {i : Nat} {p : Pr} (hp : L[i]? = some p) : lo L p.1 = i := by
  have h1 := lo_iff hs (k := p.1) hp
  have h2 := lo_iff hs (k := p.1 + 1) hp
  have hk : hasK L p.1 = true := (hasK_iff hs).2 ⟨p, List.mem_of_getElem? hp, rfl⟩
  have h3 := lo_succ hs p.1
  rw [if_pos hk] at h3
  have : ¬ i < lo L p.1 := fun h => by have := h1.2 h; omega
  have := h2.1 (by omega)
  omega
theorem rank_below {L : List Pr} (hs : Srt L) {r : Nat} (h1 : 1 ≤ r) (h2 : r ≤ tot L) : below L (rank L r) < r ∧ r ≤ below L (rank L r + 1) := by
  obtain ⟨i, p, a1, a2, a3, a4⟩ := rank_split L r h1 h2
  rw [a4, below_at hs a1, below_take hs, lo_at hs a1]
  exact ⟨a2, a3⟩
theorem ct_at {w : World} {A0 : Option Addr} {l : List Pr} (hb : Pairs w A0 l) {w1 : World} (h : Below w.heap.size w w1) : Pairs w1 A0 l := ⟨hb.1, hb.2.at_below h⟩
end Go.Proofs.YtbfhiegbgkkgiaaGreat
