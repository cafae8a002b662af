/- Sparse: Of, and the law's counted, walked. -/
import Derived.Test.YtfpehefcgfhdmaaSpG
import Derived.Test.YtfpehefcgfhdmaaOpenPairs
namespace Go.Proofs.Ytfpehefcgfhdmaa
open Go.RowKit
open Pl
theorem keysIn_put {L : List Pr} {k : Int} {n : Nat} (h : KeysIn L) (h0 : -1048576 ≤ k) (h1 : k ≤ 1048576) : KeysIn (put L k n) := by
  intro q hq
  rcases put_keys q hq with e | ⟨p, hp, e⟩
  · omega
  · have := h p hp; omega
theorem put_fine {L : List Pr} {k : Int} {n : Nat} (hf : Fine L) (hn : n ≠ 0) (h0 : -1048576 ≤ k) (h1 : k ≤ 1048576) (hc : tot L + n ≤ 4611686018427387904) (hl : L.length < 100000) : Fine (put L k n) :=
  ⟨put_srt hf.srt, put_pos hf.pos (by omega), keysIn_put hf.keys h0 h1, by rw [put_tot]; exact hc, by have := put_len (l := L) (k := k) (n := n); omega⟩
theorem radd_fine {L : List Pr} {k : Int} {n : Nat} (hf : Fine L) (hl : L.length < 100000) : Fine (radd L k n 0).1 ∧ (radd L k n 0).1.length ≤ L.length + 1 := by
  rw [radd0]
  split
  · exact ⟨hf, by simp⟩
  · split
    · exact ⟨hf, by simp⟩
    · split
      · exact ⟨hf, by simp⟩
      · have := hf.tot
        exact ⟨put_fine hf (by assumption) (by omega) (by omega) (by omega) hl, put_len⟩
theorem radd_err (L : List Pr) (k : Int) (n : Nat) : (radd L k n 0).2 = 0 ∨ (radd L k n 0).2 = 4 ∨ (radd L k n 0).2 = 5 ∨ (radd L k n 0).2 = 6 := by
  rw [radd0]
  split
  · exact .inr (.inl rfl)
  · split
    · exact .inr (.inr (.inl rfl))
    · split
      · exact .inr (.inr (.inr rfl))
      · exact .inl rfl
/-- A list of pairs counted one by one, till one may not be. -/
def ofL : List Pr → List Pr → List Pr × Int
  | [], L => (L, 0)
  | p :: l, L => if (radd L p.1 p.2 0).2 = 0 then ofL l (radd L p.1 p.2 0).1 else ([], (radd L p.1 p.2 0).2)
def OfPost (w : World) (R : List Pr × Int) (e : Ending) (w' : World) : Prop :=
  (R.2 = 0 ∧ (∃ g A c, e = .returned (.tuple #[.pointer (some ⟨g, 0, none⟩), .int .i64 0]) ∧ w.heap.size ≤ g ∧ Lst w' g A c R.1) ∧ Below w.heap.size w w') ∨
  (R.2 ≠ 0 ∧ e = .returned (.tuple #[.pointer none, .int .i64 R.2]) ∧ Below w.heap.size w w')
theorem drop_next {l : List Pr} {i : Nat} {p : Pr} (h : l[i]? = some p) : l.drop i = p :: l.drop (i + 1) := by
  obtain ⟨h1, h2⟩ := List.getElem?_eq_some_iff.1 h
  rw [List.drop_eq_getElem_cons h1, h2]
theorem counted_below {w wo w' : World} {g : Nat} {A : Option Addr} {c : Nat} {L L' : List Pr} (hbel : Below w.heap.size w wo) (hg : w.heap.size ≤ g) (h : Lst wo g A c L) (hc : Counted g A L' wo w') : (∃ A' c', Lst w' g A' c' L') ∧ Below w.heap.size w w' := by
  obtain ⟨A', c', h1, h2, _⟩ := hc
  refine ⟨⟨A', c', h1⟩, hbel.trans (h2.below hbel.size (fun i hi => ?_))⟩
  rcases hi with rfl | hi
  · exact hg
  · exact Nat.le_trans hg (Own.block (show Own wo g 32 2 A L.length c (pcs L) from h.2) hi).1
set_option maxHeartbeats 3200000 in
theorem of_t (A0 : Option Addr) (c0 : Nat) (l : List Pr) (w : World) (hb : Prs w w.heap.size A0 l) (hl : l.length ≤ 50000) :
    Calls Try.prog 9 #[.slice A0 l.length c0] w (OfPost w (ofL l [])) := by
  obtain ⟨R, hR⟩ : ∃ R, R = ofL l [] := ⟨_, rfl⟩
  rw [← hR]
  have HR := Lib.hid hR
  have HB := Lib.hid hb
  have hll : (l.length : Int) ≤ 50000 := by omega
  clear hR hb
  go_enter Try.func9, Try.ntmps9
  go_wp2_with fail
  have HL1 := Lib.hid (show Lst (w.alloc (.cells #[.slice none 0 0, .int .u64 0] 51)) w.heap.size none 0 [] from ⟨Blk.new _ _ _, Own.nil _ _ _ _⟩)
  have HB1 := Lib.hid ((Below.refl w.heap.size w).alloc (Nat.le_refl _) (.cells #[.slice none 0 0, .int .u64 0] 51))
  go_loopw [12] (fun v wr => ∃ (i : Nat) (L : List Pr) (A : Option Addr) (c : Nat), v = .int .i64 (i : Int) ∧ i ≤ l.length ∧ L.length ≤ i ∧ Fine L ∧ R = ofL (l.drop i) L ∧ Lst wr w.heap.size A c L ∧ Below w.heap.size w wr) (fun v _ => l.length - (intOf v).toNat)
  case atStart => exact ⟨0, [], none, 0, rfl, Nat.zero_le _, Nat.le_refl _, Fine.nil, HR.out, HL1.out, HB1.out⟩
  case round =>
    obtain ⟨i, L, A, c, rfl, hi, hLl, hf, hRi, hlst, hbel⟩ := hrel
    obtain ⟨wo, rfl⟩ : ∃ wo : World, wo = wr := ⟨_, rfl⟩
    have HLS := Lib.hid hlst
    have HBE := Lib.hid hbel
    have HF := Lib.hid hf
    have HRI := Lib.hid hRi
    have HLL := Lib.hid hLl
    clear hlst hbel hf hRi hLl
    by_cases hlt : i < l.length
    · have hii : (i : Int) < (l.length : Int) := by omega
      have hi0 : (0 : Int) ≤ (i : Int) := by omega
      obtain ⟨p, hp⟩ : ∃ p, l[i]? = some p := ⟨_, List.getElem?_eq_getElem hlt⟩
      obtain ⟨b, o, rfl, hbb, hc⟩ := (HB.out.below HBE.out).at_ (by omega)
      obtain ⟨d1, d2⟩ := hc i p hp
      have hRn : R = if (radd L p.1 p.2 0).2 = 0 then ofL (l.drop (i + 1)) (radd L p.1 p.2 0).1 else ([], (radd L p.1 p.2 0).2) := by
        rw [HRI.out, drop_next hp]
        rfl
      have HI := Lib.hid hlt
      have hrf := radd_fine (k := p.1) (n := p.2) HF.out (by have := HLL.out; omega)
      have HAD := Lib.hid (fun W (h : Lst W w.heap.size A c L) => add_t w.heap.size A c L p.1 p.2 W h HF.out)
      obtain ⟨x, n⟩ := p
      dsimp only at d1 d2 hRn HAD hrf
      generalize radd L x n 0 = r at *
      obtain ⟨r1, r2⟩ := r
      dsimp only at hRn HAD hrf
      have HRF := Lib.hid hrf
      by_cases h0 : r2 = 0
      · rw [if_pos h0] at hRn
        subst h0
        have HRN := Lib.hid hRn
        clear hc hp hRn hbb hi hlt hrf
        go_wp2_with fail
        have hbA := (Below.refl wo.heap.size wo).alloc (Nat.le_refl _) (.cells #[.int .i64 x, .int .u64 (n : Int)] 32)
        refine (HAD.out _ (HLS.out.below hbA)).mono ?_
        rintro e w3 ⟨rfl, h3⟩
        obtain ⟨⟨A3, c3, hl3⟩, hb3⟩ := counted_below (newB HBE.out (.cells #[.int .i64 x, .int .u64 (n : Int)] 32)) (Nat.le_refl _) (HLS.out.below hbA) h3
        have HL3 := Lib.hid hl3
        have HB3 := Lib.hid hb3
        clear hbA h3 hl3 hb3
        go_wp2_with fail
        go_roundw
        case rel => exact ⟨i + 1, r1, A3, c3, by go_num, HI.out, by have := HRF.out.2; have := HLL.out; omega, HRF.out.1, HRN.out, HL3.out, HB3.out⟩
        case measure => have := HI.out; simp [intOf]; omega
      · rw [if_neg h0] at hRn
        have HRN := Lib.hid hRn
        have e1 : (r2 != 0) = true := by simp; omega
        have e2 : (r2 == 0) = false := by simp; omega
        have H0 := Lib.hid h0
        clear hc hp hRn hbb hi hlt hrf h0
        go_wp2_with fail
        have hbA := (Below.refl wo.heap.size wo).alloc (Nat.le_refl _) (.cells #[.int .i64 x, .int .u64 (n : Int)] 32)
        refine (HAD.out _ (HLS.out.below hbA)).mono ?_
        rintro e w3 ⟨rfl, h3⟩
        obtain ⟨_, hb3⟩ := counted_below (newB HBE.out (.cells #[.int .i64 x, .int .u64 (n : Int)] 32)) (Nat.le_refl _) (HLS.out.below hbA) h3
        have HB3 := Lib.hid hb3
        clear hbA h3 hb3
        go_wp2_with fail
        go_ret2
        rw [HRN.out]
        exact .inr ⟨H0.out, rfl, HB3.out⟩
    · have hX : R = (L, 0) := by rw [HRI.out, List.drop_of_length_le (by omega)]; rfl
      have HX := Lib.hid hX
      have hge : ¬ (i : Int) < (l.length : Int) := by omega
      clear hi hlt hX
      go_wp2_with fail
      go_ret2
      rw [HX.out]
      exact .inl ⟨rfl, ⟨w.heap.size, A, c, rfl, Nat.le_refl _, HLS.out⟩, HBE.out⟩
/-- What the law's own pairs become. -/
def ck (k : Int) : Int := k.tmod 1048577
def cn (n : Nat) : Nat := 1 + n % 1000
theorem ck_in (k : Int) : -1048576 ≤ ck k ∧ ck k ≤ 1048576 := by
  unfold ck
  have h1 := Int.tmod_lt_of_pos k (show (0 : Int) < 1048577 by decide)
  have h2 := Int.lt_tmod_of_pos k (show (0 : Int) < 1048577 by decide)
  omega
def cntL (l : List Pr) : List Pr := l.foldl (fun L p => put L (ck p.1) (cn p.2)) []
theorem cntL_snoc {l : List Pr} {i : Nat} {p : Pr} (h : l[i]? = some p) : cntL (l.take (i + 1)) = put (cntL (l.take i)) (ck p.1) (cn p.2) := by
  unfold cntL
  rw [List.take_add_one, h, List.foldl_append]
  rfl
theorem radd_ct {L : List Pr} {k : Int} {n : Nat} (ht : tot L ≤ 1000000) : radd L (ck k) (cn n) 0 = (put L (ck k) (cn n), 0) := by
  have h := ck_in k
  have hn : 1 ≤ cn n ∧ cn n ≤ 1000 := by unfold cn; omega
  rw [radd0, if_neg (by omega), if_neg (by omega), if_neg (by omega)]
def CtPost (w : World) (L : List Pr) (e : Ending) (w' : World) : Prop :=
  ∃ g A c A2 c2, e = .returned (.tuple #[.pointer (some ⟨g, 0, none⟩), .slice A2 L.length c2]) ∧ w.heap.size ≤ g ∧ Lst w' g A c L ∧ OwnP w' w.heap.size A2 c2 L ∧ Below w.heap.size w w' ∧ (∀ b, blockOf A = some b → blockOf A2 ≠ some b)
theorem ownp_counted {w w' : World} {g base c c2 : Nat} {A A2 : Option Addr} {L L' M : List Pr} (h : Lst w g A c L) (ho : OwnP w base A2 c2 M) (hd : ∀ b, blockOf A = some b → blockOf A2 ≠ some b) (hc : Counted g A L' w w') :
    ∃ A' c', Lst w' g A' c' L' ∧ OwnP w' base A2 c2 M ∧ (∀ b, blockOf A' = some b → blockOf A2 ≠ some b) := by
  obtain ⟨A', c', h1, h2, h3⟩ := hc
  refine ⟨A', c', h1, Own.only ho h2 (fun i hi hk => ?_), fun b hb he => ?_⟩
  · rcases hk with rfl | hk
    · exact Own.ne_blk ho h.1 (by decide) hi
    · exact hd i hk hi
  · rcases h3 with h3 | ⟨j, hj, hw⟩
    · exact hd b (by rw [← h3]; exact hb) he
    · rw [hb] at hj
      injection hj with hj
      have := (Own.block (show Own w base 32 2 A2 M.length c2 (pcs M) from ho) he).2
      omega
set_option maxHeartbeats 3200000 in
theorem counted_t (A0 : Option Addr) (c0 : Nat) (l : List Pr) (w : World) (hb : Pairs w A0 l) (hl : (l.length : Int) ≤ 9223372036854775807) :
    Calls Try.prog 13 #[.slice A0 l.length c0] w (CtPost w (cntL (l.take 100))) := by
  obtain ⟨R, hR⟩ : ∃ R, R = cntL (l.take 100) := ⟨_, rfl⟩
  rw [← hR]
  have HR := Lib.hid hR
  have HB := Lib.hid hb
  clear hR hb
  go_enter Try.func13, Try.ntmps13
  go_wp2_with fail
  have HL1 := Lib.hid (show Lst (w.alloc (.cells #[.slice none 0 0, .int .u64 0] 51)) w.heap.size none 0 [] from ⟨Blk.new _ _ _, Own.nil _ _ _ _⟩)
  have HB1 := Lib.hid ((Below.refl w.heap.size w).alloc (Nat.le_refl _) (.cells #[.slice none 0 0, .int .u64 0] 51))
  go_loopw [5, 6] (fun u v wr => ∃ (i : Nat) (L : List Pr) (A : Option Addr) (c : Nat) (A2 : Option Addr) (c2 : Nat), u = .slice A2 L.length c2 ∧ v = .int .i64 (i : Int) ∧ i ≤ l.length ∧ i ≤ 100 ∧ L.length ≤ i ∧ tot L ≤ 1000 * i ∧ Fine L ∧ L = cntL (l.take i) ∧ Lst wr w.heap.size A c L ∧ OwnP wr w.heap.size A2 c2 L ∧ (∀ b, blockOf A = some b → blockOf A2 ≠ some b) ∧ Below w.heap.size w wr) (fun _ v _ => l.length - (intOf v).toNat)
  case atStart => exact ⟨0, [], none, 0, none, 0, rfl, rfl, Nat.zero_le _, Nat.zero_le _, Nat.le_refl _, Nat.le_refl _, Fine.nil, rfl, HL1.out, Own.nil _ _ _ _, fun b hb => by simp [blockOf], HB1.out⟩
  case round =>
    obtain ⟨i, L, A, c, A2, c2, rfl, rfl, hi, hi100, hLl, hLt, hf, hLi, hlst, how, hdis, hbel⟩ := hrel
    obtain ⟨wo, rfl⟩ : ∃ wo : World, wo = wr := ⟨_, rfl⟩
    have HLS := Lib.hid hlst
    have HOW := Lib.hid how
    have HDI := Lib.hid hdis
    have HBE := Lib.hid hbel
    have HF := Lib.hid hf
    have HLI := Lib.hid hLi
    have HLL := Lib.hid hLl
    have HLT := Lib.hid hLt
    clear hlst hbel hf hLi hLl hLt how hdis
    by_cases hlt : i < l.length ∧ i < 100
    · obtain ⟨hlt, hlt2⟩ := hlt
      have hii : (i : Int) < (l.length : Int) := by omega
      have hii2 : decide (i < l.length) = true := by simp; omega
      have hii3 : (i : Int) < 100 := by omega
      have hi0 : (0 : Int) ≤ (i : Int) := by omega
      obtain ⟨p, hp⟩ : ∃ p, l[i]? = some p := ⟨_, List.getElem?_eq_getElem hlt⟩
      obtain ⟨b, o, rfl, hbb, hc⟩ := (Prs.below HB.out.2 HBE.out).at_ (by omega)
      obtain ⟨d1, d2⟩ := hc i p hp
      have hpo := HB.out.1 p (List.mem_of_getElem? hp)
      have HSN := Lib.hid (cntL_snoc hp)
      have HI := Lib.hid (And.intro hlt hlt2)
      have hrd := radd_ct (L := L) (k := p.1) (n := p.2) (by have := HLT.out; omega)
      have HAD := Lib.hid (fun W (h : Lst W w.heap.size A c L) => add_t w.heap.size A c L (ck p.1) (cn p.2) W h HF.out)
      rw [hrd] at HAD
      have HPU := Lib.hid (fun A2 c2 W (h : Prs W W.heap.size A2 L) => put13_t A2 c2 L (ck p.1) (cn p.2) W h (by have := HLL.out; omega) (by have := HLT.out; unfold cn; omega))
      have hfp : Fine (put L (ck p.1) (cn p.2)) := put_fine HF.out (by unfold cn; omega) (ck_in _).1 (ck_in _).2 (by have := HLT.out; unfold cn; omega) (by have := HLL.out; omega)
      have HFP := Lib.hid hfp
      have HPL := Lib.hid (show (put L (ck p.1) (cn p.2)).length ≤ i + 1 from Nat.le_trans put_len (by have := HLL.out; omega))
      have HPT := Lib.hid (show tot (put L (ck p.1) (cn p.2)) ≤ 1000 * (i + 1) by rw [put_tot]; have := HLT.out; unfold cn; omega)
      obtain ⟨x, n⟩ := p
      dsimp only at d1 d2 HAD HPU HSN HFP HPL HPT hpo
      obtain ⟨q, hq⟩ : ∃ q, q = n % 1000 := ⟨_, rfl⟩
      have hn1 : (n : Int).tmod 1000 = (q : Int) := by rw [Int.tmod_eq_emod_of_nonneg (by omega)]; omega
      have hn2 : (n : Int) % 1000 = (q : Int) := by omega
      obtain ⟨N, hN⟩ : ∃ N, N = cn n := ⟨_, rfl⟩
      have hn3 : IntKind.u64.wrap (1 + (q : Int)) = (N : Int) := by rw [hN]; unfold cn; rw [IntWalk.u64_in _ ⟨by omega, by omega⟩]; omega
      obtain ⟨K, hK⟩ : ∃ K, K = ck x := ⟨_, rfl⟩
      have hx : x.tmod 1048577 = K := hK.symm
      rw [← hK, ← hN] at HAD HPU HFP HPL HPT HSN
      obtain ⟨L', hL'⟩ : ∃ L', L' = put L K N := ⟨_, rfl⟩
      rw [← HLI.out] at HSN
      rw [← hL'] at HAD HPU HFP HPL HPT HSN
      clear hc hp hbb hi hi100 hlt hlt2 hrd hfp hpo hq hN hK hL'
      go_wp2_with fail
      go_quiet (fail)
      go_wp2_with fail
      have hLd : Lst (wo.drewN nq) w.heap.size A c L := ⟨HLS.out.1.drewN nq, HLS.out.2⟩
      have hOd : OwnP (wo.drewN nq) w.heap.size A2 c2 L := HOW.out
      have hbd := below_drewN HBE.out nq
      refine (HAD.out _ hLd).mono ?_
      rintro e w3 ⟨rfl, h3⟩
      obtain ⟨A3, c3, hl3, ho3, hd3⟩ := ownp_counted hLd hOd HDI.out h3
      obtain ⟨_, hb3⟩ := counted_below hbd (Nat.le_refl _) hLd h3
      have HL3 := Lib.hid hl3
      have HO3 := Lib.hid ho3
      have HB3 := Lib.hid hb3
      clear hLd hOd hbd h3 hl3 ho3 hd3 hb3
      go_wp2_with fail
      refine (HPU.out A2 c2 w3 (OwnP.reads HO3.out)).mono ?_
      rintro e w4 ⟨A4, c4, rfl, h4, hb4⟩
      have HL4 := Lib.hid (HL3.out.below hb4)
      have HO4 := Lib.hid (Own.mono h4 HB3.out.size)
      have HB4 := Lib.hid (nextB HB3.out hb4)
      have HD4 : Hid (∀ b, blockOf A3 = some b → blockOf A4 ≠ some b) := Lib.hid (fun b h1 h2 => by
        have h3 := (Own.block (show Own w3 w.heap.size 32 2 A3 L'.length c3 (pcs L') from Own.mono HL3.out.2 (Nat.le_refl _)) h1).2
        have h5 := (Own.block (show Own w4 w3.heap.size 32 2 A4 L'.length c4 (pcs L') from h4) h2).1
        omega)
      clear h4 hb4
      go_wp2_with fail
      go_roundw
      case rel => exact ⟨i + 1, L', A3, c3, A4, c4, rfl, by go_num, HI.out.1, HI.out.2, HPL.out, HPT.out, HFP.out, HSN.out.symm, HL4.out, HO4.out, HD4.out, HB4.out⟩
      case measure => have := HI.out; simp [intOf]; omega
    · have hX : R = L := by
        rw [HR.out, HLI.out]
        by_cases h1 : i < l.length
        · rw [show i = 100 by omega]
        · rw [List.take_of_length_le (by omega), List.take_of_length_le (by omega)]
      have HX := Lib.hid hX
      have hc : decide ((i : Int) < (l.length : Int)) = false ∧ decide (i < l.length) = false ∨ decide ((i : Int) < (l.length : Int)) = true ∧ decide (i < l.length) = true ∧ decide ((i : Int) < 100) = false := by
        by_cases h1 : i < l.length
        · exact .inr ⟨by simp; omega, by simp; omega, by simp; omega⟩
        · exact .inl ⟨by simp; omega, by simp; omega⟩
      clear hi hi100 hlt hX
      rcases hc with ⟨e1, e2⟩ | ⟨e1, e2, e3⟩
      all_goals
        go_wp2_with fail
        go_ret2
        rw [HX.out]
        exact ⟨w.heap.size, A, c, A2, c2, rfl, Nat.le_refl _, HLS.out, HOW.out, HBE.out, HDI.out⟩
end Go.Proofs.Ytfpehefcgfhdmaa
