/- Dense: Take walked. -/
import Derived.Test.YtknimekfkkihpaaDenseD
namespace Go.Proofs.Ytknimekfkkihpaa
open Go.RowKit
open Ds Pl

abbrev St := Int × List Nat × Nat
def addS (s : St) (p : Pr) : St := addF s.1 s.2.1 s.2.2 p.1 p.2
def adds (s : St) (L : List Pr) : St := L.foldl addS s
theorem inv_add {s : St} {p : Pr} (h : Inv s.1 s.2.1 s.2.2) : Inv (addS s p).1 (addS s p).2.1 (addS s p).2.2 := by
  unfold addS addF
  by_cases hc : chk s.1 s.2.1 s.2.2 p.1 p.2 = 0
  · rw [if_pos hc]
    obtain ⟨h1, h2, h3, h4, h5⟩ := chk_zero hc
    obtain ⟨lo, hi, len, sum, cap⟩ := h
    have hlen := reachL_len s.1 s.2.1 p.1
    have hal := addL_len s.1 s.2.1 p.1 p.2
    unfold wide at h4
    refine ⟨?_, ?_, ?_, ?_, by simp only; omega⟩
    · simp only
      unfold reachF
      by_cases h0 : s.2.1.length = 0
      · rw [if_pos h0]; omega
      · rw [if_neg h0]
        by_cases hk : p.1 < s.1
        · rw [if_pos hk]; omega
        · rw [if_neg hk]; omega
    · simp only
      rw [hal, hlen]
      unfold reachF
      by_cases h0 : s.2.1.length = 0
      · rw [if_pos h0, if_pos h0]; omega
      · rw [if_neg h0, if_neg h0]
        by_cases hk : p.1 < s.1
        · rw [if_pos hk]; omega
        · rw [if_neg hk]; omega
    · simp only
      rw [hal]; omega
    · simp only
      rw [add_sum, sum]
  · rw [if_neg hc]; exact h
theorem inv_adds {L : List Pr} {s : St} (h : Inv s.1 s.2.1 s.2.2) : Inv (adds s L).1 (adds s L).2.1 (adds s L).2.2 := by
  induction L generalizing s with
  | nil => exact h
  | cons p L ih => exact ih (inv_add h)
theorem adds_take {s : St} {L : List Pr} {k : Nat} {p : Pr} (h : L[k]? = some p) : adds s (L.take (k + 1)) = addS (adds s (L.take k)) p := by
  obtain ⟨h1, e⟩ := List.getElem?_eq_some_iff.1 h
  rw [List.take_succ_eq_append_getElem h1, e]
  simp [adds]
/-- The answer of Take. -/
def tkc (f : Int) (l : List Nat) (t : Nat) (f2 : Int) (l2 : List Nat) (t2 : Nat) : Int :=
  if l2.length = 0 then 0 else if l.length ≠ 0 ∧ 8192 < max (f + l.length - 1) (f2 + l2.length - 1) - min f f2 + 1 then 130 else if 4611686018427387904 - t < t2 then 6 else 0
def TakePost (base g : Nat) (A : Option Addr) (r : Int) (s : St) (w : World) (e : Ending) (w' : World) : Prop := e = .returned (.int .i64 r) ∧ StoPost base g A s.1 s.2.1 s.2.2 w w'
theorem take_ends (g g2 : Nat) (A A2 : Option Addr) (c c2 base base2 : Nat) (f f2 : Int) (l l2 : List Nat) (t t2 : Nat) (w : World) (h2 : Sto w base2 g2 A2 c2 f2 l2 t2) (hi2 : Inv f2 l2 t2) (h : Sto w base g A c f l t) (hl : l2.length = 0) :
    Calls Try.prog 13 #[.pointer (some ⟨g, 0, none⟩), .pointer (some ⟨g2, 0, none⟩)] w (TakePost base g A 0 (f, l, t) w) := by
  have HE := fun W h => ends_t g2 A2 c2 base2 f2 l2 t2 W h hi2
  rw [endsV, if_pos hl] at HE
  replace HE := Lib.hid HE
  have HH := Lib.hid h
  have HH2 := Lib.hid h2
  clear h h2 hl hi2
  go_enter Try.func13, Try.ntmps13
  go_wp2_with fail
  refine (HE.out _ HH2.out).mono ?_
  rintro e w0 ⟨rfl, n, rfl⟩
  go_wp2_with fail
  go_ret
  exact ⟨rfl, A, c, HH.out, .inl rfl, (Only.refl _ w).drewN n⟩
set_option maxHeartbeats 1600000 in
theorem take_full (g g2 : Nat) (A A2 : Option Addr) (c c2 base base2 : Nat) (f f2 : Int) (l l2 : List Nat) (t t2 : Nat) (w : World) (h2 : Sto w base2 g2 A2 c2 f2 l2 t2) (hi2 : Inv f2 l2 t2) (h : Sto w base g A c f l t) (hi : Inv f l t) (hl : l2.length ≠ 0) (hl1 : l.length ≠ 0) (hbig : 8192 < max (f + l.length - 1) (f2 + l2.length - 1) - min f f2 + 1) :
    Calls Try.prog 13 #[.pointer (some ⟨g, 0, none⟩), .pointer (some ⟨g2, 0, none⟩)] w (TakePost base g A 130 (f, l, t) w) := by
  have HE := fun W h => ends_t g2 A2 c2 base2 f2 l2 t2 W h hi2
  have HE1 := fun W h => ends_t g A c base f l t W h hi
  rw [endsV, if_neg hl] at HE
  rw [endsV, if_neg hl1] at HE1
  replace HE := Lib.hid HE
  replace HE1 := Lib.hid HE1
  obtain ⟨lo, hi, len, -, -⟩ := hi
  obtain ⟨lo2, hi2, len2, -, -⟩ := hi2
  have HH := Lib.hid h
  have HH2 := Lib.hid h2
  have hm0 : (0 : Int) ≤ (l.length : Int) := by omega
  have hm20 : (0 : Int) ≤ (l2.length : Int) := by omega
  clear h h2 hl hl1
  generalize (l.length : Int) = m at *
  generalize (l2.length : Int) = m2 at *
  go_enter Try.func13, Try.ntmps13
  go_wp2_with fail
  refine (HE.out _ HH2.out).mono ?_
  rintro e w0 ⟨rfl, n, rfl⟩
  go_wp2_with fail
  refine (HE1.out _ (show Sto (w.drewN n) base g A c f l t from HH.out)).mono ?_
  rintro e w0 ⟨rfl, n2, rfl⟩
  go_wp2_with fail
  all_goals
    go_ret
    exact ⟨rfl, A, c, HH.out, .inl rfl, (Only.refl _ w).drewN _⟩
set_option maxHeartbeats 1600000 in
theorem take_cap (g g2 : Nat) (A A2 : Option Addr) (c c2 base base2 : Nat) (f f2 : Int) (l l2 : List Nat) (t t2 : Nat) (w : World) (h2 : Sto w base2 g2 A2 c2 f2 l2 t2) (hi2 : Inv f2 l2 t2) (h : Sto w base g A c f l t) (hi : Inv f l t) (hl : l2.length ≠ 0) (hsm : l.length = 0 ∨ max (f + l.length - 1) (f2 + l2.length - 1) - min f f2 + 1 ≤ 8192) (hc : 4611686018427387904 - t < t2) :
    Calls Try.prog 13 #[.pointer (some ⟨g, 0, none⟩), .pointer (some ⟨g2, 0, none⟩)] w (TakePost base g A 6 (f, l, t) w) := by
  have HE := fun W h => ends_t g2 A2 c2 base2 f2 l2 t2 W h hi2
  have HE1 := fun W h => ends_t g A c base f l t W h hi
  rw [endsV, if_neg hl] at HE
  replace HE := Lib.hid HE
  have hcap := hi.cap
  have hcap2 := hi2.cap
  have HI := Lib.hid hi
  have HI2 := Lib.hid hi2
  obtain ⟨lo, hi, len, -, -⟩ := hi
  obtain ⟨lo2, hi2, len2, -, -⟩ := hi2
  have HH := Lib.hid h
  have HH2 := Lib.hid h2
  have k2 := h.c2
  have q2 := h2.c2
  clear h h2 hl
  have hcc : decide (4611686018427387904 - (t : Int) < (t2 : Int)) = true := by simp; omega
  clear hc
  by_cases hl1 : l.length = 0
  · rw [endsV, if_pos hl1] at HE1
    replace HE1 := Lib.hid HE1
    clear hl1 hsm
    go_enter Try.func13, Try.ntmps13
    go_wp2_with fail
    refine (HE.out _ HH2.out).mono ?_
    rintro e w0 ⟨rfl, n, rfl⟩
    go_wp2_with fail
    refine (HE1.out _ (show Sto (w.drewN n) base g A c f l t from HH.out)).mono ?_
    rintro e w0 ⟨rfl, n2, rfl⟩
    go_wp2_with fail
    all_goals
      go_quiet (fail)
      go_wp2_with fail
      go_ret
      exact ⟨rfl, A, c, HH.out, .inl rfl, ((Only.refl _ w).drewN _).drewN _⟩
  · rw [endsV, if_neg hl1] at HE1
    replace HE1 := Lib.hid HE1
    have w1 : f + (l.length : Int) - 1 - f ≤ 8191 ∧ f + (l.length : Int) - 1 - f2 ≤ 8191 ∧ f2 + (l2.length : Int) - 1 - f ≤ 8191 ∧ f2 + (l2.length : Int) - 1 - f2 ≤ 8191 := by omega
    obtain ⟨w1, w2, w3, w4⟩ := w1
    have hm0 : (0 : Int) ≤ (l.length : Int) := by omega
    have hm20 : (0 : Int) ≤ (l2.length : Int) := by omega
    clear hl1 hsm
    generalize (l.length : Int) = m at *
    generalize (l2.length : Int) = m2 at *
    go_enter Try.func13, Try.ntmps13
    go_wp2_with fail
    refine (HE.out _ HH2.out).mono ?_
    rintro e w0 ⟨rfl, n, rfl⟩
    go_wp2_with fail
    refine (HE1.out _ (show Sto (w.drewN n) base g A c f l t from HH.out)).mono ?_
    rintro e w0 ⟨rfl, n2, rfl⟩
    go_wp2_with fail
    all_goals
      go_quiet (fail)
      go_wp2_with fail
      go_ret
      exact ⟨rfl, A, c, HH.out, .inl rfl, ((Only.refl _ w).drewN _).drewN _⟩
set_option maxHeartbeats 3200000 in
theorem take_yes (g g2 : Nat) (A A2 : Option Addr) (c c2 base base2 : Nat) (f f2 : Int) (l l2 : List Nat) (t t2 : Nat) (w : World) (h2 : Sto w base2 g2 A2 c2 f2 l2 t2) (hi2 : Inv f2 l2 t2) (h : Sto w base g A c f l t) (hi : Inv f l t) (hl : l2.length ≠ 0) (hsm : l.length = 0 ∨ max (f + l.length - 1) (f2 + l2.length - 1) - min f f2 + 1 ≤ 8192) (hc : t2 ≤ 4611686018427387904 - t) (hbase : base ≤ w.heap.size) :
    Calls Try.prog 13 #[.pointer (some ⟨g, 0, none⟩), .pointer (some ⟨g2, 0, none⟩)] w (TakePost base g A 0 (adds (f, l, t) (prs f2 l2)) w) := by
  have HE := fun W h => ends_t g2 A2 c2 base2 f2 l2 t2 W h hi2
  have HE1 := fun W h => ends_t g A c base f l t W h hi
  rw [endsV, if_neg hl] at HE
  replace HE := Lib.hid HE
  have hcap := hi.cap
  have hcap2 := hi2.cap
  have HI := Lib.hid hi
  have HI2 := Lib.hid hi2
  obtain ⟨lo, hi, len, -, -⟩ := hi
  obtain ⟨lo2, hi2, len2, -, -⟩ := hi2
  have HH := Lib.hid h
  have HH2 := Lib.hid h2
  have k2 := h.c2
  have q2 := h2.c2
  clear h h2 hl
  have hcc : decide (4611686018427387904 - (t : Int) < (t2 : Int)) = false := by simp; omega
  have HPT := fun W h => pairs_t g2 A2 c2 base2 f2 l2 t2 W h HI2.out
  have hlb : ∀ p ∈ prs f2 l2, -1048576 ≤ p.1 ∧ p.1 ≤ 1048577 ∧ p.2 ≤ 4611686018427387904 := fun p hp => by
    have h1 := prs_ge p hp
    have h2 := tot_le_of_mem hp
    rw [prs_tot, HI2.out.sum] at h2
    omega
  obtain ⟨L, hL⟩ : ∃ L, L = prs f2 l2 := ⟨_, rfl⟩
  have hll : L.length ≤ 8192 := by rw [hL]; have := prs_len (f := f2) (l := l2); omega
  rw [← hL] at hlb ⊢
  simp only [← hL] at HPT
  replace HPT := Lib.hid HPT
  have HLB := Lib.hid hlb
  have HCL := Lib.hid hll
  have hll2 : (L.length : Int) ≤ 8192 := by omega
  clear hc hL hlb hll
  by_cases hl1 : l.length = 0
  · rw [endsV, if_pos hl1] at HE1
    replace HE1 := Lib.hid HE1
    clear hl1 hsm
    go_enter Try.func13, Try.ntmps13
    go_wp2_with fail
    refine (HE.out _ HH2.out).mono ?_
    rintro e w0 ⟨rfl, n, rfl⟩
    go_wp2_with fail
    refine (HE1.out _ (show Sto (w.drewN n) base g A c f l t from HH.out)).mono ?_
    rintro e w0 ⟨rfl, n2, rfl⟩
    go_wp2_with fail
    all_goals
      go_quiet (fail)
      go_wp2_with fail
      generalize hN : n + n2 + nq = N
      refine (HPT.out _ (show Sto (w.drewN N) base2 g2 A2 c2 f2 l2 t2 from HH2.out)).mono ?_
      rintro e w1 ⟨Ap, cp, rfl, hown, hb⟩
      have hs1 : Sto w1 base g A c f l t := sto_below (show Sto (w.drewN N) base g A c f l t from HH.out) hb
      have ho1 : Only (fun i => i = g ∨ blockOf A = some i) w w1 := ((Only.refl _ w).drewN N).step (Only.of_below (K := fun _ => False) hb) (fun i h => h.elim)
      have HS1 := Lib.hid hs1
      have HO1 := Lib.hid ho1
      have HP := Lib.hid hown
      have HSZ := Lib.hid hb.size
      clear hs1 ho1 hown hb hN
      go_wp2_with fail
      have hst0 : ∀ b, blockOf Ap = some b → b ≠ g ∧ blockOf A ≠ some b ∧ w.heap.size ≤ b := fun b hb => by
        have h1 : w.heap.size ≤ b := (HP.out.block hb).1
        have h2 := HH.out.1.lt
        refine ⟨by omega, fun e => ?_, h1⟩
        have := (HH.out.2.block e).2
        omega
      have HB0 := Lib.hid hst0
      clear hst0
      go_loopw [57] (fun i wr => ∃ (k : Nat) (A' : Option Addr) (c' : Nat), k ≤ L.length ∧ i = .int .i64 k ∧ Sto wr base g A' c' (adds (f, l, t) (L.take k)).1 (adds (f, l, t) (L.take k)).2.1 (adds (f, l, t) (L.take k)).2.2 ∧
        Only (fun i => i = g ∨ blockOf A = some i) w wr ∧ (blockOf A' = blockOf A ∨ ∃ b, blockOf A' = some b ∧ w.heap.size ≤ b) ∧ Prs wr wr.heap.size Ap L ∧ ∀ b, blockOf Ap = some b → blockOf A' ≠ some b) (fun i _ => L.length - (intOf i).toNat)
      case atStart => exact ⟨0, A, c, Nat.zero_le _, rfl, HS1.out, HO1.out, .inl rfl, HP.out.reads, fun b hb => (HB0.out b hb).2.1⟩
      case round =>
        obtain ⟨k, A', c', hk, rfl, hsto, honly, hloc, hprs, hap⟩ := hrel
        by_cases hlt : k < L.length
        · obtain ⟨b, o, hAp, hbl, hcell⟩ := hprs.at_ (by omega)
          subst hAp
          obtain ⟨⟨x1, x2⟩, hp⟩ : ∃ p, L[k]? = some p := ⟨L[k], by simp [hlt]⟩
          obtain ⟨e1, e2⟩ := hcell k _ hp
          simp only at e1 e2
          have hb0 := HLB.out _ (List.mem_of_getElem? hp)
          simp only at hb0
          obtain ⟨hx1, hx2, hx3⟩ := hb0
          have hkk : (k : Int) < (L.length : Int) := by omega
          have hk0 : (0 : Int) ≤ (k : Int) := by omega
          have hnext := adds_take (s := (f, l, t)) hp
          have hinv := inv_adds (L := L.take k) (s := (f, l, t)) HI.out
          have HNX := Lib.hid hnext
          clear hnext hp hcell
          generalize adds (f, l, t) (L.take k) = sk at *
          obtain ⟨fk, lk, tk⟩ := sk
          simp only at hsto hinv
          have HA := fun W h hb => add_t g A' c' base fk x1 lk tk x2 W h hinv hb (by omega) (by omega) (by omega)
          replace HA := Lib.hid HA
          have HST := Lib.hid hsto
          have HON := Lib.hid honly
          have HLO := Lib.hid hloc
          have HPR := Lib.hid hprs
          have HAP := Lib.hid hap
          have HL := Lib.hid hlt
          have hbw := honly.size
          clear hsto hinv honly hloc hprs hap hlt hk
          go_wp2_with fail
          have hbel : Below wr.heap.size wr (wr.alloc (.cells #[.int .i64 x1, .int .u64 (x2 : Int)] 30)) := (Below.refl _ _).alloc (Nat.le_refl _) _
          have hsz : wr.heap.size ≤ (wr.alloc (.cells #[.int .i64 x1, .int .u64 (x2 : Int)] 30)).heap.size := hbel.size
          refine (HA.out _ (sto_below HST.out hbel) (by omega)).mono ?_
          rintro e w4 ⟨rfl, A4, c4, hs4, hl4, ho4⟩
          have hon4 : Only (fun i => i = g ∨ blockOf A = some i) w w4 := (HON.out.alloc _).step ho4 (fun i hi => by
            rcases hi with h | h
            · exact .inl (.inl h)
            · rcases HLO.out with h1 | ⟨b', h1, h2⟩
              · exact .inl (.inr (h1.symm.trans h))
              · rw [h1] at h; injection h with h; exact .inr (by omega))
          have hpb := HPR.out.at_below hbel
          have hp4 : Prs w4 w4.heap.size (some ⟨b, o, none⟩) L := (Reads.only (K := fun i => i = g ∨ blockOf A' = some i) hpb (Nat.le_refl _) ho4 (fun g' hg' => by
            rintro (h | h)
            · exact (HB0.out g' hg').1 h
            · exact HAP.out g' hg' h)).more ho4.size
          have hap4 : ∀ b', blockOf (some (⟨b, o, none⟩ : Addr)) = some b' → blockOf A4 ≠ some b' := fun b' hb' => by
            rcases hl4 with h | ⟨b2, h, h2⟩
            · rw [h]; exact HAP.out b' hb'
            · rw [h]
              intro e
              injection e with e
              have : b = b' := by simpa [blockOf] using hb'
              omega
          have hloc4 : blockOf A4 = blockOf A ∨ ∃ b, blockOf A4 = some b ∧ w.heap.size ≤ b := by
            rcases hl4 with h | ⟨b2, h, h2⟩
            · rw [h]; exact HLO.out
            · exact .inr ⟨b2, h, by omega⟩
          have H1 := Lib.hid hs4
          have H2 := Lib.hid hon4
          have H3 := Lib.hid hp4
          have H4 := Lib.hid hap4
          have H5 := Lib.hid hloc4
          clear hs4 hl4 ho4 hon4 hpb hp4 hap4 hloc4 hbel hsz
          go_wp2_with fail
          go_roundw
          case rel => exact ⟨k + 1, A4, c4, HL.out, by go_num, by rw [HNX.out]; exact H1.out, H2.out, H5.out, H3.out, H4.out⟩
          case measure => have h1 := HL.out; simp [intOf]; omega
        · obtain rfl : k = L.length := by omega
          rw [List.take_length] at hsto
          have HST := Lib.hid hsto
          have HON := Lib.hid honly
          have HLO := Lib.hid hloc
          clear hsto honly hloc hprs hap
          go_wp2_with fail
          go_ret
          exact ⟨rfl, A', c', HST.out, HLO.out, HON.out⟩
  · rw [endsV, if_neg hl1] at HE1
    replace HE1 := Lib.hid HE1
    have w1 : f + (l.length : Int) - 1 - f ≤ 8191 ∧ f + (l.length : Int) - 1 - f2 ≤ 8191 ∧ f2 + (l2.length : Int) - 1 - f ≤ 8191 ∧ f2 + (l2.length : Int) - 1 - f2 ≤ 8191 := by omega
    obtain ⟨w1, w2, w3, w4⟩ := w1
    have hm0 : (0 : Int) ≤ (l.length : Int) := by omega
    have hm20 : (0 : Int) ≤ (l2.length : Int) := by omega
    clear hl1 hsm
    generalize (l.length : Int) = m at *
    generalize (l2.length : Int) = m2 at *
    go_enter Try.func13, Try.ntmps13
    go_wp2_with fail
    refine (HE.out _ HH2.out).mono ?_
    rintro e w0 ⟨rfl, n, rfl⟩
    go_wp2_with fail
    refine (HE1.out _ (show Sto (w.drewN n) base g A c f l t from HH.out)).mono ?_
    rintro e w0 ⟨rfl, n2, rfl⟩
    go_wp2_with fail
    all_goals
      go_quiet (fail)
      go_wp2_with fail
      generalize hN : n + n2 + nq = N
      refine (HPT.out _ (show Sto (w.drewN N) base2 g2 A2 c2 f2 l2 t2 from HH2.out)).mono ?_
      rintro e w1 ⟨Ap, cp, rfl, hown, hb⟩
      have hs1 : Sto w1 base g A c f l t := sto_below (show Sto (w.drewN N) base g A c f l t from HH.out) hb
      have ho1 : Only (fun i => i = g ∨ blockOf A = some i) w w1 := ((Only.refl _ w).drewN N).step (Only.of_below (K := fun _ => False) hb) (fun i h => h.elim)
      have HS1 := Lib.hid hs1
      have HO1 := Lib.hid ho1
      have HP := Lib.hid hown
      have HSZ := Lib.hid hb.size
      clear hs1 ho1 hown hb hN
      go_wp2_with fail
      have hst0 : ∀ b, blockOf Ap = some b → b ≠ g ∧ blockOf A ≠ some b ∧ w.heap.size ≤ b := fun b hb => by
        have h1 : w.heap.size ≤ b := (HP.out.block hb).1
        have h2 := HH.out.1.lt
        refine ⟨by omega, fun e => ?_, h1⟩
        have := (HH.out.2.block e).2
        omega
      have HB0 := Lib.hid hst0
      clear hst0
      go_loopw [57] (fun i wr => ∃ (k : Nat) (A' : Option Addr) (c' : Nat), k ≤ L.length ∧ i = .int .i64 k ∧ Sto wr base g A' c' (adds (f, l, t) (L.take k)).1 (adds (f, l, t) (L.take k)).2.1 (adds (f, l, t) (L.take k)).2.2 ∧
        Only (fun i => i = g ∨ blockOf A = some i) w wr ∧ (blockOf A' = blockOf A ∨ ∃ b, blockOf A' = some b ∧ w.heap.size ≤ b) ∧ Prs wr wr.heap.size Ap L ∧ ∀ b, blockOf Ap = some b → blockOf A' ≠ some b) (fun i _ => L.length - (intOf i).toNat)
      case atStart => exact ⟨0, A, c, Nat.zero_le _, rfl, HS1.out, HO1.out, .inl rfl, HP.out.reads, fun b hb => (HB0.out b hb).2.1⟩
      case round =>
        obtain ⟨k, A', c', hk, rfl, hsto, honly, hloc, hprs, hap⟩ := hrel
        by_cases hlt : k < L.length
        · obtain ⟨b, o, hAp, hbl, hcell⟩ := hprs.at_ (by omega)
          subst hAp
          obtain ⟨⟨x1, x2⟩, hp⟩ : ∃ p, L[k]? = some p := ⟨L[k], by simp [hlt]⟩
          obtain ⟨e1, e2⟩ := hcell k _ hp
          simp only at e1 e2
          have hb0 := HLB.out _ (List.mem_of_getElem? hp)
          simp only at hb0
          obtain ⟨hx1, hx2, hx3⟩ := hb0
          have hkk : (k : Int) < (L.length : Int) := by omega
          have hk0 : (0 : Int) ≤ (k : Int) := by omega
          have hnext := adds_take (s := (f, l, t)) hp
          have hinv := inv_adds (L := L.take k) (s := (f, l, t)) HI.out
          have HNX := Lib.hid hnext
          clear hnext hp hcell
          generalize adds (f, l, t) (L.take k) = sk at *
          obtain ⟨fk, lk, tk⟩ := sk
          simp only at hsto hinv
          have HA := fun W h hb => add_t g A' c' base fk x1 lk tk x2 W h hinv hb (by omega) (by omega) (by omega)
          replace HA := Lib.hid HA
          have HST := Lib.hid hsto
          have HON := Lib.hid honly
          have HLO := Lib.hid hloc
          have HPR := Lib.hid hprs
          have HAP := Lib.hid hap
          have HL := Lib.hid hlt
          have hbw := honly.size
          clear hsto hinv honly hloc hprs hap hlt hk
          go_wp2_with fail
          have hbel : Below wr.heap.size wr (wr.alloc (.cells #[.int .i64 x1, .int .u64 (x2 : Int)] 30)) := (Below.refl _ _).alloc (Nat.le_refl _) _
          have hsz : wr.heap.size ≤ (wr.alloc (.cells #[.int .i64 x1, .int .u64 (x2 : Int)] 30)).heap.size := hbel.size
          refine (HA.out _ (sto_below HST.out hbel) (by omega)).mono ?_
          rintro e w4 ⟨rfl, A4, c4, hs4, hl4, ho4⟩
          have hon4 : Only (fun i => i = g ∨ blockOf A = some i) w w4 := (HON.out.alloc _).step ho4 (fun i hi => by
            rcases hi with h | h
            · exact .inl (.inl h)
            · rcases HLO.out with h1 | ⟨b', h1, h2⟩
              · exact .inl (.inr (h1.symm.trans h))
              · rw [h1] at h; injection h with h; exact .inr (by omega))
          have hpb := HPR.out.at_below hbel
          have hp4 : Prs w4 w4.heap.size (some ⟨b, o, none⟩) L := (Reads.only (K := fun i => i = g ∨ blockOf A' = some i) hpb (Nat.le_refl _) ho4 (fun g' hg' => by
            rintro (h | h)
            · exact (HB0.out g' hg').1 h
            · exact HAP.out g' hg' h)).more ho4.size
          have hap4 : ∀ b', blockOf (some (⟨b, o, none⟩ : Addr)) = some b' → blockOf A4 ≠ some b' := fun b' hb' => by
            rcases hl4 with h | ⟨b2, h, h2⟩
            · rw [h]; exact HAP.out b' hb'
            · rw [h]
              intro e
              injection e with e
              have : b = b' := by simpa [blockOf] using hb'
              omega
          have hloc4 : blockOf A4 = blockOf A ∨ ∃ b, blockOf A4 = some b ∧ w.heap.size ≤ b := by
            rcases hl4 with h | ⟨b2, h, h2⟩
            · rw [h]; exact HLO.out
            · exact .inr ⟨b2, h, by omega⟩
          have H1 := Lib.hid hs4
          have H2 := Lib.hid hon4
          have H3 := Lib.hid hp4
          have H4 := Lib.hid hap4
          have H5 := Lib.hid hloc4
          clear hs4 hl4 ho4 hon4 hpb hp4 hap4 hloc4 hbel hsz
          go_wp2_with fail
          go_roundw
          case rel => exact ⟨k + 1, A4, c4, HL.out, by go_num, by rw [HNX.out]; exact H1.out, H2.out, H5.out, H3.out, H4.out⟩
          case measure => have h1 := HL.out; simp [intOf]; omega
        · obtain rfl : k = L.length := by omega
          rw [List.take_length] at hsto
          have HST := Lib.hid hsto
          have HON := Lib.hid honly
          have HLO := Lib.hid hloc
          clear hsto honly hloc hprs hap
          go_wp2_with fail
          go_ret
          exact ⟨rfl, A', c', HST.out, HLO.out, HON.out⟩
end Go.Proofs.Ytknimekfkkihpaa
