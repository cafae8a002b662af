/- Dense: the law's 'same' walked. -/
import Derived.Test.YtknimekfkkihpaaDenseTakeP
namespace Go.Proofs.Ytknimekfkkihpaa
open Go.RowKit
open Ds Pl

theorem slen_t {base : Nat} {ids : List Nat} {S : Nat → St} (g : Nat) (w : World) (h : Sts w base ids S) (hg : g ∈ ids) :
    Calls Try.prog 29 #[.pointer (some ⟨g, 0, Option.none⟩)] w fun e w' => e = .returned (.int .i64 ((prs (S g).1 (S g).2.1).length : Nat)) ∧ Below w.heap.size w w' := by
  obtain ⟨A, c, hs⟩ := h.get hg
  exact len_t g A c base _ _ _ w hs (h.inv hg)
theorem scount_t {base : Nat} {ids : List Nat} {S : Nat → St} (g : Nat) (k : Int) (w : World) (h : Sts w base ids S) (hg : g ∈ ids) :
    Calls Try.prog 26 #[.pointer (some ⟨g, 0, Option.none⟩), .int .i64 k] w fun e w' => e = .returned (.int .u64 (cntS (S g).1 (S g).2.1 k : Nat)) ∧ ∃ n, w' = w.drewN n := by
  obtain ⟨A, c, hs⟩ := h.get hg
  exact count_t g A c base _ k _ _ w hs (h.inv hg)
set_option maxHeartbeats 3200000 in
theorem same_t {base : Nat} {ids : List Nat} {S : Nat → St} (g : Nat) (A : Option Addr) (c : Nat) (k : Int) (R : List Pr) (w : World) (h : Sts w base ids S) (hg : g ∈ ids) (he : EndsS (S g)) (hR : R = prs (S g).1 (S g).2.1) (hp : Prs w w.heap.size A R) :
    Calls Try.prog 19 #[.pointer (some ⟨g, 0, none⟩), .slice A R.length c, .int .i64 k] w fun e w' => e = .returned (.bool true) ∧ Below w.heap.size w w' := by
  have hi := h.inv hg
  have hml : R.length ≤ 8192 := by rw [hR]; exact prs_mlen hi
  have htot : tot R = (S g).2.2 := by rw [hR, prs_tot, hi.sum]
  have htl : tot R ≤ 4611686018427387904 := by rw [htot]; exact hi.cap
  have hcn : cnt R k = cntS (S g).1 (S g).2.1 k := by rw [hR, prs_cnt]
  have HE := fun W h => sends_t (base := base) (ids := ids) (S := S) g W h hg
  have HP := fun W h => spairs_t (base := base) (ids := ids) (S := S) g W h hg
  have HT := fun W h => stotal_t (base := base) (ids := ids) (S := S) g W h hg
  have HL := fun W h => slen_t (base := base) (ids := ids) (S := S) g W h hg
  have HC := fun W h => scount_t (base := base) (ids := ids) (S := S) g k W h hg
  rw [← hR] at HP HL
  rw [← htot] at HT
  rw [← hcn] at HC
  have HS13 := fun A1 A2 c1 c2 B1 B2 W h1 h2 => same13_t A1 A2 c1 c2 B1 B2 R W h1 h2 (by unfold maxLen; omega)
  have HT13 := fun A1 c1 B1 W h1 => total13_t A1 c1 B1 R W h1 (by unfold maxLen; omega) (by omega)
  have HC13 := fun A1 c1 B1 W h1 => count13_t A1 c1 B1 R k W h1 (by unfold maxLen; omega)
  replace HP := Lib.hid HP
  replace HT := Lib.hid HT
  replace HL := Lib.hid HL
  replace HC := Lib.hid HC
  replace HS13 := Lib.hid HS13
  replace HT13 := Lib.hid HT13
  replace HC13 := Lib.hid HC13
  have HS := Lib.hid h
  have HPR := Lib.hid hp
  have hml2 : (R.length : Int) ≤ 8192 := by omega
  by_cases hl : (S g).2.1.length = 0
  · have e0 : R = [] := by rw [hR, List.eq_nil_of_length_eq_zero hl]; rfl
    have ev : endsV (S g).1 (S g).2.1 = .tuple #[.int .i64 0, .int .i64 0, .bool false] := by unfold endsV; rw [if_pos hl]
    rw [ev] at HE
    replace HE := Lib.hid HE
    have hz : (R.length : Int) ≤ 0 := by rw [e0]; decide
    have hz2 : decide (0 < R.length) = false := by rw [e0]; rfl
    clear hi hml htot htl hcn hR h hp hl e0 ev he
    generalize tot R = TT at *
    generalize cnt R k = CC at *
    go_enter Try.func19, Try.ntmps19
    go_wp2_with fail
    refine (HE.out _ HS.out).mono ?_
    rintro e w1 ⟨rfl, n1, rfl⟩
    have HS1 := Lib.hid (HS.out.drewN n1)
    have HPR1 : Hid (Prs (w.drewN n1) (w.drewN n1).heap.size _ R) := Lib.hid (Reads.drewN HPR.out n1)
    go_wp2_with fail
    refine (HP.out _ HS1.out).mono ?_
    rintro e w2 ⟨A2, c2, rfl, ho2, hb2⟩
    have HS2 := Lib.hid (HS1.out.below hb2)
    have HR2 := Lib.hid ho2.reads
    have HPR2 := Lib.hid (HPR1.out.at_below hb2)
    have HB2 : Hid (Below w.heap.size w w2) := Lib.hid ⟨hb2.os, hb2.tape, hb2.output, hb2.size, hb2.block⟩
    clear ho2 hb2
    go_wp2_with fail
    refine (HS13.out A2 _ c2 c _ _ _ HR2.out HPR2.out).mono ?_
    rintro e w3 ⟨rfl, n3, rfl⟩
    go_wp2_with fail
    refine (HT.out _ (HS2.out.drewN n3)).mono ?_
    rintro e w4 ⟨rfl, rfl⟩
    go_wp2_with fail
    refine (HT13.out _ c w2.heap.size _ (Reads.drewN HPR2.out n3)).mono ?_
    rintro e w4 ⟨rfl, rfl⟩
    go_wp2_with fail
    refine (HL.out _ (HS2.out.drewN n3)).mono ?_
    rintro e w5 ⟨rfl, hb5⟩
    have HS5 := Lib.hid ((HS2.out.drewN n3).below hb5)
    have HPR5 := Lib.hid ((show Prs (w2.drewN n3) (w2.drewN n3).heap.size _ R from Reads.drewN HPR2.out n3).at_below hb5)
    have HB5 := Lib.hid (nextB (below_drewN HB2.out n3) hb5)
    clear hb5
    go_wp2_with fail
    refine (HC.out _ HS5.out).mono ?_
    rintro e w6 ⟨rfl, n6, rfl⟩
    go_wp2_with fail
    refine (HC13.out _ c w5.heap.size _ (Reads.drewN HPR5.out n6)).mono ?_
    rintro e w6 ⟨rfl, rfl⟩
    go_wp2_with fail
    go_ret
    exact ⟨rfl, below_drewN HB5.out n6⟩
  · have hne : (S g).2.1 ≠ [] := fun e => hl (by rw [e]; rfl)
    obtain ⟨n, m, e1⟩ := prs_first (f := (S g).1) he hne
    obtain ⟨n', m', e2⟩ := prs_last (f := (S g).1) he hne
    have ev : endsV (S g).1 (S g).2.1 = .tuple #[.int .i64 (S g).1, .int .i64 ((S g).1 + (S g).2.1.length - 1), .bool true] := by unfold endsV; rw [if_neg hl]
    rw [ev] at HE
    replace HE := Lib.hid HE
    rw [← hR] at e1 e2
    have hp0 : R[0]? = some ((S g).1, n) := by rw [e1]; rfl
    have hpl : R[R.length - 1]? = some ((S g).1 + (S g).2.1.length - 1, n') := by rw [← List.getLast?_eq_getElem?, e2]; simp
    have hpos : 0 < R.length := by rw [e1]; simp
    obtain ⟨b, o, rfl, hbl, hcell⟩ := hp.at_ hpos
    obtain ⟨c1, _⟩ := hcell 0 _ hp0
    obtain ⟨c2, _⟩ := hcell (R.length - 1) _ hpl
    simp only at c1 c2
    rw [Nat.zero_mul, Nat.add_zero] at c1
    obtain ⟨r, hr⟩ : ∃ r : Nat, r = R.length - 1 := ⟨_, rfl⟩
    rw [← hr] at c2
    have hrr : (r : Int) = (R.length : Int) - 1 := by omega
    have hr0 : (0 : Int) ≤ (r : Int) := by omega
    have hrl : (r : Int) < (R.length : Int) := by omega
    have hp1 : (0 : Int) < (R.length : Int) := by omega
    have z1 : (R.length : Int) - 1 = (r : Int) := hrr.symm
    clear hi hml htot htl hcn hR h hp hl ev he e1 e2 hp0 hpl hcell hr hrr hpos hne
    generalize (S g).1 + ((S g).2.1.length : Int) - 1 = hi at *
    generalize (S g).1 = lo at *
    generalize tot R = TT at *
    generalize cnt R k = CC at *
    go_enter Try.func19, Try.ntmps19
    go_wp2_with fail
    refine (HE.out _ HS.out).mono ?_
    rintro e w1 ⟨rfl, n1, rfl⟩
    have HS1 := Lib.hid (HS.out.drewN n1)
    have HPR1 : Hid (Prs (w.drewN n1) (w.drewN n1).heap.size _ R) := Lib.hid (Reads.drewN HPR.out n1)
    go_wp2_with fail
    refine (HP.out _ HS1.out).mono ?_
    rintro e w2 ⟨A2, c2, rfl, ho2, hb2⟩
    have HS2 := Lib.hid (HS1.out.below hb2)
    have HR2 := Lib.hid ho2.reads
    have HPR2 := Lib.hid (HPR1.out.at_below hb2)
    have HB2 : Hid (Below w.heap.size w w2) := Lib.hid ⟨hb2.os, hb2.tape, hb2.output, hb2.size, hb2.block⟩
    clear ho2 hb2
    go_wp2_with fail
    refine (HS13.out A2 _ c2 c _ _ _ HR2.out HPR2.out).mono ?_
    rintro e w3 ⟨rfl, n3, rfl⟩
    go_wp2_with fail
    refine (HT.out _ (HS2.out.drewN n3)).mono ?_
    rintro e w4 ⟨rfl, rfl⟩
    go_wp2_with fail
    refine (HT13.out _ c w2.heap.size _ (Reads.drewN HPR2.out n3)).mono ?_
    rintro e w4 ⟨rfl, rfl⟩
    go_wp2_with fail
    refine (HL.out _ (HS2.out.drewN n3)).mono ?_
    rintro e w5 ⟨rfl, hb5⟩
    have HS5 := Lib.hid ((HS2.out.drewN n3).below hb5)
    have HPR5 := Lib.hid ((show Prs (w2.drewN n3) (w2.drewN n3).heap.size _ R from Reads.drewN HPR2.out n3).at_below hb5)
    have HB5 := Lib.hid (nextB (below_drewN HB2.out n3) hb5)
    clear hb5
    go_wp2_with fail
    refine (HC.out _ HS5.out).mono ?_
    rintro e w6 ⟨rfl, n6, rfl⟩
    go_wp2_with fail
    refine (HC13.out _ c w5.heap.size _ (Reads.drewN HPR5.out n6)).mono ?_
    rintro e w6 ⟨rfl, rfl⟩
    go_wp2_with fail
    go_ret
    exact ⟨rfl, below_drewN HB5.out n6⟩
end Go.Proofs.Ytknimekfkkihpaa
