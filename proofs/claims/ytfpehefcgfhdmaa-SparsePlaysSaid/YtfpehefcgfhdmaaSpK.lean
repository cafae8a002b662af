/- Sparse: SparseRanks walked. -/
import Derived.Test.YtfpehefcgfhdmaaSpI
namespace Go.Proofs.Ytfpehefcgfhdmaa
open Go.RowKit
open Pl
theorem ct_fine : ∀ (l L : List Pr), Fine L → tot L + 1000 * l.length ≤ 1000000 → L.length + l.length ≤ 1000 → Fine (l.foldl (fun L p => put L (ck p.1) (cn p.2)) L) ∧ tot (l.foldl (fun L p => put L (ck p.1) (cn p.2)) L) ≤ tot L + 1000 * l.length ∧ (l.foldl (fun L p => put L (ck p.1) (cn p.2)) L).length ≤ L.length + l.length
  | [], L, hf, _, _ => ⟨hf, by simp, by simp⟩
  | p :: l, L, hf, ht, hl => by
    rw [List.length_cons] at ht hl
    have hn : 1 ≤ cn p.2 ∧ cn p.2 ≤ 1000 := by unfold cn; omega
    have h1 : Fine (put L (ck p.1) (cn p.2)) := put_fine hf (by omega) (ck_in _).1 (ck_in _).2 (by omega) (by omega)
    have h2 : tot (put L (ck p.1) (cn p.2)) = tot L + cn p.2 := put_tot
    have h3 := put_len (l := L) (k := ck p.1) (n := cn p.2)
    obtain ⟨a1, a2, a3⟩ := ct_fine l _ h1 (by omega) (by omega)
    rw [List.foldl_cons, List.length_cons]
    exact ⟨a1, by omega, by omega⟩
theorem cntL_fine (l : List Pr) : Fine (cntL (l.take 100)) ∧ tot (cntL (l.take 100)) ≤ 100000 ∧ (cntL (l.take 100)).length ≤ 100 := by
  have hl : (l.take 100).length ≤ 100 := List.length_take_le _ _
  obtain ⟨a1, a2, a3⟩ := ct_fine (l.take 100) [] Fine.nil (by rw [tot_nil]; omega) (by simp only [List.length_nil]; omega)
  refine ⟨a1, ?_, ?_⟩
  · rw [tot_nil] at a2
    unfold cntL
    omega
  · simp only [List.length_nil] at a3
    unfold cntL
    omega
theorem rank_split : ∀ (L : List Pr) (r : Nat), 1 ≤ r → r ≤ tot L → ∃ (i : Nat) (p : Pr), L[i]? = some p ∧ tot (L.take i) < r ∧ r ≤ tot (L.take (i + 1)) ∧ rank L r = p.1
  | [], r, h1, h2 => by rw [tot_nil] at h2; omega
  | p :: L, r, h1, h2 => by
    rw [tot_cons] at h2
    by_cases h : r ≤ p.2
    · refine ⟨0, p, rfl, by rw [List.take_zero, tot_nil]; omega, by rw [List.take_succ_cons, tot_cons]; omega, by rw [rank, if_pos h]⟩
    · obtain ⟨i, q, a1, a2, a3, a4⟩ := rank_split L (r - p.2) (by omega) (by omega)
      exact ⟨i + 1, q, by rw [List.getElem?_cons_succ]; exact a1, by rw [List.take_succ_cons, tot_cons]; omega, by rw [List.take_succ_cons, tot_cons]; omega, by rw [rank, if_neg h]; exact a4⟩
theorem lo_at {L : List Pr} (hs : Srt L) {i : Nat} {p : Pr} (hp : L[i]? = some p) : lo L p.1 = i := by
  have h1 := lo_iff hs (k := p.1) hp
  have h2 := lo_iff hs (k := p.1 + 1) hp
  have hk : hasK L p.1 = true := (hasK_iff hs).2 ⟨p, List.mem_of_getElem? hp, rfl⟩
  have h3 := lo_succ hs p.1
  rw [if_pos hk] at h3
  have : ¬ i < lo L p.1 := fun h => by have := h1.2 h; omega
  have := h2.1 (by omega)
  omega
theorem rank_below {L : List Pr} (hs : Srt L) {r : Nat} (h1 : 1 ≤ r) (h2 : r ≤ tot L) : below L (rank L r) < r ∧ r ≤ below L (rank L r + 1) := by
  obtain ⟨i, p, a1, a2, a3, a4⟩ := rank_split L r h1 h2
  rw [a4, below_at hs a1, below_take hs, lo_at hs a1]
  exact ⟨a2, a3⟩
theorem ct_at {w : World} {A0 : Option Addr} {l : List Pr} (hb : Pairs w A0 l) {w1 : World} (h : Below w.heap.size w w1) : Pairs w1 A0 l := ⟨hb.1, hb.2.at_below h⟩
set_option maxHeartbeats 6400000 in
set_option maxRecDepth 100000 in
theorem ranks_none (w : World) (A0 : Option Addr) (c0 : Nat) (l : List Pr) (hl : l.length ≤ maxLen) (hb : Pairs w A0 l) (r : Nat) (h0 : tot (cntL (l.take 100)) = 0) :
    Calls Try.prog 4 #[.slice A0 l.length c0, .int .u64 (r : Int)] w fun e w' => e = .returned (.bool true) ∧ Below w.heap.size w w' := by
  have HPB := Lib.hid hb
  have HL64 := Lib.hid (show (l.length : Int) ≤ 9223372036854775807 by unfold maxLen at hl; omega)
  have HCT := Lib.hid (fun W (h : Pairs W A0 l) => counted_t A0 c0 l W h HL64.out)
  obtain ⟨L, hL⟩ : ∃ L, L = cntL (l.take 100) := ⟨_, rfl⟩
  obtain ⟨hf, ht5, hl1⟩ := cntL_fine l
  rw [← hL] at HCT hf ht5 hl1 h0
  have HF := Lib.hid hf
  have HL1 := Lib.hid hl1
  have HZ := Lib.hid h0
  have z1 : decide ((0 : Int) < ((tot L : Nat) : Int)) = false := by simp; omega
  have z2 : decide (0 < tot L) = false := by simp; omega
  have z3 : (((tot L : Nat) : Int) == 0) = true := by simp; omega
  have z4 : (tot L == 0) = true := by simp; omega
  clear hb hl hL hf hl1 h0 ht5
  go_enter Try.func4, Try.ntmps4
  go_wp2_with fail
  refine (alive_t _).mono ?_
  rintro e w1 ⟨rfl, hb1⟩
  have HB1 := Lib.hid hb1
  clear hb1
  go_wp2_with fail
  refine (HCT.out _ (ct_at HPB.out HB1.out)).mono ?_
  rintro e w2 ⟨g, A, c, A2, c2, rfl, hg, hlst, how, hb2, _⟩
  have HLS := Lib.hid hlst
  have HOW := Lib.hid how
  have HB2 := Lib.hid (nextB HB1.out hb2)
  clear hlst how hb2 hg
  go_wp2_with fail
  refine (total_t g A c L w2 HLS.out).mono ?_
  rintro e w3 ⟨rfl, rfl⟩
  go_wp2_with fail
  refine (key_no g A c L r w2 HLS.out HZ.out).mono ?_
  rintro e w4 ⟨rfl, rfl⟩
  go_wp2_with fail
  go_ret
  exact ⟨rfl, HB2.out⟩
set_option maxHeartbeats 6400000 in
set_option maxRecDepth 100000 in
theorem ranks_in (w : World) (A0 : Option Addr) (c0 : Nat) (l : List Pr) (hl : l.length ≤ maxLen) (hb : Pairs w A0 l) (r : Nat) (h0 : tot (cntL (l.take 100)) ≠ 0) (h3 : r % 3 ≠ 0) :
    Calls Try.prog 4 #[.slice A0 l.length c0, .int .u64 (r : Int)] w fun e w' => e = .returned (.bool true) ∧ Below w.heap.size w w' := by
  have HPB := Lib.hid hb
  have HL64 := Lib.hid (show (l.length : Int) ≤ 9223372036854775807 by unfold maxLen at hl; omega)
  have HCT := Lib.hid (fun W (h : Pairs W A0 l) => counted_t A0 c0 l W h HL64.out)
  obtain ⟨L, hL⟩ : ∃ L, L = cntL (l.take 100) := ⟨_, rfl⟩
  obtain ⟨hf, ht5, hl1⟩ := cntL_fine l
  rw [← hL] at HCT hf ht5 hl1 h0
  have HF := Lib.hid hf
  have HL1 := Lib.hid hl1
  have hT5 : ((tot L : Nat) : Int) ≤ 100000 := by omega
  have z1 : decide ((0 : Int) < ((tot L : Nat) : Int)) = true := by simp; omega
  have z2 : decide (0 < tot L) = true := by simp; omega
  have z3 : (((tot L : Nat) : Int) == 0) = false := by simp; omega
  have z4 : (tot L == 0) = false := by simp; omega
  have y1 : decide ((0 : Int) < (r : Int) % 3) = true := by simp; omega
  obtain ⟨q, hq⟩ : ∃ q, q = 1 + r % tot L := ⟨_, rfl⟩
  have hqr : r % tot L < tot L := Nat.mod_lt _ (by omega)
  have HQ1 := Lib.hid (show 1 ≤ q by omega)
  have HQ2 := Lib.hid (show q ≤ tot L by omega)
  obtain ⟨rm, hrm⟩ : ∃ rm : Nat, rm = r % tot L := ⟨_, rfl⟩
  have hrm2 : (r : Int) % ((tot L : Nat) : Int) = (rm : Int) := by rw [hrm]; rfl
  have hqi : 1 + (rm : Int) = (q : Int) := by omega
  have hq5 : (q : Int) ≤ 100000 := by omega
  have q1 : decide ((q : Int) < 1) = false := by simp; omega
  have q2 : decide (((tot L : Nat) : Int) < (q : Int)) = false := by simp; omega
  have q3 : decide (tot L < q) = false := by simp; omega
  have tpos : (1 : Int) ≤ ((tot L : Nat) : Int) := by omega
  clear hb hl hL hf hl1 h0 h3 hq hqr hrm ht5
  go_enter Try.func4, Try.ntmps4
  go_wp2_with fail
  refine (alive_t _).mono ?_
  rintro e w1 ⟨rfl, hb1⟩
  have HB1 := Lib.hid hb1
  clear hb1
  go_wp2_with fail
  refine (HCT.out _ (ct_at HPB.out HB1.out)).mono ?_
  rintro e w2 ⟨g, A, c, A2, c2, rfl, hg, hlst, how, hb2, _⟩
  have HLS := Lib.hid hlst
  have HOW := Lib.hid how
  have HB2 := Lib.hid (nextB HB1.out hb2)
  clear hlst how hb2 hg
  go_wp2_with fail
  refine (total_t g A c L w2 HLS.out).mono ?_
  rintro e w3 ⟨rfl, rfl⟩
  go_wp2_with fail
  refine (key_ok g A c L q w2 HLS.out HF.out HQ1.out HQ2.out).mono ?_
  rintro e w4 ⟨rfl, hb4⟩
  have HB4 := Lib.hid hb4
  clear hb4
  go_wp2_with fail
  refine (rkey_t A2 c2 L q w4 ((OwnP.reads HOW.out).at_below HB4.out) (by have := HL1.out; omega) HF.out.tot HF.out.srt HQ1.out HQ2.out).mono ?_
  rintro e w5 ⟨rfl, rfl⟩
  have HR := Lib.hid (rank_below HF.out.srt HQ1.out HQ2.out)
  have HBE := Lib.hid (below_t g A c L (rank L q) w4 (HLS.out.below HB4.out) HF.out)
  have HUP := Lib.hid (fun W h => upto_t g A c L (rank L q) W h HF.out)
  generalize rank L q = K at *
  go_wp2_with fail
  refine HBE.out.mono ?_
  rintro e w6 ⟨rfl, hb6⟩
  have HB6 := Lib.hid hb6
  clear hb6
  have x1 : decide (((below L K : Nat) : Int) < (q : Int)) = true := by have := HR.out.1; simp; omega
  have x2 : decide (below L K < q) = true := by have := HR.out.1; simp; omega
  have x3 : decide ((q : Int) ≤ ((below L (K + 1) : Nat) : Int)) = true := by have := HR.out.2; simp; omega
  have x4 : decide (q ≤ below L (K + 1)) = true := by have := HR.out.2; simp; omega
  generalize below L K = m1 at *
  generalize below L (K + 1) = m2 at *
  go_wp2_with fail
  refine (HUP.out w6 ((HLS.out.below HB4.out).below HB6.out)).mono ?_
  rintro e w7 ⟨rfl, hb7⟩
  have HB7 := Lib.hid (nextB HB6.out hb7)
  clear hb7
  go_wp2_with fail
  go_ret
  exact ⟨rfl, nextB (nextB HB2.out HB4.out) HB7.out⟩
set_option maxHeartbeats 6400000 in
set_option maxRecDepth 100000 in
theorem ranks_as (w : World) (A0 : Option Addr) (c0 : Nat) (l : List Pr) (hl : l.length ≤ maxLen) (hb : Pairs w A0 l) (r : Nat) (h0 : tot (cntL (l.take 100)) ≠ 0) (h3 : r % 3 = 0) (q : Nat) (hqr : q = r) (h1 : 1 ≤ r) (h2 : r ≤ tot (cntL (l.take 100))) :
    Calls Try.prog 4 #[.slice A0 l.length c0, .int .u64 (r : Int)] w fun e w' => e = .returned (.bool true) ∧ Below w.heap.size w w' := by
  have HPB := Lib.hid hb
  have HL64 := Lib.hid (show (l.length : Int) ≤ 9223372036854775807 by unfold maxLen at hl; omega)
  have HCT := Lib.hid (fun W (h : Pairs W A0 l) => counted_t A0 c0 l W h HL64.out)
  obtain ⟨L, hL⟩ : ∃ L, L = cntL (l.take 100) := ⟨_, rfl⟩
  obtain ⟨hf, ht5, hl1⟩ := cntL_fine l
  rw [← hL] at HCT hf ht5 hl1 h0 h2
  have HF := Lib.hid hf
  have HL1 := Lib.hid hl1
  have hT5 : ((tot L : Nat) : Int) ≤ 100000 := by omega
  have z1 : decide ((0 : Int) < ((tot L : Nat) : Int)) = true := by simp; omega
  have z2 : decide (0 < tot L) = true := by simp; omega
  have z3 : (((tot L : Nat) : Int) == 0) = false := by simp; omega
  have z4 : (tot L == 0) = false := by simp; omega
  have y1 : decide ((0 : Int) < (r : Int) % 3) = false := by simp; omega
  subst hqr
  have HQ1 := Lib.hid h1
  have HQ2 := Lib.hid h2
  have q1 : decide ((q : Int) < 1) = false := by simp; omega
  have q2 : decide (((tot L : Nat) : Int) < (q : Int)) = false := by simp; omega
  have q3 : decide (tot L < q) = false := by simp; omega
  clear hb hl hL hf hl1 h0 h1 h2 h3 ht5
  go_enter Try.func4, Try.ntmps4
  go_wp2_with fail
  refine (alive_t _).mono ?_
  rintro e w1 ⟨rfl, hb1⟩
  have HB1 := Lib.hid hb1
  clear hb1
  go_wp2_with fail
  refine (HCT.out _ (ct_at HPB.out HB1.out)).mono ?_
  rintro e w2 ⟨g, A, c, A2, c2, rfl, hg, hlst, how, hb2, _⟩
  have HLS := Lib.hid hlst
  have HOW := Lib.hid how
  have HB2 := Lib.hid (nextB HB1.out hb2)
  clear hlst how hb2 hg
  go_wp2_with fail
  refine (total_t g A c L w2 HLS.out).mono ?_
  rintro e w3 ⟨rfl, rfl⟩
  go_wp2_with fail
  refine (key_ok g A c L q w2 HLS.out HF.out HQ1.out HQ2.out).mono ?_
  rintro e w4 ⟨rfl, hb4⟩
  have HB4 := Lib.hid hb4
  clear hb4
  go_wp2_with fail
  refine (rkey_t A2 c2 L q w4 ((OwnP.reads HOW.out).at_below HB4.out) (by have := HL1.out; omega) HF.out.tot HF.out.srt HQ1.out HQ2.out).mono ?_
  rintro e w5 ⟨rfl, rfl⟩
  have HR := Lib.hid (rank_below HF.out.srt HQ1.out HQ2.out)
  have HBE := Lib.hid (below_t g A c L (rank L q) w4 (HLS.out.below HB4.out) HF.out)
  have HUP := Lib.hid (fun W h => upto_t g A c L (rank L q) W h HF.out)
  generalize rank L q = K at *
  go_wp2_with fail
  refine HBE.out.mono ?_
  rintro e w6 ⟨rfl, hb6⟩
  have HB6 := Lib.hid hb6
  clear hb6
  have x1 : decide (((below L K : Nat) : Int) < (q : Int)) = true := by have := HR.out.1; simp; omega
  have x2 : decide (below L K < q) = true := by have := HR.out.1; simp; omega
  have x3 : decide ((q : Int) ≤ ((below L (K + 1) : Nat) : Int)) = true := by have := HR.out.2; simp; omega
  have x4 : decide (q ≤ below L (K + 1)) = true := by have := HR.out.2; simp; omega
  generalize below L K = m1 at *
  generalize below L (K + 1) = m2 at *
  go_wp2_with fail
  refine (HUP.out w6 ((HLS.out.below HB4.out).below HB6.out)).mono ?_
  rintro e w7 ⟨rfl, hb7⟩
  have HB7 := Lib.hid (nextB HB6.out hb7)
  clear hb7
  go_wp2_with fail
  go_ret
  exact ⟨rfl, nextB (nextB HB2.out HB4.out) HB7.out⟩
set_option maxHeartbeats 6400000 in
set_option maxRecDepth 100000 in
theorem ranks_out (w : World) (A0 : Option Addr) (c0 : Nat) (l : List Pr) (hl : l.length ≤ maxLen) (hb : Pairs w A0 l) (r : Nat) (h0 : tot (cntL (l.take 100)) ≠ 0) (h3 : r % 3 = 0) (h1 : r < 1 ∨ tot (cntL (l.take 100)) < r) :
    Calls Try.prog 4 #[.slice A0 l.length c0, .int .u64 (r : Int)] w fun e w' => e = .returned (.bool true) ∧ Below w.heap.size w w' := by
  have HPB := Lib.hid hb
  have HL64 := Lib.hid (show (l.length : Int) ≤ 9223372036854775807 by unfold maxLen at hl; omega)
  have HCT := Lib.hid (fun W (h : Pairs W A0 l) => counted_t A0 c0 l W h HL64.out)
  obtain ⟨L, hL⟩ : ∃ L, L = cntL (l.take 100) := ⟨_, rfl⟩
  obtain ⟨hf, ht5, hl1⟩ := cntL_fine l
  rw [← hL] at HCT hf ht5 hl1 h0 h1
  have HF := Lib.hid hf
  have HL1 := Lib.hid hl1
  have hT5 : ((tot L : Nat) : Int) ≤ 100000 := by omega
  have z1 : decide ((0 : Int) < ((tot L : Nat) : Int)) = true := by simp; omega
  have z2 : decide (0 < tot L) = true := by simp; omega
  have z3 : (((tot L : Nat) : Int) == 0) = false := by simp; omega
  have z4 : (tot L == 0) = false := by simp; omega
  have y1 : decide ((0 : Int) < (r : Int) % 3) = false := by simp; omega
  have HT0 := Lib.hid h0
  have HT1 := Lib.hid h1
  have hc : (decide ((r : Int) < 1) = true) ∨ (decide ((r : Int) < 1) = false ∧ decide (((tot L : Nat) : Int) < (r : Int)) = true ∧ decide (tot L < r) = true) := by
    by_cases h4 : r < 1
    · exact .inl (by simp; omega)
    · exact .inr ⟨by simp; omega, by simp; omega, by simp; omega⟩
  clear hb hl hL hf hl1 h0 h1 h3 ht5
  go_enter Try.func4, Try.ntmps4
  go_wp2_with fail
  refine (alive_t _).mono ?_
  rintro e w1 ⟨rfl, hb1⟩
  have HB1 := Lib.hid hb1
  clear hb1
  go_wp2_with fail
  refine (HCT.out _ (ct_at HPB.out HB1.out)).mono ?_
  rintro e w2 ⟨g, A, c, A2, c2, rfl, hg, hlst, how, hb2, _⟩
  have HLS := Lib.hid hlst
  have HOW := Lib.hid how
  have HB2 := Lib.hid (nextB HB1.out hb2)
  clear hlst how hb2 hg
  go_wp2_with fail
  refine (total_t g A c L w2 HLS.out).mono ?_
  rintro e w3 ⟨rfl, rfl⟩
  go_wp2_with fail
  refine (key_bad g A c L r w2 HLS.out HT0.out HT1.out).mono ?_
  rintro e w4 ⟨rfl, rfl⟩
  rcases hc with q1 | ⟨q1, q2, q3⟩
  all_goals
    go_wp2_with fail
    go_ret
    exact ⟨rfl, HB2.out⟩
theorem sparseRanks_walk (w : World) (A0 : Option Addr) (c0 : Nat) (l : List Pr) (hl : l.length ≤ maxLen) (hb : Pairs w A0 l) (r : Int) (r0 : 0 ≤ r) (_r1 : r ≤ 18446744073709551615) :
    Calls Try.prog 4 #[.slice A0 l.length c0, .int .u64 r] w fun e w' => e = .returned (.bool true) ∧ Below w.heap.size w w' := by
  obtain ⟨r, rfl⟩ : ∃ k : Nat, r = (k : Int) := ⟨r.toNat, by omega⟩
  by_cases h0 : tot (cntL (l.take 100)) = 0
  · exact ranks_none w A0 c0 l hl hb r h0
  · by_cases h3 : r % 3 = 0
    · by_cases h1 : 1 ≤ r ∧ r ≤ tot (cntL (l.take 100))
      · exact ranks_as w A0 c0 l hl hb r h0 h3 r rfl h1.1 h1.2
      · exact ranks_out w A0 c0 l hl hb r h0 h3 (by omega)
    · exact ranks_in w A0 c0 l hl hb r h0 h3
end Go.Proofs.Ytfpehefcgfhdmaa
