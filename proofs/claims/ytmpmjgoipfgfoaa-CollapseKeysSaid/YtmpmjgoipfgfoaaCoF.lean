/- CollapseKeys and CollapseVague walked. -/
import Derived.Test.YtmpmjgoipfgfoaaCoE
import Derived.Outline
namespace Go.Proofs.Ytmpmjgoipfgfoaa
open Go.RowKit
open Pl
theorem vague_true {L : List Pr} {b : Int} {q : Nat} (hf : Fine L) (h1 : 1 ≤ q) (h2 : q ≤ tot L) (hv : vagueB L b q = true) : rank L q ≤ rank (cutL L b).1 q := (kept_rank hf.srt hf.pos b h1 h2).1 (of_decide_eq_true hv)
theorem vague_false {L : List Pr} {b : Int} {q : Nat} (hf : Fine L) (h1 : 1 ≤ q) (h2 : q ≤ tot L) (hv : vagueB L b q = false) : rank (cutL L b).1 q = rank L q := (kept_rank hf.srt hf.pos b h1 h2).2 (of_decide_eq_false hv)
theorem vague_iff {L : List Pr} {b q : Nat} (hf : Fine L) (hb : 1 ≤ b) (h1 : 1 ≤ q) (h2 : q ≤ tot L) : vagueB L b q = true ↔ (b < L.length ∧ b ≤ up L (rank L q + 1) + 1) := by
  have h := kept_vague hf.srt hf.pos (b : Int) h1 h2
  have e : cutN (b : Int) = b := by unfold cutN; omega
  rw [e] at h
  unfold vagueB
  rw [decide_eq_true_iff]
  exact h
def abv (L : List Pr) (k : Int) (i : Nat) : Nat := up (L.take i) (k + 1)
theorem abv_next {L : List Pr} {i : Nat} {p : Pr} (hp : L[i]? = some p) (k : Int) : abv L k (i + 1) = abv L k i + if k < p.1 then 1 else 0 := by
  unfold abv up
  rw [List.take_add_one, hp, List.filter_append, List.length_append]
  congr 1
  by_cases h : k < p.1
  · rw [if_pos h, Option.toList_some, List.filter_cons_of_pos (by simp; omega)]; rfl
  · rw [if_neg h, Option.toList_some, List.filter_cons_of_neg (by simp; omega)]; rfl
set_option maxHeartbeats 6400000 in
set_option maxRecDepth 100000 in
theorem keys_none (w : World) (m : Nat) (A0 : Option Addr) (c0 : Nat) (l : List Pr) (hl : l.length ≤ maxLen) (hb : Pairs w A0 l) (r : Nat) (h0 : tot (cntL (l.take 100)) = 0) :
    Calls Try.prog 3 #[.int .u16 (m : Int), .slice A0 l.length c0, .int .u64 (r : Int)] w fun e w' => e = .returned (.bool true) ∧ Below w.heap.size w w' := by
  have HPB := Lib.hid hb
  have HL64 := Lib.hid (show (l.length : Int) ≤ 9223372036854775807 by unfold maxLen at hl; omega)
  obtain ⟨mq, hmq⟩ : ∃ mq : Nat, mq = m % 30 := ⟨_, rfl⟩
  have hmq2 : (m : Int) % 30 = (mq : Int) := by omega
  have hmq3 : (mq : Int) < 30 := by omega
  obtain ⟨b, hbe⟩ : ∃ b : Nat, b = 2 + mq := ⟨_, rfl⟩
  have hb2 : 2 + (mq : Int) = (b : Int) := by omega
  have HB0 := Lib.hid (show (2 : Int) ≤ (b : Int) ∧ (b : Int) ≤ 4096 by omega)
  have hb32 : (b : Int) ≤ 31 := by omega
  have HCT := Lib.hid (fun W (h : Pairs W A0 l) => counted_t A0 c0 (b : Int) l W h HL64.out HB0.out.1 HB0.out.2)
  obtain ⟨L, hL⟩ : ∃ L, L = cntL (l.take 100) := ⟨_, rfl⟩
  obtain ⟨hf, ht5, hl1⟩ := cntL_fine l
  rw [← hL] at HCT hf ht5 hl1 h0
  have HF := Lib.hid hf
  have HL1 := Lib.hid hl1
  have HZ := Lib.hid h0
  have z1 : decide ((0 : Int) < ((tot L : Nat) : Int)) = false := by simp; omega
  have z2 : decide (0 < tot L) = false := by simp; omega
  have z3 : (((tot L : Nat) : Int) == 0) = true := by simp; omega
  have z4 : (tot L == 0) = true := by simp; omega
  clear hb hl hL hf hl1 hmq hbe h0 ht5
  go_enter Try.func3, Try.ntmps3
  go_wp2_with fail
  refine (alive_t _).mono ?_
  rintro e w1 ⟨rfl, hb1⟩
  have HB1 := Lib.hid hb1
  clear hb1
  go_wp2_with fail
  refine (HCT.out _ (ct_at HPB.out HB1.out)).mono ?_
  rintro e w2 ⟨g, gl, A, c, A2, c2, rfl, hg, hgl, hsto, how, hb2', _⟩
  have HST := Lib.hid hsto
  have HOW := Lib.hid how
  have HB2 := Lib.hid (nextB HB1.out hb2')
  have HB2' := Lib.hid hb2'.size
  clear hsto how hb2' hg hgl
  go_wp2_with fail
  refine (stotal_t g gl A c (b : Int) L w2 HST.out HF.out).mono ?_
  rintro e w3 ⟨rfl, rfl⟩
  go_wp2_with fail
  refine (skey_no g gl A c (b : Int) L w2 HST.out r HF.out HZ.out).mono ?_
  rintro e w4 ⟨rfl, rfl⟩
  go_wp2_with fail
  go_ret
  exact ⟨rfl, HB2.out⟩
set_option maxHeartbeats 6400000 in
set_option maxRecDepth 100000 in
theorem keys_in (w : World) (m : Nat) (A0 : Option Addr) (c0 : Nat) (l : List Pr) (hl : l.length ≤ maxLen) (hb : Pairs w A0 l) (r : Nat) (h0 : tot (cntL (l.take 100)) ≠ 0) (h3 : r % 4 ≠ 0) :
    Calls Try.prog 3 #[.int .u16 (m : Int), .slice A0 l.length c0, .int .u64 (r : Int)] w fun e w' => e = .returned (.bool true) ∧ Below w.heap.size w w' := by
  have HPB := Lib.hid hb
  have HL64 := Lib.hid (show (l.length : Int) ≤ 9223372036854775807 by unfold maxLen at hl; omega)
  obtain ⟨mq, hmq⟩ : ∃ mq : Nat, mq = m % 30 := ⟨_, rfl⟩
  have hmq2 : (m : Int) % 30 = (mq : Int) := by omega
  have hmq3 : (mq : Int) < 30 := by omega
  obtain ⟨b, hbe⟩ : ∃ b : Nat, b = 2 + mq := ⟨_, rfl⟩
  have hb2 : 2 + (mq : Int) = (b : Int) := by omega
  have HB0 := Lib.hid (show (2 : Int) ≤ (b : Int) ∧ (b : Int) ≤ 4096 by omega)
  have hb32 : (b : Int) ≤ 31 := by omega
  have HCT := Lib.hid (fun W (h : Pairs W A0 l) => counted_t A0 c0 (b : Int) l W h HL64.out HB0.out.1 HB0.out.2)
  obtain ⟨L, hL⟩ : ∃ L, L = cntL (l.take 100) := ⟨_, rfl⟩
  obtain ⟨hf, ht5, hl1⟩ := cntL_fine l
  rw [← hL] at HCT hf ht5 hl1 h0
  have HF := Lib.hid hf
  have HL1 := Lib.hid hl1
  have hT5 : ((tot L : Nat) : Int) ≤ 100000 := by omega
  have z1 : decide ((0 : Int) < ((tot L : Nat) : Int)) = true := by simp; omega
  have z2 : decide (0 < tot L) = true := by simp; omega
  have z3 : (((tot L : Nat) : Int) == 0) = false := by simp; omega
  have z4 : (tot L == 0) = false := by simp; omega
  have y1 : decide ((0 : Int) < (r : Int) % 4) = true := by simp; omega
  obtain ⟨q, hq⟩ : ∃ q, q = 1 + r % tot L := ⟨_, rfl⟩
  have hqr : r % tot L < tot L := Nat.mod_lt _ (by omega)
  have HQ1 := Lib.hid (show 1 ≤ q by omega)
  have HQ2 := Lib.hid (show q ≤ tot L by omega)
  obtain ⟨rm, hrm⟩ : ∃ rm : Nat, rm = r % tot L := ⟨_, rfl⟩
  have hrm2 : (r : Int) % ((tot L : Nat) : Int) = (rm : Int) := by rw [hrm]; rfl
  have hqi : 1 + (rm : Int) = (q : Int) := by omega
  have hq5 : (q : Int) ≤ 100000 := by omega
  have q1 : decide ((q : Int) < 1) = false := by simp; omega
  have q2 : decide (((tot L : Nat) : Int) < (q : Int)) = false := by simp; omega
  have q3 : decide (tot L < q) = false := by simp; omega
  have tpos : (1 : Int) ≤ ((tot L : Nat) : Int) := by omega
  clear hb hl hL hf hl1 hmq hbe h0 h3 hq hqr hrm ht5
  go_enter Try.func3, Try.ntmps3
  go_wp2_with fail
  refine (alive_t _).mono ?_
  rintro e w1 ⟨rfl, hb1⟩
  have HB1 := Lib.hid hb1
  clear hb1
  go_wp2_with fail
  refine (HCT.out _ (ct_at HPB.out HB1.out)).mono ?_
  rintro e w2 ⟨g, gl, A, c, A2, c2, rfl, hg, hgl, hsto, how, hb2', _⟩
  have HST := Lib.hid hsto
  have HOW := Lib.hid how
  have HB2 := Lib.hid (nextB HB1.out hb2')
  have HB2' := Lib.hid hb2'.size
  clear hsto how hb2' hg hgl
  go_wp2_with fail
  refine (stotal_t g gl A c (b : Int) L w2 HST.out HF.out).mono ?_
  rintro e w3 ⟨rfl, rfl⟩
  go_wp2_with fail
  refine (skey_ok g gl A c (b : Int) L w2 HST.out q HF.out HQ1.out HQ2.out).mono ?_
  rintro e w4 ⟨rfl, hb4⟩
  have HB4 := Lib.hid hb4
  clear hb4
  go_wp2_with fail
  refine (rkey15_t w1.heap.size A2 c2 L (b : Int) q w4 (Own.below HOW.out HB4.out) (Nat.le_trans HB2'.out HB4.out.size) HF.out HQ1.out HQ2.out).mono ?_
  rintro e w5 ⟨rfl, hb5⟩
  have HB5 := Lib.hid (nextB HB4.out hb5)
  clear hb5
  go_wp2_with fail
  refine (rkey_t A2 c2 L q w5 ((OwnP.reads HOW.out).at_below HB5.out) (by have := HL1.out; omega) HF.out.tot HF.out.srt HQ1.out HQ2.out).mono ?_
  rintro e w6 ⟨rfl, rfl⟩
  have HV1 := Lib.hid (fun h => vague_true (b := (b : Int)) HF.out HQ1.out HQ2.out h)
  have HV2 := Lib.hid (fun h => vague_false (b := (b : Int)) HF.out HQ1.out HQ2.out h)
  generalize vagueB L (b : Int) q = v at *
  generalize rank (cutL L (b : Int)).1 q = K at *
  generalize rank L q = K2 at *
  cases v with
  | true =>
    have hk : K2 ≤ K := HV1.out rfl
    have hk2 : decide (K2 ≤ K) = true := by simpa using hk
    clear HV1 HV2
    go_wp2_with fail
    go_ret
    exact ⟨rfl, nextB HB2.out HB5.out⟩
  | false =>
    have hk : K = K2 := HV2.out rfl
    subst hk
    clear HV1 HV2
    go_wp2_with fail
    go_ret
    exact ⟨rfl, nextB HB2.out HB5.out⟩
set_option maxHeartbeats 6400000 in
set_option maxRecDepth 100000 in
theorem keys_as (w : World) (m : Nat) (A0 : Option Addr) (c0 : Nat) (l : List Pr) (hl : l.length ≤ maxLen) (hb : Pairs w A0 l) (r : Nat) (h0 : tot (cntL (l.take 100)) ≠ 0) (h3 : r % 4 = 0) (q : Nat) (hqr : q = r) (h1 : 1 ≤ r) (h2 : r ≤ tot (cntL (l.take 100))) :
    Calls Try.prog 3 #[.int .u16 (m : Int), .slice A0 l.length c0, .int .u64 (r : Int)] w fun e w' => e = .returned (.bool true) ∧ Below w.heap.size w w' := by
  have HPB := Lib.hid hb
  have HL64 := Lib.hid (show (l.length : Int) ≤ 9223372036854775807 by unfold maxLen at hl; omega)
  obtain ⟨mq, hmq⟩ : ∃ mq : Nat, mq = m % 30 := ⟨_, rfl⟩
  have hmq2 : (m : Int) % 30 = (mq : Int) := by omega
  have hmq3 : (mq : Int) < 30 := by omega
  obtain ⟨b, hbe⟩ : ∃ b : Nat, b = 2 + mq := ⟨_, rfl⟩
  have hb2 : 2 + (mq : Int) = (b : Int) := by omega
  have HB0 := Lib.hid (show (2 : Int) ≤ (b : Int) ∧ (b : Int) ≤ 4096 by omega)
  have hb32 : (b : Int) ≤ 31 := by omega
  have HCT := Lib.hid (fun W (h : Pairs W A0 l) => counted_t A0 c0 (b : Int) l W h HL64.out HB0.out.1 HB0.out.2)
  obtain ⟨L, hL⟩ : ∃ L, L = cntL (l.take 100) := ⟨_, rfl⟩
  obtain ⟨hf, ht5, hl1⟩ := cntL_fine l
  rw [← hL] at HCT hf ht5 hl1 h0 h2
  have HF := Lib.hid hf
  have HL1 := Lib.hid hl1
  have hT5 : ((tot L : Nat) : Int) ≤ 100000 := by omega
  have z1 : decide ((0 : Int) < ((tot L : Nat) : Int)) = true := by simp; omega
  have z2 : decide (0 < tot L) = true := by simp; omega
  have z3 : (((tot L : Nat) : Int) == 0) = false := by simp; omega
  have z4 : (tot L == 0) = false := by simp; omega
  have y1 : decide ((0 : Int) < (r : Int) % 4) = false := by simp; omega
  subst hqr
  have HQ1 := Lib.hid h1
  have HQ2 := Lib.hid h2
  have q1 : decide ((q : Int) < 1) = false := by simp; omega
  have q2 : decide (((tot L : Nat) : Int) < (q : Int)) = false := by simp; omega
  have q3 : decide (tot L < q) = false := by simp; omega
  clear hb hl hL hf hl1 hmq hbe h0 h1 h2 h3 ht5
  go_enter Try.func3, Try.ntmps3
  go_wp2_with fail
  refine (alive_t _).mono ?_
  rintro e w1 ⟨rfl, hb1⟩
  have HB1 := Lib.hid hb1
  clear hb1
  go_wp2_with fail
  refine (HCT.out _ (ct_at HPB.out HB1.out)).mono ?_
  rintro e w2 ⟨g, gl, A, c, A2, c2, rfl, hg, hgl, hsto, how, hb2', _⟩
  have HST := Lib.hid hsto
  have HOW := Lib.hid how
  have HB2 := Lib.hid (nextB HB1.out hb2')
  have HB2' := Lib.hid hb2'.size
  clear hsto how hb2' hg hgl
  go_wp2_with fail
  refine (stotal_t g gl A c (b : Int) L w2 HST.out HF.out).mono ?_
  rintro e w3 ⟨rfl, rfl⟩
  go_wp2_with fail
  refine (skey_ok g gl A c (b : Int) L w2 HST.out q HF.out HQ1.out HQ2.out).mono ?_
  rintro e w4 ⟨rfl, hb4⟩
  have HB4 := Lib.hid hb4
  clear hb4
  go_wp2_with fail
  refine (rkey15_t w1.heap.size A2 c2 L (b : Int) q w4 (Own.below HOW.out HB4.out) (Nat.le_trans HB2'.out HB4.out.size) HF.out HQ1.out HQ2.out).mono ?_
  rintro e w5 ⟨rfl, hb5⟩
  have HB5 := Lib.hid (nextB HB4.out hb5)
  clear hb5
  go_wp2_with fail
  refine (rkey_t A2 c2 L q w5 ((OwnP.reads HOW.out).at_below HB5.out) (by have := HL1.out; omega) HF.out.tot HF.out.srt HQ1.out HQ2.out).mono ?_
  rintro e w6 ⟨rfl, rfl⟩
  have HV1 := Lib.hid (fun h => vague_true (b := (b : Int)) HF.out HQ1.out HQ2.out h)
  have HV2 := Lib.hid (fun h => vague_false (b := (b : Int)) HF.out HQ1.out HQ2.out h)
  generalize vagueB L (b : Int) q = v at *
  generalize rank (cutL L (b : Int)).1 q = K at *
  generalize rank L q = K2 at *
  cases v with
  | true =>
    have hk : K2 ≤ K := HV1.out rfl
    have hk2 : decide (K2 ≤ K) = true := by simpa using hk
    clear HV1 HV2
    go_wp2_with fail
    go_ret
    exact ⟨rfl, nextB HB2.out HB5.out⟩
  | false =>
    have hk : K = K2 := HV2.out rfl
    subst hk
    clear HV1 HV2
    go_wp2_with fail
    go_ret
    exact ⟨rfl, nextB HB2.out HB5.out⟩
set_option maxHeartbeats 6400000 in
set_option maxRecDepth 100000 in
theorem keys_out (w : World) (m : Nat) (A0 : Option Addr) (c0 : Nat) (l : List Pr) (hl : l.length ≤ maxLen) (hb : Pairs w A0 l) (r : Nat) (h0 : tot (cntL (l.take 100)) ≠ 0) (h3 : r % 4 = 0) (h1 : r < 1 ∨ tot (cntL (l.take 100)) < r) :
    Calls Try.prog 3 #[.int .u16 (m : Int), .slice A0 l.length c0, .int .u64 (r : Int)] w fun e w' => e = .returned (.bool true) ∧ Below w.heap.size w w' := by
  have HPB := Lib.hid hb
  have HL64 := Lib.hid (show (l.length : Int) ≤ 9223372036854775807 by unfold maxLen at hl; omega)
  obtain ⟨mq, hmq⟩ : ∃ mq : Nat, mq = m % 30 := ⟨_, rfl⟩
  have hmq2 : (m : Int) % 30 = (mq : Int) := by omega
  have hmq3 : (mq : Int) < 30 := by omega
  obtain ⟨b, hbe⟩ : ∃ b : Nat, b = 2 + mq := ⟨_, rfl⟩
  have hb2 : 2 + (mq : Int) = (b : Int) := by omega
  have HB0 := Lib.hid (show (2 : Int) ≤ (b : Int) ∧ (b : Int) ≤ 4096 by omega)
  have hb32 : (b : Int) ≤ 31 := by omega
  have HCT := Lib.hid (fun W (h : Pairs W A0 l) => counted_t A0 c0 (b : Int) l W h HL64.out HB0.out.1 HB0.out.2)
  obtain ⟨L, hL⟩ : ∃ L, L = cntL (l.take 100) := ⟨_, rfl⟩
  obtain ⟨hf, ht5, hl1⟩ := cntL_fine l
  rw [← hL] at HCT hf ht5 hl1 h0 h1
  have HF := Lib.hid hf
  have HL1 := Lib.hid hl1
  have hT5 : ((tot L : Nat) : Int) ≤ 100000 := by omega
  have z1 : decide ((0 : Int) < ((tot L : Nat) : Int)) = true := by simp; omega
  have z2 : decide (0 < tot L) = true := by simp; omega
  have z3 : (((tot L : Nat) : Int) == 0) = false := by simp; omega
  have z4 : (tot L == 0) = false := by simp; omega
  have y1 : decide ((0 : Int) < (r : Int) % 4) = false := by simp; omega
  have HT0 := Lib.hid h0
  have HT1 := Lib.hid h1
  have hc : (decide ((r : Int) < 1) = true) ∨ (decide ((r : Int) < 1) = false ∧ decide (((tot L : Nat) : Int) < (r : Int)) = true ∧ decide (tot L < r) = true) := by
    by_cases h4 : r < 1
    · exact .inl (by simp; omega)
    · exact .inr ⟨by simp; omega, by simp; omega, by simp; omega⟩
  clear hb hl hL hf hl1 hmq hbe h0 h1 h3 ht5
  go_enter Try.func3, Try.ntmps3
  go_wp2_with fail
  refine (alive_t _).mono ?_
  rintro e w1 ⟨rfl, hb1⟩
  have HB1 := Lib.hid hb1
  clear hb1
  go_wp2_with fail
  refine (HCT.out _ (ct_at HPB.out HB1.out)).mono ?_
  rintro e w2 ⟨g, gl, A, c, A2, c2, rfl, hg, hgl, hsto, how, hb2', _⟩
  have HST := Lib.hid hsto
  have HOW := Lib.hid how
  have HB2 := Lib.hid (nextB HB1.out hb2')
  have HB2' := Lib.hid hb2'.size
  clear hsto how hb2' hg hgl
  go_wp2_with fail
  refine (stotal_t g gl A c (b : Int) L w2 HST.out HF.out).mono ?_
  rintro e w3 ⟨rfl, rfl⟩
  go_wp2_with fail
  refine (skey_bad g gl A c (b : Int) L w2 HST.out r HF.out HT0.out HT1.out).mono ?_
  rintro e w4 ⟨rfl, rfl⟩
  rcases hc with q1 | ⟨q1, q2, q3⟩
  all_goals
    go_wp2_with fail
    go_ret
    exact ⟨rfl, HB2.out⟩
theorem collapseKeys_walk (w : World) (m : Int) (m0 : 0 ≤ m) (_m1 : m ≤ 65535) (A0 : Option Addr) (c0 : Nat) (l : List Pr) (hl : l.length ≤ maxLen) (hb : Pairs w A0 l) (r : Int) (r0 : 0 ≤ r) (_r1 : r ≤ 18446744073709551615) :
    Calls Try.prog 3 #[.int .u16 m, .slice A0 l.length c0, .int .u64 r] w fun e w' => e = .returned (.bool true) ∧ Below w.heap.size w w' := by
  obtain ⟨r, rfl⟩ : ∃ k : Nat, r = (k : Int) := ⟨r.toNat, by omega⟩
  obtain ⟨m, rfl⟩ : ∃ k : Nat, m = (k : Int) := ⟨m.toNat, by omega⟩
  by_cases h0 : tot (cntL (l.take 100)) = 0
  · exact keys_none w m A0 c0 l hl hb r h0
  · by_cases h3 : r % 4 = 0
    · by_cases h1 : 1 ≤ r ∧ r ≤ tot (cntL (l.take 100))
      · exact keys_as w m A0 c0 l hl hb r h0 h3 r rfl h1.1 h1.2
      · exact keys_out w m A0 c0 l hl hb r h0 h3 (by omega)
    · exact keys_in w m A0 c0 l hl hb r h0 h3
set_option maxHeartbeats 6400000 in
set_option maxRecDepth 100000 in
theorem vague_none (w : World) (m : Nat) (A0 : Option Addr) (c0 : Nat) (l : List Pr) (hl : l.length ≤ maxLen) (hb : Pairs w A0 l) (r : Nat) (h0 : cntL (l.take 100) = []) :
    Calls Try.prog 4 #[.int .u16 (m : Int), .slice A0 l.length c0, .int .u64 (r : Int)] w fun e w' => e = .returned (.bool true) ∧ Below w.heap.size w w' := by
  have HPB := Lib.hid hb
  have HL64 := Lib.hid (show (l.length : Int) ≤ 9223372036854775807 by unfold maxLen at hl; omega)
  obtain ⟨mq, hmq⟩ : ∃ mq : Nat, mq = m % 30 := ⟨_, rfl⟩
  have hmq2 : (m : Int) % 30 = (mq : Int) := by omega
  have hmq3 : (mq : Int) < 30 := by omega
  obtain ⟨b, hbe⟩ : ∃ b : Nat, b = 2 + mq := ⟨_, rfl⟩
  have hb2 : 2 + (mq : Int) = (b : Int) := by omega
  have HB0 := Lib.hid (show (2 : Int) ≤ (b : Int) ∧ (b : Int) ≤ 4096 by omega)
  have hb32 : (b : Int) ≤ 31 := by omega
  have HCT := Lib.hid (fun W (h : Pairs W A0 l) => counted_t A0 c0 (b : Int) l W h HL64.out HB0.out.1 HB0.out.2)
  obtain ⟨L, hL⟩ : ∃ L, L = cntL (l.take 100) := ⟨_, rfl⟩
  obtain ⟨hf, ht5, hl1⟩ := cntL_fine l
  rw [← hL] at HCT hf ht5 hl1 h0
  have HF := Lib.hid hf
  have HL1 := Lib.hid hl1
  have z0 : ((L.length : Int) == 0) = true := by rw [h0]; rfl
  have z1 : (L.length == 0) = true := by rw [h0]; rfl
  have z3 : (((tot L : Nat) : Int) == 0) = true := by rw [h0]; rfl
  have z4 : (tot L == 0) = true := by rw [h0]; rfl
  clear hb hl hL hf hl1 hmq hbe h0 ht5
  go_enter Try.func4, Try.ntmps4
  go_wp2_with fail
  refine (alive_t _).mono ?_
  rintro e w1 ⟨rfl, hb1⟩
  have HB1 := Lib.hid hb1
  clear hb1
  go_wp2_with fail
  refine (HCT.out _ (ct_at HPB.out HB1.out)).mono ?_
  rintro e w2 ⟨g, gl, A, c, A2, c2, rfl, hg, hgl, hsto, how, hb2', _⟩
  have HST := Lib.hid hsto
  have HOW := Lib.hid how
  have HB2 := Lib.hid (nextB HB1.out hb2')
  have HB2' := Lib.hid hb2'.size
  clear hsto how hb2' hg hgl
  go_wp2_with fail
  refine (stotal_t g gl A c (b : Int) L w2 HST.out HF.out).mono ?_
  rintro e w3 ⟨rfl, rfl⟩
  go_wp2_with fail
  go_ret
  exact ⟨rfl, HB2.out⟩
set_option maxHeartbeats 6400000 in
set_option maxRecDepth 100000 in
theorem vague_some (w : World) (m : Nat) (A0 : Option Addr) (c0 : Nat) (l : List Pr) (hl : l.length ≤ maxLen) (hb : Pairs w A0 l) (r : Nat) (h0 : cntL (l.take 100) ≠ []) :
    Calls Try.prog 4 #[.int .u16 (m : Int), .slice A0 l.length c0, .int .u64 (r : Int)] w fun e w' => e = .returned (.bool true) ∧ Below w.heap.size w w' := by
  have HPB := Lib.hid hb
  have HL64 := Lib.hid (show (l.length : Int) ≤ 9223372036854775807 by unfold maxLen at hl; omega)
  obtain ⟨mq, hmq⟩ : ∃ mq : Nat, mq = m % 30 := ⟨_, rfl⟩
  have hmq2 : (m : Int) % 30 = (mq : Int) := by omega
  have hmq3 : (mq : Int) < 30 := by omega
  obtain ⟨b, hbe⟩ : ∃ b : Nat, b = 2 + mq := ⟨_, rfl⟩
  have hb2 : 2 + (mq : Int) = (b : Int) := by omega
  have HB0 := Lib.hid (show (2 : Int) ≤ (b : Int) ∧ (b : Int) ≤ 4096 by omega)
  have hb32 : (b : Int) ≤ 31 := by omega
  have HCT := Lib.hid (fun W (h : Pairs W A0 l) => counted_t A0 c0 (b : Int) l W h HL64.out HB0.out.1 HB0.out.2)
  obtain ⟨L, hL⟩ : ∃ L, L = cntL (l.take 100) := ⟨_, rfl⟩
  obtain ⟨hf, ht5, hl1⟩ := cntL_fine l
  rw [← hL] at HCT hf ht5 hl1 h0
  have HF := Lib.hid hf
  have HL1 := Lib.hid hl1
  have h00 := tot_pos hf.pos h0
  have z0 : ((L.length : Int) == 0) = false := by simp; exact h0
  have z1 : (L.length == 0) = false := by simp; exact h0
  have hT5 : ((tot L : Nat) : Int) ≤ 100000 := by omega
  obtain ⟨q, hq⟩ : ∃ q, q = 1 + r % tot L := ⟨_, rfl⟩
  have hqr : r % tot L < tot L := Nat.mod_lt _ (by omega)
  have HQ1 := Lib.hid (show 1 ≤ q by omega)
  have HQ2 := Lib.hid (show q ≤ tot L by omega)
  obtain ⟨rm, hrm⟩ : ∃ rm : Nat, rm = r % tot L := ⟨_, rfl⟩
  have hrm2 : (r : Int) % ((tot L : Nat) : Int) = (rm : Int) := by rw [hrm]; rfl
  have hqi : 1 + (rm : Int) = (q : Int) := by omega
  have hq5 : (q : Int) ≤ 100000 := by omega
  have tpos : (1 : Int) ≤ ((tot L : Nat) : Int) := by omega
  have hll : (L.length : Int) ≤ 100 := by omega
  have HB1b := Lib.hid (show 1 ≤ b by omega)
  clear hb hl hL hf hl1 hmq hbe h0 h00 hq hqr hrm ht5
  go_enter Try.func4, Try.ntmps4
  go_wp2_with fail
  refine (alive_t _).mono ?_
  rintro e w1 ⟨rfl, hb1⟩
  have HB1 := Lib.hid hb1
  clear hb1
  go_wp2_with fail
  refine (HCT.out _ (ct_at HPB.out HB1.out)).mono ?_
  rintro e w2 ⟨g, gl, A, c, A2, c2, rfl, hg, hgl, hsto, how, hb2', _⟩
  have HST := Lib.hid hsto
  have HOW := Lib.hid how
  have HB2 := Lib.hid (nextB HB1.out hb2')
  have HB2' := Lib.hid hb2'.size
  clear hsto how hb2' hg hgl
  go_wp2_with fail
  refine (stotal_t g gl A c (b : Int) L w2 HST.out HF.out).mono ?_
  rintro e w3 ⟨rfl, rfl⟩
  go_wp2_with fail
  refine (skey_ok g gl A c (b : Int) L w2 HST.out q HF.out HQ1.out HQ2.out).mono ?_
  rintro e w4 ⟨rfl, hb4⟩
  have HB4 := Lib.hid hb4
  clear hb4
  go_wp2_with fail
  refine (rkey_t A2 c2 L q w4 ((OwnP.reads HOW.out).at_below HB4.out) (by have := HL1.out; omega) HF.out.tot HF.out.srt HQ1.out HQ2.out).mono ?_
  rintro e w6 ⟨rfl, rfl⟩
  have HV := Lib.hid (vague_iff HF.out HB1b.out HQ1.out HQ2.out)
  have HR := Lib.hid ((OwnP.reads HOW.out).at_below HB4.out)
  generalize vagueB L (b : Int) q = v at *
  generalize rank (cutL L (b : Int)).1 q = K at *
  generalize rank L q = K2 at *
  go_wp2_with fail
  go_loop [14, 15] (fun n i => ∃ j : Nat, j ≤ L.length ∧ i = .int .i64 (j : Int) ∧ n = .int .i64 ((abv L K2 j : Nat) : Int)) (fun _ i => L.length - (intOf i).toNat)
  case atStart => exact ⟨0, Nat.zero_le _, rfl, rfl⟩
  case round =>
    obtain ⟨j, hj, rfl, rfl⟩ := hrel
    have hab : abv L K2 j ≤ 100 := by have h1 := up_le (L.take j) (K2 + 1); rw [List.length_take] at h1; have := HL1.out; unfold abv; omega
    have habi : ((abv L K2 j : Nat) : Int) ≤ 100 := by omega
    by_cases hlt : j < L.length
    · have hii : (j : Int) < (L.length : Int) := by omega
      have hii2 : decide (j < L.length) = true := by simp; omega
      have hi0 : (0 : Int) ≤ (j : Int) := by omega
      obtain ⟨p, hp⟩ : ∃ p, L[j]? = some p := ⟨_, List.getElem?_eq_getElem hlt⟩
      obtain ⟨bb, o, rfl, _, hc⟩ := HR.out.at_ (by omega)
      have d1 := (hc j p hp).1
      have hnx := abv_next hp K2
      have HI := Lib.hid hlt
      obtain ⟨x, n⟩ := p
      dsimp only at d1 hnx
      by_cases hk : K2 < x
      · rw [if_pos hk] at hnx
        have hk2 : decide (K2 < x) = true := by simpa using hk
        have HN := Lib.hid hnx
        clear hc hp hnx hk hj hlt hab
        go_wp2_with fail
        go_round
        case rel => exact ⟨j + 1, HI.out, by go_num, by rw [HN.out]; go_num⟩
        case measure => have := HI.out; simp [intOf]; omega
      · rw [if_neg hk] at hnx
        have hk2 : decide (K2 < x) = false := by simpa using hk
        have HN := Lib.hid hnx
        clear hc hp hnx hk hj hlt hab
        go_wp2_with fail
        go_round
        case rel => exact ⟨j + 1, HI.out, by go_num, by rw [HN.out]; rfl⟩
        case measure => have := HI.out; simp [intOf]; omega
    · obtain rfl : j = L.length := by omega
      have hge : ¬ (L.length : Int) < (L.length : Int) := by omega
      have hab2 : abv L K2 L.length = up L (K2 + 1) := by unfold abv; rw [List.take_length]
      rw [hab2] at habi ⊢
      have hb1 : (1 : Int) ≤ (b : Int) := by have := HB1b.out; omega
      clear hj hlt hab hab2
      have hiff := HV.out
      generalize up L (K2 + 1) = U at *
      have hs1 : (b : Int) - 1 ≤ 31 := by omega
      cases v with
      | true =>
        obtain ⟨y1, y2⟩ := hiff.1 rfl
        have x1 : decide ((b : Int) < (L.length : Int)) = true := by simp; omega
        have x2 : decide (b < L.length) = true := by simp; omega
        have x3 : decide ((b : Int) - 1 ≤ (U : Int)) = true := by simp; omega
        clear hiff y1 y2 hge
        go_wp2_with fail
        go_ret
        exact ⟨rfl, nextB HB2.out HB4.out⟩
      | false =>
        have hn : ¬ (b < L.length ∧ b ≤ U + 1) := fun h => by have := hiff.2 h; cases this
        clear hiff
        by_cases y1 : b < L.length
        · have x1 : decide ((b : Int) < (L.length : Int)) = true := by simp; omega
          have x2 : decide (b < L.length) = true := by simp; omega
          have x3 : decide ((b : Int) - 1 ≤ (U : Int)) = false := by simp; omega
          clear hn y1 hge
          go_wp2_with fail
          go_ret
          exact ⟨rfl, nextB HB2.out HB4.out⟩
        · have x1 : decide ((b : Int) < (L.length : Int)) = false := by simp; omega
          have x2 : decide (b < L.length) = false := by simp; omega
          clear hn y1 hge
          go_wp2_with fail
          go_ret
          exact ⟨rfl, nextB HB2.out HB4.out⟩
theorem collapseVague_walk (w : World) (m : Int) (m0 : 0 ≤ m) (_m1 : m ≤ 65535) (A0 : Option Addr) (c0 : Nat) (l : List Pr) (hl : l.length ≤ maxLen) (hb : Pairs w A0 l) (r : Int) (r0 : 0 ≤ r) (_r1 : r ≤ 18446744073709551615) :
    Calls Try.prog 4 #[.int .u16 m, .slice A0 l.length c0, .int .u64 r] w fun e w' => e = .returned (.bool true) ∧ Below w.heap.size w w' := by
  obtain ⟨r, rfl⟩ : ∃ k : Nat, r = (k : Int) := ⟨r.toNat, by omega⟩
  obtain ⟨m, rfl⟩ : ∃ k : Nat, m = (k : Int) := ⟨m.toNat, by omega⟩
  by_cases h0 : cntL (l.take 100) = []
  · exact vague_none w m A0 c0 l hl hb r h0
  · exact vague_some w m A0 c0 l hl hb r h0
end Go.Proofs.Ytmpmjgoipfgfoaa
