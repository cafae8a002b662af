/- Dense: what Drop calls, walked. -/
import Derived.Test.YtknimekfkkihpaaDenseOwn
namespace Go.Proofs.Ytknimekfkkihpaa
open Go.RowKit
open Ds Pl

/-- How many noughts ahead of the first other number. -/
def nz : List Nat → Nat
  | [] => 0
  | n :: l => if n = 0 then nz l + 1 else 0
theorem nz_le (l : List Nat) : nz l ≤ l.length := by
  induction l with
  | nil => exact Nat.le_refl _
  | cons n l ih => rw [nz]; split <;> simp <;> omega
theorem nz_zero {l : List Nat} {j : Nat} (h : j < nz l) : l.getD j 0 = 0 := by
  induction l generalizing j with
  | nil => simp [nz] at h
  | cons n l ih =>
    rw [nz] at h
    by_cases hn : n = 0
    · rw [if_pos hn] at h
      cases j with
      | zero => simpa using hn
      | succ j => have := ih (j := j) (by omega); simpa using this
    · rw [if_neg hn] at h; omega
theorem nz_at {l : List Nat} (h : nz l < l.length) : l.getD (nz l) 0 ≠ 0 := by
  induction l with
  | nil => simp at h
  | cons n l ih =>
    rw [nz] at h ⊢
    by_cases hn : n = 0
    · rw [if_pos hn] at h ⊢
      have := ih (by simpa using h)
      simpa using this
    · rw [if_neg hn]; simpa using hn
theorem nz_next {l : List Nat} {k : Nat} (hk : k ≤ nz l) (hl : k < l.length) (h : l.getD k 0 = 0) : k + 1 ≤ nz l := by
  rcases Nat.lt_or_ge k (nz l) with h1 | h1
  · exact h1
  · have e : k = nz l := by omega
    subst e
    exact absurd h (nz_at hl)
theorem nz_stop {l : List Nat} {k : Nat} (hk : k ≤ nz l) (h : l.getD k 0 ≠ 0) : k = nz l := by
  rcases Nat.lt_or_ge k (nz l) with h1 | h1
  · exact absurd (nz_zero h1) h
  · omega
theorem some_t (v : Nat) (w : World) : Calls Try.prog 27 #[.int .u64 (v : Int)] w fun e w' => e = .returned (.bool (decide (0 < v))) ∧ w' = w := by
  go_enter Try.func27, Try.ntmps27
  go_wp2_with fail
  go_ret
  exact ⟨rfl, rfl⟩
theorem some_no (v : Nat) (w : World) (h : v = 0) : Calls Try.prog 27 #[.int .u64 (v : Int)] w fun e w' => e = .returned (.bool false) ∧ w' = w := by
  subst h; exact some_t 0 w
theorem some_yes (v : Nat) (w : World) (h : v ≠ 0) : Calls Try.prog 27 #[.int .u64 (v : Int)] w fun e w' => e = .returned (.bool true) ∧ w' = w := by
  have := some_t v w
  rw [show decide (0 < v) = true by simp; omega] at this
  exact this
def nzi (l : List Nat) : Int := if nz l < l.length then (nz l : Int) else -1
set_option maxHeartbeats 800000 in
theorem index_t (A : Option Addr) (c B : Nat) (l : List Nat) (w : World) (h : Reads w B 1 A l.length (u64s l)) (hm : l.length ≤ 16777216) :
    Calls Try.prog 28 #[.slice A l.length c, .func (Fn.func 27) #[] #[]] w fun e w' => e = .returned (.int .i64 (nzi l)) ∧ w' = w := by
  have HA := Lib.hid h
  clear h
  go_enter Try.func28, Try.ntmps28
  go_wp2_with fail
  go_loop [8] (fun i => ∃ k : Nat, k ≤ nz l ∧ i = .int .i64 k) (fun i => l.length - (intOf i).toNat)
  case atStart => exact ⟨0, Nat.zero_le _, rfl⟩
  case round =>
    obtain ⟨k, hk, rfl⟩ := hrel
    have hnl := nz_le l
    by_cases hlt : k < l.length
    · obtain ⟨b, o, rfl, _, hcell⟩ := HA.out.2 (by omega)
      have hc := hcell k _ (u64s_get hlt)
      have hkk : (k : Int) < (l.length : Int) := by omega
      have hk0 : (0 : Int) ≤ (k : Int) := by omega
      by_cases hv : l.getD k 0 = 0
      · have hn := nz_next hk hlt hv
        generalize l.getD k 0 = v at *
        have HN := Lib.hid hn
        have HV := Lib.hid hv
        have HL := Lib.hid hlt
        clear hn hv hlt hk hcell hnl
        go_wp2_with fail
        refine (some_no v _ HV.out).mono ?_
        rintro e w1 ⟨rfl, rfl⟩
        go_wp2_with fail
        go_round
        case rel => exact ⟨k + 1, HN.out, by go_num⟩
        case measure => have h1 := HL.out; simp [intOf]; omega
      · have hn := nz_stop hk hv
        generalize l.getD k 0 = v at *
        have HV := Lib.hid hv
        have e : nzi l = (k : Int) := by unfold nzi; rw [← hn, if_pos hlt]
        have HE := Lib.hid e
        clear hn hv hlt hk hcell hnl e
        go_wp2_with fail
        refine (some_yes v _ HV.out).mono ?_
        rintro e w1 ⟨rfl, rfl⟩
        go_wp2_with fail
        go_ret
        exact ⟨by rw [HE.out]; rfl, rfl⟩
    · have hkl : ¬ (k : Int) < (l.length : Int) := by omega
      have e : nzi l = -1 := by unfold nzi; rw [if_neg (by omega)]
      have HE := Lib.hid e
      clear e hlt
      go_wp2_with fail
      go_ret
      exact ⟨by rw [HE.out]; rfl, rfl⟩
/-- What a method that writes a store leaves, be there no row any more. -/
def StoPostN (base g : Nat) (A : Option Addr) (f : Int) (l : List Nat) (t : Nat) (w w' : World) : Prop :=
  ∃ A' c', Sto w' base g A' c' f l t ∧ (∀ b, blockOf A' = some b → blockOf A = some b ∨ w.heap.size ≤ b) ∧ Only (fun i => i = g ∨ blockOf A = some i) w w'
/-- What a method that writes one of them leaves. -/
theorem Sts.stepN {w w' : World} {base : Nat} {ids : List Nat} {S : Nat → St} {g : Nat} {s' : St} (h1 : ∀ g' ∈ ids, base ≤ g' ∧ InvS (S g')) {A : Nat → Option Addr × Nat} (h2 : ∀ g' ∈ ids, Sto w base g' (A g').1 (A g').2 (S g').1 (S g').2.1 (S g').2.2)
    (h3 : ∀ g ∈ ids, ∀ g' ∈ ids, g ≠ g' → ∀ b, blockOf (A g).1 = some b → blockOf (A g').1 ≠ some b) (hg : g ∈ ids) (hi : InvS s') (hb : base ≤ w.heap.size) (hp : StoPostN base g (A g).1 s'.1 s'.2.1 s'.2.2 w w') :
    Sts w' base ids (upd S g s') ∧ Below base w w' := by
  obtain ⟨A', c', hs, hloc, honly⟩ := hp
  have hK : ∀ g' ∈ ids, g' ≠ g → ¬ (g' = g ∨ blockOf (A g).1 = some g') := fun g' hg' hne h => by
    rcases h with h | h
    · exact hne h
    · exact (h2 g hg).2.ne_blk (h2 g' hg').1 (by decide) h
  have hKb : ∀ g' ∈ ids, g' ≠ g → ∀ b, blockOf (A g').1 = some b → ¬ (b = g ∨ blockOf (A g).1 = some b) := fun g' hg' hne b hbk h => by
    rcases h with h | h
    · subst h
      exact (h2 g' hg').2.ne_blk (h2 b hg).1 (by decide) hbk
    · exact h3 g' hg' g hg hne b hbk h
  refine ⟨⟨fun i => if i = g then (A', c') else A i, fun g' hg' => ?_, fun g1 hg1 g2 hg2 hne b hbk => ?_⟩, ?_⟩
  · by_cases e : g' = g
    · subst e
      rw [upd_same]
      simp only [if_pos]
      exact ⟨(h1 g' hg).1, hi, hs⟩
    · rw [upd_ne _ _ e]
      simp only [if_neg e]
      exact ⟨(h1 g' hg').1, (h1 g' hg').2, (h2 g' hg').1.only honly (hK g' hg' e), (h2 g' hg').2.only honly (fun b hbk => hKb g' hg' e b hbk)⟩
  · by_cases e : g1 = g
    · have e2 : g2 ≠ g := fun h => hne (e.trans h.symm)
      simp only [if_pos e, if_neg e2] at hbk ⊢
      rcases hloc b hbk with h | h
      · subst e
        exact h3 g1 hg g2 hg2 hne b h
      · intro h4
        have := ((h2 g2 hg2).2.block h4).2
        omega
    · by_cases e2 : g2 = g
      · simp only [if_neg e, if_pos e2] at hbk ⊢
        intro h4
        rcases hloc b h4 with h | h
        · subst e2
          exact h3 g1 hg1 g2 hg hne b hbk h
        · have := ((h2 g1 hg1).2.block hbk).2
          omega
      · simp only [if_neg e, if_neg e2] at hbk ⊢
        exact h3 g1 hg1 g2 hg2 hne b hbk
  · refine honly.below hb (fun i hi => ?_)
    rcases hi with rfl | hi
    · exact (h1 i hg).1
    · exact ((h2 g hg).2.block hi).1
theorem turnedN_of {w w' : World} {base g : Nat} {A : Option Addr} {c : Nat} {s s' : St} (h : Sto w base g A c s.1 s.2.1 s.2.2) (hp : StoPostN base g A s'.1 s'.2.1 s'.2.2 w w') : Turned g w w' := by
  obtain ⟨A', c', _, _, honly⟩ := hp
  refine honly.mono fun i hi => ?_
  rcases hi with hi | hi
  · exact .inl hi
  · rcases h.2.2 with ⟨hA, _, _⟩ | ⟨g', o, cur, hA, _, hh, _⟩
    · rw [hA] at hi; simp [blockOf] at hi
    · rw [hA] at hi
      have : g' = i := by simpa [blockOf] using hi
      subst this
      exact .inr ⟨cur, hh⟩
set_option maxHeartbeats 400000 in
theorem clear_t (g : Nat) (A : Option Addr) (c base : Nat) (f : Int) (l : List Nat) (t : Nat) (w : World) (h : Sto w base g A c f l t) :
    Calls Try.prog 18 #[.pointer (some ⟨g, 0, none⟩)] w fun e w' => e = .returned (.tuple #[]) ∧ StoPostN base g A 0 [] 0 w w' := by
  have c0 := h.c0
  have c1 := h.c1
  have c2 := h.c2
  have f0 := h.1.free 0
  have f1 := h.1.free 1
  have f2 := h.1.free 2
  have HH := Lib.hid h
  clear h
  go_enter Try.func18, Try.ntmps18
  go_wp2_with fail
  refine bodyPost_end (v := .tuple #[]) (results_none Try.results18 _ _ _) rfl ⟨rfl, none, 0, ⟨?_, OwnO.nil _ _ _⟩, (fun b hb => by cases hb), ?_⟩
  · exact ((HH.out.1.put 0 _).put 1 _).put 2 _
  · exact (((Only.refl _ w).set (.inl (.inl rfl)) _).set (.inl (.inl rfl)) _).set (.inl (.inl rfl)) _
end Go.Proofs.Ytknimekfkkihpaa
