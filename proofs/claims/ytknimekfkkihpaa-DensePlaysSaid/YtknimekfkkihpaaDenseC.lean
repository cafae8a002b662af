/- Dense: what a store tells, walked. -/
import Derived.Test.YtknimekfkkihpaaDenseB
import Derived.Test.YtknimekfkkihpaaPairs
namespace Go.Proofs.Ytknimekfkkihpaa
open Go.RowKit
open Ds

theorem sto_below {w w' : World} {base g : Nat} {A : Option Addr} {c : Nat} {f : Int} {l : List Nat} {t : Nat} (h : Sto w base g A c f l t) (hb : Below w.heap.size w w') : Sto w' base g A c f l t :=
  ⟨h.1.below hb h.1.lt, h.2.below hb⟩
theorem prs_take {f : Int} {l : List Nat} {k : Nat} (h : k < l.length) : prs f (l.take (k + 1)) = prs f (l.take k) ++ if l.getD k 0 = 0 then [] else [(f + (k : Int), l.getD k 0)] := by
  rw [List.take_succ_eq_append_getElem h, prs_snoc]
  have e : l.getD k 0 = l[k] := by simp [List.getD, h]
  rw [e, List.length_take, Nat.min_eq_left (by omega)]
def PairsPost (w : World) (L : List Pr) (e : Ending) (w' : World) : Prop := ∃ A c, e = .returned (.slice A L.length c) ∧ OwnP w' w.heap.size A c L ∧ Below w.heap.size w w'
set_option maxHeartbeats 1600000 in
theorem pairs_t (g : Nat) (A : Option Addr) (c base : Nat) (f : Int) (l : List Nat) (t : Nat) (w : World) (h : Sto w base g A c f l t) (hi : Inv f l t) :
    Calls Try.prog 10 #[.pointer (some ⟨g, 0, none⟩)] w (PairsPost w (prs f l)) := by
  have c0 := h.c0
  have c1 := h.c1
  have hgl := h.1.lt
  have HH := Lib.hid h
  have HI := Lib.hid hi
  have hlen : (l.length : Int) ≤ 8192 := by have := hi.len; omega
  clear h hi
  go_enter Try.func10, Try.ntmps10
  go_wp2_with fail
  go_loopw [3, 11] (fun v i wr => ∃ (k : Nat) (A' : Option Addr) (c' : Nat), k ≤ l.length ∧ i = .int .i64 k ∧ v = .slice A' (prs f (l.take k)).length c' ∧ OwnP wr w.heap.size A' c' (prs f (l.take k)) ∧ Below w.heap.size w wr) (fun _ i _ => l.length - (intOf i).toNat)
  case atStart => exact ⟨0, none, 0, Nat.zero_le _, rfl, rfl, Own.nil _ _ _ _, Below.refl _ _⟩
  case round =>
    obtain ⟨k, A', c', hk, rfl, rfl, hown, hbel⟩ := hrel
    by_cases hlt : k < l.length
    · obtain ⟨b, o, rfl, _, hbl, _, hcells, _⟩ := HH.out.2.form (by omega)
      have hcell : wr.cell? ⟨b, o + k, none⟩ = some (.int .u64 (l.getD k 0 : Nat)) := (hbel.cell (p := ⟨b, o + k, none⟩) hbl).trans (hcells k _ (u64s_get hlt))
      have e0 : wr.cell? ⟨g, 0, none⟩ = some (.int .i64 f) := (hbel.cell (p := ⟨g, 0, none⟩) hgl).trans c0
      have ht := prs_take (f := f) hlt
      have hsum : l.getD k 0 ≤ 4611686018427387904 := by
        have h1 := getD_le_sum (l := l) (i := k)
        have h2 := HI.out.sum
        have h3 := HI.out.cap
        omega
      have hlo := HI.out.lo
      have hhi := HI.out.hi
      have hkl : (prs f (l.take k)).length ≤ 8192 := by
        have h1 := prs_len (f := f) (l := l.take k)
        rw [List.length_take] at h1
        omega
      have hkk : (k : Int) < (l.length : Int) := by omega
      have HM := Lib.hid hk
      generalize prs f (l.take k) = L0 at *
      obtain ⟨L1, hL1⟩ : ∃ L1, L1 = prs f (l.take (k + 1)) := ⟨_, rfl⟩
      rw [← hL1] at ht
      have HL1 := Lib.hid hL1
      clear hL1
      generalize l.getD k 0 = v at *
      have HO := Lib.hid hown
      have HB := Lib.hid hbel
      have HL := Lib.hid hlt
      clear hown hbel hcells hk hlt
      by_cases hv : v = 0
      · subst hv
        rw [if_pos rfl, List.append_nil] at ht
        subst ht
        clear hsum
        go_wp2_with fail
        go_roundw
        case rel => exact ⟨k + 1, A', c', HL.out, by go_num, by rw [← HL1.out], by rw [← HL1.out]; exact HO.out, HB.out⟩
        case measure => have h1 := HL.out; simp [intOf]; omega
      · rw [if_neg hv] at ht
        have hv1 : (0 : Int) < (v : Int) := by omega
        have HT := Lib.hid ht
        clear ht hv
        go_wp2_with (at_builtin; refine Hid.out ?_)
        refine wpList_app (xs := pcs L0) rfl rfl elem_pair rfl (HO.out.alloc _) rfl (pair_new wr (f + (k : Int)) v) (pcs_one _) (L0.length + 1) rfl (pcs L1) ?_ (by unfold maxLen; omega) (by omega) (by have := HB.out.size; simp; omega) ?_
        · rw [HT.out, pcs_append]
        intro A2 p2 w3 o2 g2 q2
        have b2 := appB (newB HB.out _) (HO.out.alloc _) g2 (Nat.le_refl _) (newB HB.out _).size
        have HO2 := Lib.hid o2
        have HB2 := Lib.hid b2
        clear o2 g2 q2 b2
        go_wp2_with fail
        go_roundw
        case rel => exact ⟨k + 1, A2, p2, HL.out, by go_num, by rw [← HL1.out, HT.out]; simp, by rw [← HL1.out, HT.out]; unfold OwnP; rw [List.length_append, ← HT.out]; exact HO2.out, HB2.out⟩
        case measure => have h1 := HL.out; simp [intOf]; omega
    · obtain rfl : k = l.length := by omega
      rw [List.take_length] at hown ⊢
      generalize prs f l = L0 at *
      go_wp2_with fail
      go_ret
      exact ⟨A', c', rfl, hown, hbel⟩
theorem len_eq_zero {l : List Nat} (hl : l.length = 0) : ((l.length : Int) == 0) = true := by simp; exact List.length_eq_zero_iff.1 hl
theorem len_ne_zero {l : List Nat} (hl : l.length ≠ 0) : ((l.length : Int) == 0) = false := by simp; intro e; exact hl (by rw [e]; rfl)
def endsV (f : Int) (l : List Nat) : Value := if l.length = 0 then .tuple #[.int .i64 0, .int .i64 0, .bool false] else .tuple #[.int .i64 f, .int .i64 (f + l.length - 1), .bool true]
set_option maxHeartbeats 800000 in
theorem ends_t (g : Nat) (A : Option Addr) (c base : Nat) (f : Int) (l : List Nat) (t : Nat) (w : World) (h : Sto w base g A c f l t) (hi : Inv f l t) :
    Calls Try.prog 20 #[.pointer (some ⟨g, 0, none⟩)] w fun e w' => e = .returned (endsV f l) ∧ ∃ n, w' = w.drewN n := by
  have c0 := h.c0
  have c1 := h.c1
  obtain ⟨lo, hi, len, -, -⟩ := hi
  clear h
  by_cases hl : l.length = 0
  · have hz := len_eq_zero hl
    rw [endsV, if_pos hl]
    clear hl
    go_enter Try.func20, Try.ntmps20
    go_wp2_with fail
    go_ret3
    exact ⟨rfl, 0, rfl⟩
  · have hz := len_ne_zero hl
    rw [endsV, if_neg hl]
    have s1 : IntKind.i64.wrap (f + (l.length : Int)) = f + l.length := IntWalk.i64_in _ ⟨by omega, by omega⟩
    have s2 : IntKind.i64.wrap (f + (l.length : Int) - 1) = f + l.length - 1 := IntWalk.i64_in _ ⟨by omega, by omega⟩
    clear hl
    go_enter Try.func20, Try.ntmps20
    go_wp2_with fail
    go_quiet (fail)
    go_wp2_with fail
    go_ret3
    exact ⟨rfl, nq, rfl⟩
set_option maxHeartbeats 400000 in
theorem total_t (g : Nat) (A : Option Addr) (c base : Nat) (f : Int) (l : List Nat) (t : Nat) (w : World) (h : Sto w base g A c f l t) :
    Calls Try.prog 11 #[.pointer (some ⟨g, 0, none⟩)] w fun e w' => e = .returned (.int .u64 (t : Int)) ∧ w' = w := by
  have c2 := h.c2
  clear h
  go_enter Try.func11, Try.ntmps11
  go_wp2_with fail
  go_ret
  exact ⟨rfl, rfl⟩
end Go.Proofs.Ytknimekfkkihpaa
