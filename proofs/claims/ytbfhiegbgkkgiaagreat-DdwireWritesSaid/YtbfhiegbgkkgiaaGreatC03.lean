/- The document's Take without a window, walked (after Ref13C). -/
import Derived.Test.YtbfhiegbgkkgiaaGreatC02
import Derived.Deep.RegionHeld3
import Derived.Test.YtbfhiegbgkkgiaaGreatC01
import Derived.Laws.CopyOwn
import Derived.RegionTactic
namespace Go.Proofs.YtbfhiegbgkkgiaaGreat
open Go.RowKit
open Pl
/-- The document's Take: the list, the error's number; window 0: there is none. -/
def wideLL (L M : List Pr) : Int := match L.head?, L.getLast?, M.head?, M.getLast? with
  | some p, some q, some p', some q' => max q.1 q'.1 - min p.1 p'.1 + 1
  | _, _, _, _ => 0
def rtake (L M : List Pr) (W : Nat) : List Pr × Int :=
  if M = [] then (L, 0) else if 0 < W ∧ L ≠ [] ∧ (W : Int) < wideLL L M then (L, 130) else if 4611686018427387904 - tot L < tot M then (L, 6) else (puts L M, 0)
theorem nat_len_zero {α : Type} {l : List α} (h : l.length = 0) : ((l.length : Int) == 0) = true := by simp; exact List.length_eq_zero_iff.1 h
theorem nat_len_ne {α : Type} {l : List α} (h : l ≠ []) : ((l.length : Int) == 0) = false := by simp [h]
set_option maxRecDepth 100000 in
set_option maxHeartbeats 800000 in
theorem take13_none (A A2 : Option Addr) (c c2 base : Nat) (L : List Pr) (W : Nat) (w : World) (h : OwnP w base A c L) :
    Calls Tryz.prog 50 #[.slice A L.length c, .slice A2 ([] : List Pr).length c2, .int .i64 (W : Int)] w (RAdd base w (L, 0)) := by
  have HH := Lib.hid h
  clear h
  go_enter Tryz.func50, Tryz.ntmps50
  go_wp2_with fail
  go_ret2
  exact ⟨A, c, rfl, HH.out, Below.refl _ _⟩
theorem puts_tot {L M : List Pr} : tot (puts L M) = tot L + tot M := by
  induction M generalizing L with
  | nil => simp [puts, tot]
  | cons p M ih => rw [show puts L (p :: M) = puts (put L p.1 p.2) M from rfl, ih, put_tot, tot_cons]; omega
set_option maxRecDepth 100000 in
set_option maxHeartbeats 3200000 in
theorem take13_cap_W0 (A A2 : Option Addr) (c c2 base : Nat) (L M : List Pr) (W : Nat) (w : World) (h : OwnP w base A c L) (h2 : Prs w w.heap.size A2 M) (hm : L.length ≤ 1000000) (hm2 : M.length ≤ 1000000) (hM : M ≠ []) (hw0 : W = 0) (ht : tot L ≤ 4611686018427387904) (ht2 : tot M ≤ 4611686018427387904) (hc : 4611686018427387904 - tot L < tot M) :
    Calls Tryz.prog 50 #[.slice A L.length c, .slice A2 M.length c2, .int .i64 (W : Int)] w (RAdd base w (L, 6)) := by
  have HTM := fun B W' h => total13_t A2 c2 B M W' h (by unfold maxLen; omega) (by omega)
  have HTL := fun B W' h => total13_t A c B L W' h (by unfold maxLen; omega) (by omega)
  replace HTM := Lib.hid HTM
  replace HTL := Lib.hid HTL
  have htl : ((tot L : Nat) : Int) ≤ 4611686018427387904 := by omega
  have dd : decide (4611686018427387904 - ((tot L : Nat) : Int) < ((tot M : Nat) : Int)) = true := by simp; omega
  obtain ⟨b0, o0, rfl, hb0, hcell0⟩ := h2.at_ (List.length_pos_iff.2 hM)
  clear hcell0 hb0
  subst hw0
  have HH := Lib.hid h
  have HH2 := Lib.hid h2
  have hzM := nat_len_ne hM
  clear h h2 hc hM
  go_enter Tryz.func50, Tryz.ntmps50
  go_wp2_with fail
  refine (HTM.out w.heap.size _ (HH2.out)).mono ?_
  rintro e w1 ⟨rfl, hw1⟩
  obtain rfl := hw1.symm
  go_wp2_with fail
  refine (HTL.out w.heap.size _ (HH.out.reads)).mono ?_
  rintro e w1 ⟨rfl, hw1⟩
  obtain rfl := hw1.symm
  go_wp2_with fail
  go_ret2
  exact ⟨_, c, rfl, HH.out, Below.refl _ _⟩
set_option maxRecDepth 100000 in
set_option maxHeartbeats 3200000 in
theorem take13_ok_W0 (A A2 : Option Addr) (c c2 base : Nat) (L M : List Pr) (W : Nat) (w : World) (h : OwnP w base A c L) (h2 : Prs w w.heap.size A2 M) (hm : L.length ≤ 1000000) (hm2 : M.length ≤ 1000000) (hM : M ≠ []) (hw0 : W = 0) (ht : tot L ≤ 4611686018427387904) (hc : ¬ 4611686018427387904 - tot L < tot M) (hbase : base ≤ w.heap.size) :
    Calls Tryz.prog 50 #[.slice A L.length c, .slice A2 M.length c2, .int .i64 (W : Int)] w (RAdd base w (puts L M, 0)) := by
  have HTM := fun B W' h => total13_t A2 c2 B M W' h (by unfold maxLen; omega) (by omega)
  have HTL := fun B W' h => total13_t A c B L W' h (by unfold maxLen; omega) (by omega)
  replace HTM := Lib.hid HTM
  replace HTL := Lib.hid HTL
  have htl : ((tot L : Nat) : Int) ≤ 4611686018427387904 := by omega
  have htot : tot L + tot M ≤ 4611686018427387904 := by omega
  have HTOT := Lib.hid htot
  have HBASE := Lib.hid hbase
  have hbl0 : Below w.heap.size w w := Below.refl _ _
  have dd : decide (4611686018427387904 - ((tot L : Nat) : Int) < ((tot M : Nat) : Int)) = false := by simp; omega
  obtain ⟨b0, o0, rfl, hb0, hcell0⟩ := h2.at_ (List.length_pos_iff.2 hM)
  clear hcell0 hb0
  subst hw0
  have HH := Lib.hid h
  have HH2 := Lib.hid h2
  have hzM := nat_len_ne hM
  clear h h2 hc hM
  go_enter Tryz.func50, Tryz.ntmps50
  go_wp2_with fail
  refine (HTM.out w.heap.size _ (HH2.out)).mono ?_
  rintro e w1 ⟨rfl, hw1⟩
  obtain rfl := hw1.symm
  go_wp2_with fail
  refine (HTL.out w.heap.size _ (HH.out.reads)).mono ?_
  rintro e w1 ⟨rfl, hw1⟩
  obtain rfl := hw1.symm
  go_wp2_with fail
  go_loopw [10, 11] (fun v i wr => ∃ (k : Nat) (A' : Option Addr) (c' : Nat), k ≤ M.length ∧ i = .int .i64 k ∧ v = .slice A' (puts L (M.take k)).length c' ∧ OwnP wr base A' c' (puts L (M.take k)) ∧ Below w.heap.size w wr) (fun _ i _ => M.length - (intOf i).toNat)
  case atStart => exact ⟨0, _, c, Nat.zero_le _, rfl, rfl, HH.out, hbl0⟩
  case round =>
    obtain ⟨k, A', c', hk, rfl, rfl, hown, hbel⟩ := hrel
    by_cases hlt : k < M.length
    · obtain ⟨b, o, hA2, hbl2, hcell⟩ := Prs.at_ HH2.out (by omega)
      obtain ⟨rfl, rfl⟩ : b = b0 ∧ o = o0 := by
        simp only [Option.some.injEq, Addr.mk.injEq] at hA2
        exact ⟨hA2.1.symm, hA2.2.1.symm⟩
      obtain ⟨⟨x1, x2⟩, hp⟩ : ∃ p, M[k]? = some p := ⟨M[k], by simp [hlt]⟩
      obtain ⟨g1, g2⟩ := hcell k _ hp
      simp only at g1 g2
      have hnx : puts L (M.take (k + 1)) = put (puts L (M.take k)) x1 x2 := by
        obtain ⟨h1, e⟩ := List.getElem?_eq_some_iff.1 hp
        rw [List.take_succ_eq_append_getElem h1, e, puts_snoc]
      have hol := puts_len (l := L) (m := M.take k)
      rw [List.length_take] at hol
      have htt := puts_tot (L := L) (M := M.take k)
      have htk := tot_take_le (L := M) (k := k)
      have htot := HTOT.out
      have htk1 : tot (M.take k) + x2 ≤ tot M := by
        obtain ⟨h1, e⟩ := List.getElem?_eq_some_iff.1 hp
        have t1 := tot_take h1
        have t2 := tot_take_le (L := M) (k := k + 1)
        rw [e] at t1
        simp only at t1
        omega
      have hx2 := tot_le_of_mem (List.mem_of_getElem? hp)
      simp only at hx2
      have HPU := fun W' A' c' h => put13_t A' c' (puts L (M.take k)) x1 x2 W' h (by omega) (by omega)
      replace HPU := Lib.hid HPU
      have hkk : (k : Int) < (M.length : Int) := by omega
      have hk0 : (0 : Int) ≤ (k : Int) := by omega
      have d1 : wr.cell? ⟨b, o + k * 2, none⟩ = some (.int .i64 x1) := (hbel.cell (p := ⟨b, o + k * 2, none⟩) hbl2).trans g1
      have d2 : wr.cell? ⟨b, o + k * 2 + 1, none⟩ = some (.int .u64 (x2 : Nat)) := (hbel.cell (p := ⟨b, o + k * 2 + 1, none⟩) hbl2).trans g2
      have HL := Lib.hid hlt
      have HO := Lib.hid hown
      have HB := Lib.hid hbel
      have HN := Lib.hid hnx
      clear hp g1 g2 hcell hlt hown hbel hk hnx hol htt htk hx2 hA2 htot htk1
      generalize puts L (M.take k) = out at *
      go_wp2_with fail
      refine wp_region_noPanic ?_
      refine wp_region_held_drew (S := (fun w' => w'.cell? ⟨b, o + k * 2, none⟩ = some (.int .i64 x1) ∧ w'.cell? ⟨b, o + k * 2 + 1, none⟩ = some (.int .u64 (x2 : Nat)))) (by kernel_rfl) ⟨d1, d2⟩ (fun hHeld => ?_)
      refine wpAnyH_take (i := 0) (oi := ?_) (v := ?_) ?_ ?_ ?_ ?_ ?_ ?_ ?_ ?_
      rotate_left 2
      · simp only [List.getElem?_toArray, List.getElem?_cons_zero]; rfl
      · kernel_rfl
      · kernel_rfl
      · kernel_rfl
      · exact fun _ _ _ h => h
      · exact Or.inl ⟨by kernel_rfl, by intro w hSw; (try dsimp only at hSw); go_simp; try with_reducible rfl⟩
      · assumption
      try go_simp
      refine wpAnyH_take (i := 1) (oi := ?_) (v := ?_) ?_ ?_ ?_ ?_ ?_ ?_ ?_ ?_
      rotate_left 2
      · simp only [List.getElem?_toArray, List.getElem?_cons_succ, List.getElem?_cons_zero]; rfl
      · kernel_rfl
      · kernel_rfl
      · kernel_rfl
      · exact fun _ _ _ h => h
      · exact Or.inl ⟨by kernel_rfl, by intro w hSw; (try dsimp only at hSw); go_simp; try with_reducible rfl⟩
      · assumption
      try go_simp
      refine wpAnyH_take (i := 2) (oi := ?_) (v := ?_) ?_ ?_ ?_ ?_ ?_ ?_ ?_ ?_
      rotate_left 2
      · simp only [List.getElem?_toArray, List.getElem?_cons_succ, List.getElem?_cons_zero]; rfl
      · kernel_rfl
      · kernel_rfl
      · kernel_rfl
      · exact fun _ _ _ h => h
      · exact Or.inl ⟨by kernel_rfl, by intro w hSw; (try dsimp only at hSw); go_simp; try with_reducible rfl⟩
      · assumption
      try go_simp
      refine wpAnyH_take (i := 3) (oi := ?_) (v := ?_) ?_ ?_ ?_ ?_ ?_ ?_ ?_ ?_
      rotate_left 2
      · simp only [List.getElem?_toArray, List.getElem?_cons_succ, List.getElem?_cons_zero]; rfl
      · kernel_rfl
      · kernel_rfl
      · kernel_rfl
      · exact fun _ _ _ h => h
      · exact Or.inl ⟨by kernel_rfl, by intro w hSw; (try dsimp only at hSw); go_simp; try with_reducible rfl⟩
      · assumption
      try go_simp
      refine wpAnyH_take (i := 4) (oi := ?_) (v := ?_) ?_ ?_ ?_ ?_ ?_ ?_ ?_ ?_
      rotate_left 2
      · simp only [List.getElem?_toArray, List.getElem?_cons_succ, List.getElem?_cons_zero]; rfl
      · kernel_rfl
      · kernel_rfl
      · kernel_rfl
      · exact fun _ _ _ h => h
      · exact Or.inl ⟨by kernel_rfl, by intro w hSw; (try dsimp only at hSw); go_simp; try with_reducible rfl⟩
      · assumption
      try go_simp
      refine wpAnyH_take (i := 5) (oi := ?_) (v := ?_) ?_ ?_ ?_ ?_ ?_ ?_ ?_ ?_
      rotate_left 2
      · simp only [List.getElem?_toArray, List.getElem?_cons_succ, List.getElem?_cons_zero]; rfl
      · kernel_rfl
      · kernel_rfl
      · kernel_rfl
      · exact fun _ _ _ h => h
      · exact Or.inl ⟨by kernel_rfl, by intro w hSw; (try dsimp only at hSw); go_simp; try with_reducible rfl⟩
      · assumption
      try go_simp
      refine wpAnyH_take (i := 6) (oi := ?_) (v := ?_) ?_ ?_ ?_ ?_ ?_ ?_ ?_ ?_
      rotate_left 2
      · simp only [List.getElem?_toArray, List.getElem?_cons_succ, List.getElem?_cons_zero]; rfl
      · kernel_rfl
      · kernel_rfl
      · kernel_rfl
      · exact fun _ _ _ h => h
      · exact Or.inl ⟨by kernel_rfl, by intro w hSw; (try dsimp only at hSw); go_simp; try with_reducible rfl⟩
      · assumption
      try go_simp
      refine wpAnyH_take (i := 7) (oi := ?_) (v := ?_) ?_ ?_ ?_ ?_ ?_ ?_ ?_ ?_
      rotate_left 2
      · simp only [List.getElem?_toArray, List.getElem?_cons_succ, List.getElem?_cons_zero]; rfl
      · kernel_rfl
      · kernel_rfl
      · kernel_rfl
      · exact fun _ _ _ h => h
      · exact Or.inl ⟨by kernel_rfl, by intro w hSw; (try dsimp only at hSw); go_simp; try with_reducible rfl⟩
      · assumption
      try go_simp
      refine wpAnyH_take (i := 8) (oi := ?_) (v := ?_) ?_ ?_ ?_ ?_ ?_ ?_ ?_ ?_
      rotate_left 2
      · simp only [List.getElem?_toArray, List.getElem?_cons_succ, List.getElem?_cons_zero]; rfl
      · kernel_rfl
      · kernel_rfl
      · kernel_rfl
      · exact fun _ _ _ h => h
      · exact Or.inl ⟨by kernel_rfl, by intro w hSw; (try dsimp only at hSw); go_simp; try with_reducible rfl⟩
      · assumption
      try go_simp
      refine wpAnyH_take (i := 9) (oi := ?_) (v := ?_) ?_ ?_ ?_ ?_ ?_ ?_ ?_ ?_
      rotate_left 2
      · simp only [List.getElem?_toArray, List.getElem?_cons_succ, List.getElem?_cons_zero]; rfl
      · kernel_rfl
      · kernel_rfl
      · kernel_rfl
      · exact fun _ _ _ h => h
      · exact Or.inl ⟨by kernel_rfl, by intro w hSw; (try dsimp only at hSw); go_simp; try with_reducible rfl⟩
      · assumption
      try go_simp
      refine wpAnyH_take (i := 10) (oi := ?_) (v := ?_) ?_ ?_ ?_ ?_ ?_ ?_ ?_ ?_
      rotate_left 2
      · simp only [List.getElem?_toArray, List.getElem?_cons_succ, List.getElem?_cons_zero]; rfl
      · kernel_rfl
      · kernel_rfl
      · kernel_rfl
      · exact fun _ _ _ h => h
      · exact Or.inl ⟨by kernel_rfl, by intro w hSw; (try dsimp only at hSw); go_simp; try with_reducible rfl⟩
      · assumption
      try go_simp
      refine wpAnyH_ready (rs := [11]) (by kernel_rfl) (by simp) ?_
      refine AllReadyH.cons (o := ?_) ?_ ?_ AllReadyH.nil
      rotate_left 1
      · simp only [List.getElem?_toArray, List.getElem?_cons_succ, List.getElem?_cons_zero]; rfl
      intro K hK
      go_simp
      refine (HPU.out wr.drew A' c' HO.out.reads).mono ?_
      rintro e w2 ⟨A3, c3, rfl, ho3, hb3⟩
      have hB : Below w.heap.size wr.drew w2 := hb3.mono HB.out.size
      have f1 : w2.cell? ⟨b, o + k * 2, none⟩ = some (.int .i64 x1) := (hB.cell (p := ⟨b, o + k * 2, none⟩) hbl2).trans d1
      have f2 : w2.cell? ⟨b, o + k * 2 + 1, none⟩ = some (.int .u64 (x2 : Nat)) := (hB.cell (p := ⟨b, o + k * 2 + 1, none⟩) hbl2).trans d2
      have HO3 := Lib.hid (Own.mono ho3 (Nat.le_trans HBASE.out HB.out.size))
      have HB3 := Lib.hid (HB.out.trans (show Below w.heap.size wr w2 from ⟨hB.os, hB.tape, hB.output, hB.size, hB.block⟩))
      clear ho3 hb3 hB
      refine hK.out _ _ ?_ (fun hHeld => ?_)
      · exact ⟨f1, f2⟩
      clear hK K
      try go_simp
      refine wpAnyH_take (i := 12) (oi := ?_) (v := ?_) ?_ ?_ ?_ ?_ ?_ ?_ ?_ ?_
      rotate_left 2
      · simp only [List.getElem?_toArray, List.getElem?_cons_succ, List.getElem?_cons_zero]; rfl
      · kernel_rfl
      · kernel_rfl
      · kernel_rfl
      · exact fun _ _ _ h => h
      · exact Or.inl ⟨by kernel_rfl, by intro w hSw; (try dsimp only at hSw); go_simp; try with_reducible rfl⟩
      · assumption
      try go_simp
      refine wpAnyH_done (by kernel_rfl) ?_ _
      refine NoPanic.normal ?_
      go_wp2_with fail
      go_roundw
      case rel => exact ⟨k + 1, A3, c3, HL.out, by go_num, by rw [HN.out], by rw [HN.out]; exact HO3.out, HB3.out⟩
      case measure => have h1 := HL.out; simp [intOf]; omega
    · obtain rfl : k = M.length := by omega
      rw [List.take_length] at hown ⊢
      have HO := Lib.hid hown
      have HB := Lib.hid hbel
      clear hown hbel
      go_wp2_with fail
      go_ret2
      exact ⟨A', c', rfl, HO.out, HB.out⟩
theorem rtake0 (L M : List Pr) : rtake L M 0 = if M = [] then (L, 0) else if 4611686018427387904 - tot L < tot M then (L, 6) else (puts L M, 0) := by
  unfold rtake
  rw [if_neg (show ¬ (0 < 0 ∧ L ≠ [] ∧ ((0 : Nat) : Int) < wideLL L M) from fun h => absurd h.1 (by decide))]
set_option maxRecDepth 100000 in
theorem take13_0 (A A2 : Option Addr) (c c2 base : Nat) (L M : List Pr) (w : World) (h : OwnP w base A c L) (h2 : Prs w w.heap.size A2 M) (hm : L.length ≤ 1000000) (hm2 : M.length ≤ 1000000) (ht : tot L ≤ 4611686018427387904) (ht2 : tot M ≤ 4611686018427387904) (hbase : base ≤ w.heap.size) :
    Calls Tryz.prog 50 #[.slice A L.length c, .slice A2 M.length c2, .int .i64 0] w (RAdd base w (rtake L M 0)) := by
  rw [rtake0]
  by_cases hM : M = []
  · rw [if_pos hM]
    subst hM
    exact take13_none A A2 c c2 base L 0 w h
  rw [if_neg hM]
  by_cases hc : 4611686018427387904 - tot L < tot M
  · rw [if_pos hc]; exact take13_cap_W0 A A2 c c2 base L M 0 w h h2 hm hm2 hM rfl ht ht2 hc
  · rw [if_neg hc]; exact take13_ok_W0 A A2 c c2 base L M 0 w h h2 hm hm2 hM rfl ht hc hbase
end Go.Proofs.YtbfhiegbgkkgiaaGreat
/- Sparse lists of pairs, plain: places, sums, what an insertion makes. No program. -/

namespace Go.Proofs.YtbfhiegbgkkgiaaGreat
namespace Pl
/-- How many keys are less than k. -/
def lo (L : List Pr) (k : Int) : Nat := L.countP (fun p => decide (p.1 < k))
theorem lo_le (L : List Pr) (k : Int) : lo L k ≤ L.length := List.countP_le_length
theorem lo_cons (p : Pr) (L : List Pr) (k : Int) : lo (p :: L) k = lo L k + if p.1 < k then 1 else 0 := by
  unfold lo
  rw [List.countP_cons]
  by_cases h : p.1 < k <;> simp [h]
theorem lo_zero {L : List Pr} {k : Int} (h : ∀ q ∈ L, k ≤ q.1) : lo L k = 0 := by
  unfold lo
  rw [List.countP_eq_zero]
  intro q hq
  have := h q hq
  simp
  omega
theorem lo_iff {L : List Pr} (hs : Srt L) {k : Int} : ∀ {i : Nat} {p : Pr}, L[i]? = some p → (p.1 < k ↔ i < lo L k) := by
  induction L with
  | nil => intro i p h; simp at h
  | cons q L ih =>
    intro i p h
    obtain ⟨h1, h2⟩ := srt_cons.1 hs
    rw [lo_cons]
    cases i with
    | zero =>
      simp at h
      subst h
      by_cases hk : q.1 < k
      · rw [if_pos hk]; omega
      · rw [if_neg hk, lo_zero (fun r hr => by have := h1 r hr; omega)]; omega
    | succ i =>
      have h3 := ih h2 (i := i) (p := p) (by simpa using h)
      have h4 := h1 p (List.mem_of_getElem? (by simpa using h))
      by_cases hk : q.1 < k
      · rw [if_pos hk]; omega
      · rw [if_neg hk, lo_zero (fun r hr => by have := h1 r hr; omega)]; omega
/-- Is there the key k? -/
def hasK (L : List Pr) (k : Int) : Bool := match L[lo L k]? with
  | some p => decide (p.1 = k)
  | none => false
theorem put_cons_lt {p : Pr} {L : List Pr} {k : Int} {n : Nat} (h : p.1 < k) : put (p :: L) k n = p :: put L k n := by rw [put, if_pos h]
/-- A key that isn't there is inserted at its place. -/
theorem put_ins {L : List Pr} (hs : Srt L) {k : Int} {n : Nat} (h : hasK L k = false) : put L k n = L.take (lo L k) ++ (k, n) :: L.drop (lo L k) := by
  induction L with
  | nil => rfl
  | cons p L ih =>
    obtain ⟨h1, h2⟩ := srt_cons.1 hs
    by_cases hk : p.1 < k
    · have e : lo (p :: L) k = lo L k + 1 := by rw [lo_cons, if_pos hk]
      have h3 : hasK L k = false := by
        unfold hasK at h ⊢
        rw [e, List.getElem?_cons_succ] at h
        exact h
      rw [put_cons_lt hk, e, List.take_succ_cons, List.drop_succ_cons, ih h2 h3]
      rfl
    · have e : lo (p :: L) k = 0 := by rw [lo_cons, if_neg hk, lo_zero (fun r hr => by have := h1 r hr; omega)]
      have h3 : p.1 ≠ k := by
        unfold hasK at h
        rw [e] at h
        simpa using h
      rw [put, if_neg hk, if_neg h3, e]
      rfl
/-- A key that is there counts n more. -/
theorem put_set {L : List Pr} (hs : Srt L) {k : Int} {n : Nat} (h : hasK L k = true) : ∃ m, L[lo L k]? = some (k, m) ∧ put L k n = L.set (lo L k) (k, m + n) := by
  induction L with
  | nil => simp [hasK] at h
  | cons p L ih =>
    obtain ⟨h1, h2⟩ := srt_cons.1 hs
    by_cases hk : p.1 < k
    · have e : lo (p :: L) k = lo L k + 1 := by rw [lo_cons, if_pos hk]
      have h3 : hasK L k = true := by
        unfold hasK at h ⊢
        rw [e, List.getElem?_cons_succ] at h
        exact h
      obtain ⟨m, h4, h5⟩ := ih h2 h3
      exact ⟨m, by rw [e, List.getElem?_cons_succ, h4], by rw [put_cons_lt hk, e, List.set_cons_succ, h5]⟩
    · have e : lo (p :: L) k = 0 := by rw [lo_cons, if_neg hk, lo_zero (fun r hr => by have := h1 r hr; omega)]
      have h3 : p.1 = k := by
        unfold hasK at h
        rw [e] at h
        simpa using h
      refine ⟨p.2, by rw [e, ← h3]; rfl, ?_⟩
      rw [put, if_neg hk, if_pos h3, e]
      rfl
theorem hasK_of {L : List Pr} {k : Int} {p : Pr} (h : L[lo L k]? = some p) : hasK L k = decide (p.1 = k) := by unfold hasK; rw [h]
theorem hasK_end {L : List Pr} {k : Int} (h : L.length ≤ lo L k) : hasK L k = false := by unfold hasK; rw [List.getElem?_eq_none h]
theorem tot_take_next {L : List Pr} {i : Nat} {p : Pr} (h : L[i]? = some p) : tot (L.take (i + 1)) = tot (L.take i) + p.2 := by
  rw [List.take_add_one, h, tot_append]
  simp [tot]
theorem tot_take_le' (L : List Pr) (i : Nat) : tot (L.take i) ≤ tot L := by
  have h : tot (L.take i) + tot (L.drop i) = tot L := by rw [← tot_append, List.take_append_drop]
  omega
/-- The sum of all with lesser keys. -/
def below (L : List Pr) (k : Int) : Nat := tot (L.filter (fun p => decide (p.1 < k)))
theorem below_take {L : List Pr} (hs : Srt L) (k : Int) : below L k = tot (L.take (lo L k)) := by
  induction L with
  | nil => rfl
  | cons p L ih =>
    obtain ⟨h1, h2⟩ := srt_cons.1 hs
    unfold below at ih ⊢
    rw [lo_cons, List.filter_cons]
    by_cases hk : p.1 < k
    · rw [if_pos (by simpa using hk), if_pos hk, List.take_succ_cons, tot_cons, tot_cons, ih h2]
    · rw [if_neg (by simpa using hk), if_neg hk, ih h2, lo_zero (fun r hr => by have := h1 r hr; omega)]
      rfl
theorem hasK_iff {L : List Pr} (hs : Srt L) {k : Int} : hasK L k = true ↔ ∃ p ∈ L, p.1 = k := by
  constructor
  · intro h
    obtain ⟨m, h1, _⟩ := put_set hs (n := 0) h
    exact ⟨(k, m), List.mem_of_getElem? h1, rfl⟩
  · rintro ⟨p, hp, rfl⟩
    cases hh : hasK L p.1 with
    | true => rfl
    | false =>
      exfalso
      obtain ⟨i, hi⟩ := List.mem_iff_getElem?.1 hp
      have h1 := lo_iff hs (k := p.1) hi
      have hge : lo L p.1 ≤ i := by
        rcases Nat.lt_or_ge i (lo L p.1) with h | h
        · have := h1.2 h; omega
        · exact h
      have hlt : lo L p.1 < L.length := Nat.lt_of_le_of_lt hge (List.getElem?_eq_some_iff.1 hi).1
      obtain ⟨q, hq⟩ : ∃ q, L[lo L p.1]? = some q := ⟨_, List.getElem?_eq_getElem hlt⟩
      have h2 := lo_iff hs (k := p.1) hq
      have h3 : q.1 ≠ p.1 := by
        rw [hasK_of hq] at hh
        exact of_decide_eq_false hh
      rcases Nat.lt_or_ge (lo L p.1) i with h | h
      · have h4 := List.pairwise_iff_getElem.1 hs (lo L p.1) i hlt (List.getElem?_eq_some_iff.1 hi).1 h
        rw [(List.getElem?_eq_some_iff.1 hq).2, (List.getElem?_eq_some_iff.1 hi).2] at h4
        have : ¬ q.1 < p.1 := fun h => absurd (h2.1 h) (Nat.lt_irrefl _)
        omega
      · have : lo L p.1 = i := by omega
        rw [this, hi] at hq
        injection hq with hq
        exact h3 (by rw [hq])
theorem lo_succ {L : List Pr} (hs : Srt L) (k : Int) : lo L (k + 1) = lo L k + if hasK L k then 1 else 0 := by
  induction L with
  | nil => rfl
  | cons p L ih =>
    obtain ⟨h1, h2⟩ := srt_cons.1 hs
    rw [lo_cons, lo_cons, ih h2]
    by_cases hk : p.1 < k
    · have e : hasK (p :: L) k = hasK L k := by
        rw [Bool.eq_iff_iff, hasK_iff hs, hasK_iff h2]
        constructor
        · rintro ⟨q, hq, rfl⟩
          rcases List.mem_cons.1 hq with rfl | hq
          · omega
          · exact ⟨q, hq, rfl⟩
        · rintro ⟨q, hq, rfl⟩
          exact ⟨q, List.mem_cons_of_mem _ hq, rfl⟩
      rw [if_pos hk, if_pos (show p.1 < k + 1 by omega), e]
      omega
    · have hz : hasK L k = false := by
        cases hh : hasK L k with
        | false => rfl
        | true =>
          obtain ⟨q, hq, rfl⟩ := (hasK_iff h2).1 hh
          have := h1 q hq
          omega
      rw [if_neg hk, hz, lo_zero (fun r hr => by have := h1 r hr; omega)]
      by_cases he : p.1 = k
      · have : hasK (p :: L) k = true := (hasK_iff hs).2 ⟨p, by simp, he⟩
        rw [this, if_pos (show p.1 < k + 1 by omega)]
        simp
      · have : hasK (p :: L) k = false := by
          cases hh : hasK (p :: L) k with
          | false => rfl
          | true =>
            obtain ⟨q, hq, e⟩ := (hasK_iff hs).1 hh
            rcases List.mem_cons.1 hq with rfl | hq
            · exact absurd e he
            · have := h1 q hq
              omega
        rw [this, if_neg (show ¬ p.1 < k + 1 by omega)]
        simp
/-- Keys have bounds: what is beyond them has no other place. -/
theorem lo_clamp {L : List Pr} (hk : ∀ p ∈ L, -1048576 ≤ p.1 ∧ p.1 ≤ 1048576) {k kk : Int} (h : kk = k ∨ (1048577 ≤ kk ∧ 1048577 ≤ k) ∨ (kk ≤ -1048576 ∧ k ≤ -1048576)) : lo L kk = lo L k := by
  unfold lo
  refine List.countP_congr fun p hp => ?_
  have := hk p hp
  simp only [decide_eq_true_eq]
  omega
/-- The key of a rank. -/
def rank : List Pr → Nat → Int
  | [], _ => 0
  | p :: L, r => if r ≤ p.2 then p.1 else rank L (r - p.2)
theorem rank_at {L : List Pr} {i : Nat} {p : Pr} {r : Nat} (hp : L[i]? = some p) (h1 : tot (L.take i) < r) (h2 : r ≤ tot (L.take i) + p.2) : rank L r = p.1 := by
  induction L generalizing i r with
  | nil => simp at hp
  | cons q L ih =>
    cases i with
    | zero =>
      simp at hp
      subst hp
      rw [List.take_zero, tot_nil] at h1 h2
      rw [rank, if_pos (by omega)]
    | succ i =>
      rw [List.take_succ_cons, tot_cons] at h1 h2
      rw [rank, if_neg (by omega)]
      exact ih (by simpa using hp) (by omega) (by omega)
/-- The m greatest keys; the least of them counts all that is cut off, too. -/
def cutI (L : List Pr) (i : Nat) : List Pr := match L.drop i with
  | [] => []
  | p :: R => (p.1, p.2 + tot (L.take i)) :: R
def cutN (m : Int) : Nat := (max m 1).toNat
def cutL (L : List Pr) (m : Int) : List Pr × Nat := if L.length ≤ cutN m then (L, 0) else (cutI L (L.length - cutN m), tot (L.take (L.length - cutN m)))
theorem cutI_len (L : List Pr) (i : Nat) : (cutI L i).length = L.length - i := by
  unfold cutI
  rw [← List.length_drop]
  cases L.drop i <;> rfl
theorem cutI_tot {L : List Pr} {i : Nat} (h : i < L.length) : tot (cutI L i) = tot L := by
  have h1 : tot (L.take i) + tot (L.drop i) = tot L := by rw [← tot_append, List.take_append_drop]
  unfold cutI
  cases hd : L.drop i with
  | nil =>
    have := congrArg List.length hd
    rw [List.length_drop] at this
    simp at this
    omega
  | cons p R =>
    rw [hd, tot_cons] at h1
    rw [tot_cons]
    omega
theorem drop_srt {L : List Pr} (hs : Srt L) (i : Nat) : Srt (L.drop i) := List.Pairwise.sublist (List.drop_sublist i L) hs
theorem cutI_srt {L : List Pr} (hs : Srt L) (i : Nat) : Srt (cutI L i) := by
  have h := drop_srt hs i
  unfold cutI
  cases hd : L.drop i with
  | nil => exact Srt.nil
  | cons p R =>
    rw [hd] at h
    exact srt_cons.2 ⟨(srt_cons.1 h).1, (srt_cons.1 h).2⟩
theorem cutI_pos {L : List Pr} (hp : Pos L) (i : Nat) : Pos (cutI L i) := by
  have h : Pos (L.drop i) := fun p hq => hp p (List.mem_of_mem_drop hq)
  unfold cutI
  cases hd : L.drop i with
  | nil => exact Pos.nil
  | cons p R =>
    rw [hd] at h
    exact pos_cons.2 ⟨by have := (pos_cons.1 h).1; simp only; omega, (pos_cons.1 h).2⟩
theorem cutI_keys {L : List Pr} {i : Nat} {P : Int → Prop} (h : ∀ p ∈ L, P p.1) : ∀ p ∈ cutI L i, P p.1 := by
  unfold cutI
  cases hd : L.drop i with
  | nil => intro p hp; cases hp
  | cons q R =>
    have hm : ∀ p ∈ q :: R, P p.1 := fun p hp => h p (List.mem_of_mem_drop (by rw [hd]; exact hp))
    intro p hp
    rcases List.mem_cons.1 hp with rfl | hp
    · exact hm q (by simp)
    · exact hm p (by simp [hp])
end Pl
end Go.Proofs.YtbfhiegbgkkgiaaGreat
/- copy, and append of zero values that must grow, for elements of several cells. Over any program. -/

namespace Go.Proofs.YtbfhiegbgkkgiaaGreat
open Go.RowKit
section
variable {P : Program} {w : World}
theorem run_copy_sz (dT sT ty elem : TypeId) (g off dLen dCap : Nat) (ad : Addr) (sLen sCap : Nat) (cur : Array Value) (t : TypeId) (cs : List Value) (size n : Nat)
    (hu : P.underlying dT = some (.slice elem)) (hs : (P.info? elem).map (·.size) = some size)
    (hg : w.heap[g]? = some (.cells cur t (0, 0))) (hn : n = Nat.min sLen dLen) (hcs : cs.length = n * size)
    (hsrc : ∀ j v, cs[j]? = some v → w.cell? (ad.add j) = some v) (hfit : off + cs.length ≤ cur.size) (h1 : ∀ v ∈ cs, v.oneCell' = true) :
    (Builtin.copy_ #[dT, sT] ty #[.slice (some ⟨g, off, none⟩) dLen dCap, .slice (some ad) sLen sCap]).run P w =
      .ok (goInt n) (w.setRow g (cur.toList.take off ++ cs ++ cur.toList.drop (off + cs.length)).toArray) := by
  cases hq : P.info? elem with
  | none => simp [hq] at hs
  | some i =>
    have hi : i.size = size := by simpa [hq] using hs
    have hf := run_firstCells_some (P := P) (w := w) i.size n ad sLen sCap cs (by rw [hi]; exact hcs) hsrc
    have hst := run_storeCells_at P g off t cs 0 cur w hg (by simpa using hfit) h1
    simp only [Nat.add_zero] at hst
    simp [Builtin.copy_, run_underlying hu, Builtin.lenOf, sizeOf, typeInfo, hq, ← hn, hf, hst]
theorem wp_copy_run {o : Oper} {a : Act} {K : Act → World → Prop} {Q : Exit → Act → World → Prop} (d s : Operand) (t t' : TypeId)
    (ho : o.op = .call { callee := .builtin .copy, args := #[d, s], argTypes := #[t, t'] }) (v u : Value) (hd : a.eval d = v) (hs : a.eval s = u) {v' : Value} {w' : World}
    (hr : (Builtin.copy_ #[t, t'] o.type #[v, u]).run P w = .ok v' w') (h : K (a.put o.dst v') w') : o.wp P a w K Q := by
  unfold Oper.wp execOp
  simp only [ho, resolve, invoke, builtin, Sem.run_bind, Sem.run_pure, Result.andThen_ok, List.map_toArray, List.map_cons, List.map_nil, hd, hs, hr]
  exact h
theorem wpList_copy_run {ops : Array Oper} {rest : List Oper} {o : Oper} {a : Act} {Q : Exit → Act → World → Prop} (hgd : o.guard = none) (d s : Operand) (t t' : TypeId)
    (ho : o.op = .call { callee := .builtin .copy, args := #[d, s], argTypes := #[t, t'] }) (v u : Value) (hd : a.eval d = v) (hs : a.eval s = u) {v' : Value} {w' : World}
    (hr : (Builtin.copy_ #[t, t'] o.type #[v, u]).run P w = .ok v' w') (h : wpList P ops Q rest (a.put o.dst v') w') : wpList P ops Q (o :: rest) a w :=
  wpList_plain hgd fun _ hK => wp_copy_run d s t t' ho v u hd hs hr (hK _ _ h)
theorem step_copy_run {ops : Array Oper} {o : Oper} {a : Act} {K : Act → World → Prop} {Q : Exit → Act → World → Prop} {E : Prop} (hgd : o.guard = none) (d s : Operand) (t t' : TypeId)
    (ho : o.op = .call { callee := .builtin .copy, args := #[d, s], argTypes := #[t, t'] }) (v u : Value) (hd : a.eval d = v) (hs : a.eval s = u) {v' : Value} {w' : World}
    (hr : (Builtin.copy_ #[t, t'] o.type #[v, u]).run P w = .ok v' w') (h : K (a.put o.dst v') w') :
    if Region.wanted o (yielded ops a.tmps) = true then Oper.wp P o a w K Q else E := by
  have hw : Region.wanted o (yielded ops a.tmps) = true := by simp [Region.wanted, hgd]
  rw [if_pos hw]
  exact wp_copy_run d s t t' ho v u hd hs hr h
/-- 'append(s, make([]T, m)...)' where there is no room: a new row; what stands in its first places is known. -/
theorem run_grow_zeros {t ti ty e : TypeId} {i : TypeInfo} {z : Value} {size bytes : Nat} (ht : P.underlying t = some (.slice e)) (hti : P.underlying ti = some (.int .i64)) (hi : P.info? e = some i) (hz : i.zero = some z) (hsize : i.size = size) (hby : i.bytes = bytes) (hzs : z.cells.size = size)
    (ad : Addr) (n old : Nat) (xs : List Value) (hx : xs.length = n * size) (hc : ∀ j u, xs[j]? = some u → w.cell? (ad.add j) = some u)
    (m : Nat) (hm : 1 ≤ m) (ho : old < n + m) (h63 : n + m ≤ 140737488355328) (hbytes : (n + m) * bytes ≤ 140737488355328) :
    ∃ c' cs, (Builtin.append_ #[t, ti] ty #[.slice (some ad) n old, .int .i64 (m : Int)]).run P w = .ok (.slice (some ⟨w.heap.size, 0, none⟩) (n + m) c') (w.drew.alloc (.cells cs e)) ∧ cs.size = c' * size ∧ n + m ≤ c' ∧ c' ≤ maxLen ∧ cs.toList.take (n * size) = xs := by
  subst hby
  subst hsize
  have hml : n + m ≤ maxLen := by unfold maxLen; omega
  have hmb : m * i.bytes ≤ 140737488355328 := Nat.le_trans (Nat.mul_le_mul_right _ (by omega)) hbytes
  have hwrap : IntKind.i64.wrap (m : Int) = (m : Int) := IntWalk.i64_in _ ⟨by omega, by omega⟩
  have hmb2 : ¬ (281474976710656 : Int) < (m : Int) * (i.bytes : Int) := by
    have : ((m * i.bytes : Nat) : Int) ≤ 140737488355328 := by omega
    rw [Int.natCast_mul] at this
    omega
  have hneg : ¬ ((m : Int) < 0) := by omega
  have h63' : ¬ (9223372036854775807 < ((n : Int) + (m : Int))) := by omega
  have hold' := run_firstCells_some (P := P) (w := w.drew) i.size n ad n old xs hx (by simpa using hc)
  have hnx : Builtin.nextslicecap (n + m) old * i.bytes ≤ 281474976710656 := growslice_fits (by omega) hbytes
  have hge := grownCap_ge w (n + m) old e
  have hcm : grownCap w (n + m) old e ≤ maxLen := grownCap_le_maxLen w (n + m) old e hml
  have hn : ¬ (n + m ≤ old) := by omega
  have h48' : ¬ (281474976710656 < Builtin.nextslicecap (n + m) old * i.bytes) := by omega
  refine ⟨grownCap w (n + m) old e, xs.toArray ++ Builtin.zeroCells z.cells m ++ Builtin.zeroCells z.cells (grownCap w (n + m) old e - (n + m)), ?_, ?_, hge, hcm, ?_⟩
  · simp [Builtin.append_, run_underlying ht, run_underlying hti, sizeOf, typeInfo, zeroValue, hi, hz, asInt, asIntOf, hwrap, hneg, hmb2, hn, h63', h48', Question.forced, hold', newRow, grownCap]
    intro h0
    have e0 : Builtin.zeroCells z.cells m = #[] := Array.eq_empty_of_size_eq_zero (by rw [size_zeroCells, hzs]; exact h0)
    rw [e0]
    simp
  · simp only [Array.size_append, List.size_toArray, size_zeroCells, hzs, hx, ← Nat.add_mul]
    congr 1
    omega
  · simp only [Array.toList_append, List.append_assoc]
    rw [← hx]
    exact List.take_left
theorem wpList_append_run {ops : Array Oper} {rest : List Oper} {o : Oper} {a : Act} {Q : Exit → Act → World → Prop} (hgd : o.guard = none) (d s : Operand) (t t' : TypeId)
    (ho : o.op = .call { callee := .builtin .append, args := #[d, s], argTypes := #[t, t'] }) (v u : Value) (hd : a.eval d = v) (hs : a.eval s = u) {v' : Value} {w' : World}
    (hr : (Builtin.append_ #[t, t'] o.type #[v, u]).run P w = .ok v' w') (h : wpList P ops Q rest (a.put o.dst v') w') : wpList P ops Q (o :: rest) a w :=
  wpList_plain hgd fun _ hK => by
    unfold Oper.wp execOp
    simp only [ho, resolve, invoke, builtin, Sem.run_bind, Sem.run_pure, Result.andThen_ok, List.map_toArray, List.map_cons, List.map_nil, hd, hs, hr]
    exact hK _ _ h
end
end Go.Proofs.YtbfhiegbgkkgiaaGreat
/- A region that draws its order, walked by hand: a condition S holds till operation L (the last store, say) has been carried out; what yields its value in every world that meets S, and for which L waits, is taken first. After the kit's own laws on 'wpAnyH', which ask S behind L, too. -/

namespace Go.Proofs.YtbfhiegbgkkgiaaGreat
open Go.RowKit
section
variable {P : Program} {ops : Array Oper} {Q : Exit → Act → World → Prop} {md : Region.Mode} {S : World → Prop} {L : Nat}

/-- Does operation j wait for i, at once or through others? -/
def awaits (md : Region.Mode) (ops : Array Oper) (i : Nat) : Nat → Nat → Bool
  | 0, _ => false
  | n + 1, j => match ops[j]? with
    | none => false
    | some o => o.after.any fun e => Region.binds md e && (e.on == i || awaits md ops i n e.on)
/-- What has come up came behind all that it waits for. -/
def Good (md : Region.Mode) (ops : Array Oper) (listed : Array Bool) : Prop := ∀ k o, ops[k]? = some o → listed.getD k false = true → ∀ e ∈ o.after, Region.binds md e = true → listed.getD e.on false = true
def goodB (md : Region.Mode) (ops : Array Oper) (listed : Array Bool) : Bool := (List.range ops.size).all fun k => !(listed.getD k false) || match ops[k]? with
  | none => true
  | some o => o.after.all fun e => !(Region.binds md e) || listed.getD e.on false
theorem good_of {listed : Array Bool} (h : goodB md ops listed = true) : Good md ops listed := by
  intro k o hk hl e he hb
  unfold goodB at h
  rw [List.all_eq_true] at h
  have h1 := h k (List.mem_range.2 (Array.getElem?_eq_some_iff.1 hk).1)
  rw [hl, hk] at h1
  simp only [Bool.not_true, Bool.false_or] at h1
  rw [Array.all_eq_true'] at h1
  have h2 := h1 e he
  rw [hb] at h2
  simpa using h2
theorem Good.step {listed : Array Bool} {j : Nat} (h : Good md ops listed) (hj : j ∈ Region.ready md ops listed) : Good md ops (listed.setIfInBounds j true) := by
  intro k o hk hl e he hb
  refine getD_set_true ?_
  by_cases hjk : j = k
  · subst hjk
    obtain ⟨_, oj, hoj, hall⟩ := mem_ready.1 hj
    rw [hoj] at hk
    injection hk with hk
    subst hk
    exact hall e he hb
  · rw [getD_set_ne false hjk] at hl
    exact h k o hk hl e he hb
theorem awaits_listed {listed : Array Bool} {i : Nat} (hg : Good md ops listed) : ∀ (n j : Nat) (o : Oper), awaits md ops i n j = true → ops[j]? = some o → (∀ e ∈ o.after, Region.binds md e = true → listed.getD e.on false = true) → listed.getD i false = true := by
  intro n
  induction n with
  | zero => intro j o h; simp [awaits] at h
  | succ n ih =>
    intro j o h hj hall
    simp only [awaits, hj] at h
    rw [Array.any_eq_true'] at h
    obtain ⟨e, he, h2⟩ := h
    simp only [Bool.and_eq_true, Bool.or_eq_true, beq_iff_eq] at h2
    obtain ⟨hb, h3⟩ := h2
    have hl := hall e he hb
    rcases h3 with h3 | h3
    · rw [← h3]; exact hl
    · cases hk : ops[e.on]? with
      | none =>
        cases n with
        | zero => simp [awaits] at h3
        | succ n => simp [awaits, hk] at h3
      | some o2 => exact ih e.on o2 h3 hk (fun e2 he2 hb2 => hg e.on o2 hk hl e2 he2 hb2)
theorem not_ready {listed : Array Bool} {i n : Nat} (hg : Good md ops listed) (ha : awaits md ops i n L = true) (hun : listed.getD i true = false) : ¬ L ∈ Region.ready md ops listed := by
  intro h
  obtain ⟨_, o, ho, hall⟩ := mem_ready.1 h
  have h1 := awaits_listed hg n L o ha ho hall
  rcases Nat.lt_or_ge i listed.size with h' | h'
  · simp [h'] at hun h1
    rw [hun] at h1
    cases h1
  · simp [Array.getElem?_eq_none h'] at h1

def wpAnyT (P : Program) (md : Region.Mode) (ops : Array Oper) (Q : Exit → Act → World → Prop) (S : World → Prop) (L : Nat) : Nat → Array Bool → Act → World → Prop
  | 0, listed, a, w => Region.ready md ops listed = [] ∧ Q .normal a w
  | fuel + 1, listed, a, w =>
    (Region.ready md ops listed = [] → Q .normal a w) ∧
    ∀ i ∈ Region.ready md ops listed, wpOp P ops Q i (fun a' w' => (i ≠ L → S w') ∧ wpAnyT P md ops Q S L fuel (listed.setIfInBounds i true) a' w') a w
theorem wpAny_of_T : ∀ (fuel : Nat) (listed : Array Bool) (a : Act) (w : World), wpAnyT P md ops Q S L fuel listed a w → wpAny P md ops Q fuel listed a w
  | 0, _, _, _, h => h
  | fuel + 1, _, _, _, h => ⟨h.1, fun i hi => wpOp_mono (fun a' w' h' => wpAny_of_T fuel _ a' w' h'.2) (h.2 i hi)⟩
theorem wpAnyT_first {i n : Nat} {oi : Oper} {v : Value} (hi : ops[i]? = some oi) (hsel : ∀ (j : Nat) (o : Oper) cs b, ops[j]? = some o → o.op ≠ .select cs b)
    (hQ : ∀ c a w, Q (.panic c) (a.put oi.dst v) w → Q (.panic c) a w) (ha : awaits md ops i n L = true) :
    ∀ (fuel : Nat) (listed : Array Bool) (a : Act) (w : World), Good md ops listed →
      (∀ j oj, ops[j]? = some oj → j ≠ i → listed.getD j true = false → (∀ e ∈ oj.after, Region.binds md e = true → e.on ≠ i) → oi.apart ops oj = true) →
      i ∈ Region.ready md ops listed → YieldsIf P ops S oi v a → S w →
      wpAnyT P md ops Q S L fuel (listed.setIfInBounds i true) (a.put oi.dst v) w → wpAnyT P md ops Q S L (fuel + 1) listed a w := by
  intro fuel
  induction fuel with
  | zero =>
    intro listed a w _ _ hr hy hS H
    refine ⟨fun h => (by rw [h] at hr; cases hr), fun j hj => ?_⟩
    by_cases hji : j = i
    · subst hji; exact hy.wpOp hi hS ⟨fun _ => hS, H⟩
    · have := ready_mono hj hji
      rw [H.1] at this
      cases this
  | succ fuel ih =>
    intro listed a w hg hfree hr hy hS H
    refine ⟨fun h => (by rw [h] at hr; cases hr), fun j hj => ?_⟩
    by_cases hji : j = i
    · subst hji; exact hy.wpOp hi hS ⟨fun _ => hS, H⟩
    · have hjL : j ≠ L := by
        rintro rfl
        exact not_ready hg ha (mem_ready.1 hr).1 hj
      have h1 := H.2 j (ready_mono hj hji)
      obtain ⟨hjun, oj, hoj, hall⟩ := mem_ready.1 hj
      have hnot : ∀ e ∈ oj.after, Region.binds md e = true → e.on ≠ i := fun e he hb heq => by
        have h1 := hall e he hb
        have h0 := (mem_ready.1 hr).1
        rw [heq] at h1
        rcases Nat.lt_or_ge i listed.size with h' | h'
        · simp [h'] at h0 h1; rw [h0] at h1; cases h1
        · simp [Array.getElem?_eq_none h'] at h1
      have h2 := wpOp_putIf hoj (hfree j oj hoj hji hjun hnot) (fun cs b => hsel i oi cs b hi) (fun cs b => hsel j oj cs b hoj) hQ hy h1
      have hfree' : ∀ k ok, ops[k]? = some ok → k ≠ i → (listed.setIfInBounds j true).getD k true = false →
          (∀ e ∈ ok.after, Region.binds md e = true → e.on ≠ i) → oi.apart ops ok = true := fun k ok hk hki hun hno => by
        refine hfree k ok hk hki ?_ hno
        by_cases hjk : j = k
        · subst hjk; exact hjun
        · rw [getD_set_ne true hjk] at hun; exact hun
      refine wpOp_mono (fun a' w' h3 => ⟨h3.2.1, ih (listed.setIfInBounds j true) a' w' (hg.step hj) hfree' (ready_mono hr (Ne.symm hji)) h3.1 (h3.2.1 hjL) ?_⟩) h2
      rw [Array.setIfInBounds_comm _ _ hji]
      exact h3.2.2
/-- Take number i first. -/
theorem wpAnyT_take {i : Nat} {oi : Oper} {v : Value} {fuel : Nat} {listed : Array Bool} {a : Act} {w : World} (hi : ops[i]? = some oi)
    (hs : Region.noSelect ops = true) (hf : Region.free md ops listed i = true) (hr : (Region.ready md ops listed).contains i = true)
    (hga : (goodB md ops listed && awaits md ops i ops.size L) = true)
    (hQ : ∀ c a w, Q (.panic c) (a.put oi.dst v) w → Q (.panic c) a w) (hy : YieldsIf P ops S oi v a) (hS : S w)
    (h : wpAnyT P md ops Q S L fuel (listed.setIfInBounds i true) (a.put oi.dst v) w) : wpAnyT P md ops Q S L (fuel + 1) listed a w := by
  rw [Bool.and_eq_true] at hga
  exact wpAnyT_first hi (Region.noSelect_spec hs) hQ hga.2 fuel listed a w (good_of hga.1) (Region.free_spec hi hf) (by simpa using hr) hy hS h
/-- One operation alone may come up: it is carried out; behind it S is shown anew (but behind L). -/
theorem wpAnyT_one {i : Nat} {o : Oper} {fuel : Nat} {listed : Array Bool} {a : Act} {w : World} (ho : ops[i]? = some o) (hr : Region.ready md ops listed = [i])
    (h : ∀ K' : Act → World → Prop, Shut (∀ a w, (i ≠ L → S w) → ((i ≠ L → S w) → wpAnyT P md ops Q S L fuel (listed.setIfInBounds i true) a w) → K' a w) → if Region.wanted o (yielded ops a.tmps) = true then Oper.wp P o a w K' Q else K' (a.put o.dst undef) w) :
    wpAnyT P md ops Q S L (fuel + 1) listed a w := by
  refine ⟨fun h0 => (by rw [hr] at h0; cases h0), fun j hj => ?_⟩
  rw [hr, List.mem_singleton] at hj
  subst hj
  exact wpOp_step ho (fun K' hK => h K' (fun a w hS hW => hK a w ⟨hS, hW hS⟩))
theorem wpAnyT_done {listed : Array Bool} {a : Act} {w : World} (hr : Region.ready md ops listed = []) (h : Q .normal a w) : ∀ fuel, wpAnyT P md ops Q S L fuel listed a w
  | 0 => ⟨hr, h⟩
  | _ + 1 => ⟨fun _ => h, by rw [hr]; simp⟩
theorem wp_region_T {id : Nat} {a : Act} {w : World} (hm : P.follows .mixedOrders = true) (hS : S w.drew) (h : S w.drew → wpAnyT P .any ops Q S L ops.size (Array.replicate ops.size false) a w.drew) : (Code.region id ops true).wp P Q a w :=
  wp_region_any hm (wpAny_of_T _ _ _ _ (h hS))
end
end Go.Proofs.YtbfhiegbgkkgiaaGreat
