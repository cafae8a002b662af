/- The document's Take without a window, walked (after Ref13C). -/
import Derived.Test.YtmpmjgoipfgfoaaRef13B
import Derived.Deep.RegionHeld3
namespace Go.Proofs.Ytmpmjgoipfgfoaa
open Go.RowKit
open Pl
/-- The document's Take: the list, the error's number; window 0: there is none. -/
def wideLL (L M : List Pr) : Int := match L.head?, L.getLast?, M.head?, M.getLast? with
  | some p, some q, some p', some q' => max q.1 q'.1 - min p.1 p'.1 + 1
  | _, _, _, _ => 0
def rtake (L M : List Pr) (W : Nat) : List Pr × Int :=
  if M = [] then (L, 0) else if 0 < W ∧ L ≠ [] ∧ (W : Int) < wideLL L M then (L, 130) else if 4611686018427387904 - tot L < tot M then (L, 6) else (puts L M, 0)
theorem nat_len_zero {α : Type} {l : List α} (h : l.length = 0) : ((l.length : Int) == 0) = true := by simp; exact List.length_eq_zero_iff.1 h
theorem nat_len_ne {α : Type} {l : List α} (h : l ≠ []) : ((l.length : Int) == 0) = false := by simp [h]
set_option maxHeartbeats 800000 in
theorem take13_none (A A2 : Option Addr) (c c2 base : Nat) (L : List Pr) (W : Nat) (w : World) (h : OwnP w base A c L) :
    Calls Try.prog 23 #[.slice A L.length c, .slice A2 ([] : List Pr).length c2, .int .i64 (W : Int)] w (RAdd base w (L, 0)) := by
  have HH := Lib.hid h
  clear h
  go_enter Try.func23, Try.ntmps23
  go_wp2_with fail
  go_ret2
  exact ⟨A, c, rfl, HH.out, Below.refl _ _⟩
theorem puts_tot {L M : List Pr} : tot (puts L M) = tot L + tot M := by
  induction M generalizing L with
  | nil => simp [puts, tot]
  | cons p M ih => rw [show puts L (p :: M) = puts (put L p.1 p.2) M from rfl, ih, put_tot, tot_cons]; omega
set_option maxHeartbeats 3200000 in
theorem take13_cap_W0 (A A2 : Option Addr) (c c2 base : Nat) (L M : List Pr) (W : Nat) (w : World) (h : OwnP w base A c L) (h2 : Prs w w.heap.size A2 M) (hm : L.length ≤ 1000000) (hm2 : M.length ≤ 1000000) (hM : M ≠ []) (hw0 : W = 0) (ht : tot L ≤ 4611686018427387904) (ht2 : tot M ≤ 4611686018427387904) (hc : 4611686018427387904 - tot L < tot M) :
    Calls Try.prog 23 #[.slice A L.length c, .slice A2 M.length c2, .int .i64 (W : Int)] w (RAdd base w (L, 6)) := by
  have HTM := fun B W' h => total13_t A2 c2 B M W' h (by unfold maxLen; omega) (by omega)
  have HTL := fun B W' h => total13_t A c B L W' h (by unfold maxLen; omega) (by omega)
  replace HTM := Lib.hid HTM
  replace HTL := Lib.hid HTL
  have htl : ((tot L : Nat) : Int) ≤ 4611686018427387904 := by omega
  have dd : decide (4611686018427387904 - ((tot L : Nat) : Int) < ((tot M : Nat) : Int)) = true := by simp; omega
  obtain ⟨b0, o0, rfl, hb0, hcell0⟩ := h2.at_ (List.length_pos_iff.2 hM)
  clear hcell0 hb0
  subst hw0
  have HH := Lib.hid h
  have HH2 := Lib.hid h2
  have hzM := nat_len_ne hM
  clear h h2 hc hM
  go_enter Try.func23, Try.ntmps23
  go_wp2_with fail
  refine (HTM.out w.heap.size _ (HH2.out)).mono ?_
  rintro e w1 ⟨rfl, hw1⟩
  obtain rfl := hw1.symm
  go_wp2_with fail
  refine (HTL.out w.heap.size _ (HH.out.reads)).mono ?_
  rintro e w1 ⟨rfl, hw1⟩
  obtain rfl := hw1.symm
  go_wp2_with fail
  go_ret2
  exact ⟨_, c, rfl, HH.out, Below.refl _ _⟩
set_option maxHeartbeats 3200000 in
theorem take13_ok_W0 (A A2 : Option Addr) (c c2 base : Nat) (L M : List Pr) (W : Nat) (w : World) (h : OwnP w base A c L) (h2 : Prs w w.heap.size A2 M) (hm : L.length ≤ 1000000) (hm2 : M.length ≤ 1000000) (hM : M ≠ []) (hw0 : W = 0) (ht : tot L ≤ 4611686018427387904) (hc : ¬ 4611686018427387904 - tot L < tot M) (hbase : base ≤ w.heap.size) :
    Calls Try.prog 23 #[.slice A L.length c, .slice A2 M.length c2, .int .i64 (W : Int)] w (RAdd base w (puts L M, 0)) := by
  have HTM := fun B W' h => total13_t A2 c2 B M W' h (by unfold maxLen; omega) (by omega)
  have HTL := fun B W' h => total13_t A c B L W' h (by unfold maxLen; omega) (by omega)
  replace HTM := Lib.hid HTM
  replace HTL := Lib.hid HTL
  have htl : ((tot L : Nat) : Int) ≤ 4611686018427387904 := by omega
  have htot : tot L + tot M ≤ 4611686018427387904 := by omega
  have HTOT := Lib.hid htot
  have HBASE := Lib.hid hbase
  have hbl0 : Below w.heap.size w w := Below.refl _ _
  have dd : decide (4611686018427387904 - ((tot L : Nat) : Int) < ((tot M : Nat) : Int)) = false := by simp; omega
  obtain ⟨b0, o0, rfl, hb0, hcell0⟩ := h2.at_ (List.length_pos_iff.2 hM)
  clear hcell0 hb0
  subst hw0
  have HH := Lib.hid h
  have HH2 := Lib.hid h2
  have hzM := nat_len_ne hM
  clear h h2 hc hM
  go_enter Try.func23, Try.ntmps23
  go_wp2_with fail
  refine (HTM.out w.heap.size _ (HH2.out)).mono ?_
  rintro e w1 ⟨rfl, hw1⟩
  obtain rfl := hw1.symm
  go_wp2_with fail
  refine (HTL.out w.heap.size _ (HH.out.reads)).mono ?_
  rintro e w1 ⟨rfl, hw1⟩
  obtain rfl := hw1.symm
  go_wp2_with fail
  go_loopw [10, 11] (fun v i wr => ∃ (k : Nat) (A' : Option Addr) (c' : Nat), k ≤ M.length ∧ i = .int .i64 k ∧ v = .slice A' (puts L (M.take k)).length c' ∧ OwnP wr base A' c' (puts L (M.take k)) ∧ Below w.heap.size w wr) (fun _ i _ => M.length - (intOf i).toNat)
  case atStart => exact ⟨0, _, c, Nat.zero_le _, rfl, rfl, HH.out, hbl0⟩
  case round =>
    obtain ⟨k, A', c', hk, rfl, rfl, hown, hbel⟩ := hrel
    by_cases hlt : k < M.length
    · obtain ⟨b, o, hA2, hbl2, hcell⟩ := Prs.at_ HH2.out (by omega)
      obtain ⟨rfl, rfl⟩ : b = b0 ∧ o = o0 := by
        simp only [Option.some.injEq, Addr.mk.injEq] at hA2
        exact ⟨hA2.1.symm, hA2.2.1.symm⟩
      obtain ⟨⟨x1, x2⟩, hp⟩ : ∃ p, M[k]? = some p := ⟨M[k], by simp [hlt]⟩
      obtain ⟨g1, g2⟩ := hcell k _ hp
      simp only at g1 g2
      have hnx : puts L (M.take (k + 1)) = put (puts L (M.take k)) x1 x2 := by
        obtain ⟨h1, e⟩ := List.getElem?_eq_some_iff.1 hp
        rw [List.take_succ_eq_append_getElem h1, e, puts_snoc]
      have hol := puts_len (l := L) (m := M.take k)
      rw [List.length_take] at hol
      have htt := puts_tot (L := L) (M := M.take k)
      have htk := tot_take_le (L := M) (k := k)
      have htot := HTOT.out
      have htk1 : tot (M.take k) + x2 ≤ tot M := by
        obtain ⟨h1, e⟩ := List.getElem?_eq_some_iff.1 hp
        have t1 := tot_take h1
        have t2 := tot_take_le (L := M) (k := k + 1)
        rw [e] at t1
        simp only at t1
        omega
      have hx2 := tot_le_of_mem (List.mem_of_getElem? hp)
      simp only at hx2
      have HPU := fun W' A' c' h => put13_t A' c' (puts L (M.take k)) x1 x2 W' h (by omega) (by omega)
      replace HPU := Lib.hid HPU
      have hkk : (k : Int) < (M.length : Int) := by omega
      have hk0 : (0 : Int) ≤ (k : Int) := by omega
      have d1 : wr.cell? ⟨b, o + k * 2, none⟩ = some (.int .i64 x1) := (hbel.cell (p := ⟨b, o + k * 2, none⟩) hbl2).trans g1
      have d2 : wr.cell? ⟨b, o + k * 2 + 1, none⟩ = some (.int .u64 (x2 : Nat)) := (hbel.cell (p := ⟨b, o + k * 2 + 1, none⟩) hbl2).trans g2
      have HL := Lib.hid hlt
      have HO := Lib.hid hown
      have HB := Lib.hid hbel
      have HN := Lib.hid hnx
      clear hp g1 g2 hcell hlt hown hbel hk hnx hol htt htk hx2 hA2 htot htk1
      generalize puts L (M.take k) = out at *
      go_wp2_with fail
      refine wp_region_noPanic ?_
      refine wp_region_held_drew (S := (fun w' => w'.cell? ⟨b, o + k * 2, none⟩ = some (.int .i64 x1) ∧ w'.cell? ⟨b, o + k * 2 + 1, none⟩ = some (.int .u64 (x2 : Nat)))) (by kernel_rfl) ⟨d1, d2⟩ (fun hHeld => ?_)
      refine wpAnyH_take (i := 0) (oi := ?_) (v := ?_) ?_ ?_ ?_ ?_ ?_ ?_ ?_ ?_
      rotate_left 2
      · simp only [List.getElem?_toArray, List.getElem?_cons_zero]; rfl
      · kernel_rfl
      · kernel_rfl
      · kernel_rfl
      · exact fun _ _ _ h => h
      · exact Or.inl ⟨by kernel_rfl, by intro w hSw; (try dsimp only at hSw); go_simp; try with_reducible rfl⟩
      · assumption
      try go_simp
      refine wpAnyH_take (i := 1) (oi := ?_) (v := ?_) ?_ ?_ ?_ ?_ ?_ ?_ ?_ ?_
      rotate_left 2
      · simp only [List.getElem?_toArray, List.getElem?_cons_succ, List.getElem?_cons_zero]; rfl
      · kernel_rfl
      · kernel_rfl
      · kernel_rfl
      · exact fun _ _ _ h => h
      · exact Or.inl ⟨by kernel_rfl, by intro w hSw; (try dsimp only at hSw); go_simp; try with_reducible rfl⟩
      · assumption
      try go_simp
      refine wpAnyH_take (i := 2) (oi := ?_) (v := ?_) ?_ ?_ ?_ ?_ ?_ ?_ ?_ ?_
      rotate_left 2
      · simp only [List.getElem?_toArray, List.getElem?_cons_succ, List.getElem?_cons_zero]; rfl
      · kernel_rfl
      · kernel_rfl
      · kernel_rfl
      · exact fun _ _ _ h => h
      · exact Or.inl ⟨by kernel_rfl, by intro w hSw; (try dsimp only at hSw); go_simp; try with_reducible rfl⟩
      · assumption
      try go_simp
      refine wpAnyH_take (i := 3) (oi := ?_) (v := ?_) ?_ ?_ ?_ ?_ ?_ ?_ ?_ ?_
      rotate_left 2
      · simp only [List.getElem?_toArray, List.getElem?_cons_succ, List.getElem?_cons_zero]; rfl
      · kernel_rfl
      · kernel_rfl
      · kernel_rfl
      · exact fun _ _ _ h => h
      · exact Or.inl ⟨by kernel_rfl, by intro w hSw; (try dsimp only at hSw); go_simp; try with_reducible rfl⟩
      · assumption
      try go_simp
      refine wpAnyH_take (i := 4) (oi := ?_) (v := ?_) ?_ ?_ ?_ ?_ ?_ ?_ ?_ ?_
      rotate_left 2
      · simp only [List.getElem?_toArray, List.getElem?_cons_succ, List.getElem?_cons_zero]; rfl
      · kernel_rfl
      · kernel_rfl
      · kernel_rfl
      · exact fun _ _ _ h => h
      · exact Or.inl ⟨by kernel_rfl, by intro w hSw; (try dsimp only at hSw); go_simp; try with_reducible rfl⟩
      · assumption
      try go_simp
      refine wpAnyH_take (i := 5) (oi := ?_) (v := ?_) ?_ ?_ ?_ ?_ ?_ ?_ ?_ ?_
      rotate_left 2
      · simp only [List.getElem?_toArray, List.getElem?_cons_succ, List.getElem?_cons_zero]; rfl
      · kernel_rfl
      · kernel_rfl
      · kernel_rfl
      · exact fun _ _ _ h => h
      · exact Or.inl ⟨by kernel_rfl, by intro w hSw; (try dsimp only at hSw); go_simp; try with_reducible rfl⟩
      · assumption
      try go_simp
      refine wpAnyH_take (i := 6) (oi := ?_) (v := ?_) ?_ ?_ ?_ ?_ ?_ ?_ ?_ ?_
      rotate_left 2
      · simp only [List.getElem?_toArray, List.getElem?_cons_succ, List.getElem?_cons_zero]; rfl
      · kernel_rfl
      · kernel_rfl
      · kernel_rfl
      · exact fun _ _ _ h => h
      · exact Or.inl ⟨by kernel_rfl, by intro w hSw; (try dsimp only at hSw); go_simp; try with_reducible rfl⟩
      · assumption
      try go_simp
      refine wpAnyH_take (i := 7) (oi := ?_) (v := ?_) ?_ ?_ ?_ ?_ ?_ ?_ ?_ ?_
      rotate_left 2
      · simp only [List.getElem?_toArray, List.getElem?_cons_succ, List.getElem?_cons_zero]; rfl
      · kernel_rfl
      · kernel_rfl
      · kernel_rfl
      · exact fun _ _ _ h => h
      · exact Or.inl ⟨by kernel_rfl, by intro w hSw; (try dsimp only at hSw); go_simp; try with_reducible rfl⟩
      · assumption
      try go_simp
      refine wpAnyH_take (i := 8) (oi := ?_) (v := ?_) ?_ ?_ ?_ ?_ ?_ ?_ ?_ ?_
      rotate_left 2
      · simp only [List.getElem?_toArray, List.getElem?_cons_succ, List.getElem?_cons_zero]; rfl
      · kernel_rfl
      · kernel_rfl
      · kernel_rfl
      · exact fun _ _ _ h => h
      · exact Or.inl ⟨by kernel_rfl, by intro w hSw; (try dsimp only at hSw); go_simp; try with_reducible rfl⟩
      · assumption
      try go_simp
      refine wpAnyH_take (i := 9) (oi := ?_) (v := ?_) ?_ ?_ ?_ ?_ ?_ ?_ ?_ ?_
      rotate_left 2
      · simp only [List.getElem?_toArray, List.getElem?_cons_succ, List.getElem?_cons_zero]; rfl
      · kernel_rfl
      · kernel_rfl
      · kernel_rfl
      · exact fun _ _ _ h => h
      · exact Or.inl ⟨by kernel_rfl, by intro w hSw; (try dsimp only at hSw); go_simp; try with_reducible rfl⟩
      · assumption
      try go_simp
      refine wpAnyH_take (i := 10) (oi := ?_) (v := ?_) ?_ ?_ ?_ ?_ ?_ ?_ ?_ ?_
      rotate_left 2
      · simp only [List.getElem?_toArray, List.getElem?_cons_succ, List.getElem?_cons_zero]; rfl
      · kernel_rfl
      · kernel_rfl
      · kernel_rfl
      · exact fun _ _ _ h => h
      · exact Or.inl ⟨by kernel_rfl, by intro w hSw; (try dsimp only at hSw); go_simp; try with_reducible rfl⟩
      · assumption
      try go_simp
      refine wpAnyH_ready (rs := [11]) (by kernel_rfl) (by simp) ?_
      refine AllReadyH.cons (o := ?_) ?_ ?_ AllReadyH.nil
      rotate_left 1
      · simp only [List.getElem?_toArray, List.getElem?_cons_succ, List.getElem?_cons_zero]; rfl
      intro K hK
      go_simp
      refine (HPU.out wr.drew A' c' HO.out.reads).mono ?_
      rintro e w2 ⟨A3, c3, rfl, ho3, hb3⟩
      have hB : Below w.heap.size wr.drew w2 := hb3.mono HB.out.size
      have f1 : w2.cell? ⟨b, o + k * 2, none⟩ = some (.int .i64 x1) := (hB.cell (p := ⟨b, o + k * 2, none⟩) hbl2).trans d1
      have f2 : w2.cell? ⟨b, o + k * 2 + 1, none⟩ = some (.int .u64 (x2 : Nat)) := (hB.cell (p := ⟨b, o + k * 2 + 1, none⟩) hbl2).trans d2
      have HO3 := Lib.hid (Own.mono ho3 (Nat.le_trans HBASE.out HB.out.size))
      have HB3 := Lib.hid (HB.out.trans (show Below w.heap.size wr w2 from ⟨hB.os, hB.tape, hB.output, hB.size, hB.block⟩))
      clear ho3 hb3 hB
      refine hK.out _ _ ?_ (fun hHeld => ?_)
      · exact ⟨f1, f2⟩
      clear hK K
      try go_simp
      refine wpAnyH_take (i := 12) (oi := ?_) (v := ?_) ?_ ?_ ?_ ?_ ?_ ?_ ?_ ?_
      rotate_left 2
      · simp only [List.getElem?_toArray, List.getElem?_cons_succ, List.getElem?_cons_zero]; rfl
      · kernel_rfl
      · kernel_rfl
      · kernel_rfl
      · exact fun _ _ _ h => h
      · exact Or.inl ⟨by kernel_rfl, by intro w hSw; (try dsimp only at hSw); go_simp; try with_reducible rfl⟩
      · assumption
      try go_simp
      refine wpAnyH_done (by kernel_rfl) ?_ _
      refine NoPanic.normal ?_
      go_wp2_with fail
      go_roundw
      case rel => exact ⟨k + 1, A3, c3, HL.out, by go_num, by rw [HN.out], by rw [HN.out]; exact HO3.out, HB3.out⟩
      case measure => have h1 := HL.out; simp [intOf]; omega
    · obtain rfl : k = M.length := by omega
      rw [List.take_length] at hown ⊢
      have HO := Lib.hid hown
      have HB := Lib.hid hbel
      clear hown hbel
      go_wp2_with fail
      go_ret2
      exact ⟨A', c', rfl, HO.out, HB.out⟩
theorem rtake0 (L M : List Pr) : rtake L M 0 = if M = [] then (L, 0) else if 4611686018427387904 - tot L < tot M then (L, 6) else (puts L M, 0) := by
  unfold rtake
  rw [if_neg (show ¬ (0 < 0 ∧ L ≠ [] ∧ ((0 : Nat) : Int) < wideLL L M) from fun h => absurd h.1 (by decide))]
theorem take13_0 (A A2 : Option Addr) (c c2 base : Nat) (L M : List Pr) (w : World) (h : OwnP w base A c L) (h2 : Prs w w.heap.size A2 M) (hm : L.length ≤ 1000000) (hm2 : M.length ≤ 1000000) (ht : tot L ≤ 4611686018427387904) (ht2 : tot M ≤ 4611686018427387904) (hbase : base ≤ w.heap.size) :
    Calls Try.prog 23 #[.slice A L.length c, .slice A2 M.length c2, .int .i64 0] w (RAdd base w (rtake L M 0)) := by
  rw [rtake0]
  by_cases hM : M = []
  · rw [if_pos hM]
    subst hM
    exact take13_none A A2 c c2 base L 0 w h
  rw [if_neg hM]
  by_cases hc : 4611686018427387904 - tot L < tot M
  · rw [if_pos hc]; exact take13_cap_W0 A A2 c c2 base L M 0 w h h2 hm hm2 hM rfl ht ht2 hc
  · rw [if_neg hc]; exact take13_ok_W0 A A2 c c2 base L M 0 w h h2 hm hm2 hM rfl ht hc hbase
end Go.Proofs.Ytmpmjgoipfgfoaa
