/- Sparse: the reference's Add, Take, Cut: the answer's row lies where the old one lay, or is new. -/
import Derived.Test.YtmpmjgoipfgfoaaCoN
namespace Go.Proofs.Ytmpmjgoipfgfoaa
open Go.RowKit
open Pl
def RNew (A : Option Addr) (base : Nat) (w : World) (R : List Pr × Int) (e : Ending) (w' : World) : Prop :=
  ∃ A' c', e = .returned (.tuple #[.slice A' R.1.length c', .int .i64 R.2]) ∧ OwnP w' base A' c' R.1 ∧ Below w.heap.size w w' ∧ ∀ x, blockOf A' = some x → blockOf A = some x ∨ w.heap.size ≤ x
def RNewN (A : Option Addr) (base : Nat) (w : World) (R : List Pr × Nat) (e : Ending) (w' : World) : Prop :=
  ∃ A' c', e = .returned (.tuple #[.slice A' R.1.length c', .int .u64 (R.2 : Nat)]) ∧ OwnP w' base A' c' R.1 ∧ Below w.heap.size w w' ∧ ∀ x, blockOf A' = some x → blockOf A = some x ∨ w.heap.size ≤ x
theorem new_block {w w' : World} {base c : Nat} {A A' : Option Addr} {L : List Pr} (h : OwnP w' base A' c L) (hb : w.heap.size ≤ base) : ∀ x, blockOf A' = some x → blockOf A = some x ∨ w.heap.size ≤ x := fun x hx => by
  have := (Own.block (show Own w' base 38 2 A' L.length c (pcs L) from h) hx).1
  exact .inr (by omega)
set_option maxHeartbeats 800000 in
theorem addn_zero (A : Option Addr) (c base : Nat) (L : List Pr) (k : Int) (n W : Nat) (w : World) (h : OwnP w base A c L) (_hW : W ≤ 16777216) (_hn : n ≤ 18446744073709551615) (h0 : n = 0) :
    Calls Try.prog 22 #[.slice A L.length c, .int .i64 k, .int .u64 (n : Int), .int .i64 (W : Int)] w (RNew A base w (radd L k n W)) := by
  subst h0
  have e : radd L k 0 W = (L, 4) := by simp [radd]
  rw [e]
  have HH := Lib.hid h
  clear h e
  go_enter Try.func22, Try.ntmps22
  go_wp2_with fail
  go_ret2
  exact ⟨A, c, rfl, HH.out, Below.refl _ _, fun _ h => .inl h⟩
set_option maxHeartbeats 800000 in
theorem addn_low (A : Option Addr) (c base : Nat) (L : List Pr) (k : Int) (n W : Nat) (w : World) (h : OwnP w base A c L) (_hW : W ≤ 16777216) (_hn : n ≤ 18446744073709551615) (h0 : n ≠ 0) (h1 : k < -1048576) :
    Calls Try.prog 22 #[.slice A L.length c, .int .i64 k, .int .u64 (n : Int), .int .i64 (W : Int)] w (RNew A base w (radd L k n W)) := by
  have e : radd L k n W = (L, 5) := by unfold radd; rw [if_neg h0, if_pos (.inl h1)]
  rw [e]
  have b0 : ((n : Int) == 0) = false := by simp; omega
  have HH := Lib.hid h
  clear h e h0
  go_enter Try.func22, Try.ntmps22
  go_wp2_with fail
  go_ret2
  exact ⟨A, c, rfl, HH.out, Below.refl _ _, fun _ h => .inl h⟩
set_option maxHeartbeats 800000 in
theorem addn_high (A : Option Addr) (c base : Nat) (L : List Pr) (k : Int) (n W : Nat) (w : World) (h : OwnP w base A c L) (_hW : W ≤ 16777216) (_hn : n ≤ 18446744073709551615) (h0 : n ≠ 0) (h1 : 1048576 < k) :
    Calls Try.prog 22 #[.slice A L.length c, .int .i64 k, .int .u64 (n : Int), .int .i64 (W : Int)] w (RNew A base w (radd L k n W)) := by
  have e : radd L k n W = (L, 5) := by unfold radd; rw [if_neg h0, if_pos (.inr h1)]
  rw [e]
  have b0 : ((n : Int) == 0) = false := by simp; omega
  have HH := Lib.hid h
  clear h e h0
  go_enter Try.func22, Try.ntmps22
  go_wp2_with fail
  go_ret2
  exact ⟨A, c, rfl, HH.out, Below.refl _ _, fun _ h => .inl h⟩
set_option maxHeartbeats 800000 in
theorem addn_cap0 (A : Option Addr) (c base : Nat) (L : List Pr) (k : Int) (n W : Nat) (w : World) (h : OwnP w base A c L) (_hW : W ≤ 16777216) (_hn : n ≤ 18446744073709551615) (h0 : n ≠ 0) (k0 : -1048576 ≤ k) (k1 : k ≤ 1048576) (hm : L.length ≤ 16777216) (ht : tot L ≤ 4611686018427387904) (hw0 : W = 0) (h4 : 4611686018427387904 - tot L < n) :
    Calls Try.prog 22 #[.slice A L.length c, .int .i64 k, .int .u64 (n : Int), .int .i64 (W : Int)] w (RNew A base w (radd L k n W)) := by
  have e : radd L k n W = (L, 6) := by unfold radd; rw [if_neg h0, if_neg (by omega), if_neg (by omega), if_pos h4]
  rw [e]
  subst hw0
  have b0 : ((n : Int) == 0) = false := by simp; omega
  have HT := fun B W' h => total13_t A c B L W' h (by unfold maxLen; omega) (by omega)
  replace HT := Lib.hid HT
  have HH := Lib.hid h
  have d4 : decide (4611686018427387904 - ((tot L : Nat) : Int) < (n : Int)) = true := by simp; omega
  have htt : ((tot L : Nat) : Int) ≤ 4611686018427387904 := by omega
  clear h e h0 h4 hm ht
  go_enter Try.func22, Try.ntmps22
  go_wp2_with fail
  refine (HT.out _ _ HH.out.reads).mono ?_
  rintro e w1 ⟨rfl, rfl⟩
  go_wp2_with fail
  go_ret2
  exact ⟨A, c, rfl, HH.out, Below.refl _ _, fun _ h => .inl h⟩
set_option maxHeartbeats 800000 in
theorem addn_ok0 (A : Option Addr) (c base : Nat) (L : List Pr) (k : Int) (n W : Nat) (w : World) (h : OwnP w base A c L) (_hW : W ≤ 16777216) (_hn : n ≤ 18446744073709551615) (h0 : n ≠ 0) (k0 : -1048576 ≤ k) (k1 : k ≤ 1048576) (hm : L.length ≤ 16777216) (ht : tot L ≤ 4611686018427387904) (hw0 : W = 0) (h4 : ¬ 4611686018427387904 - tot L < n) (hbase : base ≤ w.heap.size) :
    Calls Try.prog 22 #[.slice A L.length c, .int .i64 k, .int .u64 (n : Int), .int .i64 (W : Int)] w (RNew A base w (radd L k n W)) := by
  have e : radd L k n W = (put L k n, 0) := by unfold radd; rw [if_neg h0, if_neg (by omega), if_neg (by omega), if_neg h4]
  rw [e]
  subst hw0
  have b0 : ((n : Int) == 0) = false := by simp; omega
  have HT := fun B W' h => total13_t A c B L W' h (by unfold maxLen; omega) (by omega)
  replace HT := Lib.hid HT
  have HH := Lib.hid h
  have HPU := fun W' h => put13_t A c L k n W' h hm (by omega)
  replace HPU := Lib.hid HPU
  have d4 : decide (4611686018427387904 - ((tot L : Nat) : Int) < (n : Int)) = false := by simp; omega
  have htt : ((tot L : Nat) : Int) ≤ 4611686018427387904 := by omega
  clear h e h0 h4 hm ht
  go_enter Try.func22, Try.ntmps22
  go_wp2_with fail
  refine (HT.out _ _ HH.out.reads).mono ?_
  rintro e w1 ⟨rfl, rfl⟩
  go_wp2_with fail
  refine (HPU.out _ HH.out.reads).mono ?_
  rintro e w2 ⟨A2, c2, rfl, ho, hb⟩
  have HNB := Lib.hid (new_block (A := A) ho (Nat.le_refl _))
  have HO := Lib.hid (Own.mono ho hbase)
  have HB := Lib.hid hb
  clear ho hb
  go_wp2_with fail
  go_ret2
  exact ⟨A2, c2, rfl, HO.out, HB.out, HNB.out⟩
theorem addn_t (A : Option Addr) (c base : Nat) (L : List Pr) (k : Int) (n : Nat) (w : World) (h : OwnP w base A c L) (hn : n ≤ 18446744073709551615) (hm : L.length ≤ 16777216) (ht : tot L ≤ 4611686018427387904) (hbase : base ≤ w.heap.size) :
    Calls Try.prog 22 #[.slice A L.length c, .int .i64 k, .int .u64 (n : Int), .int .i64 0] w (RNew A base w (radd L k n 0)) := by
  by_cases h0 : n = 0
  · exact addn_zero A c base L k n 0 w h (by decide) hn h0
  by_cases h1 : k < -1048576
  · exact addn_low A c base L k n 0 w h (by decide) hn h0 h1
  by_cases h1' : 1048576 < k
  · exact addn_high A c base L k n 0 w h (by decide) hn h0 h1'
  by_cases h4 : 4611686018427387904 - tot L < n
  · exact addn_cap0 A c base L k n 0 w h (by decide) hn h0 (by omega) (by omega) hm ht rfl h4
  · exact addn_ok0 A c base L k n 0 w h (by decide) hn h0 (by omega) (by omega) hm ht rfl h4 hbase
set_option maxHeartbeats 800000 in
theorem taken_none (A A2 : Option Addr) (c c2 base : Nat) (L : List Pr) (W : Nat) (w : World) (h : OwnP w base A c L) :
    Calls Try.prog 23 #[.slice A L.length c, .slice A2 ([] : List Pr).length c2, .int .i64 (W : Int)] w (RNew A base w (L, 0)) := by
  have HH := Lib.hid h
  clear h
  go_enter Try.func23, Try.ntmps23
  go_wp2_with fail
  go_ret2
  exact ⟨A, c, rfl, HH.out, Below.refl _ _, fun _ h => .inl h⟩
set_option maxHeartbeats 3200000 in
theorem taken_cap_W0 (A A2 : Option Addr) (c c2 base : Nat) (L M : List Pr) (W : Nat) (w : World) (h : OwnP w base A c L) (h2 : Prs w w.heap.size A2 M) (hm : L.length ≤ 1000000) (hm2 : M.length ≤ 1000000) (hM : M ≠ []) (hw0 : W = 0) (ht : tot L ≤ 4611686018427387904) (ht2 : tot M ≤ 4611686018427387904) (hc : 4611686018427387904 - tot L < tot M) :
    Calls Try.prog 23 #[.slice A L.length c, .slice A2 M.length c2, .int .i64 (W : Int)] w (RNew A base w (L, 6)) := by
  have HTM := fun B W' h => total13_t A2 c2 B M W' h (by unfold maxLen; omega) (by omega)
  have HTL := fun B W' h => total13_t A c B L W' h (by unfold maxLen; omega) (by omega)
  replace HTM := Lib.hid HTM
  replace HTL := Lib.hid HTL
  have htl : ((tot L : Nat) : Int) ≤ 4611686018427387904 := by omega
  have dd : decide (4611686018427387904 - ((tot L : Nat) : Int) < ((tot M : Nat) : Int)) = true := by simp; omega
  obtain ⟨b0, o0, rfl, hb0, hcell0⟩ := h2.at_ (List.length_pos_iff.2 hM)
  clear hcell0 hb0
  subst hw0
  have HH := Lib.hid h
  have HH2 := Lib.hid h2
  have hzM := nat_len_ne hM
  clear h h2 hc hM
  go_enter Try.func23, Try.ntmps23
  go_wp2_with fail
  refine (HTM.out w.heap.size _ (HH2.out)).mono ?_
  rintro e w1 ⟨rfl, hw1⟩
  obtain rfl := hw1.symm
  go_wp2_with fail
  refine (HTL.out w.heap.size _ (HH.out.reads)).mono ?_
  rintro e w1 ⟨rfl, hw1⟩
  obtain rfl := hw1.symm
  go_wp2_with fail
  go_ret2
  exact ⟨_, c, rfl, HH.out, Below.refl _ _, fun _ h => .inl h⟩
set_option maxHeartbeats 3200000 in
theorem taken_ok_W0 (A A2 : Option Addr) (c c2 base : Nat) (L M : List Pr) (W : Nat) (w : World) (h : OwnP w base A c L) (h2 : Prs w w.heap.size A2 M) (hm : L.length ≤ 1000000) (hm2 : M.length ≤ 1000000) (hM : M ≠ []) (hw0 : W = 0) (ht : tot L ≤ 4611686018427387904) (hc : ¬ 4611686018427387904 - tot L < tot M) (hbase : base ≤ w.heap.size) :
    Calls Try.prog 23 #[.slice A L.length c, .slice A2 M.length c2, .int .i64 (W : Int)] w (RNew A base w (puts L M, 0)) := by
  have HTM := fun B W' h => total13_t A2 c2 B M W' h (by unfold maxLen; omega) (by omega)
  have HTL := fun B W' h => total13_t A c B L W' h (by unfold maxLen; omega) (by omega)
  replace HTM := Lib.hid HTM
  replace HTL := Lib.hid HTL
  have htl : ((tot L : Nat) : Int) ≤ 4611686018427387904 := by omega
  have htot : tot L + tot M ≤ 4611686018427387904 := by omega
  have HTOT := Lib.hid htot
  have HBASE := Lib.hid hbase
  have hbl0 : Below w.heap.size w w := Below.refl _ _
  have dd : decide (4611686018427387904 - ((tot L : Nat) : Int) < ((tot M : Nat) : Int)) = false := by simp; omega
  obtain ⟨b0, o0, rfl, hb0, hcell0⟩ := h2.at_ (List.length_pos_iff.2 hM)
  clear hcell0 hb0
  subst hw0
  have HH := Lib.hid h
  have HH2 := Lib.hid h2
  have hzM := nat_len_ne hM
  clear h h2 hc hM
  go_enter Try.func23, Try.ntmps23
  go_wp2_with fail
  refine (HTM.out w.heap.size _ (HH2.out)).mono ?_
  rintro e w1 ⟨rfl, hw1⟩
  obtain rfl := hw1.symm
  go_wp2_with fail
  refine (HTL.out w.heap.size _ (HH.out.reads)).mono ?_
  rintro e w1 ⟨rfl, hw1⟩
  obtain rfl := hw1.symm
  go_wp2_with fail
  go_loopw [10, 11] (fun v i wr => ∃ (k : Nat) (A' : Option Addr) (c' : Nat), k ≤ M.length ∧ i = .int .i64 k ∧ v = .slice A' (puts L (M.take k)).length c' ∧ OwnP wr base A' c' (puts L (M.take k)) ∧ Below w.heap.size w wr ∧ ∀ x, blockOf A' = some x → blockOf A = some x ∨ w.heap.size ≤ x) (fun _ i _ => M.length - (intOf i).toNat)
  case atStart => exact ⟨0, _, c, Nat.zero_le _, rfl, rfl, HH.out, hbl0, fun _ h => .inl h⟩
  case round =>
    obtain ⟨k, A', c', hk, rfl, rfl, hown, hbel, hnb⟩ := hrel
    have HNB := Lib.hid hnb
    clear hnb
    by_cases hlt : k < M.length
    · obtain ⟨b, o, hA2, hbl2, hcell⟩ := Prs.at_ HH2.out (by omega)
      obtain ⟨rfl, rfl⟩ : b = b0 ∧ o = o0 := by
        simp only [Option.some.injEq, Addr.mk.injEq] at hA2
        exact ⟨hA2.1.symm, hA2.2.1.symm⟩
      obtain ⟨⟨x1, x2⟩, hp⟩ : ∃ p, M[k]? = some p := ⟨M[k], by simp [hlt]⟩
      obtain ⟨g1, g2⟩ := hcell k _ hp
      simp only at g1 g2
      have hnx : puts L (M.take (k + 1)) = put (puts L (M.take k)) x1 x2 := by
        obtain ⟨h1, e⟩ := List.getElem?_eq_some_iff.1 hp
        rw [List.take_succ_eq_append_getElem h1, e, puts_snoc]
      have hol := puts_len (l := L) (m := M.take k)
      rw [List.length_take] at hol
      have htt := puts_tot (L := L) (M := M.take k)
      have htk := tot_take_le (L := M) (k := k)
      have htot := HTOT.out
      have htk1 : tot (M.take k) + x2 ≤ tot M := by
        obtain ⟨h1, e⟩ := List.getElem?_eq_some_iff.1 hp
        have t1 := tot_take h1
        have t2 := tot_take_le (L := M) (k := k + 1)
        rw [e] at t1
        simp only at t1
        omega
      have hx2 := tot_le_of_mem (List.mem_of_getElem? hp)
      simp only at hx2
      have HPU := fun W' A' c' h => put13_t A' c' (puts L (M.take k)) x1 x2 W' h (by omega) (by omega)
      replace HPU := Lib.hid HPU
      have hkk : (k : Int) < (M.length : Int) := by omega
      have hk0 : (0 : Int) ≤ (k : Int) := by omega
      have d1 : wr.cell? ⟨b, o + k * 2, none⟩ = some (.int .i64 x1) := (hbel.cell (p := ⟨b, o + k * 2, none⟩) hbl2).trans g1
      have d2 : wr.cell? ⟨b, o + k * 2 + 1, none⟩ = some (.int .u64 (x2 : Nat)) := (hbel.cell (p := ⟨b, o + k * 2 + 1, none⟩) hbl2).trans g2
      have HL := Lib.hid hlt
      have HO := Lib.hid hown
      have HB := Lib.hid hbel
      have HN := Lib.hid hnx
      clear hp g1 g2 hcell hlt hown hbel hk hnx hol htt htk hx2 hA2 htot htk1
      generalize puts L (M.take k) = out at *
      go_wp2_with fail
      refine wp_region_noPanic ?_
      refine wp_region_held_drew (S := (fun w' => w'.cell? ⟨b, o + k * 2, none⟩ = some (.int .i64 x1) ∧ w'.cell? ⟨b, o + k * 2 + 1, none⟩ = some (.int .u64 (x2 : Nat)))) (by kernel_rfl) ⟨d1, d2⟩ (fun hHeld => ?_)
      refine wpAnyH_take (i := 0) (oi := ?_) (v := ?_) ?_ ?_ ?_ ?_ ?_ ?_ ?_ ?_
      rotate_left 2
      · simp only [List.getElem?_toArray, List.getElem?_cons_zero]; rfl
      · kernel_rfl
      · kernel_rfl
      · kernel_rfl
      · exact fun _ _ _ h => h
      · exact Or.inl ⟨by kernel_rfl, by intro w hSw; (try dsimp only at hSw); go_simp; try with_reducible rfl⟩
      · assumption
      try go_simp
      refine wpAnyH_take (i := 1) (oi := ?_) (v := ?_) ?_ ?_ ?_ ?_ ?_ ?_ ?_ ?_
      rotate_left 2
      · simp only [List.getElem?_toArray, List.getElem?_cons_succ, List.getElem?_cons_zero]; rfl
      · kernel_rfl
      · kernel_rfl
      · kernel_rfl
      · exact fun _ _ _ h => h
      · exact Or.inl ⟨by kernel_rfl, by intro w hSw; (try dsimp only at hSw); go_simp; try with_reducible rfl⟩
      · assumption
      try go_simp
      refine wpAnyH_take (i := 2) (oi := ?_) (v := ?_) ?_ ?_ ?_ ?_ ?_ ?_ ?_ ?_
      rotate_left 2
      · simp only [List.getElem?_toArray, List.getElem?_cons_succ, List.getElem?_cons_zero]; rfl
      · kernel_rfl
      · kernel_rfl
      · kernel_rfl
      · exact fun _ _ _ h => h
      · exact Or.inl ⟨by kernel_rfl, by intro w hSw; (try dsimp only at hSw); go_simp; try with_reducible rfl⟩
      · assumption
      try go_simp
      refine wpAnyH_take (i := 3) (oi := ?_) (v := ?_) ?_ ?_ ?_ ?_ ?_ ?_ ?_ ?_
      rotate_left 2
      · simp only [List.getElem?_toArray, List.getElem?_cons_succ, List.getElem?_cons_zero]; rfl
      · kernel_rfl
      · kernel_rfl
      · kernel_rfl
      · exact fun _ _ _ h => h
      · exact Or.inl ⟨by kernel_rfl, by intro w hSw; (try dsimp only at hSw); go_simp; try with_reducible rfl⟩
      · assumption
      try go_simp
      refine wpAnyH_take (i := 4) (oi := ?_) (v := ?_) ?_ ?_ ?_ ?_ ?_ ?_ ?_ ?_
      rotate_left 2
      · simp only [List.getElem?_toArray, List.getElem?_cons_succ, List.getElem?_cons_zero]; rfl
      · kernel_rfl
      · kernel_rfl
      · kernel_rfl
      · exact fun _ _ _ h => h
      · exact Or.inl ⟨by kernel_rfl, by intro w hSw; (try dsimp only at hSw); go_simp; try with_reducible rfl⟩
      · assumption
      try go_simp
      refine wpAnyH_take (i := 5) (oi := ?_) (v := ?_) ?_ ?_ ?_ ?_ ?_ ?_ ?_ ?_
      rotate_left 2
      · simp only [List.getElem?_toArray, List.getElem?_cons_succ, List.getElem?_cons_zero]; rfl
      · kernel_rfl
      · kernel_rfl
      · kernel_rfl
      · exact fun _ _ _ h => h
      · exact Or.inl ⟨by kernel_rfl, by intro w hSw; (try dsimp only at hSw); go_simp; try with_reducible rfl⟩
      · assumption
      try go_simp
      refine wpAnyH_take (i := 6) (oi := ?_) (v := ?_) ?_ ?_ ?_ ?_ ?_ ?_ ?_ ?_
      rotate_left 2
      · simp only [List.getElem?_toArray, List.getElem?_cons_succ, List.getElem?_cons_zero]; rfl
      · kernel_rfl
      · kernel_rfl
      · kernel_rfl
      · exact fun _ _ _ h => h
      · exact Or.inl ⟨by kernel_rfl, by intro w hSw; (try dsimp only at hSw); go_simp; try with_reducible rfl⟩
      · assumption
      try go_simp
      refine wpAnyH_take (i := 7) (oi := ?_) (v := ?_) ?_ ?_ ?_ ?_ ?_ ?_ ?_ ?_
      rotate_left 2
      · simp only [List.getElem?_toArray, List.getElem?_cons_succ, List.getElem?_cons_zero]; rfl
      · kernel_rfl
      · kernel_rfl
      · kernel_rfl
      · exact fun _ _ _ h => h
      · exact Or.inl ⟨by kernel_rfl, by intro w hSw; (try dsimp only at hSw); go_simp; try with_reducible rfl⟩
      · assumption
      try go_simp
      refine wpAnyH_take (i := 8) (oi := ?_) (v := ?_) ?_ ?_ ?_ ?_ ?_ ?_ ?_ ?_
      rotate_left 2
      · simp only [List.getElem?_toArray, List.getElem?_cons_succ, List.getElem?_cons_zero]; rfl
      · kernel_rfl
      · kernel_rfl
      · kernel_rfl
      · exact fun _ _ _ h => h
      · exact Or.inl ⟨by kernel_rfl, by intro w hSw; (try dsimp only at hSw); go_simp; try with_reducible rfl⟩
      · assumption
      try go_simp
      refine wpAnyH_take (i := 9) (oi := ?_) (v := ?_) ?_ ?_ ?_ ?_ ?_ ?_ ?_ ?_
      rotate_left 2
      · simp only [List.getElem?_toArray, List.getElem?_cons_succ, List.getElem?_cons_zero]; rfl
      · kernel_rfl
      · kernel_rfl
      · kernel_rfl
      · exact fun _ _ _ h => h
      · exact Or.inl ⟨by kernel_rfl, by intro w hSw; (try dsimp only at hSw); go_simp; try with_reducible rfl⟩
      · assumption
      try go_simp
      refine wpAnyH_take (i := 10) (oi := ?_) (v := ?_) ?_ ?_ ?_ ?_ ?_ ?_ ?_ ?_
      rotate_left 2
      · simp only [List.getElem?_toArray, List.getElem?_cons_succ, List.getElem?_cons_zero]; rfl
      · kernel_rfl
      · kernel_rfl
      · kernel_rfl
      · exact fun _ _ _ h => h
      · exact Or.inl ⟨by kernel_rfl, by intro w hSw; (try dsimp only at hSw); go_simp; try with_reducible rfl⟩
      · assumption
      try go_simp
      refine wpAnyH_ready (rs := [11]) (by kernel_rfl) (by simp) ?_
      refine AllReadyH.cons (o := ?_) ?_ ?_ AllReadyH.nil
      rotate_left 1
      · simp only [List.getElem?_toArray, List.getElem?_cons_succ, List.getElem?_cons_zero]; rfl
      intro K hK
      go_simp
      refine (HPU.out wr.drew A' c' HO.out.reads).mono ?_
      rintro e w2 ⟨A3, c3, rfl, ho3, hb3⟩
      have hB : Below w.heap.size wr.drew w2 := hb3.mono HB.out.size
      have f1 : w2.cell? ⟨b, o + k * 2, none⟩ = some (.int .i64 x1) := (hB.cell (p := ⟨b, o + k * 2, none⟩) hbl2).trans d1
      have f2 : w2.cell? ⟨b, o + k * 2 + 1, none⟩ = some (.int .u64 (x2 : Nat)) := (hB.cell (p := ⟨b, o + k * 2 + 1, none⟩) hbl2).trans d2
      have HO3 := Lib.hid (Own.mono ho3 (Nat.le_trans HBASE.out HB.out.size))
      have HB3 := Lib.hid (HB.out.trans (show Below w.heap.size wr w2 from ⟨hB.os, hB.tape, hB.output, hB.size, hB.block⟩))
      have HNB3 := Lib.hid (new_block (w := w) (A := A) ho3 (show w.heap.size ≤ wr.heap.size from HB.out.size))
      clear ho3 hb3 hB
      refine hK.out _ _ ?_ (fun hHeld => ?_)
      · exact ⟨f1, f2⟩
      clear hK K
      try go_simp
      refine wpAnyH_take (i := 12) (oi := ?_) (v := ?_) ?_ ?_ ?_ ?_ ?_ ?_ ?_ ?_
      rotate_left 2
      · simp only [List.getElem?_toArray, List.getElem?_cons_succ, List.getElem?_cons_zero]; rfl
      · kernel_rfl
      · kernel_rfl
      · kernel_rfl
      · exact fun _ _ _ h => h
      · exact Or.inl ⟨by kernel_rfl, by intro w hSw; (try dsimp only at hSw); go_simp; try with_reducible rfl⟩
      · assumption
      try go_simp
      refine wpAnyH_done (by kernel_rfl) ?_ _
      refine NoPanic.normal ?_
      go_wp2_with fail
      go_roundw
      case rel => exact ⟨k + 1, A3, c3, HL.out, by go_num, by rw [HN.out], by rw [HN.out]; exact HO3.out, HB3.out, HNB3.out⟩
      case measure => have h1 := HL.out; simp [intOf]; omega
    · obtain rfl : k = M.length := by omega
      rw [List.take_length] at hown ⊢
      have HO := Lib.hid hown
      have HB := Lib.hid hbel
      clear hown hbel
      go_wp2_with fail
      go_ret2
      exact ⟨A', c', rfl, HO.out, HB.out, HNB.out⟩
theorem taken_0 (A A2 : Option Addr) (c c2 base : Nat) (L M : List Pr) (w : World) (h : OwnP w base A c L) (h2 : Prs w w.heap.size A2 M) (hm : L.length ≤ 1000000) (hm2 : M.length ≤ 1000000) (ht : tot L ≤ 4611686018427387904) (ht2 : tot M ≤ 4611686018427387904) (hbase : base ≤ w.heap.size) :
    Calls Try.prog 23 #[.slice A L.length c, .slice A2 M.length c2, .int .i64 0] w (RNew A base w (rtake L M 0)) := by
  rw [rtake0]
  by_cases hM : M = []
  · rw [if_pos hM]
    subst hM
    exact taken_none A A2 c c2 base L 0 w h
  rw [if_neg hM]
  by_cases hc : 4611686018427387904 - tot L < tot M
  · rw [if_pos hc]; exact taken_cap_W0 A A2 c c2 base L M 0 w h h2 hm hm2 hM rfl ht ht2 hc
  · rw [if_neg hc]; exact taken_ok_W0 A A2 c c2 base L M 0 w h h2 hm hm2 hM rfl ht hc hbase
set_option maxHeartbeats 1600000 in
theorem cutn_no (base : Nat) (A : Option Addr) (c : Nat) (L : List Pr) (m : Int) (w : World) (h : OwnP w base A c L) (hl : (L.length : Int) ≤ max m 1) :
    Calls Try.prog 46 #[.slice A L.length c, .int .i64 m] w (RNewN A base w (L, 0)) := by
  have H := Lib.hid h
  have hc : (decide (m < 1) = true ∧ decide ((L.length : Int) ≤ 1) = true ∧ (L.length : Int) ≤ 1) ∨ (decide (m < 1) = false ∧ decide ((L.length : Int) ≤ m) = true ∧ (L.length : Int) ≤ m) := by
    by_cases h1 : m < 1
    · exact .inl ⟨by simp; omega, by simp; omega, by omega⟩
    · exact .inr ⟨by simp; omega, by simp; omega, by omega⟩
  clear h hl
  rcases hc with ⟨e1, e2, e3⟩ | ⟨e1, e2, e3⟩
  all_goals
    go_enter Try.func46, Try.ntmps46
    go_wp2_with fail
    go_ret2
    exact ⟨A, c, rfl, H.out, Below.refl _ _, fun _ h => .inl h⟩
theorem cutn_of {A : Option Addr} {base : Nat} {w w' : World} {R : List Pr × Nat} {e : Ending} (hb : base ≤ w.heap.size) (h : RCut w.heap.size w R e w') : RNewN A base w R e w' := by
  obtain ⟨A', c', h1, h2, h3⟩ := h
  exact ⟨A', c', h1, Own.mono h2 hb, h3, new_block h2 (Nat.le_refl _)⟩
theorem cutn_t (base : Nat) (A : Option Addr) (c : Nat) (L : List Pr) (m : Int) (w : World) (h : OwnP w base A c L) (hbase : base ≤ w.heap.size) (hl : L.length ≤ 1000000) (ht : tot L ≤ 4611686018427387904) :
    Calls Try.prog 46 #[.slice A L.length c, .int .i64 m] w (RNewN A base w (cutL L m)) := by
  unfold cutL cutN
  split
  · exact cutn_no base A c L m w h (by omega)
  · by_cases hm : m < 1
    · rw [show max m 1 = 1 by omega]
      exact (rcut_yesA w.heap.size A c L m _ w (OwnP.reads h) (Nat.le_refl _) hl ht hm (by omega) (by omega)).mono (fun _ _ h => cutn_of hbase h)
    · rw [show max m 1 = m by omega]
      exact (rcut_yesB w.heap.size A c L m _ w (OwnP.reads h) (Nat.le_refl _) hl ht (by omega) (by omega) (by omega)).mono (fun _ _ h => cutn_of hbase h)
end Go.Proofs.Ytmpmjgoipfgfoaa
