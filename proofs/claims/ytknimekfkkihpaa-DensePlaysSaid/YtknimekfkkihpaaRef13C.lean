/- The document's Without, Take, walked. -/
import Derived.Test.YtknimekfkkihpaaRef13B
import Derived.Deep.RegionHeld3
namespace Go.Proofs.Ytknimekfkkihpaa
open Go.RowKit
open Pl

theorem without_take {L : List Pr} {k : Nat} {p : Pr} {key : Int} (hp : L[k]? = some p) : without (L.take (k + 1)) key = without (L.take k) key ++ if p.1 = key then [] else [p] := by
  obtain ⟨h, e⟩ := List.getElem?_eq_some_iff.1 hp
  unfold without
  rw [List.take_succ_eq_append_getElem h, e, List.filter_append]
  congr 1
  by_cases hk : p.1 = key
  · rw [if_pos hk]; simp [hk]
  · rw [if_neg hk]; simp [hk]
theorem without_len {L : List Pr} {key : Int} : (without L key).length ≤ L.length := List.length_filter_le _ _
set_option maxHeartbeats 1600000 in
theorem without13_t (A : Option Addr) (c : Nat) (L : List Pr) (key : Int) (w : World) (h : Prs w w.heap.size A L) (hm : L.length ≤ 16777216) :
    Calls Try.prog 17 #[.slice A L.length c, .int .i64 key] w (NewPairs (without L key) w) := by
  have HA := Lib.hid h
  clear h
  go_enter Try.func17, Try.ntmps17
  go_wp2_with fail
  go_loopw [5, 6] (fun v i wr => ∃ (k : Nat) (A' : Option Addr) (c' : Nat), k ≤ L.length ∧ i = .int .i64 k ∧ v = .slice A' (without (L.take k) key).length c' ∧ OwnP wr w.heap.size A' c' (without (L.take k) key) ∧ Below w.heap.size w wr) (fun _ i _ => L.length - (intOf i).toNat)
  case atStart => exact ⟨0, none, 0, Nat.zero_le _, rfl, rfl, Own.nil _ _ _ _, Below.refl _ _⟩
  case round =>
    obtain ⟨k, A', c', hk, rfl, rfl, hown, hbel⟩ := hrel
    by_cases hlt : k < L.length
    · obtain ⟨b, o, rfl, hbl, hcell⟩ := HA.out.at_ (by omega)
      obtain ⟨⟨x1, x2⟩, hp⟩ : ∃ p, L[k]? = some p := ⟨L[k], by simp [hlt]⟩
      obtain ⟨g1, g2⟩ := hcell k _ hp
      simp only at g1 g2
      have hkk : (k : Int) < (L.length : Int) := by omega
      have hk0 : (0 : Int) ≤ (k : Int) := by omega
      have hml : (L.length : Int) ≤ 16777216 := by omega
      have hnx := without_take (key := key) hp
      have hol := without_len (L := L.take k) (key := key)
      rw [List.length_take] at hol
      have e1 : wr.cell? ⟨b, o + k * 2, none⟩ = some (.int .i64 x1) := (hbel.cell (p := ⟨b, o + k * 2, none⟩) hbl).trans g1
      have e2 : wr.cell? ⟨b, o + k * 2 + 1, none⟩ = some (.int .u64 (x2 : Nat)) := (hbel.cell (p := ⟨b, o + k * 2 + 1, none⟩) hbl).trans g2
      have HL := Lib.hid hlt
      have HO := Lib.hid hown
      have HB := Lib.hid hbel
      have HN := Lib.hid hnx
      clear hp g1 g2 hcell hlt hown hbel hk hnx
      generalize without (L.take k) key = out at *
      by_cases c1 : x1 = key
      · have HN2 := Lib.hid (show without (L.take (k + 1)) key = out by rw [HN.out, if_pos c1, List.append_nil])
        subst c1
        go_wp2_with fail
        go_roundw
        case rel => exact ⟨k + 1, A', c', HL.out, by go_num, by rw [HN2.out], by rw [HN2.out]; exact HO.out, HB.out⟩
        case measure => have h1 := HL.out; simp [intOf]; omega
      · have HN2 := Lib.hid (show without (L.take (k + 1)) key = out ++ [(x1, x2)] by rw [HN.out, if_neg c1])
        have c4 : (x1 == key) = false := by simpa using c1
        have c5 : (x1 != key) = true := by simpa using c1
        clear c1
        go_wp2_with (at_builtin; refine Hid.out ?_)
        refine wpList_app (xs := pcs out) rfl rfl elem_pair rfl (HO.out.alloc _) rfl (pair_new wr x1 x2) (pcs_one _) (out.length + 1) rfl (pcs (out ++ [(x1, x2)])) (pcs_append _ _).symm (by unfold maxLen; omega) (by omega) (by have := HB.out.size; simp; omega) ?_
        intro A2 p2 w3 o2 g2 q2
        have b2 := appB (newB HB.out _) (HO.out.alloc _) g2 (Nat.le_refl _) (newB HB.out _).size
        have HO2 := Lib.hid (own_snoc o2 rfl)
        have HB2 := Lib.hid b2
        clear o2 g2 q2 b2
        go_wp2_with fail
        go_roundw
        case rel => exact ⟨k + 1, A2, p2, HL.out, by go_num, by rw [HN2.out]; simp, by rw [HN2.out]; exact HO2.out, HB2.out⟩
        case measure => have h1 := HL.out; simp [intOf]; omega
    · obtain rfl : k = L.length := by omega
      rw [List.take_length] at hown ⊢
      have HO := Lib.hid hown
      have HB := Lib.hid hbel
      clear hown hbel
      go_wp2_with fail
      go_ret
      exact ⟨A', c', rfl, HO.out, HB.out⟩
/-- The document's Take: the list, the error's number; window 0: there is none. -/
def wideLL (L M : List Pr) : Int := match L.head?, L.getLast?, M.head?, M.getLast? with
  | some p, some q, some p', some q' => max q.1 q'.1 - min p.1 p'.1 + 1
  | _, _, _, _ => 0
def rtake (L M : List Pr) (W : Nat) : List Pr × Int :=
  if M = [] then (L, 0) else if 0 < W ∧ L ≠ [] ∧ (W : Int) < wideLL L M then (L, 130) else if 4611686018427387904 - tot L < tot M then (L, 6) else (puts L M, 0)
theorem nat_len_zero {α : Type} {l : List α} (h : l.length = 0) : ((l.length : Int) == 0) = true := by simp; exact List.length_eq_zero_iff.1 h
theorem nat_len_ne {α : Type} {l : List α} (h : l ≠ []) : ((l.length : Int) == 0) = false := by simp [h]
set_option maxHeartbeats 800000 in
theorem take13_none (A A2 : Option Addr) (c c2 base : Nat) (L : List Pr) (W : Nat) (w : World) (h : OwnP w base A c L) :
    Calls Try.prog 14 #[.slice A L.length c, .slice A2 ([] : List Pr).length c2, .int .i64 (W : Int)] w (RAdd base w (L, 0)) := by
  have HH := Lib.hid h
  clear h
  go_enter Try.func14, Try.ntmps14
  go_wp2_with fail
  go_ret2
  exact ⟨A, c, rfl, HH.out, Below.refl _ _⟩
set_option maxHeartbeats 1600000 in
theorem take13_wide (A A2 : Option Addr) (c c2 base : Nat) (L M : List Pr) (W : Nat) (w : World) (h : OwnP w base A c L) (h2 : Prs w w.heap.size A2 M) (hm : L.length ≤ 1000000) (hm2 : M.length ≤ 1000000) (hM : M ≠ []) (hL : L ≠ []) (hk : KeysIn L) (hk2 : KeysIn M) (hW : 0 < W) (_hW2 : W ≤ 16777216) (hwd : (W : Int) < wideLL L M) :
    Calls Try.prog 14 #[.slice A L.length c, .slice A2 M.length c2, .int .i64 (W : Int)] w (RAdd base w (L, 130)) := by
  obtain ⟨p, hp⟩ : ∃ p, L[0]? = some p := ⟨L[0]'(List.length_pos_iff.2 hL), by simp⟩
  obtain ⟨q, hq⟩ : ∃ q, L[L.length - 1]? = some q := ⟨L[L.length - 1]'(by have := List.length_pos_iff.2 hL; omega), by simp⟩
  obtain ⟨p', hp'⟩ : ∃ p, M[0]? = some p := ⟨M[0]'(List.length_pos_iff.2 hM), by simp⟩
  obtain ⟨q', hq'⟩ : ∃ q, M[M.length - 1]? = some q := ⟨M[M.length - 1]'(by have := List.length_pos_iff.2 hM; omega), by simp⟩
  have e : wideLL L M = max q.1 q'.1 - min p.1 p'.1 + 1 := by
    unfold wideLL
    rw [List.head?_eq_getElem?, hp, List.getLast?_eq_getElem?, hq, List.head?_eq_getElem?, hp', List.getLast?_eq_getElem?, hq']
  have l1 := List.length_pos_iff.2 hL
  have l2 := List.length_pos_iff.2 hM
  obtain ⟨b, o, rfl, _, hcell⟩ := h.reads.at_ l1
  obtain ⟨b2, o2, rfl, _, hcell2⟩ := h2.at_ l2
  obtain ⟨e1, _⟩ := hcell 0 p hp
  obtain ⟨e2, _⟩ := hcell (L.length - 1) q hq
  obtain ⟨e3, _⟩ := hcell2 0 p' hp'
  obtain ⟨e4, _⟩ := hcell2 (M.length - 1) q' hq'
  have b1 := hk p (List.mem_of_getElem? hp)
  have bb2 := hk q (List.mem_of_getElem? hq)
  have b3 := hk2 p' (List.mem_of_getElem? hp')
  have b4 := hk2 q' (List.mem_of_getElem? hq')
  rw [e] at hwd
  obtain ⟨r, hr⟩ : ∃ r : Nat, r = L.length - 1 := ⟨_, rfl⟩
  obtain ⟨r2, hr2⟩ : ∃ r : Nat, r = M.length - 1 := ⟨_, rfl⟩
  rw [← hr] at e2
  rw [← hr2] at e4
  rw [Nat.zero_mul, Nat.add_zero] at e1 e3
  have s1 : IntKind.i64.wrap ((L.length : Int) - 1) = (r : Int) := by rw [show (L.length : Int) - 1 = (r : Int) by omega]; exact IntWalk.i64_in _ ⟨by omega, by omega⟩
  have s2 : IntKind.i64.wrap ((M.length : Int) - 1) = (r2 : Int) := by rw [show (M.length : Int) - 1 = (r2 : Int) by omega]; exact IntWalk.i64_in _ ⟨by omega, by omega⟩
  have x1 : (0 : Int) ≤ (r : Int) := by omega
  have x2 : (r : Int) < (L.length : Int) := by omega
  have x3 : (0 : Int) ≤ (r2 : Int) := by omega
  have x4 : (r2 : Int) < (M.length : Int) := by omega
  have x5 : (0 : Int) < (L.length : Int) := by omega
  have x6 : (0 : Int) < (M.length : Int) := by omega
  have hzM := nat_len_ne hM
  have d1 : decide ((0 : Int) < (W : Int)) = true := by simp; omega
  have d2 : decide ((0 : Int) < (L.length : Int)) = true := by simp; omega
  obtain ⟨y1, z1⟩ := p
  obtain ⟨y2, z2⟩ := q
  obtain ⟨y3, z3⟩ := p'
  obtain ⟨y4, z4⟩ := q'
  simp only at e1 e2 e3 e4 b1 bb2 b3 b4 hwd
  obtain ⟨b11, b12⟩ := b1
  obtain ⟨b21, b22⟩ := bb2
  obtain ⟨b31, b32⟩ := b3
  obtain ⟨b41, b42⟩ := b4
  have HH := Lib.hid h
  have HH2 := Lib.hid h2
  clear h h2 hcell hcell2 hp hq hp' hq' e hr hr2 hk hk2 l1 l2
  go_enter Try.func14, Try.ntmps14
  go_wp2_with fail
  go_quiet (fail)
  go_wp2_with fail
  all_goals
    go_quiet (fail)
    go_wp2_with fail
    all_goals
      go_ret2
      exact ⟨_, c, rfl, HH.out, below_drewN (Below.refl _ _) _⟩
theorem puts_tot {L M : List Pr} : tot (puts L M) = tot L + tot M := by
  induction M generalizing L with
  | nil => simp [puts, tot]
  | cons p M ih => rw [show puts L (p :: M) = puts (put L p.1 p.2) M from rfl, ih, put_tot, tot_cons]; omega
set_option maxHeartbeats 3200000 in
theorem take13_cap_W0 (A A2 : Option Addr) (c c2 base : Nat) (L M : List Pr) (W : Nat) (w : World) (h : OwnP w base A c L) (h2 : Prs w w.heap.size A2 M) (hm : L.length ≤ 1000000) (hm2 : M.length ≤ 1000000) (hM : M ≠ []) (hw0 : W = 0) (ht : tot L ≤ 4611686018427387904) (ht2 : tot M ≤ 4611686018427387904) (hc : 4611686018427387904 - tot L < tot M) :
    Calls Try.prog 14 #[.slice A L.length c, .slice A2 M.length c2, .int .i64 (W : Int)] w (RAdd base w (L, 6)) := by
  have HTM := fun B W' h => total13_t A2 c2 B M W' h (by unfold maxLen; omega) (by omega)
  have HTL := fun B W' h => total13_t A c B L W' h (by unfold maxLen; omega) (by omega)
  replace HTM := Lib.hid HTM
  replace HTL := Lib.hid HTL
  have htl : ((tot L : Nat) : Int) ≤ 4611686018427387904 := by omega
  have dd : decide (4611686018427387904 - ((tot L : Nat) : Int) < ((tot M : Nat) : Int)) = true := by simp; omega
  obtain ⟨b0, o0, rfl, hb0, hcell0⟩ := h2.at_ (List.length_pos_iff.2 hM)
  clear hcell0 hb0
  subst hw0
  have HH := Lib.hid h
  have HH2 := Lib.hid h2
  have hzM := nat_len_ne hM
  clear h h2 hc hM
  go_enter Try.func14, Try.ntmps14
  go_wp2_with fail
  refine (HTM.out w.heap.size _ (HH2.out)).mono ?_
  rintro e w1 ⟨rfl, hw1⟩
  obtain rfl := hw1.symm
  go_wp2_with fail
  refine (HTL.out w.heap.size _ (HH.out.reads)).mono ?_
  rintro e w1 ⟨rfl, hw1⟩
  obtain rfl := hw1.symm
  go_wp2_with fail
  go_ret2
  exact ⟨_, c, rfl, HH.out, Below.refl _ _⟩
set_option maxHeartbeats 3200000 in
theorem take13_cap_WE (A A2 : Option Addr) (c c2 base : Nat) (L M : List Pr) (W : Nat) (w : World) (h : OwnP w base A c L) (h2 : Prs w w.heap.size A2 M) (hm : L.length ≤ 1000000) (hm2 : M.length ≤ 1000000) (hM : M ≠ []) (hW : 0 < W) (hL0 : L = []) (ht : tot L ≤ 4611686018427387904) (ht2 : tot M ≤ 4611686018427387904) (hc : 4611686018427387904 - tot L < tot M) :
    Calls Try.prog 14 #[.slice A L.length c, .slice A2 M.length c2, .int .i64 (W : Int)] w (RAdd base w (L, 6)) := by
  have HTM := fun B W' h => total13_t A2 c2 B M W' h (by unfold maxLen; omega) (by omega)
  have HTL := fun B W' h => total13_t A c B L W' h (by unfold maxLen; omega) (by omega)
  replace HTM := Lib.hid HTM
  replace HTL := Lib.hid HTL
  have htl : ((tot L : Nat) : Int) ≤ 4611686018427387904 := by omega
  have dd : decide (4611686018427387904 - ((tot L : Nat) : Int) < ((tot M : Nat) : Int)) = true := by simp; omega
  obtain ⟨b0, o0, rfl, hb0, hcell0⟩ := h2.at_ (List.length_pos_iff.2 hM)
  clear hcell0 hb0
  have d2 : (L.length : Int) ≤ 0 := by rw [hL0]; decide
  have d3 : decide (0 < L.length) = false := by rw [hL0]; rfl
  have HH := Lib.hid h
  have HH2 := Lib.hid h2
  have hzM := nat_len_ne hM
  have d1 : decide ((0 : Int) < (W : Int)) = true := by simp; omega
  clear hL0
  clear h h2 hc hM
  go_enter Try.func14, Try.ntmps14
  go_wp2_with fail
  refine (HTM.out w.heap.size _ (HH2.out)).mono ?_
  rintro e w1 ⟨rfl, hw1⟩
  obtain rfl := hw1.symm
  go_wp2_with fail
  refine (HTL.out w.heap.size _ (HH.out.reads)).mono ?_
  rintro e w1 ⟨rfl, hw1⟩
  obtain rfl := hw1.symm
  go_wp2_with fail
  go_ret2
  exact ⟨_, c, rfl, HH.out, Below.refl _ _⟩
set_option maxHeartbeats 3200000 in
theorem take13_cap_WF (A A2 : Option Addr) (c c2 base : Nat) (L M : List Pr) (W : Nat) (w : World) (h : OwnP w base A c L) (h2 : Prs w w.heap.size A2 M) (hm : L.length ≤ 1000000) (hm2 : M.length ≤ 1000000) (hM : M ≠ []) (hL : L ≠ []) (hk : KeysIn L) (hk2 : KeysIn M) (hW : 0 < W) (hwd : ¬ (W : Int) < wideLL L M) (ht : tot L ≤ 4611686018427387904) (ht2 : tot M ≤ 4611686018427387904) (hc : 4611686018427387904 - tot L < tot M) :
    Calls Try.prog 14 #[.slice A L.length c, .slice A2 M.length c2, .int .i64 (W : Int)] w (RAdd base w (L, 6)) := by
  have HTM := fun B W' h => total13_t A2 c2 B M W' h (by unfold maxLen; omega) (by omega)
  have HTL := fun B W' h => total13_t A c B L W' h (by unfold maxLen; omega) (by omega)
  replace HTM := Lib.hid HTM
  replace HTL := Lib.hid HTL
  have htl : ((tot L : Nat) : Int) ≤ 4611686018427387904 := by omega
  have dd : decide (4611686018427387904 - ((tot L : Nat) : Int) < ((tot M : Nat) : Int)) = true := by simp; omega
  obtain ⟨p, hp⟩ : ∃ p, L[0]? = some p := ⟨L[0]'(List.length_pos_iff.2 hL), by simp⟩
  obtain ⟨q, hq⟩ : ∃ q, L[L.length - 1]? = some q := ⟨L[L.length - 1]'(by have := List.length_pos_iff.2 hL; omega), by simp⟩
  obtain ⟨p', hp'⟩ : ∃ p, M[0]? = some p := ⟨M[0]'(List.length_pos_iff.2 hM), by simp⟩
  obtain ⟨q', hq'⟩ : ∃ q, M[M.length - 1]? = some q := ⟨M[M.length - 1]'(by have := List.length_pos_iff.2 hM; omega), by simp⟩
  have e : wideLL L M = max q.1 q'.1 - min p.1 p'.1 + 1 := by
    unfold wideLL
    rw [List.head?_eq_getElem?, hp, List.getLast?_eq_getElem?, hq, List.head?_eq_getElem?, hp', List.getLast?_eq_getElem?, hq']
  have l1 := List.length_pos_iff.2 hL
  have l2 := List.length_pos_iff.2 hM
  obtain ⟨b, o, rfl, _, hcell⟩ := h.reads.at_ l1
  obtain ⟨b0, o0, rfl, _, hcell2⟩ := h2.at_ l2
  obtain ⟨e1, _⟩ := hcell 0 p hp
  obtain ⟨e2, _⟩ := hcell (L.length - 1) q hq
  obtain ⟨e3, _⟩ := hcell2 0 p' hp'
  obtain ⟨e4, _⟩ := hcell2 (M.length - 1) q' hq'
  have b1 := hk p (List.mem_of_getElem? hp)
  have bb2 := hk q (List.mem_of_getElem? hq)
  have b3 := hk2 p' (List.mem_of_getElem? hp')
  have b4 := hk2 q' (List.mem_of_getElem? hq')
  rw [e] at hwd
  obtain ⟨r, hr⟩ : ∃ r : Nat, r = L.length - 1 := ⟨_, rfl⟩
  obtain ⟨r2, hr2⟩ : ∃ r : Nat, r = M.length - 1 := ⟨_, rfl⟩
  rw [← hr] at e2
  rw [← hr2] at e4
  rw [Nat.zero_mul, Nat.add_zero] at e1 e3
  have s1 : IntKind.i64.wrap ((L.length : Int) - 1) = (r : Int) := by rw [show (L.length : Int) - 1 = (r : Int) by omega]; exact IntWalk.i64_in _ ⟨by omega, by omega⟩
  have s2 : IntKind.i64.wrap ((M.length : Int) - 1) = (r2 : Int) := by rw [show (M.length : Int) - 1 = (r2 : Int) by omega]; exact IntWalk.i64_in _ ⟨by omega, by omega⟩
  have x1 : (0 : Int) ≤ (r : Int) := by omega
  have x2 : (r : Int) < (L.length : Int) := by omega
  have x3 : (0 : Int) ≤ (r2 : Int) := by omega
  have x4 : (r2 : Int) < (M.length : Int) := by omega
  have x5 : (0 : Int) < (L.length : Int) := by omega
  have x6 : (0 : Int) < (M.length : Int) := by omega
  have hzM := nat_len_ne hM
  have d1 : decide ((0 : Int) < (W : Int)) = true := by simp; omega
  have d2 : decide ((0 : Int) < (L.length : Int)) = true := by simp; omega
  obtain ⟨y1, z1⟩ := p
  obtain ⟨y2, z2⟩ := q
  obtain ⟨y3, z3⟩ := p'
  obtain ⟨y4, z4⟩ := q'
  simp only at e1 e2 e3 e4 b1 bb2 b3 b4 hwd
  obtain ⟨b11, b12⟩ := b1
  obtain ⟨b21, b22⟩ := bb2
  obtain ⟨b31, b32⟩ := b3
  obtain ⟨b41, b42⟩ := b4
  have HH := Lib.hid h
  have HH2 := Lib.hid h2
  have w1 : y2 - y1 + 1 ≤ (W : Int) ∧ y2 - y3 + 1 ≤ (W : Int) ∧ y4 - y1 + 1 ≤ (W : Int) ∧ y4 - y3 + 1 ≤ (W : Int) := by omega
  obtain ⟨w11, w12, w13, w14⟩ := w1
  have x7 : (L.length : Int) ≤ 1000000 := by omega
  have x8 : (M.length : Int) ≤ 1000000 := by omega
  clear h h2 hwd hc hM hL hcell hcell2 hp hq hp' hq' e hr hr2 hk hk2 l1 l2
  go_enter Try.func14, Try.ntmps14
  go_wp2_with fail
  go_quiet (fail)
  go_wp2_with fail
  all_goals
    go_quiet (fail)
    go_wp2_with fail
    all_goals
      refine (HTM.out w.heap.size _ (Reads.drewN HH2.out _)).mono ?_
      rintro e w1 ⟨rfl, hw1⟩
      obtain rfl := hw1.symm
      go_wp2_with fail
      refine (HTL.out w.heap.size _ (Reads.drewN HH.out.reads _)).mono ?_
      rintro e w1 ⟨rfl, hw1⟩
      obtain rfl := hw1.symm
      go_wp2_with fail
      go_ret2
      exact ⟨_, c, rfl, HH.out, below_drewN (Below.refl _ _) _⟩
set_option maxHeartbeats 3200000 in
theorem take13_ok_W0 (A A2 : Option Addr) (c c2 base : Nat) (L M : List Pr) (W : Nat) (w : World) (h : OwnP w base A c L) (h2 : Prs w w.heap.size A2 M) (hm : L.length ≤ 1000000) (hm2 : M.length ≤ 1000000) (hM : M ≠ []) (hw0 : W = 0) (ht : tot L ≤ 4611686018427387904) (hc : ¬ 4611686018427387904 - tot L < tot M) (hbase : base ≤ w.heap.size) :
    Calls Try.prog 14 #[.slice A L.length c, .slice A2 M.length c2, .int .i64 (W : Int)] w (RAdd base w (puts L M, 0)) := by
  have HTM := fun B W' h => total13_t A2 c2 B M W' h (by unfold maxLen; omega) (by omega)
  have HTL := fun B W' h => total13_t A c B L W' h (by unfold maxLen; omega) (by omega)
  replace HTM := Lib.hid HTM
  replace HTL := Lib.hid HTL
  have htl : ((tot L : Nat) : Int) ≤ 4611686018427387904 := by omega
  have htot : tot L + tot M ≤ 4611686018427387904 := by omega
  have HTOT := Lib.hid htot
  have HBASE := Lib.hid hbase
  have hbl0 : Below w.heap.size w w := Below.refl _ _
  have dd : decide (4611686018427387904 - ((tot L : Nat) : Int) < ((tot M : Nat) : Int)) = false := by simp; omega
  obtain ⟨b0, o0, rfl, hb0, hcell0⟩ := h2.at_ (List.length_pos_iff.2 hM)
  clear hcell0 hb0
  subst hw0
  have HH := Lib.hid h
  have HH2 := Lib.hid h2
  have hzM := nat_len_ne hM
  clear h h2 hc hM
  go_enter Try.func14, Try.ntmps14
  go_wp2_with fail
  refine (HTM.out w.heap.size _ (HH2.out)).mono ?_
  rintro e w1 ⟨rfl, hw1⟩
  obtain rfl := hw1.symm
  go_wp2_with fail
  refine (HTL.out w.heap.size _ (HH.out.reads)).mono ?_
  rintro e w1 ⟨rfl, hw1⟩
  obtain rfl := hw1.symm
  go_wp2_with fail
  go_loopw [10, 11] (fun v i wr => ∃ (k : Nat) (A' : Option Addr) (c' : Nat), k ≤ M.length ∧ i = .int .i64 k ∧ v = .slice A' (puts L (M.take k)).length c' ∧ OwnP wr base A' c' (puts L (M.take k)) ∧ Below w.heap.size w wr) (fun _ i _ => M.length - (intOf i).toNat)
  case atStart => exact ⟨0, _, c, Nat.zero_le _, rfl, rfl, HH.out, hbl0⟩
  case round =>
    obtain ⟨k, A', c', hk, rfl, rfl, hown, hbel⟩ := hrel
    by_cases hlt : k < M.length
    · obtain ⟨b, o, hA2, hbl2, hcell⟩ := Prs.at_ HH2.out (by omega)
      obtain ⟨rfl, rfl⟩ : b = b0 ∧ o = o0 := by
        simp only [Option.some.injEq, Addr.mk.injEq] at hA2
        exact ⟨hA2.1.symm, hA2.2.1.symm⟩
      obtain ⟨⟨x1, x2⟩, hp⟩ : ∃ p, M[k]? = some p := ⟨M[k], by simp [hlt]⟩
      obtain ⟨g1, g2⟩ := hcell k _ hp
      simp only at g1 g2
      have hnx : puts L (M.take (k + 1)) = put (puts L (M.take k)) x1 x2 := by
        obtain ⟨h1, e⟩ := List.getElem?_eq_some_iff.1 hp
        rw [List.take_succ_eq_append_getElem h1, e, puts_snoc]
      have hol := puts_len (l := L) (m := M.take k)
      rw [List.length_take] at hol
      have htt := puts_tot (L := L) (M := M.take k)
      have htk := tot_take_le (L := M) (k := k)
      have htot := HTOT.out
      have htk1 : tot (M.take k) + x2 ≤ tot M := by
        obtain ⟨h1, e⟩ := List.getElem?_eq_some_iff.1 hp
        have t1 := tot_take h1
        have t2 := tot_take_le (L := M) (k := k + 1)
        rw [e] at t1
        simp only at t1
        omega
      have hx2 := tot_le_of_mem (List.mem_of_getElem? hp)
      simp only at hx2
      have HPU := fun W' A' c' h => put13_t A' c' (puts L (M.take k)) x1 x2 W' h (by omega) (by omega)
      replace HPU := Lib.hid HPU
      have hkk : (k : Int) < (M.length : Int) := by omega
      have hk0 : (0 : Int) ≤ (k : Int) := by omega
      have d1 : wr.cell? ⟨b, o + k * 2, none⟩ = some (.int .i64 x1) := (hbel.cell (p := ⟨b, o + k * 2, none⟩) hbl2).trans g1
      have d2 : wr.cell? ⟨b, o + k * 2 + 1, none⟩ = some (.int .u64 (x2 : Nat)) := (hbel.cell (p := ⟨b, o + k * 2 + 1, none⟩) hbl2).trans g2
      have HL := Lib.hid hlt
      have HO := Lib.hid hown
      have HB := Lib.hid hbel
      have HN := Lib.hid hnx
      clear hp g1 g2 hcell hlt hown hbel hk hnx hol htt htk hx2 hA2 htot htk1
      generalize puts L (M.take k) = out at *
      go_wp2_with fail
      refine wp_region_noPanic ?_
      refine wp_region_held_drew (S := (fun w' => w'.cell? ⟨b, o + k * 2, none⟩ = some (.int .i64 x1) ∧ w'.cell? ⟨b, o + k * 2 + 1, none⟩ = some (.int .u64 (x2 : Nat)))) (by kernel_rfl) ⟨d1, d2⟩ (fun hHeld => ?_)
      refine wpAnyH_take (i := 0) (oi := ?_) (v := ?_) ?_ ?_ ?_ ?_ ?_ ?_ ?_ ?_
      rotate_left 2
      · simp only [List.getElem?_toArray, List.getElem?_cons_zero]; rfl
      · kernel_rfl
      · kernel_rfl
      · kernel_rfl
      · exact fun _ _ _ h => h
      · exact Or.inl ⟨by kernel_rfl, by intro w hSw; (try dsimp only at hSw); go_simp; try with_reducible rfl⟩
      · assumption
      try go_simp
      refine wpAnyH_take (i := 1) (oi := ?_) (v := ?_) ?_ ?_ ?_ ?_ ?_ ?_ ?_ ?_
      rotate_left 2
      · simp only [List.getElem?_toArray, List.getElem?_cons_succ, List.getElem?_cons_zero]; rfl
      · kernel_rfl
      · kernel_rfl
      · kernel_rfl
      · exact fun _ _ _ h => h
      · exact Or.inl ⟨by kernel_rfl, by intro w hSw; (try dsimp only at hSw); go_simp; try with_reducible rfl⟩
      · assumption
      try go_simp
      refine wpAnyH_take (i := 2) (oi := ?_) (v := ?_) ?_ ?_ ?_ ?_ ?_ ?_ ?_ ?_
      rotate_left 2
      · simp only [List.getElem?_toArray, List.getElem?_cons_succ, List.getElem?_cons_zero]; rfl
      · kernel_rfl
      · kernel_rfl
      · kernel_rfl
      · exact fun _ _ _ h => h
      · exact Or.inl ⟨by kernel_rfl, by intro w hSw; (try dsimp only at hSw); go_simp; try with_reducible rfl⟩
      · assumption
      try go_simp
      refine wpAnyH_take (i := 3) (oi := ?_) (v := ?_) ?_ ?_ ?_ ?_ ?_ ?_ ?_ ?_
      rotate_left 2
      · simp only [List.getElem?_toArray, List.getElem?_cons_succ, List.getElem?_cons_zero]; rfl
      · kernel_rfl
      · kernel_rfl
      · kernel_rfl
      · exact fun _ _ _ h => h
      · exact Or.inl ⟨by kernel_rfl, by intro w hSw; (try dsimp only at hSw); go_simp; try with_reducible rfl⟩
      · assumption
      try go_simp
      refine wpAnyH_take (i := 4) (oi := ?_) (v := ?_) ?_ ?_ ?_ ?_ ?_ ?_ ?_ ?_
      rotate_left 2
      · simp only [List.getElem?_toArray, List.getElem?_cons_succ, List.getElem?_cons_zero]; rfl
      · kernel_rfl
      · kernel_rfl
      · kernel_rfl
      · exact fun _ _ _ h => h
      · exact Or.inl ⟨by kernel_rfl, by intro w hSw; (try dsimp only at hSw); go_simp; try with_reducible rfl⟩
      · assumption
      try go_simp
      refine wpAnyH_take (i := 5) (oi := ?_) (v := ?_) ?_ ?_ ?_ ?_ ?_ ?_ ?_ ?_
      rotate_left 2
      · simp only [List.getElem?_toArray, List.getElem?_cons_succ, List.getElem?_cons_zero]; rfl
      · kernel_rfl
      · kernel_rfl
      · kernel_rfl
      · exact fun _ _ _ h => h
      · exact Or.inl ⟨by kernel_rfl, by intro w hSw; (try dsimp only at hSw); go_simp; try with_reducible rfl⟩
      · assumption
      try go_simp
      refine wpAnyH_take (i := 6) (oi := ?_) (v := ?_) ?_ ?_ ?_ ?_ ?_ ?_ ?_ ?_
      rotate_left 2
      · simp only [List.getElem?_toArray, List.getElem?_cons_succ, List.getElem?_cons_zero]; rfl
      · kernel_rfl
      · kernel_rfl
      · kernel_rfl
      · exact fun _ _ _ h => h
      · exact Or.inl ⟨by kernel_rfl, by intro w hSw; (try dsimp only at hSw); go_simp; try with_reducible rfl⟩
      · assumption
      try go_simp
      refine wpAnyH_take (i := 7) (oi := ?_) (v := ?_) ?_ ?_ ?_ ?_ ?_ ?_ ?_ ?_
      rotate_left 2
      · simp only [List.getElem?_toArray, List.getElem?_cons_succ, List.getElem?_cons_zero]; rfl
      · kernel_rfl
      · kernel_rfl
      · kernel_rfl
      · exact fun _ _ _ h => h
      · exact Or.inl ⟨by kernel_rfl, by intro w hSw; (try dsimp only at hSw); go_simp; try with_reducible rfl⟩
      · assumption
      try go_simp
      refine wpAnyH_take (i := 8) (oi := ?_) (v := ?_) ?_ ?_ ?_ ?_ ?_ ?_ ?_ ?_
      rotate_left 2
      · simp only [List.getElem?_toArray, List.getElem?_cons_succ, List.getElem?_cons_zero]; rfl
      · kernel_rfl
      · kernel_rfl
      · kernel_rfl
      · exact fun _ _ _ h => h
      · exact Or.inl ⟨by kernel_rfl, by intro w hSw; (try dsimp only at hSw); go_simp; try with_reducible rfl⟩
      · assumption
      try go_simp
      refine wpAnyH_take (i := 9) (oi := ?_) (v := ?_) ?_ ?_ ?_ ?_ ?_ ?_ ?_ ?_
      rotate_left 2
      · simp only [List.getElem?_toArray, List.getElem?_cons_succ, List.getElem?_cons_zero]; rfl
      · kernel_rfl
      · kernel_rfl
      · kernel_rfl
      · exact fun _ _ _ h => h
      · exact Or.inl ⟨by kernel_rfl, by intro w hSw; (try dsimp only at hSw); go_simp; try with_reducible rfl⟩
      · assumption
      try go_simp
      refine wpAnyH_take (i := 10) (oi := ?_) (v := ?_) ?_ ?_ ?_ ?_ ?_ ?_ ?_ ?_
      rotate_left 2
      · simp only [List.getElem?_toArray, List.getElem?_cons_succ, List.getElem?_cons_zero]; rfl
      · kernel_rfl
      · kernel_rfl
      · kernel_rfl
      · exact fun _ _ _ h => h
      · exact Or.inl ⟨by kernel_rfl, by intro w hSw; (try dsimp only at hSw); go_simp; try with_reducible rfl⟩
      · assumption
      try go_simp
      refine wpAnyH_ready (rs := [11]) (by kernel_rfl) (by simp) ?_
      refine AllReadyH.cons (o := ?_) ?_ ?_ AllReadyH.nil
      rotate_left 1
      · simp only [List.getElem?_toArray, List.getElem?_cons_succ, List.getElem?_cons_zero]; rfl
      intro K hK
      go_simp
      refine (HPU.out wr.drew A' c' HO.out.reads).mono ?_
      rintro e w2 ⟨A3, c3, rfl, ho3, hb3⟩
      have hB : Below w.heap.size wr.drew w2 := hb3.mono HB.out.size
      have f1 : w2.cell? ⟨b, o + k * 2, none⟩ = some (.int .i64 x1) := (hB.cell (p := ⟨b, o + k * 2, none⟩) hbl2).trans d1
      have f2 : w2.cell? ⟨b, o + k * 2 + 1, none⟩ = some (.int .u64 (x2 : Nat)) := (hB.cell (p := ⟨b, o + k * 2 + 1, none⟩) hbl2).trans d2
      have HO3 := Lib.hid (Own.mono ho3 (Nat.le_trans HBASE.out HB.out.size))
      have HB3 := Lib.hid (HB.out.trans (show Below w.heap.size wr w2 from ⟨hB.os, hB.tape, hB.output, hB.size, hB.block⟩))
      clear ho3 hb3 hB
      refine hK.out _ _ ?_ (fun hHeld => ?_)
      · exact ⟨f1, f2⟩
      clear hK K
      try go_simp
      refine wpAnyH_take (i := 12) (oi := ?_) (v := ?_) ?_ ?_ ?_ ?_ ?_ ?_ ?_ ?_
      rotate_left 2
      · simp only [List.getElem?_toArray, List.getElem?_cons_succ, List.getElem?_cons_zero]; rfl
      · kernel_rfl
      · kernel_rfl
      · kernel_rfl
      · exact fun _ _ _ h => h
      · exact Or.inl ⟨by kernel_rfl, by intro w hSw; (try dsimp only at hSw); go_simp; try with_reducible rfl⟩
      · assumption
      try go_simp
      refine wpAnyH_done (by kernel_rfl) ?_ _
      refine NoPanic.normal ?_
      go_wp2_with fail
      go_roundw
      case rel => exact ⟨k + 1, A3, c3, HL.out, by go_num, by rw [HN.out], by rw [HN.out]; exact HO3.out, HB3.out⟩
      case measure => have h1 := HL.out; simp [intOf]; omega
    · obtain rfl : k = M.length := by omega
      rw [List.take_length] at hown ⊢
      have HO := Lib.hid hown
      have HB := Lib.hid hbel
      clear hown hbel
      go_wp2_with fail
      go_ret2
      exact ⟨A', c', rfl, HO.out, HB.out⟩
set_option maxHeartbeats 3200000 in
theorem take13_ok_WE (A A2 : Option Addr) (c c2 base : Nat) (L M : List Pr) (W : Nat) (w : World) (h : OwnP w base A c L) (h2 : Prs w w.heap.size A2 M) (hm : L.length ≤ 1000000) (hm2 : M.length ≤ 1000000) (hM : M ≠ []) (hW : 0 < W) (hL0 : L = []) (ht : tot L ≤ 4611686018427387904) (hc : ¬ 4611686018427387904 - tot L < tot M) (hbase : base ≤ w.heap.size) :
    Calls Try.prog 14 #[.slice A L.length c, .slice A2 M.length c2, .int .i64 (W : Int)] w (RAdd base w (puts L M, 0)) := by
  have HTM := fun B W' h => total13_t A2 c2 B M W' h (by unfold maxLen; omega) (by omega)
  have HTL := fun B W' h => total13_t A c B L W' h (by unfold maxLen; omega) (by omega)
  replace HTM := Lib.hid HTM
  replace HTL := Lib.hid HTL
  have htl : ((tot L : Nat) : Int) ≤ 4611686018427387904 := by omega
  have htot : tot L + tot M ≤ 4611686018427387904 := by omega
  have HTOT := Lib.hid htot
  have HBASE := Lib.hid hbase
  have hbl0 : Below w.heap.size w w := Below.refl _ _
  have dd : decide (4611686018427387904 - ((tot L : Nat) : Int) < ((tot M : Nat) : Int)) = false := by simp; omega
  obtain ⟨b0, o0, rfl, hb0, hcell0⟩ := h2.at_ (List.length_pos_iff.2 hM)
  clear hcell0 hb0
  have d2 : (L.length : Int) ≤ 0 := by rw [hL0]; decide
  have d3 : decide (0 < L.length) = false := by rw [hL0]; rfl
  have HH := Lib.hid h
  have HH2 := Lib.hid h2
  have hzM := nat_len_ne hM
  have d1 : decide ((0 : Int) < (W : Int)) = true := by simp; omega
  clear hL0
  clear h h2 hc hM
  go_enter Try.func14, Try.ntmps14
  go_wp2_with fail
  refine (HTM.out w.heap.size _ (HH2.out)).mono ?_
  rintro e w1 ⟨rfl, hw1⟩
  obtain rfl := hw1.symm
  go_wp2_with fail
  refine (HTL.out w.heap.size _ (HH.out.reads)).mono ?_
  rintro e w1 ⟨rfl, hw1⟩
  obtain rfl := hw1.symm
  go_wp2_with fail
  go_loopw [10, 11] (fun v i wr => ∃ (k : Nat) (A' : Option Addr) (c' : Nat), k ≤ M.length ∧ i = .int .i64 k ∧ v = .slice A' (puts L (M.take k)).length c' ∧ OwnP wr base A' c' (puts L (M.take k)) ∧ Below w.heap.size w wr) (fun _ i _ => M.length - (intOf i).toNat)
  case atStart => exact ⟨0, _, c, Nat.zero_le _, rfl, rfl, HH.out, hbl0⟩
  case round =>
    obtain ⟨k, A', c', hk, rfl, rfl, hown, hbel⟩ := hrel
    by_cases hlt : k < M.length
    · obtain ⟨b, o, hA2, hbl2, hcell⟩ := Prs.at_ HH2.out (by omega)
      obtain ⟨rfl, rfl⟩ : b = b0 ∧ o = o0 := by
        simp only [Option.some.injEq, Addr.mk.injEq] at hA2
        exact ⟨hA2.1.symm, hA2.2.1.symm⟩
      obtain ⟨⟨x1, x2⟩, hp⟩ : ∃ p, M[k]? = some p := ⟨M[k], by simp [hlt]⟩
      obtain ⟨g1, g2⟩ := hcell k _ hp
      simp only at g1 g2
      have hnx : puts L (M.take (k + 1)) = put (puts L (M.take k)) x1 x2 := by
        obtain ⟨h1, e⟩ := List.getElem?_eq_some_iff.1 hp
        rw [List.take_succ_eq_append_getElem h1, e, puts_snoc]
      have hol := puts_len (l := L) (m := M.take k)
      rw [List.length_take] at hol
      have htt := puts_tot (L := L) (M := M.take k)
      have htk := tot_take_le (L := M) (k := k)
      have htot := HTOT.out
      have htk1 : tot (M.take k) + x2 ≤ tot M := by
        obtain ⟨h1, e⟩ := List.getElem?_eq_some_iff.1 hp
        have t1 := tot_take h1
        have t2 := tot_take_le (L := M) (k := k + 1)
        rw [e] at t1
        simp only at t1
        omega
      have hx2 := tot_le_of_mem (List.mem_of_getElem? hp)
      simp only at hx2
      have HPU := fun W' A' c' h => put13_t A' c' (puts L (M.take k)) x1 x2 W' h (by omega) (by omega)
      replace HPU := Lib.hid HPU
      have hkk : (k : Int) < (M.length : Int) := by omega
      have hk0 : (0 : Int) ≤ (k : Int) := by omega
      have d1 : wr.cell? ⟨b, o + k * 2, none⟩ = some (.int .i64 x1) := (hbel.cell (p := ⟨b, o + k * 2, none⟩) hbl2).trans g1
      have d2 : wr.cell? ⟨b, o + k * 2 + 1, none⟩ = some (.int .u64 (x2 : Nat)) := (hbel.cell (p := ⟨b, o + k * 2 + 1, none⟩) hbl2).trans g2
      have HL := Lib.hid hlt
      have HO := Lib.hid hown
      have HB := Lib.hid hbel
      have HN := Lib.hid hnx
      clear hp g1 g2 hcell hlt hown hbel hk hnx hol htt htk hx2 hA2 htot htk1
      generalize puts L (M.take k) = out at *
      go_wp2_with fail
      refine wp_region_noPanic ?_
      refine wp_region_held_drew (S := (fun w' => w'.cell? ⟨b, o + k * 2, none⟩ = some (.int .i64 x1) ∧ w'.cell? ⟨b, o + k * 2 + 1, none⟩ = some (.int .u64 (x2 : Nat)))) (by kernel_rfl) ⟨d1, d2⟩ (fun hHeld => ?_)
      refine wpAnyH_take (i := 0) (oi := ?_) (v := ?_) ?_ ?_ ?_ ?_ ?_ ?_ ?_ ?_
      rotate_left 2
      · simp only [List.getElem?_toArray, List.getElem?_cons_zero]; rfl
      · kernel_rfl
      · kernel_rfl
      · kernel_rfl
      · exact fun _ _ _ h => h
      · exact Or.inl ⟨by kernel_rfl, by intro w hSw; (try dsimp only at hSw); go_simp; try with_reducible rfl⟩
      · assumption
      try go_simp
      refine wpAnyH_take (i := 1) (oi := ?_) (v := ?_) ?_ ?_ ?_ ?_ ?_ ?_ ?_ ?_
      rotate_left 2
      · simp only [List.getElem?_toArray, List.getElem?_cons_succ, List.getElem?_cons_zero]; rfl
      · kernel_rfl
      · kernel_rfl
      · kernel_rfl
      · exact fun _ _ _ h => h
      · exact Or.inl ⟨by kernel_rfl, by intro w hSw; (try dsimp only at hSw); go_simp; try with_reducible rfl⟩
      · assumption
      try go_simp
      refine wpAnyH_take (i := 2) (oi := ?_) (v := ?_) ?_ ?_ ?_ ?_ ?_ ?_ ?_ ?_
      rotate_left 2
      · simp only [List.getElem?_toArray, List.getElem?_cons_succ, List.getElem?_cons_zero]; rfl
      · kernel_rfl
      · kernel_rfl
      · kernel_rfl
      · exact fun _ _ _ h => h
      · exact Or.inl ⟨by kernel_rfl, by intro w hSw; (try dsimp only at hSw); go_simp; try with_reducible rfl⟩
      · assumption
      try go_simp
      refine wpAnyH_take (i := 3) (oi := ?_) (v := ?_) ?_ ?_ ?_ ?_ ?_ ?_ ?_ ?_
      rotate_left 2
      · simp only [List.getElem?_toArray, List.getElem?_cons_succ, List.getElem?_cons_zero]; rfl
      · kernel_rfl
      · kernel_rfl
      · kernel_rfl
      · exact fun _ _ _ h => h
      · exact Or.inl ⟨by kernel_rfl, by intro w hSw; (try dsimp only at hSw); go_simp; try with_reducible rfl⟩
      · assumption
      try go_simp
      refine wpAnyH_take (i := 4) (oi := ?_) (v := ?_) ?_ ?_ ?_ ?_ ?_ ?_ ?_ ?_
      rotate_left 2
      · simp only [List.getElem?_toArray, List.getElem?_cons_succ, List.getElem?_cons_zero]; rfl
      · kernel_rfl
      · kernel_rfl
      · kernel_rfl
      · exact fun _ _ _ h => h
      · exact Or.inl ⟨by kernel_rfl, by intro w hSw; (try dsimp only at hSw); go_simp; try with_reducible rfl⟩
      · assumption
      try go_simp
      refine wpAnyH_take (i := 5) (oi := ?_) (v := ?_) ?_ ?_ ?_ ?_ ?_ ?_ ?_ ?_
      rotate_left 2
      · simp only [List.getElem?_toArray, List.getElem?_cons_succ, List.getElem?_cons_zero]; rfl
      · kernel_rfl
      · kernel_rfl
      · kernel_rfl
      · exact fun _ _ _ h => h
      · exact Or.inl ⟨by kernel_rfl, by intro w hSw; (try dsimp only at hSw); go_simp; try with_reducible rfl⟩
      · assumption
      try go_simp
      refine wpAnyH_take (i := 6) (oi := ?_) (v := ?_) ?_ ?_ ?_ ?_ ?_ ?_ ?_ ?_
      rotate_left 2
      · simp only [List.getElem?_toArray, List.getElem?_cons_succ, List.getElem?_cons_zero]; rfl
      · kernel_rfl
      · kernel_rfl
      · kernel_rfl
      · exact fun _ _ _ h => h
      · exact Or.inl ⟨by kernel_rfl, by intro w hSw; (try dsimp only at hSw); go_simp; try with_reducible rfl⟩
      · assumption
      try go_simp
      refine wpAnyH_take (i := 7) (oi := ?_) (v := ?_) ?_ ?_ ?_ ?_ ?_ ?_ ?_ ?_
      rotate_left 2
      · simp only [List.getElem?_toArray, List.getElem?_cons_succ, List.getElem?_cons_zero]; rfl
      · kernel_rfl
      · kernel_rfl
      · kernel_rfl
      · exact fun _ _ _ h => h
      · exact Or.inl ⟨by kernel_rfl, by intro w hSw; (try dsimp only at hSw); go_simp; try with_reducible rfl⟩
      · assumption
      try go_simp
      refine wpAnyH_take (i := 8) (oi := ?_) (v := ?_) ?_ ?_ ?_ ?_ ?_ ?_ ?_ ?_
      rotate_left 2
      · simp only [List.getElem?_toArray, List.getElem?_cons_succ, List.getElem?_cons_zero]; rfl
      · kernel_rfl
      · kernel_rfl
      · kernel_rfl
      · exact fun _ _ _ h => h
      · exact Or.inl ⟨by kernel_rfl, by intro w hSw; (try dsimp only at hSw); go_simp; try with_reducible rfl⟩
      · assumption
      try go_simp
      refine wpAnyH_take (i := 9) (oi := ?_) (v := ?_) ?_ ?_ ?_ ?_ ?_ ?_ ?_ ?_
      rotate_left 2
      · simp only [List.getElem?_toArray, List.getElem?_cons_succ, List.getElem?_cons_zero]; rfl
      · kernel_rfl
      · kernel_rfl
      · kernel_rfl
      · exact fun _ _ _ h => h
      · exact Or.inl ⟨by kernel_rfl, by intro w hSw; (try dsimp only at hSw); go_simp; try with_reducible rfl⟩
      · assumption
      try go_simp
      refine wpAnyH_take (i := 10) (oi := ?_) (v := ?_) ?_ ?_ ?_ ?_ ?_ ?_ ?_ ?_
      rotate_left 2
      · simp only [List.getElem?_toArray, List.getElem?_cons_succ, List.getElem?_cons_zero]; rfl
      · kernel_rfl
      · kernel_rfl
      · kernel_rfl
      · exact fun _ _ _ h => h
      · exact Or.inl ⟨by kernel_rfl, by intro w hSw; (try dsimp only at hSw); go_simp; try with_reducible rfl⟩
      · assumption
      try go_simp
      refine wpAnyH_ready (rs := [11]) (by kernel_rfl) (by simp) ?_
      refine AllReadyH.cons (o := ?_) ?_ ?_ AllReadyH.nil
      rotate_left 1
      · simp only [List.getElem?_toArray, List.getElem?_cons_succ, List.getElem?_cons_zero]; rfl
      intro K hK
      go_simp
      refine (HPU.out wr.drew A' c' HO.out.reads).mono ?_
      rintro e w2 ⟨A3, c3, rfl, ho3, hb3⟩
      have hB : Below w.heap.size wr.drew w2 := hb3.mono HB.out.size
      have f1 : w2.cell? ⟨b, o + k * 2, none⟩ = some (.int .i64 x1) := (hB.cell (p := ⟨b, o + k * 2, none⟩) hbl2).trans d1
      have f2 : w2.cell? ⟨b, o + k * 2 + 1, none⟩ = some (.int .u64 (x2 : Nat)) := (hB.cell (p := ⟨b, o + k * 2 + 1, none⟩) hbl2).trans d2
      have HO3 := Lib.hid (Own.mono ho3 (Nat.le_trans HBASE.out HB.out.size))
      have HB3 := Lib.hid (HB.out.trans (show Below w.heap.size wr w2 from ⟨hB.os, hB.tape, hB.output, hB.size, hB.block⟩))
      clear ho3 hb3 hB
      refine hK.out _ _ ?_ (fun hHeld => ?_)
      · exact ⟨f1, f2⟩
      clear hK K
      try go_simp
      refine wpAnyH_take (i := 12) (oi := ?_) (v := ?_) ?_ ?_ ?_ ?_ ?_ ?_ ?_ ?_
      rotate_left 2
      · simp only [List.getElem?_toArray, List.getElem?_cons_succ, List.getElem?_cons_zero]; rfl
      · kernel_rfl
      · kernel_rfl
      · kernel_rfl
      · exact fun _ _ _ h => h
      · exact Or.inl ⟨by kernel_rfl, by intro w hSw; (try dsimp only at hSw); go_simp; try with_reducible rfl⟩
      · assumption
      try go_simp
      refine wpAnyH_done (by kernel_rfl) ?_ _
      refine NoPanic.normal ?_
      go_wp2_with fail
      go_roundw
      case rel => exact ⟨k + 1, A3, c3, HL.out, by go_num, by rw [HN.out], by rw [HN.out]; exact HO3.out, HB3.out⟩
      case measure => have h1 := HL.out; simp [intOf]; omega
    · obtain rfl : k = M.length := by omega
      rw [List.take_length] at hown ⊢
      have HO := Lib.hid hown
      have HB := Lib.hid hbel
      clear hown hbel
      go_wp2_with fail
      go_ret2
      exact ⟨A', c', rfl, HO.out, HB.out⟩
set_option maxHeartbeats 3200000 in
theorem take13_ok_WF (A A2 : Option Addr) (c c2 base : Nat) (L M : List Pr) (W : Nat) (w : World) (h : OwnP w base A c L) (h2 : Prs w w.heap.size A2 M) (hm : L.length ≤ 1000000) (hm2 : M.length ≤ 1000000) (hM : M ≠ []) (hL : L ≠ []) (hk : KeysIn L) (hk2 : KeysIn M) (hW : 0 < W) (hwd : ¬ (W : Int) < wideLL L M) (ht : tot L ≤ 4611686018427387904) (hc : ¬ 4611686018427387904 - tot L < tot M) (hbase : base ≤ w.heap.size) :
    Calls Try.prog 14 #[.slice A L.length c, .slice A2 M.length c2, .int .i64 (W : Int)] w (RAdd base w (puts L M, 0)) := by
  have HTM := fun B W' h => total13_t A2 c2 B M W' h (by unfold maxLen; omega) (by omega)
  have HTL := fun B W' h => total13_t A c B L W' h (by unfold maxLen; omega) (by omega)
  replace HTM := Lib.hid HTM
  replace HTL := Lib.hid HTL
  have htl : ((tot L : Nat) : Int) ≤ 4611686018427387904 := by omega
  have htot : tot L + tot M ≤ 4611686018427387904 := by omega
  have HTOT := Lib.hid htot
  have HBASE := Lib.hid hbase
  have hbl0 : Below w.heap.size w w := Below.refl _ _
  have dd : decide (4611686018427387904 - ((tot L : Nat) : Int) < ((tot M : Nat) : Int)) = false := by simp; omega
  obtain ⟨p, hp⟩ : ∃ p, L[0]? = some p := ⟨L[0]'(List.length_pos_iff.2 hL), by simp⟩
  obtain ⟨q, hq⟩ : ∃ q, L[L.length - 1]? = some q := ⟨L[L.length - 1]'(by have := List.length_pos_iff.2 hL; omega), by simp⟩
  obtain ⟨p', hp'⟩ : ∃ p, M[0]? = some p := ⟨M[0]'(List.length_pos_iff.2 hM), by simp⟩
  obtain ⟨q', hq'⟩ : ∃ q, M[M.length - 1]? = some q := ⟨M[M.length - 1]'(by have := List.length_pos_iff.2 hM; omega), by simp⟩
  have e : wideLL L M = max q.1 q'.1 - min p.1 p'.1 + 1 := by
    unfold wideLL
    rw [List.head?_eq_getElem?, hp, List.getLast?_eq_getElem?, hq, List.head?_eq_getElem?, hp', List.getLast?_eq_getElem?, hq']
  have l1 := List.length_pos_iff.2 hL
  have l2 := List.length_pos_iff.2 hM
  obtain ⟨b, o, rfl, _, hcell⟩ := h.reads.at_ l1
  obtain ⟨b0, o0, rfl, _, hcell2⟩ := h2.at_ l2
  obtain ⟨e1, _⟩ := hcell 0 p hp
  obtain ⟨e2, _⟩ := hcell (L.length - 1) q hq
  obtain ⟨e3, _⟩ := hcell2 0 p' hp'
  obtain ⟨e4, _⟩ := hcell2 (M.length - 1) q' hq'
  have b1 := hk p (List.mem_of_getElem? hp)
  have bb2 := hk q (List.mem_of_getElem? hq)
  have b3 := hk2 p' (List.mem_of_getElem? hp')
  have b4 := hk2 q' (List.mem_of_getElem? hq')
  rw [e] at hwd
  obtain ⟨r, hr⟩ : ∃ r : Nat, r = L.length - 1 := ⟨_, rfl⟩
  obtain ⟨r2, hr2⟩ : ∃ r : Nat, r = M.length - 1 := ⟨_, rfl⟩
  rw [← hr] at e2
  rw [← hr2] at e4
  rw [Nat.zero_mul, Nat.add_zero] at e1 e3
  have s1 : IntKind.i64.wrap ((L.length : Int) - 1) = (r : Int) := by rw [show (L.length : Int) - 1 = (r : Int) by omega]; exact IntWalk.i64_in _ ⟨by omega, by omega⟩
  have s2 : IntKind.i64.wrap ((M.length : Int) - 1) = (r2 : Int) := by rw [show (M.length : Int) - 1 = (r2 : Int) by omega]; exact IntWalk.i64_in _ ⟨by omega, by omega⟩
  have x1 : (0 : Int) ≤ (r : Int) := by omega
  have x2 : (r : Int) < (L.length : Int) := by omega
  have x3 : (0 : Int) ≤ (r2 : Int) := by omega
  have x4 : (r2 : Int) < (M.length : Int) := by omega
  have x5 : (0 : Int) < (L.length : Int) := by omega
  have x6 : (0 : Int) < (M.length : Int) := by omega
  have hzM := nat_len_ne hM
  have d1 : decide ((0 : Int) < (W : Int)) = true := by simp; omega
  have d2 : decide ((0 : Int) < (L.length : Int)) = true := by simp; omega
  obtain ⟨y1, z1⟩ := p
  obtain ⟨y2, z2⟩ := q
  obtain ⟨y3, z3⟩ := p'
  obtain ⟨y4, z4⟩ := q'
  simp only at e1 e2 e3 e4 b1 bb2 b3 b4 hwd
  obtain ⟨b11, b12⟩ := b1
  obtain ⟨b21, b22⟩ := bb2
  obtain ⟨b31, b32⟩ := b3
  obtain ⟨b41, b42⟩ := b4
  have HH := Lib.hid h
  have HH2 := Lib.hid h2
  have w1 : y2 - y1 + 1 ≤ (W : Int) ∧ y2 - y3 + 1 ≤ (W : Int) ∧ y4 - y1 + 1 ≤ (W : Int) ∧ y4 - y3 + 1 ≤ (W : Int) := by omega
  obtain ⟨w11, w12, w13, w14⟩ := w1
  have x7 : (L.length : Int) ≤ 1000000 := by omega
  have x8 : (M.length : Int) ≤ 1000000 := by omega
  clear h h2 hwd hc hM hL hcell hcell2 hp hq hp' hq' e hr hr2 hk hk2 l1 l2
  go_enter Try.func14, Try.ntmps14
  go_wp2_with fail
  go_quiet (fail)
  go_wp2_with fail
  all_goals
    go_quiet (fail)
    go_wp2_with fail
    all_goals
      refine (HTM.out w.heap.size _ (Reads.drewN HH2.out _)).mono ?_
      rintro e w1 ⟨rfl, hw1⟩
      obtain rfl := hw1.symm
      go_wp2_with fail
      refine (HTL.out w.heap.size _ (Reads.drewN HH.out.reads _)).mono ?_
      rintro e w1 ⟨rfl, hw1⟩
      obtain rfl := hw1.symm
      go_wp2_with fail
      go_loopw [10, 11] (fun v i wr => ∃ (k : Nat) (A' : Option Addr) (c' : Nat), k ≤ M.length ∧ i = .int .i64 k ∧ v = .slice A' (puts L (M.take k)).length c' ∧ OwnP wr base A' c' (puts L (M.take k)) ∧ Below w.heap.size w wr) (fun _ i _ => M.length - (intOf i).toNat)
      case atStart => exact ⟨0, _, c, Nat.zero_le _, rfl, rfl, HH.out, below_drewN hbl0 _⟩
      case round =>
        obtain ⟨k, A', c', hk, rfl, rfl, hown, hbel⟩ := hrel
        by_cases hlt : k < M.length
        · obtain ⟨b, o, hA2, hbl2, hcell⟩ := Prs.at_ HH2.out (by omega)
          obtain ⟨rfl, rfl⟩ : b = b0 ∧ o = o0 := by
            simp only [Option.some.injEq, Addr.mk.injEq] at hA2
            exact ⟨hA2.1.symm, hA2.2.1.symm⟩
          obtain ⟨⟨x1, x2⟩, hp⟩ : ∃ p, M[k]? = some p := ⟨M[k], by simp [hlt]⟩
          obtain ⟨g1, g2⟩ := hcell k _ hp
          simp only at g1 g2
          have hnx : puts L (M.take (k + 1)) = put (puts L (M.take k)) x1 x2 := by
            obtain ⟨h1, e⟩ := List.getElem?_eq_some_iff.1 hp
            rw [List.take_succ_eq_append_getElem h1, e, puts_snoc]
          have hol := puts_len (l := L) (m := M.take k)
          rw [List.length_take] at hol
          have htt := puts_tot (L := L) (M := M.take k)
          have htk := tot_take_le (L := M) (k := k)
          have htot := HTOT.out
          have htk1 : tot (M.take k) + x2 ≤ tot M := by
            obtain ⟨h1, e⟩ := List.getElem?_eq_some_iff.1 hp
            have t1 := tot_take h1
            have t2 := tot_take_le (L := M) (k := k + 1)
            rw [e] at t1
            simp only at t1
            omega
          have hx2 := tot_le_of_mem (List.mem_of_getElem? hp)
          simp only at hx2
          have HPU := fun W' A' c' h => put13_t A' c' (puts L (M.take k)) x1 x2 W' h (by omega) (by omega)
          replace HPU := Lib.hid HPU
          have hkk : (k : Int) < (M.length : Int) := by omega
          have hk0 : (0 : Int) ≤ (k : Int) := by omega
          have d1 : wr.cell? ⟨b, o + k * 2, none⟩ = some (.int .i64 x1) := (hbel.cell (p := ⟨b, o + k * 2, none⟩) hbl2).trans g1
          have d2 : wr.cell? ⟨b, o + k * 2 + 1, none⟩ = some (.int .u64 (x2 : Nat)) := (hbel.cell (p := ⟨b, o + k * 2 + 1, none⟩) hbl2).trans g2
          have HL := Lib.hid hlt
          have HO := Lib.hid hown
          have HB := Lib.hid hbel
          have HN := Lib.hid hnx
          clear hp g1 g2 hcell hlt hown hbel hk hnx hol htt htk hx2 hA2 htot htk1
          generalize puts L (M.take k) = out at *
          go_wp2_with fail
          refine wp_region_noPanic ?_
          refine wp_region_held_drew (S := (fun w' => w'.cell? ⟨b, o + k * 2, none⟩ = some (.int .i64 x1) ∧ w'.cell? ⟨b, o + k * 2 + 1, none⟩ = some (.int .u64 (x2 : Nat)))) (by kernel_rfl) ⟨d1, d2⟩ (fun hHeld => ?_)
          refine wpAnyH_take (i := 0) (oi := ?_) (v := ?_) ?_ ?_ ?_ ?_ ?_ ?_ ?_ ?_
          rotate_left 2
          · simp only [List.getElem?_toArray, List.getElem?_cons_zero]; rfl
          · kernel_rfl
          · kernel_rfl
          · kernel_rfl
          · exact fun _ _ _ h => h
          · exact Or.inl ⟨by kernel_rfl, by intro w hSw; (try dsimp only at hSw); go_simp; try with_reducible rfl⟩
          · assumption
          try go_simp
          refine wpAnyH_take (i := 1) (oi := ?_) (v := ?_) ?_ ?_ ?_ ?_ ?_ ?_ ?_ ?_
          rotate_left 2
          · simp only [List.getElem?_toArray, List.getElem?_cons_succ, List.getElem?_cons_zero]; rfl
          · kernel_rfl
          · kernel_rfl
          · kernel_rfl
          · exact fun _ _ _ h => h
          · exact Or.inl ⟨by kernel_rfl, by intro w hSw; (try dsimp only at hSw); go_simp; try with_reducible rfl⟩
          · assumption
          try go_simp
          refine wpAnyH_take (i := 2) (oi := ?_) (v := ?_) ?_ ?_ ?_ ?_ ?_ ?_ ?_ ?_
          rotate_left 2
          · simp only [List.getElem?_toArray, List.getElem?_cons_succ, List.getElem?_cons_zero]; rfl
          · kernel_rfl
          · kernel_rfl
          · kernel_rfl
          · exact fun _ _ _ h => h
          · exact Or.inl ⟨by kernel_rfl, by intro w hSw; (try dsimp only at hSw); go_simp; try with_reducible rfl⟩
          · assumption
          try go_simp
          refine wpAnyH_take (i := 3) (oi := ?_) (v := ?_) ?_ ?_ ?_ ?_ ?_ ?_ ?_ ?_
          rotate_left 2
          · simp only [List.getElem?_toArray, List.getElem?_cons_succ, List.getElem?_cons_zero]; rfl
          · kernel_rfl
          · kernel_rfl
          · kernel_rfl
          · exact fun _ _ _ h => h
          · exact Or.inl ⟨by kernel_rfl, by intro w hSw; (try dsimp only at hSw); go_simp; try with_reducible rfl⟩
          · assumption
          try go_simp
          refine wpAnyH_take (i := 4) (oi := ?_) (v := ?_) ?_ ?_ ?_ ?_ ?_ ?_ ?_ ?_
          rotate_left 2
          · simp only [List.getElem?_toArray, List.getElem?_cons_succ, List.getElem?_cons_zero]; rfl
          · kernel_rfl
          · kernel_rfl
          · kernel_rfl
          · exact fun _ _ _ h => h
          · exact Or.inl ⟨by kernel_rfl, by intro w hSw; (try dsimp only at hSw); go_simp; try with_reducible rfl⟩
          · assumption
          try go_simp
          refine wpAnyH_take (i := 5) (oi := ?_) (v := ?_) ?_ ?_ ?_ ?_ ?_ ?_ ?_ ?_
          rotate_left 2
          · simp only [List.getElem?_toArray, List.getElem?_cons_succ, List.getElem?_cons_zero]; rfl
          · kernel_rfl
          · kernel_rfl
          · kernel_rfl
          · exact fun _ _ _ h => h
          · exact Or.inl ⟨by kernel_rfl, by intro w hSw; (try dsimp only at hSw); go_simp; try with_reducible rfl⟩
          · assumption
          try go_simp
          refine wpAnyH_take (i := 6) (oi := ?_) (v := ?_) ?_ ?_ ?_ ?_ ?_ ?_ ?_ ?_
          rotate_left 2
          · simp only [List.getElem?_toArray, List.getElem?_cons_succ, List.getElem?_cons_zero]; rfl
          · kernel_rfl
          · kernel_rfl
          · kernel_rfl
          · exact fun _ _ _ h => h
          · exact Or.inl ⟨by kernel_rfl, by intro w hSw; (try dsimp only at hSw); go_simp; try with_reducible rfl⟩
          · assumption
          try go_simp
          refine wpAnyH_take (i := 7) (oi := ?_) (v := ?_) ?_ ?_ ?_ ?_ ?_ ?_ ?_ ?_
          rotate_left 2
          · simp only [List.getElem?_toArray, List.getElem?_cons_succ, List.getElem?_cons_zero]; rfl
          · kernel_rfl
          · kernel_rfl
          · kernel_rfl
          · exact fun _ _ _ h => h
          · exact Or.inl ⟨by kernel_rfl, by intro w hSw; (try dsimp only at hSw); go_simp; try with_reducible rfl⟩
          · assumption
          try go_simp
          refine wpAnyH_take (i := 8) (oi := ?_) (v := ?_) ?_ ?_ ?_ ?_ ?_ ?_ ?_ ?_
          rotate_left 2
          · simp only [List.getElem?_toArray, List.getElem?_cons_succ, List.getElem?_cons_zero]; rfl
          · kernel_rfl
          · kernel_rfl
          · kernel_rfl
          · exact fun _ _ _ h => h
          · exact Or.inl ⟨by kernel_rfl, by intro w hSw; (try dsimp only at hSw); go_simp; try with_reducible rfl⟩
          · assumption
          try go_simp
          refine wpAnyH_take (i := 9) (oi := ?_) (v := ?_) ?_ ?_ ?_ ?_ ?_ ?_ ?_ ?_
          rotate_left 2
          · simp only [List.getElem?_toArray, List.getElem?_cons_succ, List.getElem?_cons_zero]; rfl
          · kernel_rfl
          · kernel_rfl
          · kernel_rfl
          · exact fun _ _ _ h => h
          · exact Or.inl ⟨by kernel_rfl, by intro w hSw; (try dsimp only at hSw); go_simp; try with_reducible rfl⟩
          · assumption
          try go_simp
          refine wpAnyH_take (i := 10) (oi := ?_) (v := ?_) ?_ ?_ ?_ ?_ ?_ ?_ ?_ ?_
          rotate_left 2
          · simp only [List.getElem?_toArray, List.getElem?_cons_succ, List.getElem?_cons_zero]; rfl
          · kernel_rfl
          · kernel_rfl
          · kernel_rfl
          · exact fun _ _ _ h => h
          · exact Or.inl ⟨by kernel_rfl, by intro w hSw; (try dsimp only at hSw); go_simp; try with_reducible rfl⟩
          · assumption
          try go_simp
          refine wpAnyH_ready (rs := [11]) (by kernel_rfl) (by simp) ?_
          refine AllReadyH.cons (o := ?_) ?_ ?_ AllReadyH.nil
          rotate_left 1
          · simp only [List.getElem?_toArray, List.getElem?_cons_succ, List.getElem?_cons_zero]; rfl
          intro K hK
          go_simp
          refine (HPU.out wr.drew A' c' HO.out.reads).mono ?_
          rintro e w2 ⟨A3, c3, rfl, ho3, hb3⟩
          have hB : Below w.heap.size wr.drew w2 := hb3.mono HB.out.size
          have f1 : w2.cell? ⟨b, o + k * 2, none⟩ = some (.int .i64 x1) := (hB.cell (p := ⟨b, o + k * 2, none⟩) hbl2).trans d1
          have f2 : w2.cell? ⟨b, o + k * 2 + 1, none⟩ = some (.int .u64 (x2 : Nat)) := (hB.cell (p := ⟨b, o + k * 2 + 1, none⟩) hbl2).trans d2
          have HO3 := Lib.hid (Own.mono ho3 (Nat.le_trans HBASE.out HB.out.size))
          have HB3 := Lib.hid (HB.out.trans (show Below w.heap.size wr w2 from ⟨hB.os, hB.tape, hB.output, hB.size, hB.block⟩))
          clear ho3 hb3 hB
          refine hK.out _ _ ?_ (fun hHeld => ?_)
          · exact ⟨f1, f2⟩
          clear hK K
          try go_simp
          refine wpAnyH_take (i := 12) (oi := ?_) (v := ?_) ?_ ?_ ?_ ?_ ?_ ?_ ?_ ?_
          rotate_left 2
          · simp only [List.getElem?_toArray, List.getElem?_cons_succ, List.getElem?_cons_zero]; rfl
          · kernel_rfl
          · kernel_rfl
          · kernel_rfl
          · exact fun _ _ _ h => h
          · exact Or.inl ⟨by kernel_rfl, by intro w hSw; (try dsimp only at hSw); go_simp; try with_reducible rfl⟩
          · assumption
          try go_simp
          refine wpAnyH_done (by kernel_rfl) ?_ _
          refine NoPanic.normal ?_
          go_wp2_with fail
          go_roundw
          case rel => exact ⟨k + 1, A3, c3, HL.out, by go_num, by rw [HN.out], by rw [HN.out]; exact HO3.out, HB3.out⟩
          case measure => have h1 := HL.out; simp [intOf]; omega
        · obtain rfl : k = M.length := by omega
          rw [List.take_length] at hown ⊢
          have HO := Lib.hid hown
          have HB := Lib.hid hbel
          clear hown hbel
          go_wp2_with fail
          go_ret2
          exact ⟨A', c', rfl, HO.out, HB.out⟩
theorem take13_t (A A2 : Option Addr) (c c2 base : Nat) (L M : List Pr) (W : Nat) (w : World) (h : OwnP w base A c L) (h2 : Prs w w.heap.size A2 M) (hm : L.length ≤ 1000000) (hm2 : M.length ≤ 1000000) (hk : KeysIn L) (hk2 : KeysIn M) (hW : W ≤ 16777216) (ht : tot L ≤ 4611686018427387904) (ht2 : tot M ≤ 4611686018427387904) (hbase : base ≤ w.heap.size) :
    Calls Try.prog 14 #[.slice A L.length c, .slice A2 M.length c2, .int .i64 (W : Int)] w (RAdd base w (rtake L M W)) := by
  unfold rtake
  by_cases hM : M = []
  · rw [if_pos hM]
    subst hM
    exact take13_none A A2 c c2 base L W w h
  rw [if_neg hM]
  by_cases hw0 : W = 0
  · rw [if_neg (by omega)]
    by_cases hc : 4611686018427387904 - tot L < tot M
    · rw [if_pos hc]; exact take13_cap_W0 A A2 c c2 base L M W w h h2 hm hm2 hM hw0 ht ht2 hc
    · rw [if_neg hc]; exact take13_ok_W0 A A2 c c2 base L M W w h h2 hm hm2 hM hw0 ht hc hbase
  by_cases hL : L = []
  · rw [if_neg (fun x => x.2.1 hL)]
    by_cases hc : 4611686018427387904 - tot L < tot M
    · rw [if_pos hc]; exact take13_cap_WE A A2 c c2 base L M W w h h2 hm hm2 hM (by omega) hL ht ht2 hc
    · rw [if_neg hc]; exact take13_ok_WE A A2 c c2 base L M W w h h2 hm hm2 hM (by omega) hL ht hc hbase
  by_cases hwd : (W : Int) < wideLL L M
  · rw [if_pos ⟨by omega, hL, hwd⟩]
    exact take13_wide A A2 c c2 base L M W w h h2 hm hm2 hM hL hk hk2 (by omega) hW hwd
  · rw [if_neg (fun x => hwd x.2.2)]
    by_cases hc : 4611686018427387904 - tot L < tot M
    · rw [if_pos hc]; exact take13_cap_WF A A2 c c2 base L M W w h h2 hm hm2 hM hL hk hk2 (by omega) hwd ht ht2 hc
    · rw [if_neg hc]; exact take13_ok_WF A A2 c c2 base L M W w h h2 hm hm2 hM hL hk hk2 (by omega) hwd ht hc hbase
end Go.Proofs.Ytknimekfkkihpaa
