/- The document's functions on lists of pairs, walked: Same, Total, Count, Put. -/
import Derived.Test.YtmpmjgoipfgfoaaPairs
import Derived.RegionTactic
import Derived.BigRegion
import Derived.Deep.QuietTactic
import Derived.BigQuiet
import Derived.Deep.LoopGhost
namespace Go.Proofs.Ytmpmjgoipfgfoaa
open Go.RowKit
open Pl

theorem prs_len_ok {w : World} {B : Nat} {A : Option Addr} {L : List Pr} (_h : Prs w B A L) : True := trivial
set_option maxHeartbeats 800000 in
theorem same13_t (A A2 : Option Addr) (c c2 B B2 : Nat) (L : List Pr) (w : World) (h : Prs w B A L) (h2 : Prs w B2 A2 L) (hm : L.length ≤ maxLen) :
    Calls Try.prog 34 #[.slice A L.length c, .slice A2 L.length c2] w fun e w' => e = .returned (.bool true) ∧ ∃ n, w' = w.drewN n := by
  unfold maxLen at hm
  have HA := Lib.hid h
  have HA2 := Lib.hid h2
  clear h h2
  go_enter Try.func34, Try.ntmps34
  go_wp2_with fail
  go_loopw [5] (fun i wr => ∃ k n : Nat, k ≤ L.length ∧ i = .int .i64 k ∧ wr = w.drewN n) (fun i _ => L.length - (intOf i).toNat)
  case atStart => exact ⟨0, 0, Nat.zero_le _, rfl, rfl⟩
  case round =>
    obtain ⟨k, n, hk, rfl, rfl⟩ := hrel
    by_cases hlt : k < L.length
    · obtain ⟨b, o, rfl, _, hcell⟩ := HA.out.at_ (by omega)
      obtain ⟨b2, o2, rfl, _, hcell2⟩ := HA2.out.at_ (by omega)
      obtain ⟨g1, g2⟩ := hcell k L[k] (by simp [hlt])
      obtain ⟨g3, g4⟩ := hcell2 k L[k] (by simp [hlt])
      have hkk : (k : Int) < (L.length : Int) := by omega
      have hk0 : (0 : Int) ≤ (k : Int) := by omega
      have e1 : (w.drewN n).cell? ⟨b, o + k * 2, none⟩ = some (.int .i64 L[k].1) := g1
      have e2 : (w.drewN n).cell? ⟨b, o + k * 2 + 1, none⟩ = some (.int .u64 (L[k].2 : Nat)) := g2
      have e3 : (w.drewN n).cell? ⟨b2, o2 + k * 2, none⟩ = some (.int .i64 L[k].1) := g3
      have e4 : (w.drewN n).cell? ⟨b2, o2 + k * 2 + 1, none⟩ = some (.int .u64 (L[k].2 : Nat)) := g4
      have HL := Lib.hid hlt
      generalize L[k].1 = x1 at *
      generalize L[k].2 = x2 at *
      clear hcell hcell2 hlt
      go_wp2_with fail
      go_quiet (fail)
      go_wp2_with fail
      go_roundw
      case rel => exact ⟨k + 1, n + nq, HL.out, by go_num, rfl⟩
      case measure => have h1 := HL.out; simp [intOf]; omega
    · obtain rfl : k = L.length := by omega
      go_wp2_with fail
      go_ret
      exact ⟨rfl, n, rfl⟩
theorem tot_take {L : List Pr} {k : Nat} (h : k < L.length) : tot (L.take (k + 1)) = tot (L.take k) + L[k].2 := by
  rw [List.take_succ_eq_append_getElem h, tot_append]; simp [tot]
theorem tot_take_le {L : List Pr} {k : Nat} : tot (L.take k) ≤ tot L := by
  have := tot_append (L.take k) (L.drop k)
  rw [List.take_append_drop] at this
  omega
set_option maxHeartbeats 800000 in
theorem total13_t (A : Option Addr) (c B : Nat) (L : List Pr) (w : World) (h : Prs w B A L) (hm : L.length ≤ maxLen) (ht : tot L ≤ 9223372036854775807) :
    Calls Try.prog 42 #[.slice A L.length c] w fun e w' => e = .returned (.int .u64 (tot L : Nat)) ∧ w' = w := by
  unfold maxLen at hm
  have HA := Lib.hid h
  clear h
  go_enter Try.func42, Try.ntmps42
  go_wp2_with fail
  go_loop [3, 4] (fun s i => ∃ k : Nat, k ≤ L.length ∧ i = .int .i64 k ∧ s = .int .u64 (tot (L.take k) : Nat)) (fun _ i => L.length - (intOf i).toNat)
  case atStart => exact ⟨0, Nat.zero_le _, rfl, rfl⟩
  case round =>
    obtain ⟨k, hk, rfl, rfl⟩ := hrel
    by_cases hlt : k < L.length
    · obtain ⟨b, o, rfl, _, hcell⟩ := HA.out.at_ (by omega)
      obtain ⟨g1, g2⟩ := hcell k L[k] (by simp [hlt])
      have hkk : (k : Int) < (L.length : Int) := by omega
      have hs := tot_take hlt
      have hle := tot_take_le (L := L) (k := k + 1)
      have HL := Lib.hid hlt
      obtain ⟨R, hR⟩ : ∃ R, R = tot (L.take (k + 1)) := ⟨_, rfl⟩
      rw [← hR] at hs hle
      have HR := Lib.hid hR
      generalize L[k].1 = x1 at *
      generalize L[k].2 = x2 at *
      generalize tot (L.take k) = S at *
      have hb : (S : Int) + (x2 : Int) ≤ 9223372036854775807 := by omega
      have HS := Lib.hid (show (S : Int) + (x2 : Int) = (R : Int) by omega)
      clear hcell hlt hs hR
      go_wp2_with fail
      go_round
      case rel => exact ⟨k + 1, HL.out, by go_num, by rw [← HR.out, HS.out]⟩
      case measure => have h1 := HL.out; simp [intOf]; omega
    · obtain rfl : k = L.length := by omega
      rw [List.take_length]
      go_wp2_with fail
      go_ret
      exact ⟨rfl, rfl⟩
theorem cnt_drop {L : List Pr} {k : Nat} {key : Int} (h : k < L.length) : cnt (L.drop k) key = if L[k].1 = key then L[k].2 else cnt (L.drop (k + 1)) key := by
  rw [List.drop_eq_getElem_cons h, cnt]
/-- A new list in memory of the call's own. -/
def NewPairs (L : List Pr) (w : World) (e : Ending) (w' : World) : Prop := ∃ A c, e = .returned (.slice A L.length c) ∧ OwnP w' w.heap.size A c L ∧ Below w.heap.size w w'
theorem own_snoc {w : World} {base : Nat} {A : Option Addr} {n c : Nat} {L M : List Pr} (h : Own w base 38 2 A n c (pcs M)) (hM : M = L) : OwnP w base A c L := by
  subst hM
  have h1 := h.len
  rw [pcs_length] at h1
  have : n = M.length := by omega
  subst this
  exact h
theorem drop_cons {L : List Pr} {k : Nat} {p : Pr} (hp : L[k]? = some p) : L.drop k = p :: L.drop (k + 1) := by
  obtain ⟨h, e⟩ := List.getElem?_eq_some_iff.1 hp
  rw [← e]
  exact List.drop_eq_getElem_cons h
theorem put_drop {L : List Pr} {k : Nat} {key x1 : Int} {n x2 : Nat} (hp : L[k]? = some (x1, x2)) : put (L.drop k) key n = if x1 < key then (x1, x2) :: put (L.drop (k + 1)) key n else if x1 = key then (key, x2 + n) :: L.drop (k + 1) else (key, n) :: (x1, x2) :: L.drop (k + 1) := by
  rw [drop_cons hp, put]
set_option maxHeartbeats 3200000 in
theorem put13_t (A : Option Addr) (c : Nat) (L : List Pr) (key : Int) (n : Nat) (w : World) (h : Prs w w.heap.size A L) (hm : L.length ≤ 16777216) (ht : tot L + n ≤ 9223372036854775807) :
    Calls Try.prog 25 #[.slice A L.length c, .int .i64 key, .int .u64 (n : Int)] w (NewPairs (put L key n) w) := by
  have HA := Lib.hid h
  clear h
  go_enter Try.func25, Try.ntmps25
  go_wp2_with fail
  go_loopw [7, 8, 9] (fun v d i wr => ∃ (k : Nat) (A' : Option Addr) (c' : Nat) (out : List Pr) (dn : Bool), k ≤ L.length ∧ i = .int .i64 k ∧ v = .slice A' out.length c' ∧ d = .bool dn ∧ OwnP wr w.heap.size A' c' out ∧ Below w.heap.size w wr ∧ out.length ≤ k + dn.toNat ∧
    out ++ (if dn then L.drop k else put (L.drop k) key n) = put L key n) (fun _ _ i _ => L.length - (intOf i).toNat)
  case atStart => exact ⟨0, none, 0, [], false, Nat.zero_le _, rfl, rfl, rfl, Own.nil _ _ _ _, Below.refl _ _, Nat.zero_le _, rfl⟩
  case round =>
    obtain ⟨k, A', c', out, dn, hk, rfl, rfl, rfl, hown, hbel, hol, hput⟩ := hrel
    by_cases hlt : k < L.length
    · obtain ⟨b, o, rfl, hbl, hcell⟩ := HA.out.at_ (by omega)
      obtain ⟨⟨x1, x2⟩, hp⟩ : ∃ p, L[k]? = some p := ⟨L[k], by simp [hlt]⟩
      obtain ⟨g1, g2⟩ := hcell k _ hp
      have hkk : (k : Int) < (L.length : Int) := by omega
      have hk0 : (0 : Int) ≤ (k : Int) := by omega
      have hml : (L.length : Int) ≤ 16777216 := by omega
      have hpd := put_drop (key := key) (n := n) hp
      have hdd := drop_cons hp
      have hle : x2 + n ≤ 9223372036854775807 := by
        have := tot_le_of_mem (l := L) (p := (x1, x2)) (List.mem_of_getElem? hp)
        simp only at this
        omega
      have e1 : wr.cell? ⟨b, o + k * 2, none⟩ = some (.int .i64 x1) := (hbel.cell (p := ⟨b, o + k * 2, none⟩) hbl).trans g1
      have e2 : wr.cell? ⟨b, o + k * 2 + 1, none⟩ = some (.int .u64 (x2 : Nat)) := (hbel.cell (p := ⟨b, o + k * 2 + 1, none⟩) hbl).trans g2
      have HL := Lib.hid hlt
      have HO := Lib.hid hown
      have HB := Lib.hid hbel
      clear hp g1 g2 hcell hlt hown hbel hk
      have hle2 : (x2 : Int) + (n : Int) ≤ 9223372036854775807 := by omega
      cases dn
      · have hol : out.length ≤ k := hol
        rw [if_neg (by decide), hpd] at hput
        by_cases c1 : x1 < key
        · rw [if_pos c1] at hput
          have HP := Lib.hid hput
          clear hput hpd hdd
          go_wp2_with (at_builtin; refine Hid.out ?_)
          refine wpList_app (xs := pcs out) rfl rfl elem_pair rfl (HO.out.alloc _) rfl (pair_new wr x1 x2) (pcs_one _) (out.length + 1) rfl (pcs (out ++ [(x1, x2)])) (pcs_append _ _).symm (by unfold maxLen; omega) (by omega) (by have := HB.out.size; simp; omega) ?_
          intro A2 p2 w3 o2 g2 q2
          have b2 := appB (newB HB.out _) (HO.out.alloc _) g2 (Nat.le_refl _) (newB HB.out _).size
          have HO2 := Lib.hid (own_snoc o2 rfl)
          have HB2 := Lib.hid b2
          clear o2 g2 q2 b2
          go_wp2_with fail
          go_roundw
          case rel => exact ⟨k + 1, A2, p2, _, false, HL.out, by go_num, by simp, rfl, HO2.out, HB2.out, by simp; omega, by rw [if_neg (by decide), ← HP.out]; simp⟩
          case measure => have h1 := HL.out; simp [intOf]; omega
        · rw [if_neg c1] at hput
          by_cases c2 : x1 = key
          · rw [if_pos c2] at hput
            subst c2
            have HP := Lib.hid hput
            clear hput hpd hdd
            go_wp2_with (at_builtin; refine Hid.out ?_)
            rw [show (x2 : Int) + (n : Int) = ((x2 + n : Nat) : Int) by omega]
            refine wpList_app (xs := pcs out) rfl rfl elem_pair rfl (HO.out.alloc _) rfl (pair_new wr x1 (x2 + n)) (pcs_one _) (out.length + 1) rfl (pcs (out ++ [(x1, (x2 + n))])) (pcs_append _ _).symm (by unfold maxLen; omega) (by omega) (by have := HB.out.size; simp; omega) ?_
            intro A2 p2 w3 o2 g2 q2
            have b2 := appB (newB HB.out _) (HO.out.alloc _) g2 (Nat.le_refl _) (newB HB.out _).size
            have HO2 := Lib.hid (own_snoc o2 rfl)
            have HB2 := Lib.hid b2
            clear o2 g2 q2 b2
            go_wp2_with fail
            go_roundw
            case rel => exact ⟨k + 1, A2, p2, _, true, HL.out, by go_num, by simp, rfl, HO2.out, HB2.out, by simp; omega, by rw [if_pos rfl, ← HP.out]; simp⟩
            case measure => have h1 := HL.out; simp [intOf]; omega
          · rw [if_neg c2] at hput
            have c3 : key < x1 := by omega
            have c4 : (x1 == key) = false := by simpa using c2
            have HP := Lib.hid hput
            clear hput hpd hdd
            go_wp2_with (at_builtin; refine Hid.out ?_)
            refine wpList_app (xs := pcs out) rfl rfl elem_pair rfl (HO.out.alloc _) rfl (pair_new wr key n) (pcs_one _) (out.length + 1) rfl (pcs (out ++ [(key, n)])) (pcs_append _ _).symm (by unfold maxLen; omega) (by omega) (by have := HB.out.size; simp; omega) ?_
            intro A2 p2 w3 o2 g2 q2
            have b2 := appB (newB HB.out _) (HO.out.alloc _) g2 (Nat.le_refl _) (newB HB.out _).size
            have HO2 := Lib.hid (own_snoc o2 rfl)
            have HB2 := Lib.hid b2
            clear o2 g2 q2 b2
            have d1 : w3.cell? ⟨b, o + k * 2, none⟩ = some (.int .i64 x1) := (HB2.out.cell (p := ⟨b, o + k * 2, none⟩) hbl).trans ((HB.out.cell (p := ⟨b, o + k * 2, none⟩) hbl).symm.trans e1)
            have d2 : w3.cell? ⟨b, o + k * 2 + 1, none⟩ = some (.int .u64 (x2 : Nat)) := (HB2.out.cell (p := ⟨b, o + k * 2 + 1, none⟩) hbl).trans ((HB.out.cell (p := ⟨b, o + k * 2 + 1, none⟩) hbl).symm.trans e2)
            obtain ⟨out2, hout2⟩ : ∃ out2, out2 = out ++ [(key, n)] := ⟨_, rfl⟩
            rw [← hout2] at HO2
            have hl2 : out2.length = out.length + 1 := by rw [hout2]; simp
            rw [← hl2]
            have hol2 : out2.length ≤ k + 1 := by omega
            have HQ := Lib.hid hout2
            clear hout2 hl2
            go_wp2_with (at_builtin; refine Hid.out ?_)
            refine wpList_app (xs := pcs out2) rfl rfl elem_pair rfl (HO2.out.alloc _) rfl (pair_new w3 x1 x2) (pcs_one _) (out2.length + 1) rfl (pcs (out2 ++ [(x1, x2)])) (pcs_append _ _).symm (by unfold maxLen; omega) (by omega) (by have := HB2.out.size; simp; omega) ?_
            intro A3 p3 w4 o2 g2 q2
            have b2 := appB (newB HB2.out _) (HO2.out.alloc _) g2 (Nat.le_refl _) (newB HB2.out _).size
            have HO3 := Lib.hid (own_snoc o2 rfl)
            have HB3 := Lib.hid b2
            clear o2 g2 q2 b2
            go_wp2_with fail
            go_roundw
            case rel => exact ⟨k + 1, A3, p3, _, true, HL.out, by go_num, by simp, rfl, HO3.out, HB3.out, by simp; omega, by rw [if_pos rfl, ← HP.out, HQ.out]; simp⟩
            case measure => have h1 := HL.out; simp [intOf]; omega
      · have hol : out.length ≤ k + 1 := hol
        rw [if_pos rfl, hdd] at hput
        have HP := Lib.hid hput
        clear hput hpd hdd
        go_wp2_with (at_builtin; refine Hid.out ?_)
        refine wpList_app (xs := pcs out) rfl rfl elem_pair rfl (HO.out.alloc _) rfl (pair_new wr x1 x2) (pcs_one _) (out.length + 1) rfl (pcs (out ++ [(x1, x2)])) (pcs_append _ _).symm (by unfold maxLen; omega) (by omega) (by have := HB.out.size; simp; omega) ?_
        intro A2 p2 w3 o2 g2 q2
        have b2 := appB (newB HB.out _) (HO.out.alloc _) g2 (Nat.le_refl _) (newB HB.out _).size
        have HO2 := Lib.hid (own_snoc o2 rfl)
        have HB2 := Lib.hid b2
        clear o2 g2 q2 b2
        go_wp2_with fail
        go_roundw
        case rel => exact ⟨k + 1, A2, p2, _, true, HL.out, by go_num, by simp, rfl, HO2.out, HB2.out, by simp; omega, by rw [if_pos rfl, ← HP.out]; simp⟩
        case measure => have h1 := HL.out; simp [intOf]; omega
    · obtain rfl : k = L.length := by omega
      have HO := Lib.hid hown
      have HB := Lib.hid hbel
      clear hown hbel
      rw [List.drop_length] at hput
      cases dn
      · have hol : out.length ≤ L.length := hol
        rw [if_neg (by decide), put] at hput
        have HP := Lib.hid hput
        clear hput
        go_wp2_with (at_builtin; refine Hid.out ?_)
        refine wpList_app (xs := pcs out) rfl rfl elem_pair rfl (HO.out.alloc _) rfl (pair_new wr key n) (pcs_one _) (out.length + 1) rfl (pcs (out ++ [(key, n)])) (pcs_append _ _).symm (by unfold maxLen; omega) (by omega) (by have := HB.out.size; simp; omega) ?_
        intro A2 p2 w3 o2 g2 q2
        have b2 := appB (newB HB.out _) (HO.out.alloc _) g2 (Nat.le_refl _) (newB HB.out _).size
        have HO2 := Lib.hid (own_snoc o2 rfl)
        have HB2 := Lib.hid b2
        clear o2 g2 q2 b2
        go_wp2_with fail
        go_ret
        rw [← HP.out]
        exact ⟨A2, p2, by simp, HO2.out, HB2.out⟩
      · rw [if_pos rfl, List.append_nil] at hput
        subst hput
        go_wp2_with fail
        go_ret
        exact ⟨A', c', rfl, HO.out, HB.out⟩
end Go.Proofs.Ytmpmjgoipfgfoaa
