/- Sparse: the document's Cut walked. -/
import Derived.Test.YtbfhiegbgkkgiaaGreatC05
import Derived.Test.YtbfhiegbgkkgiaaGreatC01
import Derived.ProofKit
import Derived.OpenShut
import Derived.ShutString
import Derived.ChangeOld
import Derived.Below
import Derived.Deep.Slices
import Derived.Deep.Strs
import Derived.Test.YtbfhiegbgkkgiaaGreatC02
namespace Go.Proofs.YtbfhiegbgkkgiaaGreat
open Go.RowKit
open Pl
def RCut (base : Nat) (w : World) (R : List Pr × Nat) (e : Ending) (w' : World) : Prop :=
  ∃ A c, e = .returned (.tuple #[.slice A R.1.length c, .int .u64 (R.2 : Nat)]) ∧ OwnP w' base A c R.1 ∧ Below w.heap.size w w'
theorem pair_new2 (w : World) (o : Obj) (k : Int) (n : Nat) : Reads ((w.alloc o).alloc (.cells #[.int .i64 k, .int .u64 (n : Int)] 64)) ((w.alloc o).alloc (.cells #[.int .i64 k, .int .u64 (n : Int)] 64)).heap.size 2 (some ⟨w.heap.size + 1, 0, none⟩) 1 (pcs [(k, n)]) := by
  have h := pair_new (w.alloc o) k n
  rw [World.size_alloc w o] at h
  exact h
theorem cutI_at {L : List Pr} {i t : Nat} {p : Pr} (h : L[i + t]? = some p) : (cutI L i)[t]? = some (p.1, p.2 + if t = 0 then tot (L.take i) else 0) := by
  unfold cutI
  rw [← List.getElem?_drop] at h
  cases hd : L.drop i with
  | nil => rw [hd] at h; simp at h
  | cons q R =>
    rw [hd] at h
    cases t with
    | zero => simp at h; subst h; simp
    | succ t => simpa using h
set_option maxRecDepth 100000 in
set_option maxHeartbeats 1600000 in
theorem rcut_no (base : Nat) (A : Option Addr) (c : Nat) (L : List Pr) (m : Int) (w : World) (h : OwnP w base A c L) (hl : (L.length : Int) ≤ max m 1) :
    Calls Tryz.prog 66 #[.slice A L.length c, .int .i64 m] w (RCut base w (L, 0)) := by
  have H := Lib.hid h
  have hc : (decide (m < 1) = true ∧ decide ((L.length : Int) ≤ 1) = true ∧ (L.length : Int) ≤ 1) ∨ (decide (m < 1) = false ∧ decide ((L.length : Int) ≤ m) = true ∧ (L.length : Int) ≤ m) := by
    by_cases h1 : m < 1
    · exact .inl ⟨by simp; omega, by simp; omega, by omega⟩
    · exact .inr ⟨by simp; omega, by simp; omega, by omega⟩
  clear h hl
  rcases hc with ⟨e1, e2, e3⟩ | ⟨e1, e2, e3⟩
  all_goals
    go_enter Tryz.func66, Tryz.ntmps66
    go_wp2_with fail
    go_ret2
    exact ⟨A, c, rfl, H.out, Below.refl _ _⟩
set_option maxRecDepth 100000 in
set_option maxHeartbeats 6400000 in
theorem rcut_yesA (base : Nat) (A : Option Addr) (c : Nat) (L : List Pr) (m : Int) (i : Nat) (w : World) (h : Prs w w.heap.size A L) (hbase : base ≤ w.heap.size) (hl : L.length ≤ 1000000) (ht : tot L ≤ 4611686018427387904) (hm : m < 1) (hi : (L.length : Int) - 1 = (i : Int)) (hi0 : 0 < i) :
    Calls Tryz.prog 66 #[.slice A L.length c, .int .i64 m] w (RCut base w (cutI L i, tot (L.take i))) := by
  have H := Lib.hid h
  have HT := Lib.hid ht
  have hll : (L.length : Int) ≤ 1000000 := by omega
  have e1 : decide (m < 1) = true := by simp; omega
  have e2 : decide ((L.length : Int) ≤ 1) = false := by simp; omega
  have e3 : ¬ (L.length : Int) ≤ 1 := by omega
  have hil : i < L.length := by omega
  have hii : (i : Int) < (L.length : Int) := by omega
  have HIL := Lib.hid hil
  have HBA := Lib.hid hbase
  have HCL : Hid ((cutI L i).length = L.length - i) := Lib.hid (cutI_len L i)
  obtain ⟨S, hS⟩ : ∃ S, S = tot (L.take i) := ⟨_, rfl⟩
  rw [← hS]
  have hS62 : (S : Int) ≤ 4611686018427387904 := by have := tot_take_le' L i; omega
  have HS := Lib.hid hS
  obtain ⟨D, hD⟩ : ∃ D, D = cutI L i := ⟨_, rfl⟩
  rw [← hD]
  have HD := Lib.hid hD
  clear h hl ht hi0 hil hS hbase hD
  go_enter Tryz.func66, Tryz.ntmps66
  go_wp2_with fail
  go_loop [6, 7] (fun u v => ∃ j : Nat, u = .int .u64 (tot (L.take j) : Nat) ∧ v = .int .i64 (j : Int) ∧ j ≤ i) (fun _ v => i - (intOf v).toNat)
  case atStart => exact ⟨0, rfl, rfl, Nat.zero_le _⟩
  case round =>
    obtain ⟨j, rfl, rfl, hj⟩ := hrel
    by_cases hlt : j < i
    · have hji : (j : Int) < (i : Int) := by omega
      have hji2 : decide (j < i) = true := by simp; omega
      have hj0 : (0 : Int) ≤ (j : Int) := by omega
      have hjl : (j : Int) < (L.length : Int) := by omega
      obtain ⟨p, hp⟩ : ∃ p, L[j]? = some p := ⟨_, List.getElem?_eq_getElem (by omega)⟩
      obtain ⟨bb, o, rfl, hbb, hc⟩ := H.out.at_ (by have := HIL.out; omega)
      obtain ⟨d1, d2⟩ := hc j p hp
      have htn := tot_take_next hp
      have htl := tot_take_le' L (j + 1)
      have ht := HT.out
      have HTN := Lib.hid htn
      have HI := Lib.hid hlt
      obtain ⟨x, n⟩ := p
      dsimp only at d1 d2 htn HTN
      have hs62 : ((tot (L.take j) : Nat) : Int) + (n : Int) ≤ 4611686018427387904 := by omega
      generalize tot (L.take j) = q at *
      clear hc hp htn htl ht hbb hj hlt
      go_wp2_with fail
      go_round
      case rel => exact ⟨j + 1, by rw [HTN.out]; go_num, by go_num, HI.out⟩
      case measure => have := HI.out; simp [intOf]; omega
    · obtain rfl : j = i := by omega
      rw [← HS.out]
      have hji : ¬ (j : Int) < (j : Int) := by omega
      clear hj hlt
      go_wp2_with fail
      go_loopw [8, 9] (fun u v wr => ∃ (t : Nat) (A' : Option Addr) (c' : Nat), u = .slice A' (D.take t).length c' ∧ v = .int .i64 ((j : Int) + (t : Int)) ∧ t ≤ L.length - j ∧ OwnP wr w.heap.size A' c' (D.take t) ∧ Below w.heap.size w wr) (fun _ v _ => L.length - (intOf v).toNat)
      case atStart => exact ⟨0, none, 0, rfl, by simp, Nat.zero_le _, Own.nil _ _ _ _, Below.refl _ _⟩
      case round =>
        obtain ⟨t, A', c', rfl, rfl, htl, ho, hb⟩ := hrel
        obtain ⟨wo, rfl⟩ : ∃ wo : World, wo = wr := ⟨_, rfl⟩
        have HOL : Hid ((D.take t).length = t) := Lib.hid (by rw [List.length_take, HD.out, HCL.out]; omega)
        have HO := Lib.hid ho
        have HB := Lib.hid hb
        clear ho hb
        rw [HOL.out]
        obtain ⟨q, hq⟩ : ∃ q : Nat, (j : Int) + (t : Int) = (q : Int) := ⟨j + t, by omega⟩
        have hq2 : q = j + t := by omega
        rw [hq]
        by_cases hlt : q < L.length
        · obtain ⟨p, hp⟩ : ∃ p, L[q]? = some p := ⟨_, List.getElem?_eq_getElem hlt⟩
          obtain ⟨bb, o, rfl, hbb, hc⟩ := (H.out.below HB.out).at_ (by have := HIL.out; omega)
          obtain ⟨d1, d2⟩ := hc q p hp
          have hql : (q : Int) < (L.length : Int) := by omega
          have hql2 : decide (q < L.length) = true := by simp; omega
          have hq0 : (0 : Int) ≤ (q : Int) := by omega
          have hca := cutI_at (L := L) (i := j) (t := t) (p := p) (by rw [← hq2]; exact hp)
          rw [← HD.out] at hca
          have htn : D.take (t + 1) = D.take t ++ [(p.1, p.2 + if t = 0 then tot (L.take j) else 0)] := by rw [List.take_add_one, hca]; rfl
          have HTL : Hid ((D.take (t + 1)).length = t + 1) := Lib.hid (by rw [List.length_take, HD.out, HCL.out]; omega)
          have HI := Lib.hid (show t + 1 ≤ L.length - j by omega)
          have HQ := Lib.hid (show (q : Int) + 1 = (j : Int) + ((t + 1 : Nat) : Int) by omega)
          have HQL := Lib.hid hlt
          have hpt := tot_le_of_mem (List.mem_of_getElem? hp)
          have hptS : p.2 + tot (L.take j) ≤ tot L := by
            have h1 := tot_append (L.take j) (L.drop j)
            rw [List.take_append_drop] at h1
            have h2 := tot_le_of_mem (l := L.drop j) (p := p) (List.mem_of_getElem? (i := t) (by rw [List.getElem?_drop, ← hq2]; exact hp))
            omega
          have ht := HT.out
          have hSj := HS.out
          have ht6 : t ≤ 1000000 := by omega
          obtain ⟨x, n⟩ := p
          dsimp only at d1 d2 htn hpt hptS
          have hs62 : (n : Int) + (S : Int) ≤ 4611686018427387904 := by omega
          by_cases h0 : t = 0
          · have HTN : Hid (D.take (t + 1) = D.take t ++ [(x, n + S)]) := Lib.hid (by rw [htn, if_pos h0, ← hSj])
            have hns62 : ((n + S : Nat) : Int) ≤ 4611686018427387904 := by omega
            have e5 : ((t : Int) == 0) = true := by simp; omega
            have e6 : (t == 0) = true := by simp; omega
            have hsx : (n : Int) + (S : Int) = ((n + S : Nat) : Int) := by omega
            generalize n + S = ns at *
            clear hc hp hbb hca hpt hptS ht hSj htn htl hq hq2 hlt hs62 h0
            go_wp2_with (at_builtin; refine Hid.out ?_)
            have hO1 : Own wo w.heap.size 64 2 A' t c' (pcs (D.take t)) := by
              have h := HO.out
              unfold OwnP at h
              rw [HOL.out] at h
              exact h
            have hO2 := Own.alloc (Own.alloc hO1 (.cells #[.int .i64 x, .int .u64 (ns : Int)] 64)) (.cells #[.int .i64 x, .int .u64 (ns : Int)] 64)
            refine wpList_app (xs := pcs (D.take t)) (news := pcs [(x, ns)]) rfl rfl elem_pair rfl hO2 rfl (pair_new2 wo _ x (ns)) (pcs_one _) (t + 1) rfl (pcs (D.take (t + 1))) (by rw [HTN.out, pcs_append]) (by unfold maxLen; omega) (by omega) (by have := HB.out.size; simp; omega) ?_
            intro A3 c3 w3 o3 g3 q3
            have HB3 := Lib.hid (appB (newB (newB HB.out _) _) hO2 g3 (Nat.le_refl _) (newB (newB HB.out _) _).size)
            have HO3 : Hid (OwnP w3 w.heap.size A3 c3 (D.take (t + 1))) := Lib.hid (by unfold OwnP; rw [HTL.out]; exact o3)
            clear hO1 hO2 o3 g3 q3
            go_wp2_with fail
            go_roundw
            case rel => exact ⟨t + 1, A3, c3, by rw [HTL.out], by rw [HQ.out], HI.out, HO3.out, HB3.out⟩
            case measure => have := HQL.out; simp [intOf]; omega
          · have HTN : Hid (D.take (t + 1) = D.take t ++ [(x, n)]) := Lib.hid (by rw [htn, if_neg h0]; rfl)
            have e5 : ((t : Int) == 0) = false := by simp; omega
            have e6 : (t == 0) = false := by simp; omega
            clear hc hp hbb hca hpt hptS ht hSj htn htl hq hq2 hlt hs62 h0
            go_wp2_with (at_builtin; refine Hid.out ?_)
            have hO1 : Own wo w.heap.size 64 2 A' t c' (pcs (D.take t)) := by
              have h := HO.out
              unfold OwnP at h
              rw [HOL.out] at h
              exact h
            have hO2 := Own.alloc (Own.alloc hO1 (.cells #[.int .i64 x, .int .u64 (n : Int)] 64)) (.cells #[.int .i64 x, .int .u64 (n : Int)] 64)
            refine wpList_app (xs := pcs (D.take t)) (news := pcs [(x, n)]) rfl rfl elem_pair rfl hO2 rfl (pair_new2 wo _ x (n)) (pcs_one _) (t + 1) rfl (pcs (D.take (t + 1))) (by rw [HTN.out, pcs_append]) (by unfold maxLen; omega) (by omega) (by have := HB.out.size; simp; omega) ?_
            intro A3 c3 w3 o3 g3 q3
            have HB3 := Lib.hid (appB (newB (newB HB.out _) _) hO2 g3 (Nat.le_refl _) (newB (newB HB.out _) _).size)
            have HO3 : Hid (OwnP w3 w.heap.size A3 c3 (D.take (t + 1))) := Lib.hid (by unfold OwnP; rw [HTL.out]; exact o3)
            clear hO1 hO2 o3 g3 q3
            go_wp2_with fail
            go_roundw
            case rel => exact ⟨t + 1, A3, c3, by rw [HTL.out], by rw [HQ.out], HI.out, HO3.out, HB3.out⟩
            case measure => have := HQL.out; simp [intOf]; omega
        · have hqe : q = L.length := by omega
          have hX : D.take t = D := List.take_of_length_le (by rw [HD.out, HCL.out]; omega)
          have HX := Lib.hid hX
          have HL : Hid (t = D.length) := Lib.hid (by rw [HD.out, HCL.out]; omega)
          have hql : ¬ (q : Int) < (L.length : Int) := by omega
          have hql2 : decide (q < L.length) = false := by simp; omega
          clear htl hq hq2 hlt hqe hX
          go_wp2_with fail
          go_ret2
          exact ⟨A', c', by rw [← HL.out]; rfl, by have := HO.out; rw [HX.out] at this; exact Own.mono this HBA.out, HB.out⟩
set_option maxRecDepth 100000 in
set_option maxHeartbeats 6400000 in
theorem rcut_yesB (base : Nat) (A : Option Addr) (c : Nat) (L : List Pr) (m : Int) (i : Nat) (w : World) (h : Prs w w.heap.size A L) (hbase : base ≤ w.heap.size) (hl : L.length ≤ 1000000) (ht : tot L ≤ 4611686018427387904) (hm : 1 ≤ m) (hi : (L.length : Int) - m = (i : Int)) (hi0 : 0 < i) :
    Calls Tryz.prog 66 #[.slice A L.length c, .int .i64 m] w (RCut base w (cutI L i, tot (L.take i))) := by
  have H := Lib.hid h
  have HT := Lib.hid ht
  have hll : (L.length : Int) ≤ 1000000 := by omega
  have e1 : decide (m < 1) = false := by simp; omega
  have e2 : decide ((L.length : Int) ≤ m) = false := by simp; omega
  have e3 : ¬ (L.length : Int) ≤ m := by omega
  have hil : i < L.length := by omega
  have hii : (i : Int) < (L.length : Int) := by omega
  have HIL := Lib.hid hil
  have HBA := Lib.hid hbase
  have HCL : Hid ((cutI L i).length = L.length - i) := Lib.hid (cutI_len L i)
  obtain ⟨S, hS⟩ : ∃ S, S = tot (L.take i) := ⟨_, rfl⟩
  rw [← hS]
  have hS62 : (S : Int) ≤ 4611686018427387904 := by have := tot_take_le' L i; omega
  have HS := Lib.hid hS
  obtain ⟨D, hD⟩ : ∃ D, D = cutI L i := ⟨_, rfl⟩
  rw [← hD]
  have HD := Lib.hid hD
  clear h hl ht hi0 hil hS hbase hD
  go_enter Tryz.func66, Tryz.ntmps66
  go_wp2_with fail
  go_loop [6, 7] (fun u v => ∃ j : Nat, u = .int .u64 (tot (L.take j) : Nat) ∧ v = .int .i64 (j : Int) ∧ j ≤ i) (fun _ v => i - (intOf v).toNat)
  case atStart => exact ⟨0, rfl, rfl, Nat.zero_le _⟩
  case round =>
    obtain ⟨j, rfl, rfl, hj⟩ := hrel
    by_cases hlt : j < i
    · have hji : (j : Int) < (i : Int) := by omega
      have hji2 : decide (j < i) = true := by simp; omega
      have hj0 : (0 : Int) ≤ (j : Int) := by omega
      have hjl : (j : Int) < (L.length : Int) := by omega
      obtain ⟨p, hp⟩ : ∃ p, L[j]? = some p := ⟨_, List.getElem?_eq_getElem (by omega)⟩
      obtain ⟨bb, o, rfl, hbb, hc⟩ := H.out.at_ (by have := HIL.out; omega)
      obtain ⟨d1, d2⟩ := hc j p hp
      have htn := tot_take_next hp
      have htl := tot_take_le' L (j + 1)
      have ht := HT.out
      have HTN := Lib.hid htn
      have HI := Lib.hid hlt
      obtain ⟨x, n⟩ := p
      dsimp only at d1 d2 htn HTN
      have hs62 : ((tot (L.take j) : Nat) : Int) + (n : Int) ≤ 4611686018427387904 := by omega
      generalize tot (L.take j) = q at *
      clear hc hp htn htl ht hbb hj hlt
      go_wp2_with fail
      go_round
      case rel => exact ⟨j + 1, by rw [HTN.out]; go_num, by go_num, HI.out⟩
      case measure => have := HI.out; simp [intOf]; omega
    · obtain rfl : j = i := by omega
      rw [← HS.out]
      have hji : ¬ (j : Int) < (j : Int) := by omega
      clear hj hlt
      go_wp2_with fail
      go_loopw [8, 9] (fun u v wr => ∃ (t : Nat) (A' : Option Addr) (c' : Nat), u = .slice A' (D.take t).length c' ∧ v = .int .i64 ((j : Int) + (t : Int)) ∧ t ≤ L.length - j ∧ OwnP wr w.heap.size A' c' (D.take t) ∧ Below w.heap.size w wr) (fun _ v _ => L.length - (intOf v).toNat)
      case atStart => exact ⟨0, none, 0, rfl, by simp, Nat.zero_le _, Own.nil _ _ _ _, Below.refl _ _⟩
      case round =>
        obtain ⟨t, A', c', rfl, rfl, htl, ho, hb⟩ := hrel
        obtain ⟨wo, rfl⟩ : ∃ wo : World, wo = wr := ⟨_, rfl⟩
        have HOL : Hid ((D.take t).length = t) := Lib.hid (by rw [List.length_take, HD.out, HCL.out]; omega)
        have HO := Lib.hid ho
        have HB := Lib.hid hb
        clear ho hb
        rw [HOL.out]
        obtain ⟨q, hq⟩ : ∃ q : Nat, (j : Int) + (t : Int) = (q : Int) := ⟨j + t, by omega⟩
        have hq2 : q = j + t := by omega
        rw [hq]
        by_cases hlt : q < L.length
        · obtain ⟨p, hp⟩ : ∃ p, L[q]? = some p := ⟨_, List.getElem?_eq_getElem hlt⟩
          obtain ⟨bb, o, rfl, hbb, hc⟩ := (H.out.below HB.out).at_ (by have := HIL.out; omega)
          obtain ⟨d1, d2⟩ := hc q p hp
          have hql : (q : Int) < (L.length : Int) := by omega
          have hql2 : decide (q < L.length) = true := by simp; omega
          have hq0 : (0 : Int) ≤ (q : Int) := by omega
          have hca := cutI_at (L := L) (i := j) (t := t) (p := p) (by rw [← hq2]; exact hp)
          rw [← HD.out] at hca
          have htn : D.take (t + 1) = D.take t ++ [(p.1, p.2 + if t = 0 then tot (L.take j) else 0)] := by rw [List.take_add_one, hca]; rfl
          have HTL : Hid ((D.take (t + 1)).length = t + 1) := Lib.hid (by rw [List.length_take, HD.out, HCL.out]; omega)
          have HI := Lib.hid (show t + 1 ≤ L.length - j by omega)
          have HQ := Lib.hid (show (q : Int) + 1 = (j : Int) + ((t + 1 : Nat) : Int) by omega)
          have HQL := Lib.hid hlt
          have hpt := tot_le_of_mem (List.mem_of_getElem? hp)
          have hptS : p.2 + tot (L.take j) ≤ tot L := by
            have h1 := tot_append (L.take j) (L.drop j)
            rw [List.take_append_drop] at h1
            have h2 := tot_le_of_mem (l := L.drop j) (p := p) (List.mem_of_getElem? (i := t) (by rw [List.getElem?_drop, ← hq2]; exact hp))
            omega
          have ht := HT.out
          have hSj := HS.out
          have ht6 : t ≤ 1000000 := by omega
          obtain ⟨x, n⟩ := p
          dsimp only at d1 d2 htn hpt hptS
          have hs62 : (n : Int) + (S : Int) ≤ 4611686018427387904 := by omega
          by_cases h0 : t = 0
          · have HTN : Hid (D.take (t + 1) = D.take t ++ [(x, n + S)]) := Lib.hid (by rw [htn, if_pos h0, ← hSj])
            have hns62 : ((n + S : Nat) : Int) ≤ 4611686018427387904 := by omega
            have e5 : ((t : Int) == 0) = true := by simp; omega
            have e6 : (t == 0) = true := by simp; omega
            have hsx : (n : Int) + (S : Int) = ((n + S : Nat) : Int) := by omega
            generalize n + S = ns at *
            clear hc hp hbb hca hpt hptS ht hSj htn htl hq hq2 hlt hs62 h0
            go_wp2_with (at_builtin; refine Hid.out ?_)
            have hO1 : Own wo w.heap.size 64 2 A' t c' (pcs (D.take t)) := by
              have h := HO.out
              unfold OwnP at h
              rw [HOL.out] at h
              exact h
            have hO2 := Own.alloc (Own.alloc hO1 (.cells #[.int .i64 x, .int .u64 (ns : Int)] 64)) (.cells #[.int .i64 x, .int .u64 (ns : Int)] 64)
            refine wpList_app (xs := pcs (D.take t)) (news := pcs [(x, ns)]) rfl rfl elem_pair rfl hO2 rfl (pair_new2 wo _ x (ns)) (pcs_one _) (t + 1) rfl (pcs (D.take (t + 1))) (by rw [HTN.out, pcs_append]) (by unfold maxLen; omega) (by omega) (by have := HB.out.size; simp; omega) ?_
            intro A3 c3 w3 o3 g3 q3
            have HB3 := Lib.hid (appB (newB (newB HB.out _) _) hO2 g3 (Nat.le_refl _) (newB (newB HB.out _) _).size)
            have HO3 : Hid (OwnP w3 w.heap.size A3 c3 (D.take (t + 1))) := Lib.hid (by unfold OwnP; rw [HTL.out]; exact o3)
            clear hO1 hO2 o3 g3 q3
            go_wp2_with fail
            go_roundw
            case rel => exact ⟨t + 1, A3, c3, by rw [HTL.out], by rw [HQ.out], HI.out, HO3.out, HB3.out⟩
            case measure => have := HQL.out; simp [intOf]; omega
          · have HTN : Hid (D.take (t + 1) = D.take t ++ [(x, n)]) := Lib.hid (by rw [htn, if_neg h0]; rfl)
            have e5 : ((t : Int) == 0) = false := by simp; omega
            have e6 : (t == 0) = false := by simp; omega
            clear hc hp hbb hca hpt hptS ht hSj htn htl hq hq2 hlt hs62 h0
            go_wp2_with (at_builtin; refine Hid.out ?_)
            have hO1 : Own wo w.heap.size 64 2 A' t c' (pcs (D.take t)) := by
              have h := HO.out
              unfold OwnP at h
              rw [HOL.out] at h
              exact h
            have hO2 := Own.alloc (Own.alloc hO1 (.cells #[.int .i64 x, .int .u64 (n : Int)] 64)) (.cells #[.int .i64 x, .int .u64 (n : Int)] 64)
            refine wpList_app (xs := pcs (D.take t)) (news := pcs [(x, n)]) rfl rfl elem_pair rfl hO2 rfl (pair_new2 wo _ x (n)) (pcs_one _) (t + 1) rfl (pcs (D.take (t + 1))) (by rw [HTN.out, pcs_append]) (by unfold maxLen; omega) (by omega) (by have := HB.out.size; simp; omega) ?_
            intro A3 c3 w3 o3 g3 q3
            have HB3 := Lib.hid (appB (newB (newB HB.out _) _) hO2 g3 (Nat.le_refl _) (newB (newB HB.out _) _).size)
            have HO3 : Hid (OwnP w3 w.heap.size A3 c3 (D.take (t + 1))) := Lib.hid (by unfold OwnP; rw [HTL.out]; exact o3)
            clear hO1 hO2 o3 g3 q3
            go_wp2_with fail
            go_roundw
            case rel => exact ⟨t + 1, A3, c3, by rw [HTL.out], by rw [HQ.out], HI.out, HO3.out, HB3.out⟩
            case measure => have := HQL.out; simp [intOf]; omega
        · have hqe : q = L.length := by omega
          have hX : D.take t = D := List.take_of_length_le (by rw [HD.out, HCL.out]; omega)
          have HX := Lib.hid hX
          have HL : Hid (t = D.length) := Lib.hid (by rw [HD.out, HCL.out]; omega)
          have hql : ¬ (q : Int) < (L.length : Int) := by omega
          have hql2 : decide (q < L.length) = false := by simp; omega
          clear htl hq hq2 hlt hqe hX
          go_wp2_with fail
          go_ret2
          exact ⟨A', c', by rw [← HL.out]; rfl, by have := HO.out; rw [HX.out] at this; exact Own.mono this HBA.out, HB.out⟩
set_option maxRecDepth 100000 in
theorem rcut_t (base : Nat) (A : Option Addr) (c : Nat) (L : List Pr) (m : Int) (w : World) (h : OwnP w base A c L) (hbase : base ≤ w.heap.size) (hl : L.length ≤ 1000000) (ht : tot L ≤ 4611686018427387904) :
    Calls Tryz.prog 66 #[.slice A L.length c, .int .i64 m] w (RCut base w (cutL L m)) := by
  unfold cutL cutN
  split
  · exact rcut_no base A c L m w h (by omega)
  · by_cases hm : m < 1
    · rw [show max m 1 = 1 by omega]
      exact rcut_yesA base A c L m _ w (OwnP.reads h) hbase hl ht hm (by omega) (by omega)
    · rw [show max m 1 = m by omega]
      exact rcut_yesB base A c L m _ w (OwnP.reads h) hbase hl ht (by omega) (by omega) (by omega)
end Go.Proofs.YtbfhiegbgkkgiaaGreat
/- What the row's reading of an argument gives to the walks: bytes, integers. Over any program. -/

namespace Go.Proofs.YtbfhiegbgkkgiaaGreat
open Go.ChangeShapes Go.WideShapes Go.ChangeAt Go.RowKit
namespace WfBounds
theorem u8 {n : Int} (h : (Lit.int .u8 n).wf = true) : 0 ≤ n ∧ n ≤ 255 := by
  have hmin : IntKind.u8.min = 0 := rfl
  have hmax : IntKind.u8.max = 255 := rfl
  simp only [Lit.wf, Bool.and_eq_true, decide_eq_true_eq, hmin, hmax] at h
  exact h
theorem u16 {n : Int} (h : (Lit.int .u16 n).wf = true) : 0 ≤ n ∧ n ≤ 65535 := by
  have hmin : IntKind.u16.min = 0 := rfl
  have hmax : IntKind.u16.max = 65535 := rfl
  simp only [Lit.wf, Bool.and_eq_true, decide_eq_true_eq, hmin, hmax] at h
  exact h
theorem u32 {n : Int} (h : (Lit.int .u32 n).wf = true) : 0 ≤ n ∧ n ≤ 4294967295 := by
  have hmin : IntKind.u32.min = 0 := rfl
  have hmax : IntKind.u32.max = 4294967295 := rfl
  simp only [Lit.wf, Bool.and_eq_true, decide_eq_true_eq, hmin, hmax] at h
  exact h
theorem u64 {n : Int} (h : (Lit.int .u64 n).wf = true) : 0 ≤ n ∧ n ≤ 18446744073709551615 := by
  have hmin : IntKind.u64.min = 0 := rfl
  have hmax : IntKind.u64.max = 18446744073709551615 := rfl
  simp only [Lit.wf, Bool.and_eq_true, decide_eq_true_eq, hmin, hmax] at h
  exact h
theorem i64 {n : Int} (h : (Lit.int .i64 n).wf = true) : -9223372036854775808 ≤ n ∧ n ≤ 9223372036854775807 := by
  have hmin : IntKind.i64.min = -9223372036854775808 := rfl
  have hmax : IntKind.i64.max = 9223372036854775807 := rfl
  simp only [Lit.wf, Bool.and_eq_true, decide_eq_true_eq, hmin, hmax] at h
  exact h
theorem i32 {n : Int} (h : (Lit.int .i32 n).wf = true) : -2147483648 ≤ n ∧ n ≤ 2147483647 := by
  have hmin : IntKind.i32.min = -2147483648 := rfl
  have hmax : IntKind.i32.max = 2147483647 := rfl
  simp only [Lit.wf, Bool.and_eq_true, decide_eq_true_eq, hmin, hmax] at h
  exact h
end WfBounds
section
variable {H : Type} {enc : TypeId × Value → H} {P : Program} {w : World} {base : Nat} {spare : Nat → Bool} {held : Bool}

theorem u8_of (n : Int) (h : (Lit.int .u8 n).wf = true) : ((UInt8.ofNat n.toNat).toNat : Int) = n := by
  have hmin : IntKind.u8.min = 0 := rfl
  have hmax : IntKind.u8.max = 255 := rfl
  simp only [Lit.wf, Bool.and_eq_true, decide_eq_true_eq, hmin, hmax] at h
  simp only [UInt8.toNat_ofNat']
  omega

/-- A slice of bytes, cell by cell. -/
theorem open_bytes_core {t e : TypeId} {fuel : Nat} {cs : List Value} {x : DataW H × List MemPlace} (ht : P.underlying t = some (.slice e)) (he : P.underlying e = some (.int .u8)) (hC : P.cellsOf e = 1)
    (hf : DataW.trod enc P w base spare held fuel t cs = some x) :
    ∃ (A : Option Addr) (c : Nat) (l : List UInt8), cs = [.slice A l.length c] ∧ l.length ≤ maxLen ∧ l.length ≤ c ∧ Bts w w.heap.size A l := by
  rcases open_ints ht he hC hf with ⟨hcs, _⟩ | ⟨x, len, cap, zs, hcs, _, hl, hm, hz, _, hcell, hwz⟩
  · exact ⟨none, 0, [], hcs, by simp, by simp, Bts.empty _ _ _⟩
  · have hcl : ∀ i, i < zs.length → w.cell? (x.add i) = some (.int .u8 (zs.getD i 0)) := hcell
    have hlen : len ≤ zs.length := by rw [hz]; split <;> omega
    let L : List UInt8 := (zs.take len).map fun n => UInt8.ofNat n.toNat
    have hL : L.length = len := by simp [L]; omega
    refine ⟨some x, cap, L, by rw [hcs, hL], by rw [hL]; omega, by rw [hL]; omega, by rw [bvs_length]; simp, fun hn => ?_⟩
    have hn0 : 0 < zs.length := by omega
    have h0 := hcl 0 hn0
    obtain ⟨b, o, sp⟩ := x
    have hsp : sp = none := by
      have := World.cell?_spot h0
      simpa [Addr.add] using this
    subst hsp
    refine ⟨b, o, rfl, ?_, fun j u hu => ?_⟩
    · have := World.block_lt_of_cell? w _ h0
      rwa [block_add] at this
    · have hj : j < L.length := by
        have := (List.getElem?_eq_some_iff.1 hu).1
        rwa [bvs_length] at this
      have hj2 : j < zs.length := by omega
      have e1 := hcl j hj2
      rw [add_lit] at e1
      rw [e1]
      have e2 : (bvs L)[j]? = some (bv L[j]) := by simp [bvs, hj]
      rw [e2] at hu
      injection hu with hu
      rw [← hu]
      have e3 : L[j] = UInt8.ofNat (zs[j]).toNat := by simp [L]
      have e4 : zs.getD j 0 = zs[j] := by simp [List.getD, hj2]
      rw [bv, e3, u8_of _ (hwz _ (List.getElem_mem hj2)), e4]
set_option maxRecDepth 100000 in
/-- A slice of bytes that came in. -/
theorem open_bytes {t e : TypeId} {r : Reach} {b0 : Nat} {v : Value} {d : DataW H} {p : List MemPlace} (ht : P.underlying t = some (.slice e)) (he : P.underlying e = some (.int .u8)) (hC : P.cellsOf e = 1)
    (hv : Value.okWide P w r b0 t v) (h : DataW.Trod enc P w base spare held t v d p) :
    ∃ (A : Option Addr) (c : Nat) (l : List UInt8), v = .slice A l.length c ∧ l.length ≤ maxLen ∧ l.length ≤ c ∧ Bts w w.heap.size A l := by
  obtain ⟨a, len, cap, rfl⟩ := okWide_slice ht hv
  obtain ⟨fuel, hf⟩ := h
  obtain ⟨A, c, l, hcs, h1, h2, h3⟩ := open_bytes_core ht he hC hf
  simp only [Value.cells] at hcs
  exact ⟨A, c, l, by simpa using hcs, h1, h2, h3⟩

set_option maxRecDepth 100000 in
/-- A slice that came in, one cell an element: the cells that are read, and each one's own reading. -/
theorem open_cells {t e : TypeId} {r : Reach} {b0 : Nat} {v : Value} {d : DataW H} {p : List MemPlace} (ht : P.underlying t = some (.slice e)) (hC : P.cellsOf e = 1)
    (hv : Value.okWide P w r b0 t v) (h : DataW.Trod enc P w base spare held t v d p) {α : Type} (val : α → Value) (ok : α → Prop)
    (hel : ∀ (n : Nat) (u : Value) (y : DataW H × List MemPlace), DataW.trod enc P w base spare held n e [u] = some y → ∃ a, u = val a ∧ ok a) :
    ∃ (A : Option Addr) (c : Nat) (l : List α), v = .slice A l.length c ∧ l.length ≤ maxLen ∧ l.length ≤ c ∧ (∀ a ∈ l, ok a) ∧ Reads w w.heap.size 1 A l.length (l.map val) := by
  obtain ⟨a, len, cap, rfl⟩ := okWide_slice ht hv
  obtain ⟨fuel, hf⟩ := h
  rcases Go.Deep.open_slice1 ht hC hf with ⟨hcs, _⟩ | ⟨x, l, c, m, n, V, D, Pl, hcs, _, hl, hm, hmm, _, hV⟩
  · simp [Value.cells] at hcs
    obtain ⟨rfl, rfl, rfl⟩ := hcs
    exact ⟨none, 0, [], rfl, by simp, by simp, by simp, Reads.empty _ _ _ _⟩
  · simp [Value.cells] at hcs
    obtain ⟨rfl, rfl, rfl⟩ := hcs
    have hlm : len ≤ m := by rw [hmm]; split <;> omega
    have hpick : ∀ i, i < len → ∃ a, V i = val a ∧ ok a := fun i hi => hel n (V i) _ (hV i (by omega)).2
    classical
    by_cases h0 : len = 0
    · subst h0
      exact ⟨some x, cap, [], rfl, by simp, by simp, by simp, Reads.empty _ _ _ _⟩
    · obtain ⟨a0, _, _⟩ := hpick 0 (by omega)
      haveI : Inhabited α := ⟨a0⟩
      obtain ⟨F, hF⟩ := Go.Deep.choose_lt hpick
      have h0c := (hV 0 (by omega)).1
      obtain ⟨b, o, sp⟩ := x
      have hsp : sp = none := by
        have := World.cell?_spot h0c
        simpa [Addr.add] using this
      subst hsp
      refine ⟨some ⟨b, o, none⟩, cap, (List.range len).map F, by simp, by simp; omega, by simp; omega, ?_, by simp, fun _ => ⟨b, o, rfl, ?_, fun j u hu => ?_⟩⟩
      · intro a ha
        obtain ⟨i, hi, rfl⟩ := List.mem_map.1 ha
        exact (hF i (by simpa using hi)).2
      · have := World.block_lt_of_cell? w _ h0c
        rwa [block_add] at this
      · have hj : j < len := by
          have := (List.getElem?_eq_some_iff.1 hu).1
          simpa using this
        have e1 := (hV j (by omega)).1
        rw [add_lit, (hF j hj).1] at e1
        rw [e1, ← hu]
        simp [hj]
/-- A slice of integers of one kind that came in. -/
def intv (k : IntKind) (n : Int) : Value := .int k n
set_option maxRecDepth 100000 in
theorem open_intsL {t e : TypeId} {k : IntKind} {r : Reach} {b0 : Nat} {v : Value} {d : DataW H} {p : List MemPlace} (ht : P.underlying t = some (.slice e)) (he : P.underlying e = some (.int k)) (hC : P.cellsOf e = 1)
    (hv : Value.okWide P w r b0 t v) (h : DataW.Trod enc P w base spare held t v d p) :
    ∃ (A : Option Addr) (c : Nat) (l : List Int), v = .slice A l.length c ∧ l.length ≤ maxLen ∧ l.length ≤ c ∧ (∀ n ∈ l, (Lit.int k n).wf = true) ∧ Reads w w.heap.size 1 A l.length (l.map (intv k)) :=
  open_cells ht hC hv h (intv k) (fun n => (Lit.int k n).wf = true) fun n u y hy => by
    obtain ⟨z, e0, _, hw⟩ := DataW.trod_int he hy
    exact ⟨z, by simpa [intv] using e0, hw⟩
/-- A slice of slices of bytes that came in: each row's address, capacity, bytes. -/
def rowv (x : Option Addr × Nat × List UInt8) : Value := .slice x.1 x.2.2.length x.2.1
def RowOk (w : World) (x : Option Addr × Nat × List UInt8) : Prop := x.2.2.length ≤ maxLen ∧ x.2.2.length ≤ x.2.1 ∧ Bts w w.heap.size x.1 x.2.2
set_option maxRecDepth 100000 in
theorem open_bytess {t e e2 : TypeId} {r : Reach} {b0 : Nat} {v : Value} {d : DataW H} {p : List MemPlace} (ht : P.underlying t = some (.slice e)) (he : P.underlying e = some (.slice e2)) (he2 : P.underlying e2 = some (.int .u8)) (hC : P.cellsOf e = 1) (hC2 : P.cellsOf e2 = 1)
    (hv : Value.okWide P w r b0 t v) (h : DataW.Trod enc P w base spare held t v d p) :
    ∃ (A : Option Addr) (c : Nat) (l : List (Option Addr × Nat × List UInt8)), v = .slice A l.length c ∧ l.length ≤ maxLen ∧ l.length ≤ c ∧ (∀ x ∈ l, RowOk w x) ∧ Reads w w.heap.size 1 A l.length (l.map rowv) :=
  open_cells ht hC hv h rowv (RowOk w) fun n u y hy => by
    obtain ⟨A, c, l, hcs, h1, h2, h3⟩ := open_bytes_core he he2 hC2 hy
    exact ⟨(A, c, l), by simpa [rowv] using hcs, h1, h2, h3⟩
end
end Go.Proofs.YtbfhiegbgkkgiaaGreat
/- What the row's reading of an argument gives to the walks: slices whose elements have several cells. Over any program. -/

namespace Go.Proofs.YtbfhiegbgkkgiaaGreat
open Go.ChangeShapes Go.WideShapes Go.ChangeAt Go.RowKit
section
variable {H : Type} {enc : TypeId × Value → H} {P : Program} {w : World} {base : Nat} {spare : Nat → Bool} {held : Bool}
theorem flatMap_get {α : Type} {val : α → List Value} {s : Nat} (hlen : ∀ a, (val a).length = s) {l : List α} {j : Nat} {u : Value} (h : (l.flatMap val)[j]? = some u) : ∃ a, l[j / s]? = some a ∧ (val a)[j % s]? = some u := by
  induction l generalizing j with
  | nil => simp at h
  | cons a l ih =>
    rw [List.flatMap_cons] at h
    by_cases hj : j < s
    · rw [List.getElem?_append_left (by rw [hlen]; exact hj)] at h
      rw [Nat.div_eq_of_lt hj, Nat.mod_eq_of_lt hj]
      exact ⟨a, rfl, h⟩
    · have hs : 0 < s := by
        rcases Nat.eq_zero_or_pos s with h0 | h0
        · subst h0
          have hnil : ∀ b, val b = [] := fun b => List.eq_nil_of_length_eq_zero (hlen b)
          have : (val a ++ l.flatMap val) = [] := by
            rw [hnil a]
            have e : ∀ m : List α, m.flatMap val = [] := fun m => by
              induction m with
              | nil => rfl
              | cons b m ihm => rw [List.flatMap_cons, hnil b, ihm]; rfl
            rw [e]; rfl
          rw [this] at h
          simp at h
        · exact h0
      rw [List.getElem?_append_right (by rw [hlen]; omega), hlen] at h
      obtain ⟨b, h1, h2⟩ := ih h
      have e1 : j / s = (j - s) / s + 1 := by
        rw [show j = (j - s) + s by omega, Nat.add_div_right _ hs]
        simp
      have e2 : j % s = (j - s) % s := by
        rw [show j = (j - s) + s by omega, Nat.add_mod_right]
        simp
      rw [e1, e2]
      exact ⟨b, by simpa using h1, h2⟩
theorem flatMap_len {α : Type} {val : α → List Value} {s : Nat} (hlen : ∀ a, (val a).length = s) (l : List α) : (l.flatMap val).length = l.length * s := by
  induction l with
  | nil => simp
  | cons a l ih => rw [List.flatMap_cons, List.length_append, hlen, ih, List.length_cons, Nat.add_mul, Nat.one_mul, Nat.add_comm]
set_option maxRecDepth 100000 in
theorem open_rows {t e : TypeId} {s : Nat} {r : Reach} {b0 : Nat} {v : Value} {d : DataW H} {p : List MemPlace} (ht : P.underlying t = some (.slice e)) (hC : P.cellsOf e = s) (hs : 0 < s)
    (hv : Value.okWide P w r b0 t v) (h : DataW.Trod enc P w base spare held t v d p) {α : Type} (val : α → List Value) (hlen : ∀ a, (val a).length = s) (ok : α → Prop)
    (hel : ∀ (n : Nat) (cs : List Value) (y : DataW H × List MemPlace), cs.length = s → DataW.trod enc P w base spare held n e cs = some y → ∃ a, cs = val a ∧ ok a) :
    ∃ (A : Option Addr) (c : Nat) (l : List α), v = .slice A l.length c ∧ l.length ≤ maxLen ∧ l.length ≤ c ∧ (∀ a ∈ l, ok a) ∧ Reads w w.heap.size s A l.length (l.flatMap val) := by
  obtain ⟨a, len, cap, rfl⟩ := okWide_slice ht hv
  obtain ⟨fuel, hf⟩ := h
  rcases Go.Deep.open_slice ht hf with ⟨hcs, _⟩ | ⟨x, l, c, m, n, D, Pl, hcs, _, hl, hm, hmm, _, hV⟩
  · simp [Value.cells] at hcs
    obtain ⟨rfl, rfl, rfl⟩ := hcs
    exact ⟨none, 0, [], rfl, by simp, by simp, by simp, Reads.empty _ _ _ _⟩
  · simp [Value.cells] at hcs
    obtain ⟨rfl, rfl, rfl⟩ := hcs
    rw [hC] at hV
    have hlm : len ≤ m := by rw [hmm]; split <;> omega
    have hpick : ∀ i, i < len → ∃ a, ok a ∧ ∀ k, k < s → w.cell? ((x.add (i * s)).add k) = (val a)[k]? := fun i hi => by
      obtain ⟨cs', h1, h2⟩ := hV i (by omega)
      obtain ⟨_, hl2, hc2⟩ := World.cells?_some h1
      obtain ⟨a, rfl, hok⟩ := hel n cs' _ hl2 h2
      exact ⟨a, hok, hc2⟩
    by_cases h0 : len = 0
    · subst h0
      exact ⟨some x, cap, [], rfl, by simp, by simp, by simp, Reads.empty _ _ _ _⟩
    · obtain ⟨a0, _, h0c⟩ := hpick 0 (by omega)
      haveI : Inhabited α := ⟨a0⟩
      obtain ⟨F, hF⟩ := Go.Deep.choose_lt hpick
      have h00 := h0c 0 hs
      have h0v : ∃ u, (val a0)[0]? = some u := ⟨(val a0)[0]'(by rw [hlen]; exact hs), by simp [hlen, hs]⟩
      obtain ⟨u0, hu0⟩ := h0v
      rw [hu0, add_assoc] at h00
      obtain ⟨b, o, sp⟩ := x
      have hsp : sp = none := by
        have := World.cell?_spot h00
        simpa [Addr.add] using this
      subst hsp
      refine ⟨some ⟨b, o, none⟩, cap, (List.range len).map F, by simp, by simp <;> omega, by simp <;> omega, ?_, by rw [flatMap_len hlen]; try simp, fun _ => ⟨b, o, rfl, ?_, fun j u hu => ?_⟩⟩
      · intro a ha
        obtain ⟨i, hi, rfl⟩ := List.mem_map.1 ha
        exact (hF i (by simpa using hi)).1
      · have := World.block_lt_of_cell? w _ h00
        rwa [block_add] at this
      · obtain ⟨a, h1, h2⟩ := flatMap_get hlen hu
        have hj : j / s < len := by
          have := (List.getElem?_eq_some_iff.1 h1).1
          simpa using this
        have e1 := (hF (j / s) hj).2 (j % s) (Nat.mod_lt _ hs)
        rw [add_lit, add_lit] at e1
        have e2 : o + j / s * s + j % s = o + j := by
          have := Nat.div_add_mod j s
          rw [Nat.mul_comm] at this
          omega
        rw [e2] at e1
        rw [e1, ← h2]
        have e3 : ((List.range len).map F)[j / s]? = some (F (j / s)) := by simp [hj]
        rw [e3] at h1
        injection h1 with h1
        rw [h1]
end
end Go.Proofs.YtbfhiegbgkkgiaaGreat
/- A slice of pairs that came in. -/

namespace Go.Proofs.YtbfhiegbgkkgiaaGreat
open Go.ChangeShapes Go.WideShapes Go.ChangeAt Go.RowKit
theorem pcs_flat (l : List Pr) : l.flatMap pcell = pcs l := by
  induction l with
  | nil => rfl
  | cons p l ih => rw [List.flatMap_cons, ih]; rfl
def PairOk (p : Pr) : Prop := -9223372036854775808 ≤ p.1 ∧ p.1 ≤ 9223372036854775807 ∧ p.2 ≤ 18446744073709551615
def Pairs (w : World) (A : Option Addr) (l : List Pr) : Prop := (∀ p ∈ l, PairOk p) ∧ Prs w w.heap.size A l
set_option maxRecDepth 100000 in
theorem open_pairs {H : Type} {enc : TypeId × Value → H} {w : World} {base : Nat} {spare : Nat → Bool} {held : Bool} {r : Reach} {b0 : Nat} {v : Value} {d : DataW H} {p : List MemPlace}
    (hv : Value.okWide Tryz.prog w r b0 37 v) (h : DataW.Trod enc Tryz.prog w base spare held 37 v d p) :
    ∃ (A : Option Addr) (c : Nat) (l : List Pr), v = .slice A l.length c ∧ l.length ≤ maxLen ∧ Pairs w A l := by
  obtain ⟨A, c, l, h1, h2, _, h3, h4⟩ := open_rows (s := 2) Tryz.underlying37 (by kernel_rfl) (by decide) hv h pcell (fun _ => rfl) PairOk (fun n cs y hl hy => by
    obtain ⟨y0, y1, m, _, _, t0, t1⟩ := trod_struct2 Tryz.underlying64 hy
    match cs, hl with
    | [c0, c1], _ =>
      obtain ⟨z0, e0, _, w0⟩ := DataW.trod_int Tryz.underlying3 t0
      obtain ⟨z1, e1, _, w1⟩ := DataW.trod_int Tryz.underlying39 t1
      have b0 := WfBounds.i64 w0
      have b1 := WfBounds.u64 w1
      have f0 : c0 = .int .i64 z0 := by simpa [show Tryz.prog.cellsOf 3 = 1 by kernel_rfl] using e0
      have f1 : c1 = .int .u64 z1 := by simpa [show Tryz.prog.cellsOf 39 = 1 by kernel_rfl] using e1
      refine ⟨(z0, z1.toNat), ?_, b0.1, b0.2, by simp only; omega⟩
      rw [f0, f1, pcell]
      simp only
      rw [show ((z1.toNat : Nat) : Int) = z1 by omega])
  rw [pcs_flat] at h4
  exact ⟨A, c, l, h1, h2, h3, h4⟩
end Go.Proofs.YtbfhiegbgkkgiaaGreat
