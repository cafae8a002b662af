/- Sparse: the document's Cut walked. -/
import Derived.Test.YtmpmjgoipfgfoaaSpF
namespace Go.Proofs.Ytmpmjgoipfgfoaa
open Go.RowKit
open Pl
def RCut (base : Nat) (w : World) (R : List Pr × Nat) (e : Ending) (w' : World) : Prop :=
  ∃ A c, e = .returned (.tuple #[.slice A R.1.length c, .int .u64 (R.2 : Nat)]) ∧ OwnP w' base A c R.1 ∧ Below w.heap.size w w'
theorem pair_new2 (w : World) (o : Obj) (k : Int) (n : Nat) : Reads ((w.alloc o).alloc (.cells #[.int .i64 k, .int .u64 (n : Int)] 38)) ((w.alloc o).alloc (.cells #[.int .i64 k, .int .u64 (n : Int)] 38)).heap.size 2 (some ⟨w.heap.size + 1, 0, none⟩) 1 (pcs [(k, n)]) := by
  have h := pair_new (w.alloc o) k n
  rw [World.size_alloc w o] at h
  exact h
theorem cutI_at {L : List Pr} {i t : Nat} {p : Pr} (h : L[i + t]? = some p) : (cutI L i)[t]? = some (p.1, p.2 + if t = 0 then tot (L.take i) else 0) := by
  unfold cutI
  rw [← List.getElem?_drop] at h
  cases hd : L.drop i with
  | nil => rw [hd] at h; simp at h
  | cons q R =>
    rw [hd] at h
    cases t with
    | zero => simp at h; subst h; simp
    | succ t => simpa using h
set_option maxHeartbeats 1600000 in
theorem rcut_no (base : Nat) (A : Option Addr) (c : Nat) (L : List Pr) (m : Int) (w : World) (h : OwnP w base A c L) (hl : (L.length : Int) ≤ max m 1) :
    Calls Try.prog 46 #[.slice A L.length c, .int .i64 m] w (RCut base w (L, 0)) := by
  have H := Lib.hid h
  have hc : (decide (m < 1) = true ∧ decide ((L.length : Int) ≤ 1) = true ∧ (L.length : Int) ≤ 1) ∨ (decide (m < 1) = false ∧ decide ((L.length : Int) ≤ m) = true ∧ (L.length : Int) ≤ m) := by
    by_cases h1 : m < 1
    · exact .inl ⟨by simp; omega, by simp; omega, by omega⟩
    · exact .inr ⟨by simp; omega, by simp; omega, by omega⟩
  clear h hl
  rcases hc with ⟨e1, e2, e3⟩ | ⟨e1, e2, e3⟩
  all_goals
    go_enter Try.func46, Try.ntmps46
    go_wp2_with fail
    go_ret2
    exact ⟨A, c, rfl, H.out, Below.refl _ _⟩
set_option maxHeartbeats 6400000 in
theorem rcut_yesA (base : Nat) (A : Option Addr) (c : Nat) (L : List Pr) (m : Int) (i : Nat) (w : World) (h : Prs w w.heap.size A L) (hbase : base ≤ w.heap.size) (hl : L.length ≤ 1000000) (ht : tot L ≤ 4611686018427387904) (hm : m < 1) (hi : (L.length : Int) - 1 = (i : Int)) (hi0 : 0 < i) :
    Calls Try.prog 46 #[.slice A L.length c, .int .i64 m] w (RCut base w (cutI L i, tot (L.take i))) := by
  have H := Lib.hid h
  have HT := Lib.hid ht
  have hll : (L.length : Int) ≤ 1000000 := by omega
  have e1 : decide (m < 1) = true := by simp; omega
  have e2 : decide ((L.length : Int) ≤ 1) = false := by simp; omega
  have e3 : ¬ (L.length : Int) ≤ 1 := by omega
  have hil : i < L.length := by omega
  have hii : (i : Int) < (L.length : Int) := by omega
  have HIL := Lib.hid hil
  have HBA := Lib.hid hbase
  have HCL : Hid ((cutI L i).length = L.length - i) := Lib.hid (cutI_len L i)
  obtain ⟨S, hS⟩ : ∃ S, S = tot (L.take i) := ⟨_, rfl⟩
  rw [← hS]
  have hS62 : (S : Int) ≤ 4611686018427387904 := by have := tot_take_le' L i; omega
  have HS := Lib.hid hS
  obtain ⟨D, hD⟩ : ∃ D, D = cutI L i := ⟨_, rfl⟩
  rw [← hD]
  have HD := Lib.hid hD
  clear h hl ht hi0 hil hS hbase hD
  go_enter Try.func46, Try.ntmps46
  go_wp2_with fail
  go_loop [6, 7] (fun u v => ∃ j : Nat, u = .int .u64 (tot (L.take j) : Nat) ∧ v = .int .i64 (j : Int) ∧ j ≤ i) (fun _ v => i - (intOf v).toNat)
  case atStart => exact ⟨0, rfl, rfl, Nat.zero_le _⟩
  case round =>
    obtain ⟨j, rfl, rfl, hj⟩ := hrel
    by_cases hlt : j < i
    · have hji : (j : Int) < (i : Int) := by omega
      have hji2 : decide (j < i) = true := by simp; omega
      have hj0 : (0 : Int) ≤ (j : Int) := by omega
      have hjl : (j : Int) < (L.length : Int) := by omega
      obtain ⟨p, hp⟩ : ∃ p, L[j]? = some p := ⟨_, List.getElem?_eq_getElem (by omega)⟩
      obtain ⟨bb, o, rfl, hbb, hc⟩ := H.out.at_ (by have := HIL.out; omega)
      obtain ⟨d1, d2⟩ := hc j p hp
      have htn := tot_take_next hp
      have htl := tot_take_le' L (j + 1)
      have ht := HT.out
      have HTN := Lib.hid htn
      have HI := Lib.hid hlt
      obtain ⟨x, n⟩ := p
      dsimp only at d1 d2 htn HTN
      have hs62 : ((tot (L.take j) : Nat) : Int) + (n : Int) ≤ 4611686018427387904 := by omega
      generalize tot (L.take j) = q at *
      clear hc hp htn htl ht hbb hj hlt
      go_wp2_with fail
      go_round
      case rel => exact ⟨j + 1, by rw [HTN.out]; go_num, by go_num, HI.out⟩
      case measure => have := HI.out; simp [intOf]; omega
    · obtain rfl : j = i := by omega
      rw [← HS.out]
      have hji : ¬ (j : Int) < (j : Int) := by omega
      clear hj hlt
      go_wp2_with fail
      go_loopw [8, 9] (fun u v wr => ∃ (t : Nat) (A' : Option Addr) (c' : Nat), u = .slice A' (D.take t).length c' ∧ v = .int .i64 ((j : Int) + (t : Int)) ∧ t ≤ L.length - j ∧ OwnP wr w.heap.size A' c' (D.take t) ∧ Below w.heap.size w wr) (fun _ v _ => L.length - (intOf v).toNat)
      case atStart => exact ⟨0, none, 0, rfl, by simp, Nat.zero_le _, Own.nil _ _ _ _, Below.refl _ _⟩
      case round =>
        obtain ⟨t, A', c', rfl, rfl, htl, ho, hb⟩ := hrel
        obtain ⟨wo, rfl⟩ : ∃ wo : World, wo = wr := ⟨_, rfl⟩
        have HOL : Hid ((D.take t).length = t) := Lib.hid (by rw [List.length_take, HD.out, HCL.out]; omega)
        have HO := Lib.hid ho
        have HB := Lib.hid hb
        clear ho hb
        rw [HOL.out]
        obtain ⟨q, hq⟩ : ∃ q : Nat, (j : Int) + (t : Int) = (q : Int) := ⟨j + t, by omega⟩
        have hq2 : q = j + t := by omega
        rw [hq]
        by_cases hlt : q < L.length
        · obtain ⟨p, hp⟩ : ∃ p, L[q]? = some p := ⟨_, List.getElem?_eq_getElem hlt⟩
          obtain ⟨bb, o, rfl, hbb, hc⟩ := (H.out.below HB.out).at_ (by have := HIL.out; omega)
          obtain ⟨d1, d2⟩ := hc q p hp
          have hql : (q : Int) < (L.length : Int) := by omega
          have hql2 : decide (q < L.length) = true := by simp; omega
          have hq0 : (0 : Int) ≤ (q : Int) := by omega
          have hca := cutI_at (L := L) (i := j) (t := t) (p := p) (by rw [← hq2]; exact hp)
          rw [← HD.out] at hca
          have htn : D.take (t + 1) = D.take t ++ [(p.1, p.2 + if t = 0 then tot (L.take j) else 0)] := by rw [List.take_add_one, hca]; rfl
          have HTL : Hid ((D.take (t + 1)).length = t + 1) := Lib.hid (by rw [List.length_take, HD.out, HCL.out]; omega)
          have HI := Lib.hid (show t + 1 ≤ L.length - j by omega)
          have HQ := Lib.hid (show (q : Int) + 1 = (j : Int) + ((t + 1 : Nat) : Int) by omega)
          have HQL := Lib.hid hlt
          have hpt := tot_le_of_mem (List.mem_of_getElem? hp)
          have hptS : p.2 + tot (L.take j) ≤ tot L := by
            have h1 := tot_append (L.take j) (L.drop j)
            rw [List.take_append_drop] at h1
            have h2 := tot_le_of_mem (l := L.drop j) (p := p) (List.mem_of_getElem? (i := t) (by rw [List.getElem?_drop, ← hq2]; exact hp))
            omega
          have ht := HT.out
          have hSj := HS.out
          have ht6 : t ≤ 1000000 := by omega
          obtain ⟨x, n⟩ := p
          dsimp only at d1 d2 htn hpt hptS
          have hs62 : (n : Int) + (S : Int) ≤ 4611686018427387904 := by omega
          by_cases h0 : t = 0
          · have HTN : Hid (D.take (t + 1) = D.take t ++ [(x, n + S)]) := Lib.hid (by rw [htn, if_pos h0, ← hSj])
            have hns62 : ((n + S : Nat) : Int) ≤ 4611686018427387904 := by omega
            have e5 : ((t : Int) == 0) = true := by simp; omega
            have e6 : (t == 0) = true := by simp; omega
            have hsx : (n : Int) + (S : Int) = ((n + S : Nat) : Int) := by omega
            generalize n + S = ns at *
            clear hc hp hbb hca hpt hptS ht hSj htn htl hq hq2 hlt hs62 h0
            go_wp2_with (at_builtin; refine Hid.out ?_)
            have hO1 : Own wo w.heap.size 38 2 A' t c' (pcs (D.take t)) := by
              have h := HO.out
              unfold OwnP at h
              rw [HOL.out] at h
              exact h
            have hO2 := Own.alloc (Own.alloc hO1 (.cells #[.int .i64 x, .int .u64 (ns : Int)] 38)) (.cells #[.int .i64 x, .int .u64 (ns : Int)] 38)
            refine wpList_app (xs := pcs (D.take t)) (news := pcs [(x, ns)]) rfl rfl elem_pair rfl hO2 rfl (pair_new2 wo _ x (ns)) (pcs_one _) (t + 1) rfl (pcs (D.take (t + 1))) (by rw [HTN.out, pcs_append]) (by unfold maxLen; omega) (by omega) (by have := HB.out.size; simp; omega) ?_
            intro A3 c3 w3 o3 g3 q3
            have HB3 := Lib.hid (appB (newB (newB HB.out _) _) hO2 g3 (Nat.le_refl _) (newB (newB HB.out _) _).size)
            have HO3 : Hid (OwnP w3 w.heap.size A3 c3 (D.take (t + 1))) := Lib.hid (by unfold OwnP; rw [HTL.out]; exact o3)
            clear hO1 hO2 o3 g3 q3
            go_wp2_with fail
            go_roundw
            case rel => exact ⟨t + 1, A3, c3, by rw [HTL.out], by rw [HQ.out], HI.out, HO3.out, HB3.out⟩
            case measure => have := HQL.out; simp [intOf]; omega
          · have HTN : Hid (D.take (t + 1) = D.take t ++ [(x, n)]) := Lib.hid (by rw [htn, if_neg h0]; rfl)
            have e5 : ((t : Int) == 0) = false := by simp; omega
            have e6 : (t == 0) = false := by simp; omega
            clear hc hp hbb hca hpt hptS ht hSj htn htl hq hq2 hlt hs62 h0
            go_wp2_with (at_builtin; refine Hid.out ?_)
            have hO1 : Own wo w.heap.size 38 2 A' t c' (pcs (D.take t)) := by
              have h := HO.out
              unfold OwnP at h
              rw [HOL.out] at h
              exact h
            have hO2 := Own.alloc (Own.alloc hO1 (.cells #[.int .i64 x, .int .u64 (n : Int)] 38)) (.cells #[.int .i64 x, .int .u64 (n : Int)] 38)
            refine wpList_app (xs := pcs (D.take t)) (news := pcs [(x, n)]) rfl rfl elem_pair rfl hO2 rfl (pair_new2 wo _ x (n)) (pcs_one _) (t + 1) rfl (pcs (D.take (t + 1))) (by rw [HTN.out, pcs_append]) (by unfold maxLen; omega) (by omega) (by have := HB.out.size; simp; omega) ?_
            intro A3 c3 w3 o3 g3 q3
            have HB3 := Lib.hid (appB (newB (newB HB.out _) _) hO2 g3 (Nat.le_refl _) (newB (newB HB.out _) _).size)
            have HO3 : Hid (OwnP w3 w.heap.size A3 c3 (D.take (t + 1))) := Lib.hid (by unfold OwnP; rw [HTL.out]; exact o3)
            clear hO1 hO2 o3 g3 q3
            go_wp2_with fail
            go_roundw
            case rel => exact ⟨t + 1, A3, c3, by rw [HTL.out], by rw [HQ.out], HI.out, HO3.out, HB3.out⟩
            case measure => have := HQL.out; simp [intOf]; omega
        · have hqe : q = L.length := by omega
          have hX : D.take t = D := List.take_of_length_le (by rw [HD.out, HCL.out]; omega)
          have HX := Lib.hid hX
          have HL : Hid (t = D.length) := Lib.hid (by rw [HD.out, HCL.out]; omega)
          have hql : ¬ (q : Int) < (L.length : Int) := by omega
          have hql2 : decide (q < L.length) = false := by simp; omega
          clear htl hq hq2 hlt hqe hX
          go_wp2_with fail
          go_ret2
          exact ⟨A', c', by rw [← HL.out]; rfl, by have := HO.out; rw [HX.out] at this; exact Own.mono this HBA.out, HB.out⟩
set_option maxHeartbeats 6400000 in
theorem rcut_yesB (base : Nat) (A : Option Addr) (c : Nat) (L : List Pr) (m : Int) (i : Nat) (w : World) (h : Prs w w.heap.size A L) (hbase : base ≤ w.heap.size) (hl : L.length ≤ 1000000) (ht : tot L ≤ 4611686018427387904) (hm : 1 ≤ m) (hi : (L.length : Int) - m = (i : Int)) (hi0 : 0 < i) :
    Calls Try.prog 46 #[.slice A L.length c, .int .i64 m] w (RCut base w (cutI L i, tot (L.take i))) := by
  have H := Lib.hid h
  have HT := Lib.hid ht
  have hll : (L.length : Int) ≤ 1000000 := by omega
  have e1 : decide (m < 1) = false := by simp; omega
  have e2 : decide ((L.length : Int) ≤ m) = false := by simp; omega
  have e3 : ¬ (L.length : Int) ≤ m := by omega
  have hil : i < L.length := by omega
  have hii : (i : Int) < (L.length : Int) := by omega
  have HIL := Lib.hid hil
  have HBA := Lib.hid hbase
  have HCL : Hid ((cutI L i).length = L.length - i) := Lib.hid (cutI_len L i)
  obtain ⟨S, hS⟩ : ∃ S, S = tot (L.take i) := ⟨_, rfl⟩
  rw [← hS]
  have hS62 : (S : Int) ≤ 4611686018427387904 := by have := tot_take_le' L i; omega
  have HS := Lib.hid hS
  obtain ⟨D, hD⟩ : ∃ D, D = cutI L i := ⟨_, rfl⟩
  rw [← hD]
  have HD := Lib.hid hD
  clear h hl ht hi0 hil hS hbase hD
  go_enter Try.func46, Try.ntmps46
  go_wp2_with fail
  go_loop [6, 7] (fun u v => ∃ j : Nat, u = .int .u64 (tot (L.take j) : Nat) ∧ v = .int .i64 (j : Int) ∧ j ≤ i) (fun _ v => i - (intOf v).toNat)
  case atStart => exact ⟨0, rfl, rfl, Nat.zero_le _⟩
  case round =>
    obtain ⟨j, rfl, rfl, hj⟩ := hrel
    by_cases hlt : j < i
    · have hji : (j : Int) < (i : Int) := by omega
      have hji2 : decide (j < i) = true := by simp; omega
      have hj0 : (0 : Int) ≤ (j : Int) := by omega
      have hjl : (j : Int) < (L.length : Int) := by omega
      obtain ⟨p, hp⟩ : ∃ p, L[j]? = some p := ⟨_, List.getElem?_eq_getElem (by omega)⟩
      obtain ⟨bb, o, rfl, hbb, hc⟩ := H.out.at_ (by have := HIL.out; omega)
      obtain ⟨d1, d2⟩ := hc j p hp
      have htn := tot_take_next hp
      have htl := tot_take_le' L (j + 1)
      have ht := HT.out
      have HTN := Lib.hid htn
      have HI := Lib.hid hlt
      obtain ⟨x, n⟩ := p
      dsimp only at d1 d2 htn HTN
      have hs62 : ((tot (L.take j) : Nat) : Int) + (n : Int) ≤ 4611686018427387904 := by omega
      generalize tot (L.take j) = q at *
      clear hc hp htn htl ht hbb hj hlt
      go_wp2_with fail
      go_round
      case rel => exact ⟨j + 1, by rw [HTN.out]; go_num, by go_num, HI.out⟩
      case measure => have := HI.out; simp [intOf]; omega
    · obtain rfl : j = i := by omega
      rw [← HS.out]
      have hji : ¬ (j : Int) < (j : Int) := by omega
      clear hj hlt
      go_wp2_with fail
      go_loopw [8, 9] (fun u v wr => ∃ (t : Nat) (A' : Option Addr) (c' : Nat), u = .slice A' (D.take t).length c' ∧ v = .int .i64 ((j : Int) + (t : Int)) ∧ t ≤ L.length - j ∧ OwnP wr w.heap.size A' c' (D.take t) ∧ Below w.heap.size w wr) (fun _ v _ => L.length - (intOf v).toNat)
      case atStart => exact ⟨0, none, 0, rfl, by simp, Nat.zero_le _, Own.nil _ _ _ _, Below.refl _ _⟩
      case round =>
        obtain ⟨t, A', c', rfl, rfl, htl, ho, hb⟩ := hrel
        obtain ⟨wo, rfl⟩ : ∃ wo : World, wo = wr := ⟨_, rfl⟩
        have HOL : Hid ((D.take t).length = t) := Lib.hid (by rw [List.length_take, HD.out, HCL.out]; omega)
        have HO := Lib.hid ho
        have HB := Lib.hid hb
        clear ho hb
        rw [HOL.out]
        obtain ⟨q, hq⟩ : ∃ q : Nat, (j : Int) + (t : Int) = (q : Int) := ⟨j + t, by omega⟩
        have hq2 : q = j + t := by omega
        rw [hq]
        by_cases hlt : q < L.length
        · obtain ⟨p, hp⟩ : ∃ p, L[q]? = some p := ⟨_, List.getElem?_eq_getElem hlt⟩
          obtain ⟨bb, o, rfl, hbb, hc⟩ := (H.out.below HB.out).at_ (by have := HIL.out; omega)
          obtain ⟨d1, d2⟩ := hc q p hp
          have hql : (q : Int) < (L.length : Int) := by omega
          have hql2 : decide (q < L.length) = true := by simp; omega
          have hq0 : (0 : Int) ≤ (q : Int) := by omega
          have hca := cutI_at (L := L) (i := j) (t := t) (p := p) (by rw [← hq2]; exact hp)
          rw [← HD.out] at hca
          have htn : D.take (t + 1) = D.take t ++ [(p.1, p.2 + if t = 0 then tot (L.take j) else 0)] := by rw [List.take_add_one, hca]; rfl
          have HTL : Hid ((D.take (t + 1)).length = t + 1) := Lib.hid (by rw [List.length_take, HD.out, HCL.out]; omega)
          have HI := Lib.hid (show t + 1 ≤ L.length - j by omega)
          have HQ := Lib.hid (show (q : Int) + 1 = (j : Int) + ((t + 1 : Nat) : Int) by omega)
          have HQL := Lib.hid hlt
          have hpt := tot_le_of_mem (List.mem_of_getElem? hp)
          have hptS : p.2 + tot (L.take j) ≤ tot L := by
            have h1 := tot_append (L.take j) (L.drop j)
            rw [List.take_append_drop] at h1
            have h2 := tot_le_of_mem (l := L.drop j) (p := p) (List.mem_of_getElem? (i := t) (by rw [List.getElem?_drop, ← hq2]; exact hp))
            omega
          have ht := HT.out
          have hSj := HS.out
          have ht6 : t ≤ 1000000 := by omega
          obtain ⟨x, n⟩ := p
          dsimp only at d1 d2 htn hpt hptS
          have hs62 : (n : Int) + (S : Int) ≤ 4611686018427387904 := by omega
          by_cases h0 : t = 0
          · have HTN : Hid (D.take (t + 1) = D.take t ++ [(x, n + S)]) := Lib.hid (by rw [htn, if_pos h0, ← hSj])
            have hns62 : ((n + S : Nat) : Int) ≤ 4611686018427387904 := by omega
            have e5 : ((t : Int) == 0) = true := by simp; omega
            have e6 : (t == 0) = true := by simp; omega
            have hsx : (n : Int) + (S : Int) = ((n + S : Nat) : Int) := by omega
            generalize n + S = ns at *
            clear hc hp hbb hca hpt hptS ht hSj htn htl hq hq2 hlt hs62 h0
            go_wp2_with (at_builtin; refine Hid.out ?_)
            have hO1 : Own wo w.heap.size 38 2 A' t c' (pcs (D.take t)) := by
              have h := HO.out
              unfold OwnP at h
              rw [HOL.out] at h
              exact h
            have hO2 := Own.alloc (Own.alloc hO1 (.cells #[.int .i64 x, .int .u64 (ns : Int)] 38)) (.cells #[.int .i64 x, .int .u64 (ns : Int)] 38)
            refine wpList_app (xs := pcs (D.take t)) (news := pcs [(x, ns)]) rfl rfl elem_pair rfl hO2 rfl (pair_new2 wo _ x (ns)) (pcs_one _) (t + 1) rfl (pcs (D.take (t + 1))) (by rw [HTN.out, pcs_append]) (by unfold maxLen; omega) (by omega) (by have := HB.out.size; simp; omega) ?_
            intro A3 c3 w3 o3 g3 q3
            have HB3 := Lib.hid (appB (newB (newB HB.out _) _) hO2 g3 (Nat.le_refl _) (newB (newB HB.out _) _).size)
            have HO3 : Hid (OwnP w3 w.heap.size A3 c3 (D.take (t + 1))) := Lib.hid (by unfold OwnP; rw [HTL.out]; exact o3)
            clear hO1 hO2 o3 g3 q3
            go_wp2_with fail
            go_roundw
            case rel => exact ⟨t + 1, A3, c3, by rw [HTL.out], by rw [HQ.out], HI.out, HO3.out, HB3.out⟩
            case measure => have := HQL.out; simp [intOf]; omega
          · have HTN : Hid (D.take (t + 1) = D.take t ++ [(x, n)]) := Lib.hid (by rw [htn, if_neg h0]; rfl)
            have e5 : ((t : Int) == 0) = false := by simp; omega
            have e6 : (t == 0) = false := by simp; omega
            clear hc hp hbb hca hpt hptS ht hSj htn htl hq hq2 hlt hs62 h0
            go_wp2_with (at_builtin; refine Hid.out ?_)
            have hO1 : Own wo w.heap.size 38 2 A' t c' (pcs (D.take t)) := by
              have h := HO.out
              unfold OwnP at h
              rw [HOL.out] at h
              exact h
            have hO2 := Own.alloc (Own.alloc hO1 (.cells #[.int .i64 x, .int .u64 (n : Int)] 38)) (.cells #[.int .i64 x, .int .u64 (n : Int)] 38)
            refine wpList_app (xs := pcs (D.take t)) (news := pcs [(x, n)]) rfl rfl elem_pair rfl hO2 rfl (pair_new2 wo _ x (n)) (pcs_one _) (t + 1) rfl (pcs (D.take (t + 1))) (by rw [HTN.out, pcs_append]) (by unfold maxLen; omega) (by omega) (by have := HB.out.size; simp; omega) ?_
            intro A3 c3 w3 o3 g3 q3
            have HB3 := Lib.hid (appB (newB (newB HB.out _) _) hO2 g3 (Nat.le_refl _) (newB (newB HB.out _) _).size)
            have HO3 : Hid (OwnP w3 w.heap.size A3 c3 (D.take (t + 1))) := Lib.hid (by unfold OwnP; rw [HTL.out]; exact o3)
            clear hO1 hO2 o3 g3 q3
            go_wp2_with fail
            go_roundw
            case rel => exact ⟨t + 1, A3, c3, by rw [HTL.out], by rw [HQ.out], HI.out, HO3.out, HB3.out⟩
            case measure => have := HQL.out; simp [intOf]; omega
        · have hqe : q = L.length := by omega
          have hX : D.take t = D := List.take_of_length_le (by rw [HD.out, HCL.out]; omega)
          have HX := Lib.hid hX
          have HL : Hid (t = D.length) := Lib.hid (by rw [HD.out, HCL.out]; omega)
          have hql : ¬ (q : Int) < (L.length : Int) := by omega
          have hql2 : decide (q < L.length) = false := by simp; omega
          clear htl hq hq2 hlt hqe hX
          go_wp2_with fail
          go_ret2
          exact ⟨A', c', by rw [← HL.out]; rfl, by have := HO.out; rw [HX.out] at this; exact Own.mono this HBA.out, HB.out⟩
theorem rcut_t (base : Nat) (A : Option Addr) (c : Nat) (L : List Pr) (m : Int) (w : World) (h : OwnP w base A c L) (hbase : base ≤ w.heap.size) (hl : L.length ≤ 1000000) (ht : tot L ≤ 4611686018427387904) :
    Calls Try.prog 46 #[.slice A L.length c, .int .i64 m] w (RCut base w (cutL L m)) := by
  unfold cutL cutN
  split
  · exact rcut_no base A c L m w h (by omega)
  · by_cases hm : m < 1
    · rw [show max m 1 = 1 by omega]
      exact rcut_yesA base A c L m _ w (OwnP.reads h) hbase hl ht hm (by omega) (by omega)
    · rw [show max m 1 = m by omega]
      exact rcut_yesB base A c L m _ w (OwnP.reads h) hbase hl ht (by omega) (by omega) (by omega)
end Go.Proofs.Ytmpmjgoipfgfoaa
