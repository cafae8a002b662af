/- Sparse: the document's Below, Key, Cut walked. -/
import Derived.Test.YtmpmjgoipfgfoaaSpE
namespace Go.Proofs.Ytmpmjgoipfgfoaa
open Go.RowKit
open Pl
theorem below_snoc {L : List Pr} {i : Nat} {p : Pr} (h : L[i]? = some p) (K : Int) : below (L.take (i + 1)) K = below (L.take i) K + if p.1 < K then p.2 else 0 := by
  unfold below
  rw [List.take_add_one, h, List.filter_append, tot_append]
  congr 1
  by_cases hk : p.1 < K <;> simp [hk, tot]
theorem below_le (L : List Pr) (K : Int) : below L K ≤ tot L := by
  unfold below
  induction L with
  | nil => exact Nat.le_refl _
  | cons p L ih =>
    rw [List.filter_cons, tot_cons]
    split
    · rw [tot_cons]; omega
    · omega
theorem below_take_le (L : List Pr) (K : Int) (i : Nat) : below (L.take i) K ≤ tot L := Nat.le_trans (below_le _ _) (tot_take_le' L i)
set_option maxHeartbeats 3200000 in
theorem rbelow_t (A : Option Addr) (c : Nat) (L : List Pr) (k K : Int) (b : Bool) (w : World) (h : Prs w w.heap.size A L) (hl : L.length ≤ 1000000) (ht : tot L ≤ 4611686018427387904) (hK : K = if b then k + 1 else k) :
    Calls Try.prog 30 #[.slice A L.length c, .int .i64 k, .bool b] w fun e w' => e = .returned (.int .u64 (below L K : Nat)) ∧ w = w' := by
  have H := Lib.hid h
  have HT := Lib.hid ht
  have hll : (L.length : Int) ≤ 1000000 := by omega
  have HKK := Lib.hid hK
  clear h hl ht hK
  go_enter Try.func30, Try.ntmps30
  go_wp2_with fail
  go_loop [7, 8] (fun u v => ∃ i : Nat, u = .int .u64 (below (L.take i) K : Nat) ∧ v = .int .i64 (i : Int) ∧ i ≤ L.length) (fun _ v => L.length - (intOf v).toNat)
  case atStart => exact ⟨0, rfl, rfl, Nat.zero_le _⟩
  case round =>
    obtain ⟨i, rfl, rfl, hi⟩ := hrel
    by_cases hlt : i < L.length
    · have hii : (i : Int) < (L.length : Int) := by omega
      have hii2 : decide (i < L.length) = true := by simp; omega
      have hi0 : (0 : Int) ≤ (i : Int) := by omega
      obtain ⟨p, hp⟩ : ∃ p, L[i]? = some p := ⟨_, List.getElem?_eq_getElem hlt⟩
      obtain ⟨bb, o, rfl, hbb, hc⟩ := H.out.at_ (by omega)
      obtain ⟨d1, d2⟩ := hc i p hp
      have hbs := below_snoc hp K
      have hbl := below_take_le L K (i + 1)
      have hbl2 := below_take_le L K i
      have ht := HT.out
      have HI := Lib.hid hlt
      have hb62 : ((below (L.take i) K : Nat) : Int) ≤ 4611686018427387904 := by omega
      by_cases hkk : p.1 < K
      · rw [if_pos hkk] at hbs
        have hs62 : ((below (L.take i) K : Nat) : Int) + (p.2 : Int) ≤ 4611686018427387904 := by omega
        have HB := Lib.hid hbs
        have e1 : decide (p.1 < k) = true ∨ decide (p.1 < k) = false ∧ b = true ∧ (p.1 == k) = true := by
          have := HKK.out
          cases b with
          | true =>
            rw [if_pos rfl] at this
            by_cases h1 : p.1 < k
            · exact .inl (by simp; omega)
            · exact .inr ⟨by simp; omega, rfl, by simp; omega⟩
          | false =>
            rw [if_neg (by decide)] at this
            exact .inl (by simp; omega)
        obtain ⟨x, n⟩ := p
        dsimp only at d1 d2 hs62 HB e1
        generalize below (L.take i) K = m at *
        clear hc hp hbs hbl hbl2 ht hkk hi hbb hlt
        rcases e1 with e1 | ⟨e1, rfl, e2⟩
        all_goals
          go_wp2_with fail
          go_round
          case rel => exact ⟨i + 1, by rw [HB.out]; go_num, by go_num, HI.out⟩
          case measure => have := HI.out; simp [intOf]; omega
      · rw [if_neg hkk, Nat.add_zero] at hbs
        have HB := Lib.hid hbs
        have e1 : decide (p.1 < k) = false := by
          have := HKK.out
          cases b <;> simp at this <;> simp <;> omega
        have e2 : b = false ∨ b = true ∧ (p.1 == k) = false := by
          have := HKK.out
          cases b with
          | true => rw [if_pos rfl] at this; exact .inr ⟨rfl, by simp; omega⟩
          | false => exact .inl rfl
        obtain ⟨x, n⟩ := p
        dsimp only at d1 d2 HB e1 e2
        generalize below (L.take i) K = m at *
        clear hc hp hbs hbl hbl2 ht hkk hi hbb hlt
        rcases e2 with rfl | ⟨rfl, e2⟩
        all_goals
          go_wp2_with fail
          go_round
          case rel => exact ⟨i + 1, by rw [HB.out]; rfl, by go_num, HI.out⟩
          case measure => have := HI.out; simp [intOf]; omega
    · obtain rfl : i = L.length := by omega
      rw [List.take_length]
      clear hi hlt
      go_wp2_with fail
      go_ret
      exact ⟨rfl, rfl⟩
theorem below_at {L : List Pr} (hs : Srt L) {i : Nat} {p : Pr} (hp : L[i]? = some p) : below L (p.1 + 1) = tot (L.take (i + 1)) := by
  rw [below_take hs]
  congr 2
  rw [lo_succ hs]
  have h1 := lo_iff hs (k := p.1) hp
  have hlt : i < L.length := (List.getElem?_eq_some_iff.1 hp).1
  have hk : hasK L p.1 = true := (hasK_iff hs).2 ⟨p, List.mem_of_getElem? hp, rfl⟩
  rw [if_pos hk]
  have hge : lo L p.1 ≤ i := by
    rcases Nat.lt_or_ge i (lo L p.1) with h | h
    · have := h1.2 h; omega
    · exact h
  obtain ⟨m, hm, _⟩ := put_set hs (n := 0) hk
  rcases Nat.lt_or_ge (lo L p.1) i with h | h
  · have h4 := List.pairwise_iff_getElem.1 hs (lo L p.1) i (List.getElem?_eq_some_iff.1 hm).1 hlt h
    rw [(List.getElem?_eq_some_iff.1 hm).2, (List.getElem?_eq_some_iff.1 hp).2] at h4
    dsimp only at h4
    omega
  · omega
set_option maxHeartbeats 3200000 in
theorem rkey_t (A : Option Addr) (c : Nat) (L : List Pr) (r : Nat) (w : World) (h : Prs w w.heap.size A L) (hl : L.length ≤ 1000000) (ht : tot L ≤ 4611686018427387904) (hs : Srt L) (h1 : 1 ≤ r) (h2 : r ≤ tot L) :
    Calls Try.prog 13 #[.slice A L.length c, .int .u64 (r : Int)] w fun e w' => e = .returned (.int .i64 (rank L r)) ∧ w = w' := by
  have HB := Lib.hid (fun k => rbelow_t A c L k (k + 1) true w h hl ht rfl)
  have H := Lib.hid h
  have hll : (L.length : Int) ≤ 1000000 := by omega
  have HS := Lib.hid hs
  have HR := Lib.hid (And.intro h1 h2)
  obtain ⟨K, hK⟩ : ∃ K, K = rank L r := ⟨_, rfl⟩
  rw [← hK]
  have HK := Lib.hid hK
  clear h hl ht hs h1 h2 hK
  go_enter Try.func13, Try.ntmps13
  go_wp2_with fail
  go_loop [5] (fun v => ∃ i : Nat, v = .int .i64 (i : Int) ∧ i ≤ L.length ∧ tot (L.take i) < r) (fun v => L.length - (intOf v).toNat)
  case atStart => exact ⟨0, rfl, Nat.zero_le _, HR.out.1⟩
  case round =>
    obtain ⟨i, rfl, hi, hti⟩ := hrel
    by_cases hlt : i < L.length
    · have hii : (i : Int) < (L.length : Int) := by omega
      have hii2 : decide (i < L.length) = true := by simp; omega
      have hi0 : (0 : Int) ≤ (i : Int) := by omega
      obtain ⟨p, hp⟩ : ∃ p, L[i]? = some p := ⟨_, List.getElem?_eq_getElem hlt⟩
      obtain ⟨bb, o, rfl, hbb, hc⟩ := H.out.at_ (by omega)
      obtain ⟨d1, d2⟩ := hc i p hp
      have hba := below_at HS.out hp
      have htn := tot_take_next hp
      have HBP := Lib.hid (HB.out p.1)
      rw [hba] at HBP
      have HI := Lib.hid hlt
      by_cases hge : r ≤ tot (L.take (i + 1))
      · have HX := Lib.hid (HK.out.trans (rank_at hp hti (by omega)))
        have e1 : decide ((r : Int) ≤ ((tot (L.take (i + 1)) : Nat) : Int)) = true := by simp; omega
        have e2 : decide (r ≤ tot (L.take (i + 1))) = true := by simp; omega
        obtain ⟨x, n⟩ := p
        dsimp only at d1 d2 HBP HX
        generalize tot (L.take (i + 1)) = m at *
        clear hc hp hba htn hge hi hti hbb hlt
        go_wp2_with fail
        refine HBP.out.mono ?_
        rintro e w1 ⟨rfl, rfl⟩
        go_wp2_with fail
        go_ret
        exact ⟨by rw [HX.out]; rfl, rfl⟩
      · have HX := Lib.hid (show tot (L.take (i + 1)) < r by omega)
        have e1 : decide ((r : Int) ≤ ((tot (L.take (i + 1)) : Nat) : Int)) = false := by simp; omega
        have e2 : decide (r ≤ tot (L.take (i + 1))) = false := by simp; omega
        obtain ⟨x, n⟩ := p
        dsimp only at d1 d2 HBP
        clear hc hp hba htn hge hi hti hbb hlt
        obtain ⟨m, hm⟩ : ∃ m, m = tot (L.take (i + 1)) := ⟨_, rfl⟩
        rw [← hm] at e1 e2 HBP HX
        have HM := Lib.hid hm
        clear hm
        go_wp2_with fail
        refine HBP.out.mono ?_
        rintro e w1 ⟨rfl, rfl⟩
        go_wp2_with fail
        go_round
        case rel => exact ⟨i + 1, by go_num, HI.out, by rw [← HM.out]; exact HX.out⟩
        case measure => have := HI.out; simp [intOf]; omega
    · exfalso
      obtain rfl : i = L.length := by omega
      rw [List.take_length] at hti
      have := HR.out
      omega
end Go.Proofs.Ytmpmjgoipfgfoaa
