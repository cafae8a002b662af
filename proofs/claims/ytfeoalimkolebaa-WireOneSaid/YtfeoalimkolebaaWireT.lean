/- Wire: the reference's Same walked; WireBack and WireCut walked. -/
import Derived.Test.YtfeoalimkolebaaWireEnc
namespace Go.Proofs.Ytfeoalimkolebaa
open Go.RowKit
open Wi
set_option maxHeartbeats 1600000 in
theorem same_t (A B : Option Addr) (c d : Nat) (l : List Nat) (w : World) (hA : Us w w.heap.size A l) (hB : Us w w.heap.size B l) (hl : l.length ≤ 1000000) :
    Calls Try.prog 12 #[.slice A l.length c, .slice B l.length d] w fun e w' => e = .returned (.bool true) ∧ ∃ q, w' = w.drewN q := by
  have HA := Lib.hid hA
  have HB := Lib.hid hB
  have hl2 : (l.length : Int) ≤ 1000000 := by omega
  clear hA hB hl
  go_enter Try.func12, Try.ntmps12
  go_wp2_with fail
  go_loopw [5] (fun v wr => ∃ (i q : Nat), v = .int .i64 (i : Int) ∧ i ≤ l.length ∧ wr = w.drewN q) (fun v _ => l.length - (intOf v).toNat)
  case atStart => exact ⟨0, 0, rfl, Nat.zero_le _, rfl⟩
  case round =>
    obtain ⟨i, q, rfl, hi, rfl⟩ := hrel
    by_cases hlt : i < l.length
    · obtain ⟨n, hn⟩ : ∃ n, l[i]? = some n := ⟨_, List.getElem?_eq_getElem hlt⟩
      obtain ⟨b1, o1, rfl, _, h1⟩ := HA.out.at_ (by omega)
      obtain ⟨b2, o2, rfl, _, h2⟩ := HB.out.at_ (by omega)
      have d1 : (w.drewN q).cell? ⟨b1, o1 + i, none⟩ = some (.int .u64 (n : Int)) := h1 i n hn
      have d2 : (w.drewN q).cell? ⟨b2, o2 + i, none⟩ = some (.int .u64 (n : Int)) := h2 i n hn
      have hii : (i : Int) < (l.length : Int) := by omega
      have hii2 : decide (i < l.length) = true := by simp; omega
      have hi0 : (0 : Int) ≤ (i : Int) := by omega
      have HI := Lib.hid hlt
      obtain ⟨wo, hwo⟩ : ∃ wo : World, wo = w.drewN q := ⟨_, rfl⟩
      rw [← hwo] at d1 d2 ⊢
      have HWO := Lib.hid hwo
      clear h1 h2 hn hlt hi hwo
      go_wp2_with fail
      go_quiet (fail)
      go_wp2_with fail
      go_roundw
      case rel => exact ⟨i + 1, q + _, by go_num, HI.out, by rw [HWO.out, World.drewN_drewN]⟩
      case measure => have := HI.out; simp [intOf]; omega
    · have hge : ¬ (i : Int) < (l.length : Int) := by omega
      have hge2 : decide (i < l.length) = false := by simp; omega
      clear hi hlt
      go_wp2_with fail
      go_ret
      exact ⟨rfl, q, rfl⟩
theorem put_err {pt : List UInt8} {ns : List Nat} {re : Nat} {rb : List UInt8} (h : putW pt ns = (re, rb)) (hre : re ≠ 0) : rb = [] := by
  have hL : ∀ (pt : List UInt8) (ns : List Nat) (S : List UInt8), putL pt ns S = (re, rb) → rb = [] := by
    intro pt
    induction pt with
    | nil => intro ns S h; rw [putL] at h; injection h with h _; exact absurd h.symm hre; intro _ _ _ _ h; cases h
    | cons x pt ih =>
      intro ns S h
      cases ns with
      | nil => rw [putL] at h; injection h with h _; exact absurd h.symm hre; intro _ _ _ _ _ h; cases h
      | cons n ns =>
        rw [putL] at h
        split at h
        · split at h
          · exact ih _ _ h
          · injection h with _ h; exact h.symm
        · injection h with _ h; exact h.symm
  unfold putW at h
  split at h
  · exact hL _ _ _ h
  · injection h with _ h; exact h.symm
theorem put_len : ∀ (pt : List UInt8) (ns : List Nat) (S T : List UInt8), (∀ n ∈ ns, n < 18446744073709551616) → putL pt ns S = (0, T) → T.length ≤ S.length + 10 * ns.length
  | [], ns, S, T, _, h => by
    rw [putL] at h
    · injection h with _ h
      rw [h]
      omega
    · intro _ _ _ _ h; cases h
  | x :: pt, [], S, T, _, h => by
    rw [putL] at h
    · injection h with _ h
      rw [h]
      omega
    · intro _ _ _ _ _ h; cases h
  | x :: pt, n :: ns, S, T, hn, h => by
    rw [putL] at h
    split at h
    · rename_i f hf
      split at h
      · have h1 := put_len pt ns _ T (fun m hm => hn m (by simp [hm])) h
        have h2 := enc_len hf (hn n (by simp))
        rw [List.length_append] at h1
        rw [List.length_cons]
        omega
      · injection h with h _
        cases h
    · injection h with h _
      cases h
theorem put_lenW {pt : List UInt8} {ns : List Nat} {rb : List UInt8} (hn : ∀ n ∈ ns, n < 18446744073709551616) (h : putW pt ns = (0, rb)) : rb.length ≤ 10 * ns.length := by
  unfold putW at h
  split at h
  · have := put_len pt ns [] rb hn h
    simpa using this
  · injection h with h _
    cases h
theorem put_fine {pt : List UInt8} {ns : List Nat} {rb : List UInt8} (hn : ∀ n ∈ ns, n < 18446744073709551616) (h : putW pt ns = (0, rb)) :
    pt.length ≤ 64 ∧ ns.length = pt.length ∧ (∀ rest, getW pt (rb ++ rest) = (0, ns, rb.length)) ∧ ∀ cut, cut < rb.length → getW pt (rb.take cut) = (20, [], 0) := by
  unfold putW at h
  split at h
  · rename_i hR
    obtain ⟨hR, hlen⟩ := hR
    have hR2 := hR
    unfold rightB at hR2
    rw [Bool.and_eq_true, decide_eq_true_iff] at hR2
    obtain ⟨B, rfl, h2, h3⟩ := put_ok pt ns [] rb hR2.2 hlen hn h
    refine ⟨hR2.1, hlen.symm, fun rest => ?_, fun cut hc => ?_⟩
    · rw [getW, if_pos hR, h2]
      simp
    · rw [getW, if_pos hR]
      exact h3 _ _ _ (by simpa using hc)
  · injection h with h _
    cases h
theorem get_tn (a : ByteArray) (A0 : Option Addr) (c0 n : Nat) (l : List UInt8) (w : World) (hn : l.length = n) (hb : Bts w w.heap.size A0 l) (hl : l.length ≤ 100000000) {r : Nat × List Nat × Nat} (hr : getW a.data.toList l = r) :
    Calls Try.prog 11 #[.string a, .slice A0 n c0] w (GetPost w r) := by
  subst hn
  subst hr
  exact get_t a A0 c0 l w hb hl
set_option maxHeartbeats 1600000 in
theorem back_no (w : World) (a : ByteArray) (A : Option Addr) (c n : Nat) (B : Option Addr) (d m : Nat) (h : 200 < a.size ∨ 200 < n ∨ 2000 < m) :
    Calls Try.prog 4 #[.string a, .slice A n c, .slice B m d] w fun e w' => e = .returned (.bool true) ∧ Below w.heap.size w w' := by
  have hdd : (decide ((200 : Int) < (a.size : Int)) = true) ∨ (decide ((200 : Int) < (a.size : Int)) = false ∧ decide ((200 : Int) < (n : Int)) = true) ∨ (decide ((200 : Int) < (a.size : Int)) = false ∧ decide ((200 : Int) < (n : Int)) = false ∧ decide ((2000 : Int) < (m : Int)) = true) := by
    by_cases h1 : 200 < a.size
    · exact .inl (by simp; omega)
    · by_cases h2 : 200 < n
      · exact .inr (.inl ⟨by simp; omega, by simp; omega⟩)
      · exact .inr (.inr ⟨by simp; omega, by simp; omega, by simp; omega⟩)
  clear h
  rcases hdd with hd | ⟨hd, hd2⟩ | ⟨hd, hd2, hd3⟩
  all_goals
    go_enter Try.func4, Try.ntmps4
    go_wp2_with fail
    refine (alive_t _).mono ?_
    rintro e w1 ⟨rfl, hb1⟩
    go_wp2_with fail
    go_ret
    exact ⟨rfl, hb1⟩
set_option maxHeartbeats 3200000 in
set_option maxRecDepth 100000 in
theorem wireBack_walk (w : World) (a : ByteArray) (_h0 : a.size ≤ maxLen) (A : Option Addr) (c : Nat) (l : List Int) (_hl : l.length ≤ maxLen) (_hc : l.length ≤ c) (z : ∀ n ∈ l, (Lit.int .u64 n).wf = true) (s : Reads w w.heap.size 1 A l.length (l.map (intv .u64)))
    (B : Option Addr) (d : Nat) (l2 : List UInt8) (_hl2 : l2.length ≤ maxLen) (_hd : l2.length ≤ d) (s2 : Bts w w.heap.size B l2) :
    Calls Try.prog 4 #[.string a, .slice A l.length c, .slice B l2.length d] w fun e w' => e = .returned (.bool true) ∧ Below w.heap.size w w' := by
  by_cases h : 200 < a.size ∨ 200 < l.length ∨ 2000 < l2.length
  · exact back_no w a A c l.length B d l2.length h
  · obtain ⟨ns, hlen, hu, hn⟩ := u64_arg z s
    rw [← hlen] at h ⊢
    have hd1 : decide ((200 : Int) < (a.size : Int)) = false := by simp; omega
    have hd2 : decide ((200 : Int) < (ns.length : Int)) = false := by simp; omega
    have hd3 : decide ((2000 : Int) < (l2.length : Int)) = false := by simp; omega
    have hl2 : l2.length ≤ 2000 := by omega
    have hns : ns.length ≤ 200 := by omega
    have HU := Lib.hid hu
    have HS2 := Lib.hid s2
    have HP := Lib.hid (fun W hb => put_t a A c ns W hb (by omega) hn)
    have HER := Lib.hid (fun re rb => put_err (pt := a.data.toList) (ns := ns) (re := re) (rb := rb))
    have HFI := Lib.hid (fun rb => put_fine (pt := a.data.toList) (ns := ns) (rb := rb) hn)
    have HLE := Lib.hid (fun rb => put_lenW (pt := a.data.toList) (ns := ns) (rb := rb) hn)
    have HNS := Lib.hid hns
    have HL2 := Lib.hid hl2
    clear h hlen z s s2 hu hn _h0 _hl _hc _hl2 _hd
    generalize putW a.data.toList ns = r at *
    obtain ⟨re, rb⟩ := r
    go_enter Try.func4, Try.ntmps4
    go_wp2_with fail
    refine (alive_t _).mono ?_
    rintro e w1 ⟨rfl, hb1⟩
    have HB1 := Lib.hid hb1
    clear hb1
    go_wp2_with fail
    refine (HP.out _ (HU.out.at_below HB1.out)).mono ?_
    rintro e w2 ⟨A2, c2, rfl, h2, hb2⟩
    have HB2 := Lib.hid (nextB HB1.out hb2)
    have HO2 := Lib.hid h2
    clear h2 hb2
    dsimp only
    by_cases hre : re = 0
    · subst hre
      obtain ⟨f1, f2, f3, _⟩ := HFI.out rb rfl
      have HG := Lib.hid (f3 l2)
      have hrb := HLE.out rb rfl
      have hrbl : rb.length ≤ 2000 := by omega
      have hkl : rb.length + l2.length ≤ 4000 := by omega
      obtain ⟨k, hk⟩ : ∃ k, k = rb.length + l2.length := ⟨_, rfl⟩
      have hk4 : k ≤ 4000 := by omega
      have HK := Lib.hid hk
      clear f1 f2 f3 hrb hk
      go_wp2_with (at_builtin; refine Hid.out ?_)
      have hO1 : Own (w2.alloc (.cells #[] 5)) w.heap.size 5 1 (some ⟨w2.heap.size, 0, none⟩) 0 0 [] := Own.made w2 _ _ _ #[] 0 HB2.out.size (Nat.zero_le _) rfl
      have hR1 : Bts (w2.alloc (.cells #[] 5)) (w2.alloc (.cells #[] 5)).heap.size A2 rb := (OwnB.reads HO2.out).at_below ((Below.refl _ _).alloc (Nat.le_refl _) _)
      refine wpList_app (xs := []) rfl rfl elem_u8 rfl hO1 rfl hR1 (bvs_one _) rb.length (Nat.zero_add _) (bvs rb) rfl (by unfold maxLen; omega) (by omega) (newB HB2.out _).size ?_
      intro A3 c3 w3 o3 g3 q3
      have HB3 := Lib.hid (appB (newB HB2.out _) hO1 g3 (Nat.le_refl _) (newB HB2.out _).size)
      have HO3 : Hid (OwnB w3 w.heap.size A3 c3 rb) := Lib.hid o3
      clear hO1 hR1 o3 g3 q3
      go_wp2_with (at_builtin; refine Hid.out ?_)
      have hR2 : Bts w3 w3.heap.size B l2 := HS2.out.at_below HB3.out
      refine wpList_app (xs := bvs rb) rfl rfl elem_u8 rfl HO3.out rfl hR2 (bvs_one _) k HK.out.symm (bvs (rb ++ l2)) (bvs_append _ _).symm (by unfold maxLen; omega) (by omega) HB3.out.size ?_
      intro A4 c4 w4 o4 g4 q4
      have HB4 := Lib.hid (appB HB3.out HO3.out g4 (Nat.le_refl _) HB3.out.size)
      have hR4 : Bts w4 w4.heap.size A4 (rb ++ l2) := by
        have := Own.reads o4
        rw [HK.out, ← List.length_append] at this
        exact this
      have HG2 := Lib.hid (get_tn a A4 c4 k (rb ++ l2) w4 (by rw [List.length_append, HK.out]) hR4 (by rw [List.length_append]; omega) HG.out)
      clear hR2 hR4 o4 g4 q4
      go_wp2_with fail
      refine HG2.out.mono ?_
      rintro e w5 ⟨A5, c5, rfl, h5, hb5⟩
      have HB5 := Lib.hid (nextB HB4.out hb5)
      have HU5 := Lib.hid h5
      clear h5 hb5
      dsimp only at HU5
      dsimp only
      go_wp2_with fail
      refine (same_t A A5 c c5 ns w5 (Reads.at_below HU.out HB5.out) (Own.reads HU5.out) (by have := HNS.out; omega)).mono ?_
      rintro e w6 ⟨rfl, q, rfl⟩
      go_wp2_with fail
      go_ret
      exact ⟨rfl, below_drewN HB5.out q⟩
    · have e1 : ((re : Int) != 0) = true := by simp; omega
      have e2 : ((re : Int) == 0) = false := by simp; omega
      have hrb := HER.out re rb rfl hre
      subst hrb
      clear hre
      go_wp2_with fail
      go_ret
      exact ⟨rfl, HB2.out⟩
end Go.Proofs.Ytfeoalimkolebaa
