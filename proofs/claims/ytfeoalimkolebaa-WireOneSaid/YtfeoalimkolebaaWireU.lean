/- Wire: WireCut and WireOne walked. -/
import Derived.Test.YtfeoalimkolebaaWireT
namespace Go.Proofs.Ytfeoalimkolebaa
open Go.RowKit
open Wi
set_option maxHeartbeats 1600000 in
theorem cut_no (w : World) (a : ByteArray) (A : Option Addr) (c n : Nat) (k : Int) (h : 200 < a.size ∨ 200 < n) :
    Calls Try.prog 6 #[.string a, .slice A n c, .int .i64 k] w fun e w' => e = .returned (.bool true) ∧ Below w.heap.size w w' := by
  have hdd : (decide ((200 : Int) < (a.size : Int)) = true) ∨ (decide ((200 : Int) < (a.size : Int)) = false ∧ decide ((200 : Int) < (n : Int)) = true) := by
    by_cases h1 : 200 < a.size
    · exact .inl (by simp; omega)
    · exact .inr ⟨by simp; omega, by simp; omega⟩
  clear h
  rcases hdd with hd | ⟨hd, hd2⟩
  all_goals
    go_enter Try.func6, Try.ntmps6
    go_wp2_with fail
    refine (alive_t _).mono ?_
    rintro e w1 ⟨rfl, hb1⟩
    go_wp2_with fail
    go_ret
    exact ⟨rfl, hb1⟩
set_option maxHeartbeats 3200000 in
set_option maxRecDepth 100000 in
theorem wireCut_walk (w : World) (a : ByteArray) (_h0 : a.size ≤ maxLen) (A : Option Addr) (c : Nat) (l : List Int) (_hl : l.length ≤ maxLen) (_hc : l.length ≤ c) (z : ∀ n ∈ l, (Lit.int .u64 n).wf = true) (s : Reads w w.heap.size 1 A l.length (l.map (intv .u64)))
    (cut : Int) (_hc0 : -9223372036854775808 ≤ cut) (_hc1 : cut ≤ 9223372036854775807) :
    Calls Try.prog 6 #[.string a, .slice A l.length c, .int .i64 cut] w fun e w' => e = .returned (.bool true) ∧ Below w.heap.size w w' := by
  by_cases h : 200 < a.size ∨ 200 < l.length
  · exact cut_no w a A c l.length cut h
  · obtain ⟨ns, hlen, hu, hn⟩ := u64_arg z s
    rw [← hlen] at h ⊢
    have hd1 : decide ((200 : Int) < (a.size : Int)) = false := by simp; omega
    have hd2 : decide ((200 : Int) < (ns.length : Int)) = false := by simp; omega
    have hns : ns.length ≤ 200 := by omega
    have HU := Lib.hid hu
    have HP := Lib.hid (fun W hb => put_t a A c ns W hb (by omega) hn)
    have HFI := Lib.hid (fun rb => put_fine (pt := a.data.toList) (ns := ns) (rb := rb) hn)
    have HLE := Lib.hid (fun rb => put_lenW (pt := a.data.toList) (ns := ns) (rb := rb) hn)
    clear h hlen z s hu hn _h0 _hl _hc
    generalize putW a.data.toList ns = r at *
    obtain ⟨re, rb⟩ := r
    go_enter Try.func6, Try.ntmps6
    go_wp2_with fail
    refine (alive_t _).mono ?_
    rintro e w1 ⟨rfl, hb1⟩
    have HB1 := Lib.hid hb1
    clear hb1
    go_wp2_with fail
    refine (HP.out _ (HU.out.at_below HB1.out)).mono ?_
    rintro e w2 ⟨A2, c2, rfl, h2, hb2⟩
    have HB2 := Lib.hid (nextB HB1.out hb2)
    have HO2 := Lib.hid h2
    clear h2 hb2
    dsimp only at HO2
    dsimp only
    by_cases hre : re = 0
    · subst hre
      by_cases hk : 0 ≤ cut ∧ cut < (rb.length : Int)
      · obtain ⟨k, rfl⟩ : ∃ k : Nat, cut = (k : Int) := ⟨cut.toNat, by omega⟩
        have hkl : k < rb.length := by omega
        have hrb := HLE.out rb rfl
        obtain ⟨g, hA2, _, _, hcc, _, _⟩ := Own.form (show Own w2 w1.heap.size 5 1 A2 rb.length c2 (bvs rb) from HO2.out) (by omega)
        subst hA2
        have hR : Bts w2 w2.heap.size (some ⟨g, 0, none⟩) (rb.take k) := by
          have := Reads.take (k := k) (OwnB.reads HO2.out) (by omega)
          unfold Bts
          rw [List.length_take, Nat.min_eq_left (by omega), bvs_take]
          simpa using this
        have hlk : (rb.take k).length = k := by rw [List.length_take]; omega
        have HG := Lib.hid (get_tn a (some ⟨g, 0, none⟩) c2 k (rb.take k) w2 hlk hR (by omega) ((HFI.out rb rfl).2.2.2 k hkl))
        have e1 : decide ((k : Int) < 0) = false := by simp
        have e2 : decide ((rb.length : Int) ≤ (k : Int)) = false := by simp; omega
        have e2b : decide (rb.length ≤ k) = false := by simp; omega
        have e3 : (k : Int) ≤ (c2 : Int) := by omega
        have e4 : (0 : Int) ≤ (k : Int) := by omega
        clear hk hkl hrb hcc hR hlk
        go_wp2_with fail
        refine HG.out.mono ?_
        rintro e w3 ⟨A3, c3, rfl, h3, hb3⟩
        have HB3 := Lib.hid (nextB HB2.out hb3)
        clear h3 hb3
        go_wp2_with fail
        go_ret
        exact ⟨rfl, HB3.out⟩
      · have e0 : (decide (cut < 0) = true) ∨ (decide (cut < 0) = false ∧ decide ((rb.length : Int) ≤ cut) = true) := by
          by_cases h1 : cut < 0
          · exact .inl (by simp; omega)
          · exact .inr ⟨by simp; omega, by simp; omega⟩
        clear hk
        rcases e0 with e1 | ⟨e1, e2⟩
        all_goals
          go_wp2_with fail
          go_ret
          exact ⟨rfl, HB2.out⟩
    · have e1 : ((re : Int) != 0) = true := by simp; omega
      have e2 : ((re : Int) == 0) = false := by simp; omega
      clear hre
      go_wp2_with fail
      go_ret
      exact ⟨rfl, HB2.out⟩
theorem get_err {pt l : List UInt8} {re : Nat} {L : List Nat} {k : Nat} (h : getW pt l = (re, L, k)) (hre : re ≠ 0) : L = [] ∧ k = 0 := by
  have hL : ∀ (pt l : List UInt8) (acc : List Nat) (p : Nat), goL pt l acc p = (re, L, k) → L = [] ∧ k = 0 := by
    intro pt
    induction pt with
    | nil => intro l acc p h; injection h with h _; exact absurd h.symm hre
    | cons x pt ih =>
      intro l acc p h
      rw [goL] at h
      split at h
      · exact ih _ _ _ h
      · injection h with _ h
        injection h with h1 h2
        exact ⟨h1.symm, h2.symm⟩
  unfold getW at h
  split at h
  · exact hL _ _ _ _ h
  · injection h with _ h
    injection h with h1 h2
    exact ⟨h1.symm, h2.symm⟩
theorem get_fine {pt l : List UInt8} {L : List Nat} {k : Nat} (h : getW pt l = (0, L, k)) : k ≤ l.length ∧ L.length ≤ 64 ∧ (∀ n ∈ L, n < 18446744073709551616) ∧ putW pt L = (0, l.take k) := by
  unfold getW at h
  split at h
  · rename_i hR
    have hR2 := hR
    unfold rightB at hR2
    rw [Bool.and_eq_true, decide_eq_true_iff] at hR2
    obtain ⟨ns, j, h1, h2, h3, h4, h5, h6⟩ := get_ok pt l [] L 0 k hR2.2 h
    rw [List.nil_append] at h1
    rw [Nat.zero_add] at h2
    subst h1
    subst h2
    refine ⟨h3, by omega, h5, ?_⟩
    unfold putW
    rw [if_pos ⟨hR, h4.symm⟩, h6]
    rfl
  · injection h with h _
    cases h
theorem put_tn (a : ByteArray) (A0 : Option Addr) (c0 : Nat) (l : List Nat) (w : World) (hb : Us w w.heap.size A0 l) (hl : l.length ≤ 100000000) (hn : ∀ n ∈ l, n < 18446744073709551616) {r : Nat × List UInt8} (hr : putW a.data.toList l = r) :
    Calls Try.prog 9 #[.string a, .slice A0 l.length c0] w (PutPost w r) := by
  subst hr
  exact put_t a A0 c0 l w hb hl hn
set_option maxHeartbeats 1600000 in
theorem one_no (w : World) (a : ByteArray) (A : Option Addr) (c n : Nat) (h : 200 < a.size ∨ 5000 < n) :
    Calls Try.prog 5 #[.string a, .slice A n c] w fun e w' => e = .returned (.bool true) ∧ Below w.heap.size w w' := by
  have hdd : (decide ((200 : Int) < (a.size : Int)) = true) ∨ (decide ((200 : Int) < (a.size : Int)) = false ∧ decide ((5000 : Int) < (n : Int)) = true) := by
    by_cases h1 : 200 < a.size
    · exact .inl (by simp; omega)
    · exact .inr ⟨by simp; omega, by simp; omega⟩
  clear h
  rcases hdd with hd | ⟨hd, hd2⟩
  all_goals
    go_enter Try.func5, Try.ntmps5
    go_wp2_with fail
    refine (alive_t _).mono ?_
    rintro e w1 ⟨rfl, hb1⟩
    go_wp2_with fail
    go_ret
    exact ⟨rfl, hb1⟩
set_option maxHeartbeats 3200000 in
set_option maxRecDepth 100000 in
theorem wireOne_walk (w : World) (a : ByteArray) (_h0 : a.size ≤ maxLen) (A : Option Addr) (c : Nat) (l : List UInt8) (_hl : l.length ≤ maxLen) (hc : l.length ≤ c) (s : Bts w w.heap.size A l) :
    Calls Try.prog 5 #[.string a, .slice A l.length c] w fun e w' => e = .returned (.bool true) ∧ Below w.heap.size w w' := by
  by_cases h : 200 < a.size ∨ 5000 < l.length
  · exact one_no w a A c l.length h
  · have hd1 : decide ((200 : Int) < (a.size : Int)) = false := by simp; omega
    have hd2 : decide ((5000 : Int) < (l.length : Int)) = false := by simp; omega
    have HS := Lib.hid s
    have HG := Lib.hid (fun W hb => get_t a A c l W hb (by omega))
    have HER := Lib.hid (fun re L k => get_err (pt := a.data.toList) (l := l) (re := re) (L := L) (k := k))
    have HFI := Lib.hid (fun L k => get_fine (pt := a.data.toList) (l := l) (L := L) (k := k))
    have HC := Lib.hid hc
    clear h s _h0 _hl hc
    generalize getW a.data.toList l = r at *
    obtain ⟨re, L, k⟩ := r
    go_enter Try.func5, Try.ntmps5
    go_wp2_with fail
    refine (alive_t _).mono ?_
    rintro e w1 ⟨rfl, hb1⟩
    have HB1 := Lib.hid hb1
    clear hb1
    go_wp2_with fail
    refine (HG.out _ (HS.out.at_below HB1.out)).mono ?_
    rintro e w2 ⟨A2, c2, rfl, h2, hb2⟩
    have HB2 := Lib.hid (nextB HB1.out hb2)
    have HU2 := Lib.hid h2
    clear h2 hb2
    dsimp only at HU2
    dsimp only
    by_cases hre : re = 0
    · subst hre
      obtain ⟨f1, f2, f3, f4⟩ := HFI.out L k rfl
      have HP := Lib.hid (put_tn a A2 c2 L w2 (Own.reads HU2.out) (by omega) f3 f4)
      have hlk : (l.take k).length = k := by rw [List.length_take]; omega
      have hcc : k ≤ c := by have := HC.out; omega
      have e1 : decide ((k : Int) ≤ (l.length : Int)) = true := by simp; omega
      have e1b : decide (k ≤ l.length) = true := by simp; omega
      have e3 : (k : Int) ≤ (c : Int) := by omega
      have e4 : (0 : Int) ≤ (k : Int) := by omega
      have hT : Reads w w.heap.size 1 A k (bvs (l.take k)) := by
        have := Reads.take (k := k) (show Reads w w.heap.size 1 A l.length (bvs l) from HS.out) f1
        rw [bvs_take]
        simpa using this
      have HT := Lib.hid hT
      have HLK := Lib.hid hlk
      clear f1 f2 f3 f4 hT hlk hcc
      generalize l.take k = T at *
      go_wp2_with fail
      refine HP.out.mono ?_
      rintro e w3 ⟨A3, c3, rfl, h3, hb3⟩
      have HB3 := Lib.hid (nextB HB2.out hb3)
      have hw : Below w.heap.size w w3 := HB3.out
      dsimp only at h3
      dsimp only
      rw [HLK.out]
      have hs1 : ∀ n, (convert 24 9 (.slice A3 k c3)).run Try.prog (w3.drewN n) = .ok (.string (str T)) (w3.drewN n) := fun n => run_str Try.underlying24 Try.underlying5 Try.underlying9 (by have := OwnB.reads h3; unfold Bts at this; rw [HLK.out] at this; exact this)
      have hs2 : ∀ n, (convert 24 9 (.slice A k c)).run Try.prog (w3.drewN n) = .ok (.string (str T)) (w3.drewN n) := fun n => run_str Try.underlying24 Try.underlying5 Try.underlying9 (HT.out.below (below_drewN hw n))
      clear h3 hb3 hw
      go_wp2_with fail
      go_quiet (fail)
      go_wp2_with fail
      go_ret
      exact ⟨rfl, below_drewN HB3.out nq⟩
    · have e1 : ((re : Int) != 0) = true := by simp; omega
      have e2 : ((re : Int) == 0) = false := by simp; omega
      obtain ⟨hL, hk⟩ := HER.out re L k rfl hre
      subst hL
      subst hk
      clear hre
      go_wp2_with fail
      go_ret
      exact ⟨rfl, HB2.out⟩
end Go.Proofs.Ytfeoalimkolebaa
