/- Sparse: the search of a key, sums, walked. -/
import Derived.Test.YtmpmjgoipfgfoaaRef13W0
import Derived.Test.YtmpmjgoipfgfoaaSpPlain
import Derived.Test.YtmpmjgoipfgfoaaCopySz
import Derived.Test.YtmpmjgoipfgfoaaRegion
import Derived.RegionTactic
import Derived.BigRegion
import Derived.Deep.QuietTactic
import Derived.BigQuiet
import Derived.Deep.LoopGhost
namespace Go.Proofs.Ytmpmjgoipfgfoaa
open Go.RowKit
open Pl
theorem cmp_t (p : Pr) (k d : Int) (w : World) (hd : p.1 - k = d) (h0 : -1048577 ≤ k) (h1 : k ≤ 1048577) (h2 : -1048576 ≤ p.1) (h3 : p.1 ≤ 1048576) :
    Calls Try.prog 56 #[.agg #[.int .i64 p.1, .int .u64 (p.2 : Nat)], .int .i64 k] w fun e w' => e = .returned (.int .i64 d) ∧ Below w.heap.size w w' := by
  obtain ⟨x, n⟩ := p
  dsimp only at *
  have HD := Lib.hid hd
  clear hd
  go_enter Try.func56, Try.ntmps56
  go_wp2_with fail
  go_ret
  exact ⟨by rw [← HD.out]; rfl, (Below.refl _ _).alloc (Nat.le_refl _) _⟩
set_option maxHeartbeats 1600000 in
theorem bs_t (A : Option Addr) (c : Nat) (L : List Pr) (k : Int) (w : World) (h : Prs w w.heap.size A L) (hs : Srt L) (hk : KeysIn L) (hl : L.length ≤ 100000000) (h0 : -1048577 ≤ k) (h1 : k ≤ 1048577) :
    Calls Try.prog 55 #[.slice A L.length c, .int .i64 k, .func (Fn.func 56) #[] #[]] w fun e w' => e = .returned (.tuple #[.int .i64 (lo L k : Nat), .bool (hasK L k)]) ∧ Below w.heap.size w w' := by
  have H := Lib.hid h
  have HS := Lib.hid hs
  have HK := Lib.hid hk
  have HLI : (L.length : Int) ≤ 100000000 := by omega
  obtain ⟨q, hq⟩ : ∃ q, q = lo L k := ⟨_, rfl⟩
  rw [← hq]
  have HLE := Lib.hid (lo_le L k)
  have HQ := Lib.hid hq
  clear h hs hk hl hq
  go_enter Try.func55, Try.ntmps55
  go_wp2_with fail
  go_loopw [9, 10] (fun u v wr => ∃ i j : Nat, u = .int .i64 (i : Int) ∧ v = .int .i64 (j : Int) ∧ i ≤ q ∧ q ≤ j ∧ j ≤ L.length ∧ Below w.heap.size w wr) (fun u v _ => (intOf v).toNat - (intOf u).toNat)
  case atStart => exact ⟨0, L.length, rfl, rfl, Nat.zero_le _, by rw [HQ.out]; exact HLE.out, Nat.le_refl _, Below.refl _ _⟩
  case round =>
    obtain ⟨i, j, rfl, rfl, hi, hj, hjl, hbel⟩ := hrel
    obtain ⟨wo, rfl⟩ : ∃ wo : World, wo = wr := ⟨_, rfl⟩
    by_cases hlt : i < j
    · obtain ⟨m, hm⟩ : ∃ m, m = (i + j) / 2 := ⟨_, rfl⟩
      have hm1 : i ≤ m := by omega
      have hm2 : m < j := by omega
      have hmi : ((i : Int) + (j : Int)) / 2 = (m : Int) := by omega
      have hij : (i : Int) < (j : Int) := by omega
      have hij2 : decide (i < j) = true := by simp; omega
      have hjj : (j : Int) ≤ 100000000 := by omega
      obtain ⟨p, hp⟩ : ∃ p, L[m]? = some p := ⟨_, List.getElem?_eq_getElem (by omega)⟩
      obtain ⟨b, o, rfl, hbb, hc⟩ := (H.out.below hbel).at_ (by omega)
      obtain ⟨c1, c2⟩ := hc m p hp
      have hkk := HK.out p (List.mem_of_getElem? hp)
      have hlo := lo_iff HS.out (k := k) hp
      rw [← HQ.out] at hlo
      have HLO := Lib.hid hlo
      clear hlo
      obtain ⟨d, hd⟩ : ∃ d, p.1 - k = d := ⟨_, rfl⟩
      have HC := Lib.hid (cmp_t p k d wo hd h0 h1 hkk.1 hkk.2)
      have hml : (m : Int) < (L.length : Int) := by omega
      have hm0 : (0 : Int) ≤ (m : Int) := by omega
      have HW := Lib.hid hbel
      have HI := Lib.hid (And.intro hi (And.intro hj (And.intro hjl (And.intro hm1 hm2))))
      by_cases hneg : d < 0
      · have HX := Lib.hid (HLO.out.1 (by omega))
        have HMI := Lib.hid hmi
        clear hc hp hkk hd hbel hi hj hjl hm hm1 hm2 HLO hbb
        obtain ⟨x, n⟩ := p
        dsimp only at c1 c2 HC
        go_wp2_with fail
        refine HC.out.mono ?_
        rintro e w1 ⟨rfl, hb1⟩
        have HB1 := Lib.hid hb1
        clear hb1
        go_wp2_with fail
        go_roundw
        case rel => exact ⟨m + 1, j, by go_num, rfl, HX.out, HI.out.2.1, HI.out.2.2.1, HW.out.trans (HB1.out.mono HW.out.size)⟩
        case measure => have := HI.out; simp [intOf]; omega
      · have HX := Lib.hid (show q ≤ m from by
          rcases Nat.lt_or_ge m q with h | h
          · have := HLO.out.2 h; omega
          · exact h)
        have HMI := Lib.hid hmi
        clear hc hp hkk hd hbel hi hj hjl hm hm1 hm2 HLO hbb
        obtain ⟨x, n⟩ := p
        dsimp only at c1 c2 HC
        go_wp2_with fail
        refine HC.out.mono ?_
        rintro e w1 ⟨rfl, hb1⟩
        have HB1 := Lib.hid hb1
        clear hb1
        go_wp2_with fail
        go_roundw
        case rel => exact ⟨i, m, rfl, by go_num, HI.out.1, HX.out, by have := HI.out; omega, HW.out.trans (HB1.out.mono HW.out.size)⟩
        case measure => have := HI.out; simp [intOf]; omega
    · obtain rfl : i = q := by omega
      have hij : ¬ (i : Int) < (j : Int) := by omega
      have hij2 : decide (i < j) = false := by simp; omega
      by_cases hend : i < L.length
      · obtain ⟨p, hp⟩ : ∃ p, L[i]? = some p := ⟨_, List.getElem?_eq_getElem hend⟩
        obtain ⟨b, o, rfl, hbb, hc⟩ := (H.out.below hbel).at_ (by omega)
        obtain ⟨c1, c2⟩ := hc _ p hp
        have hkk := HK.out p (List.mem_of_getElem? hp)
        obtain ⟨d, hd⟩ : ∃ d, p.1 - k = d := ⟨_, rfl⟩
        have HC := Lib.hid (cmp_t p k d wo hd h0 h1 hkk.1 hkk.2)
        have HW := Lib.hid hbel
        have hR : hasK L k = (d == 0) := by
          rw [hasK_of (by rw [← HQ.out]; exact hp), Bool.eq_iff_iff, decide_eq_true_iff, beq_iff_eq]
          omega
        have HR := Lib.hid hR
        have hml : (i : Int) < (L.length : Int) := by omega
        have hml2 : decide (i < L.length) = true := by simp; omega
        have hm0 : (0 : Int) ≤ (i : Int) := by omega
        clear hc hp hkk hd hbel hi hj hjl hbb hR hend hlt
        obtain ⟨x, n⟩ := p
        dsimp only at c1 c2 HC
        go_wp2_with fail
        refine HC.out.mono ?_
        rintro e w1 ⟨rfl, hb1⟩
        have HB1 := Lib.hid hb1
        clear hb1
        go_wp2_with fail
        go_ret2
        exact ⟨by rw [HR.out]; rfl, HW.out.trans (HB1.out.mono HW.out.size)⟩
      · have HR := Lib.hid (hasK_end (L := L) (k := k) (by rw [← HQ.out]; omega))
        have hml : ¬ (i : Int) < (L.length : Int) := by omega
        have hml2 : decide (i < L.length) = false := by simp; omega
        clear hi hj hjl hend hlt
        go_wp2_with fail
        go_ret2
        exact ⟨by rw [HR.out]; rfl, hbel⟩
/-- Block g is a list that has counted L. -/
def Lst (w : World) (g : Nat) (A : Option Addr) (c : Nat) (L : List Pr) : Prop := Blk w g 76 #[.slice A L.length c, .int .u64 (tot L : Nat)] ∧ OwnP w g A c L
theorem Lst.below {w w' : World} {g : Nat} {A : Option Addr} {c : Nat} {L : List Pr} (h : Lst w g A c L) (hb : Below w.heap.size w w') : Lst w' g A c L := ⟨h.1.below hb h.1.lt, Own.below h.2 hb⟩
/-- What a list's pairs are like. -/
structure Fine (L : List Pr) : Prop where
  srt : Srt L
  pos : Pos L
  keys : KeysIn L
  tot : tot L ≤ 4611686018427387904
  len : L.length ≤ 100000
theorem Fine.nil : Fine [] := ⟨Srt.nil, Pos.nil, (by intro p h; cases h), by decide, Nat.zero_le _⟩
theorem place_t (g : Nat) (A : Option Addr) (c : Nat) (L : List Pr) (k : Int) (w : World) (h : Lst w g A c L) (hf : Fine L) (h0 : -1048577 ≤ k) (h1 : k ≤ 1048577) :
    Calls Try.prog 49 #[.pointer (some ⟨g, 0, none⟩), .int .i64 k] w fun e w' => e = .returned (.tuple #[.int .i64 (lo L k : Nat), .bool (hasK L k)]) ∧ Below w.heap.size w w' := by
  have c0 : w.cell? ⟨g, 0, none⟩ = some (.slice A L.length c) := by rw [h.1.cell]; rfl
  have HB := Lib.hid (bs_t A c L k w (OwnP.reads h.2) hf.srt hf.keys (by have := hf.len; omega) h0 h1)
  clear h hf h0 h1
  go_enter Try.func49, Try.ntmps49
  go_wp2_with fail
  refine HB.out.mono ?_
  rintro e w1 ⟨rfl, hb1⟩
  have HB1 := Lib.hid hb1
  clear hb1
  go_wp2_with fail
  go_ret2
  exact ⟨rfl, HB1.out⟩
set_option maxHeartbeats 1600000 in
theorem sum_t (g : Nat) (A : Option Addr) (c : Nat) (L : List Pr) (k : Nat) (w : World) (h : Lst w g A c L) (hf : Fine L) (hk : k ≤ L.length) :
    Calls Try.prog 54 #[.pointer (some ⟨g, 0, none⟩), .int .i64 (k : Int)] w fun e w' => e = .returned (.int .u64 (tot (L.take k) : Nat)) ∧ Below w.heap.size w w' := by
  have c0 : w.cell? ⟨g, 0, none⟩ = some (.slice A L.length c) := by rw [h.1.cell]; rfl
  have HR := Lib.hid (OwnP.reads h.2)
  have hkc : k ≤ c := by
    rcases Nat.eq_zero_or_pos L.length with h0 | h0
    · omega
    · obtain ⟨_, _, _, _, h2, _⟩ := Own.form (show Own w g 38 2 A L.length c (pcs L) from h.2) h0
      omega
  have hkc2 : (k : Int) ≤ (c : Int) := by omega
  have hk0 : (0 : Int) ≤ (k : Int) := by omega
  have hkl : (k : Int) ≤ 100000 := by have := hf.len; omega
  have HT := Lib.hid hf.tot
  have HKL := Lib.hid hk
  clear h hf hkc hk
  go_enter Try.func54, Try.ntmps54
  go_wp2_with fail
  go_loopw [5, 15] (fun u v wr => ∃ i : Nat, u = .int .u64 (tot (L.take i) : Nat) ∧ v = .int .i64 (i : Int) ∧ i ≤ k ∧ Below w.heap.size w wr) (fun _ v _ => k - (intOf v).toNat)
  case atStart => exact ⟨0, rfl, rfl, Nat.zero_le _, Below.refl _ _⟩
  case round =>
    obtain ⟨i, rfl, rfl, hi, hbel⟩ := hrel
    obtain ⟨wo, rfl⟩ : ∃ wo : World, wo = wr := ⟨_, rfl⟩
    by_cases hlt : i < k
    · have hii : (i : Int) < (k : Int) := by omega
      have hi0 : (0 : Int) ≤ (i : Int) := by omega
      obtain ⟨p, hp⟩ : ∃ p, L[i]? = some p := ⟨_, List.getElem?_eq_getElem (by have := HKL.out; omega)⟩
      obtain ⟨b, o, rfl, hbb, hc⟩ := (HR.out.below hbel).at_ (by have := HKL.out; omega)
      obtain ⟨d1, d2⟩ := hc i p hp
      have htn := tot_take_next hp
      have htl := tot_take_le' L (i + 1)
      have ht62 := HT.out
      have HTN := Lib.hid htn
      have HI := Lib.hid hlt
      have HW := Lib.hid hbel
      obtain ⟨x, n⟩ := p
      dsimp only at d1 d2 htn HTN
      have hs62 : (tot (L.take i) : Int) + (n : Int) ≤ 4611686018427387904 := by omega
      generalize tot (L.take i) = m at *
      clear hc hp htn htl ht62 hbel hi hbb hlt
      go_wp2_with fail
      go_roundw
      case rel => exact ⟨i + 1, by rw [HTN.out]; go_num, by go_num, HI.out, newB HW.out _⟩
      case measure => have := HI.out; simp [intOf]; omega
    · obtain rfl : i = k := by omega
      clear hi hlt
      go_wp2_with fail
      go_ret
      exact ⟨rfl, hbel⟩
end Go.Proofs.Ytmpmjgoipfgfoaa
