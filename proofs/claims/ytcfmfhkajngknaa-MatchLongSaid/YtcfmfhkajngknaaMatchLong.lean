/- MatchLong walked: of a text that repeats itself the tokens behind the first period are as long as they may be. -/
import Derived.Test.YtcfmfhkajngknaaMatchL
import Derived.Test.YtcfmfhkajngknaaMatchFarP
namespace Go.Proofs.Ytcfmfhkajngknaa
open Go.RowKit
open Mt
/-- A text again and again. -/
def rep (b : List UInt8) (k : Nat) : List UInt8 := (List.range k).map fun i => b.getD (i % b.length) 0
theorem rep_length (b : List UInt8) (k : Nat) : (rep b k).length = k := by simp [rep]
theorem rep_succ (b : List UInt8) (k : Nat) : rep b (k + 1) = rep b k ++ [b.getD (k % b.length) 0] := by simp [rep, List.range_succ]
theorem rep_per (b : List UInt8) (k i : Nat) (h : i + b.length < (rep b k).length) : (rep b k)[i + b.length]? = (rep b k)[i]? := by
  rw [rep_length] at h
  simp only [rep, List.getElem?_map]
  rw [List.getElem?_range h, List.getElem?_range (by omega)]
  simp
theorem drop_toks {L : List Tk} {S : List UInt8} {i k : Nat} (h : L.drop i = toks S k) (hi : i < L.length) : k < S.length ∧ L[i]? = some (mk S k) ∧ L.drop (i + 1) = toks S (k + max 1 (Mt.tok S k).1) := by
  have hk : k < S.length := by
    rcases Nat.lt_or_ge k S.length with h1 | h1
    · exact h1
    · rw [toks_end h1] at h
      have := List.drop_eq_nil_iff.1 h
      omega
  rw [toks_step hk, List.drop_eq_getElem_cons hi] at h
  injection h with h1 h2
  exact ⟨hk, by rw [List.getElem?_eq_getElem hi, h1], h2⟩
theorem drop_toks_end {L : List Tk} {S : List UInt8} {k : Nat} (h : L.drop L.length = toks S k) : S.length ≤ k := by
  rcases Nat.lt_or_ge k S.length with h1 | h1
  · rw [toks_step h1, List.drop_length] at h
    cases h
  · exact h1
theorem long_no (w : World) (A : Option Addr) (c : Nat) (l : List UInt8) (a : Int) (h : l.length = 0 ∨ 300 < l.length) :
    Calls Try.prog 3 #[.slice A l.length c, .int .u16 a] w fun e w' => e = .returned (.bool true) ∧ Below w.heap.size w w' := by
  rcases h with h | h
  · have h0 : ((l.length : Int) == 0) = true := by simp; exact List.length_eq_zero_iff.1 h
    clear h
    go_enter Try.func3, Try.ntmps3
    go_wp2_with fail
    refine (alive_t _).mono ?_
    rintro e w1 ⟨rfl, hb1⟩
    go_wp2_with fail
    go_ret
    exact ⟨rfl, hb1⟩
  · have h0 : ((l.length : Int) == 0) = false := by simp; intro e; rw [e] at h; simp at h
    have h1 : decide ((300 : Int) < (l.length : Int)) = true := by simp; omega
    clear h
    go_enter Try.func3, Try.ntmps3
    go_wp2_with fail
    refine (alive_t _).mono ?_
    rintro e w1 ⟨rfl, hb1⟩
    go_wp2_with fail
    go_ret
    exact ⟨rfl, hb1⟩
set_option maxHeartbeats 6400000 in
set_option maxRecDepth 100000 in
theorem long_yes (w : World) (A : Option Addr) (c : Nat) (l : List UInt8) (n : Nat) (h1 : 1 ≤ l.length) (h2 : l.length ≤ 300) (s : Bts w w.heap.size A l) (hn : n ≤ 65535) :
    Calls Try.prog 3 #[.slice A l.length c, .int .u16 (n : Int)] w fun e w' => e = .returned (.bool true) ∧ Below w.heap.size w w' := by
  have g0 : ((l.length : Int) == 0) = false := by simp; intro e; rw [e] at h1; simp at h1
  have g1 : ¬ (300 : Int) < (l.length : Int) := by omega
  have g2 : (1 : Int) ≤ (l.length : Int) := by omega
  obtain ⟨N, hN⟩ : ∃ N : Nat, (N : Int) = (l.length : Int) + (n : Int) % 3000 := ⟨l.length + n % 3000, by omega⟩
  have hN2 : N ≤ 3300 := by omega
  have hlN : l.length ≤ N := by omega
  have eN : IntKind.i64.wrap ((l.length : Int) + (n : Int) % 3000) = (N : Int) := by rw [hN]; exact IntWalk.i64_in _ ⟨by omega, by omega⟩
  have HNN := Lib.hid hN
  have HS := Lib.hid s
  clear s hN
  go_enter Try.func3, Try.ntmps3
  go_wp2_with fail
  refine (alive_t _).mono ?_
  rintro e w1 ⟨rfl, hb1⟩
  have HB1 := Lib.hid hb1
  clear hb1
  go_wp2_with fail
  go_loopw [5, 6] (fun v u wr => ∃ (i : Nat) (A2 : Option Addr) (c2 : Nat), i ≤ N ∧ u = .int .i64 (i : Int) ∧ v = .slice A2 (rep l i).length c2 ∧ OwnB wr w1.heap.size A2 c2 (rep l i) ∧ Below w1.heap.size w1 wr) (fun _ u _ => N - (intOf u).toNat)
  case atStart => exact ⟨0, none, 0, Nat.zero_le _, rfl, rfl, Own.nil _ _ _ _, Below.refl _ _⟩
  case round =>
    obtain ⟨i, A2, c2, hi, rfl, rfl, hown, hbel⟩ := hrel
    obtain ⟨wo, rfl⟩ : ∃ wo : World, wo = wr := ⟨_, rfl⟩
    have hlen := rep_length l i
    by_cases hlt : i < N
    · have hii : (i : Int) < (N : Int) := by omega
      have hsu := rep_succ l i
      obtain ⟨r, hr⟩ : ∃ r, r = i % l.length := ⟨_, rfl⟩
      have hrl : r < l.length := by rw [hr]; exact Nat.mod_lt _ (by omega)
      have er : (i : Int) % (l.length : Int) = (r : Int) := by rw [hr]; rfl
      rw [← hr] at hsu
      obtain ⟨b, o, hA, hbl, hcell⟩ := HS.out.at_ (by omega)
      have hc := hcell r hrl
      have hgd : l.getD r 0 = l[r] := by simp [List.getD, hrl]
      rw [← hgd] at hc
      generalize l.getD r 0 = x at *
      subst hA
      have hce := ((HB1.out.trans (hbel.mono HB1.out.size)).cell (p := ⟨b, o + r, none⟩) hbl).trans hc
      have hr0 : (r : Int) < (l.length : Int) := by omega
      have HSU := Lib.hid hsu
      generalize rep l i = S at *
      have hsl : S.length ≤ 3300 := by omega
      have HO := Lib.hid hown
      have HW := Lib.hid hbel
      have HI := Lib.hid hlt
      clear hsu hr hcell hc hgd hown hbel hlt hi hlen
      go_wp2_with (at_builtin; refine Hid.out ?_)
      have hO2 := Own.alloc (show Own wo w1.heap.size 5 1 A2 S.length c2 (bvs S) from HO.out) (.cells #[.int .u8 (x.toNat : Int)] 5)
      have hW2 := newB HW.out (.cells #[.int .u8 (x.toNat : Int)] 5)
      refine wpList_app (xs := bvs S) rfl rfl elem_byte rfl hO2 rfl (byte_new wo x) (bvs_one _) (S.length + 1) rfl (bvs (S ++ [x])) (bvs_append _ _).symm (by unfold maxLen; omega) (by omega) hW2.size ?_
      intro A4 c4 w4 o4 g4 q4
      have HO4 : Hid (OwnB w4 w1.heap.size A4 c4 (S ++ [x])) := Lib.hid (by unfold OwnB; rw [List.length_append]; exact o4)
      have HW4 := Lib.hid (appB hW2 hO2 g4 (Nat.le_refl _) hW2.size)
      clear hO2 hW2 o4 g4 q4
      go_wp2_with fail
      go_roundw
      case rel => exact ⟨i + 1, A4, c4, HI.out, by go_num, by rw [HSU.out]; simp, by rw [HSU.out]; exact HO4.out, HW4.out⟩
      case measure => have := HI.out; simp [intOf]; omega
    · obtain rfl : N = i := by omega
      have hni : ¬ (N : Int) < (l.length : Int) + (n : Int) % 3000 := by have := HNN.out; omega
      have hper := fun i => rep_per l N i
      have hc2 := own_cap (show Own wo w1.heap.size 5 1 A2 (rep l N).length c2 (bvs (rep l N)) from hown)
      generalize rep l N = S at *
      subst hlen
      have HPE := Lib.hid hper
      have HO := Lib.hid (OwnB.reads hown)
      have HW := Lib.hid hbel
      clear hper hown hbel hlt hi
      go_wp2_with fail
      refine (find_t A2 c2 S _ HO.out (by omega) hc2).mono ?_
      rintro e w5 ⟨A5, c5, rfl, ho5, hb5⟩
      have hl5 := toks_length (b := S) 0 (Nat.zero_le _)
      obtain ⟨L, hL⟩ : ∃ L, L = toks S 0 := ⟨_, rfl⟩
      rw [← hL] at ho5 hl5 ⊢
      have HL := Lib.hid hL
      have HO5 := Lib.hid (OwnT.reads ho5)
      have HB5 := Lib.hid (nextB (HB1.out.trans (HW.out.mono HB1.out.size)) hb5)
      clear ho5 hb5 hL
      go_wp2_with fail
      go_loop [8, 9] (fun v u => ∃ (k i : Nat), i ≤ L.length ∧ u = .int .i64 (i : Int) ∧ v = .int .i64 (k : Int) ∧ L.drop i = toks S k ∧ k ≤ S.length) (fun _ u => L.length - (intOf u).toNat)
      case atStart => exact ⟨0, 0, Nat.zero_le _, rfl, rfl, HL.out, Nat.zero_le _⟩
      case round =>
        obtain ⟨k, i, hi, rfl, rfl, hdr, hk⟩ := hrel
        by_cases hlt : i < L.length
        · obtain ⟨hkl, hLi, hnx⟩ := drop_toks hdr hlt
          have hto := tok_to S hkl
          have hto2 := tok_long (t := S) (p := l.length) (a := k) h1 h2 HPE.out
          have htl := tok_len S k
          obtain ⟨b, o, hA, hbl, hcell⟩ := HO5.out.at_ (by omega)
          obtain ⟨x0, x1, x2⟩ := hcell i _ hLi
          rw [mk_len] at x1
          rw [mk_back] at x2
          generalize mk S k = m at *
          generalize Mt.tok S k = xy at *
          obtain ⟨x, y⟩ := xy
          simp only at x1 x2 hto hto2 htl hnx
          subst hA
          have hii : (i : Int) < (L.length : Int) := by omega
          have HI := Lib.hid hlt
          have HNX := Lib.hid hnx
          obtain ⟨q, hq⟩ : ∃ q : Nat, (q : Int) = (S.length : Int) - (k : Int) := ⟨S.length - k, by omega⟩
          have eq1 : IntKind.i64.wrap ((S.length : Int) - (k : Int)) = (q : Int) := by rw [hq]; exact IntWalk.i64_in _ ⟨by omega, by omega⟩
          have hqn : S.length - k = q := by omega
          rw [hqn] at hto2
          have HTO := Lib.hid hto
          have hsl : S.length ≤ 3300 := by omega
          have hkl2 : (k : Int) < (S.length : Int) := by omega
          by_cases hkp : l.length ≤ k
          · have hki : (l.length : Int) ≤ (k : Int) := by omega
            obtain ⟨t1, t2⟩ := hto2 hkp hkl
            by_cases h258 : 258 ≤ q
            · obtain ⟨e1, e2, e3⟩ := t1 (by omega)
              obtain rfl : x = 258 := by omega
              have u1 : (258 : Int) ≤ (q : Int) := by omega
              have u2 : ((y : Int) == 0) = false := by simp; omega
              have u3 : decide (l.length < y) = false := by simp; omega
              have u4 : ¬ (l.length : Int) < (y : Int) := by omega
              have HM : Hid (k + 258 ≤ S.length) := Lib.hid (by have := HTO.out; omega)
              clear hdr hi hlt hLi hnx hcell hto hto2 htl hq hqn t1 t2 hkp hkl hk h258 e1 e2 e3 HTO
              go_wp2_with fail
              go_round
              case rel => exact ⟨k + 258, i + 1, HI.out, by go_num, by go_num, HNX.out, HM.out⟩
              case measure => have := HI.out; simp [intOf]; omega
            · by_cases h3 : 3 ≤ q
              · obtain ⟨e1, e2, e3⟩ := t1 (by omega)
                obtain rfl : q = x := by omega
                have u1 : (q : Int) < 258 := by omega
                have u2 : ((y : Int) == 0) = false := by simp; omega
                have u3 : decide (l.length < y) = false := by simp; omega
                have u4 : ¬ (l.length : Int) < (y : Int) := by omega
                have u5 : (3 : Int) ≤ (q : Int) := by omega
                have u6 : decide (3 ≤ q) = true := by simp; omega
                have u7 : decide ((q : Int) < 3) = false := by simp; omega
                have HM : Hid (k + q ≤ S.length) := Lib.hid (by omega)
                have HM2 : Hid (max 1 q = q) := Lib.hid (by omega)
                clear hdr hi hlt hLi hnx hcell hto hto2 htl hq hqn t1 t2 hkp hkl hk h258 h3 e1 e2 e3 HTO
                go_wp2_with fail
                go_round
                case rel => exact ⟨k + q, i + 1, HI.out, by go_num, by go_num, by have := HNX.out; rw [HM2.out] at this; exact this, HM.out⟩
                case measure => have := HI.out; simp [intOf]; omega
              · have e1 := t2 (by omega)
                injection e1 with e1 e2
                subst e1
                subst e2
                have u1 : (q : Int) < 258 := by omega
                have u5 : (q : Int) < 3 := by omega
                have u6 : decide (3 ≤ q) = false := by simp; omega
                have u7 : decide (q < 3) = true := by simp; omega
                have HM : Hid (k + 1 ≤ S.length) := Lib.hid (by omega)
                clear hdr hi hlt hLi hnx hcell hto hto2 htl hq hqn t1 t2 hkp hkl hk h258 h3 HTO
                go_wp2_with fail
                go_round
                case rel => exact ⟨k + 1, i + 1, HI.out, by go_num, by go_num, HNX.out, HM.out⟩
                case measure => have := HI.out; simp [intOf]; omega
          · have hki : ¬ (l.length : Int) ≤ (k : Int) := by omega
            rcases htl with ⟨rfl, rfl⟩ | htl
            · have HM : Hid (k + 1 ≤ S.length) := Lib.hid (by omega)
              clear hdr hi hlt hLi hnx hcell hto hto2 hq hqn hkp hkl hk HTO
              go_wp2_with fail
              go_round
              case rel => exact ⟨k + 1, i + 1, HI.out, by go_num, by go_num, HNX.out, HM.out⟩
              case measure => have := HI.out; simp [intOf]; omega
            · have u1 : (3 : Int) ≤ (x : Int) := by omega
              have HM : Hid (k + x ≤ S.length) := Lib.hid (by omega)
              have HM2 : Hid (max 1 x = x) := Lib.hid (by omega)
              have u2 : x ≤ 258 := by omega
              clear hdr hi hlt hLi hnx hcell hto hto2 htl hq hqn hkp hkl hk HTO
              go_wp2_with fail
              go_round
              case rel => exact ⟨k + x, i + 1, HI.out, by go_num, by go_num, by have := HNX.out; rw [HM2.out] at this; exact this, HM.out⟩
              case measure => have := HI.out; simp [intOf]; omega
        · obtain rfl : L.length = i := by omega
          have := drop_toks_end hdr
          obtain rfl : S.length = k := by omega
          clear hdr hi hlt this hk
          go_wp2_with fail
          go_ret
          exact ⟨rfl, HB5.out⟩
theorem matchLong_walk (w : World) (A : Option Addr) (c : Nat) (l : List UInt8) (_m : l.length ≤ maxLen) (_e : l.length ≤ c) (s : Bts w w.heap.size A l) (a : Int) (h0 : 0 ≤ a) (h1 : a ≤ 65535) :
    Calls Try.prog 3 #[.slice A l.length c, .int .u16 a] w fun e w' => e = .returned (.bool true) ∧ Below w.heap.size w w' := by
  by_cases h : l.length = 0 ∨ 300 < l.length
  · exact long_no w A c l a h
  · obtain ⟨n, rfl⟩ := Int.eq_ofNat_of_zero_le h0
    exact long_yes w A c l n (by omega) (by omega) s (by omega)
end Go.Proofs.Ytcfmfhkajngknaa
