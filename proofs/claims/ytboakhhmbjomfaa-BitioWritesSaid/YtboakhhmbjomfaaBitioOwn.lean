/- BitioOwn walked: bytes that were told, and texts that were handed in, may be written over. -/
import Derived.Test.YtboakhhmbjomfaaBitioReads
namespace Go.Proofs.Ytboakhhmbjomfaa
open Go.RowKit
open Bt
theorem dec_byte (x : UInt8) : ∃ y : UInt8, IntKind.u8.wrap ((x.toNat : Int) - 1) = (y.toNat : Int) := by
  refine ⟨UInt8.ofNat (IntKind.u8.wrap ((x.toNat : Int) - 1)).toNat, ?_⟩
  have h := IntKind.wrap_u8 ((x.toNat : Int) - 1)
  rw [UInt8.toNat_ofNat']
  omega
theorem str_own {w : World} {B : Nat} {A : Option Addr} {c n : Nat} {S : List UInt8} (h : OwnB w B A c S) (hn : n = S.length) : (convert 25 9 (.slice A n c)).run Try.prog w = .ok (.string (str S)) w := by
  subst hn
  exact run_str Try.underlying25 Try.underlying5 Try.underlying9 (OwnB.reads h)
theorem Wri.drew_ {w : World} {g : Nat} {A : Option Addr} {c : Nat} {L : List Bool} (h : Wri w g A c L) : Wri w.drew g A c L := h
theorem own_pack (a b : List UInt8) (m : UInt8) (hm : m.toNat < 32) : pack (alignL (bitsOf a ++ gb m.toNat 5) ++ bitsOf b) = a ++ [m] ++ b := by
  have e : alignL (bitsOf a ++ gb m.toNat 5) = bitsOf (a ++ [m]) := by
    have h8 : gb m.toNat 8 = gb m.toNat 5 ++ [false, false, false] := by
      apply num_inj
      · simp [gb_length]
      · rw [num_gb, show ([false, false, false] : List Bool) = List.replicate 3 false from rfl, num_zeros, num_gb]
        omega
    rw [bitsOf_append]
    have e2 : bitsOf [m] = gb m.toNat 8 := by simp [bitsOf]
    rw [e2, h8, alignL, List.append_assoc]
    congr 2
    rw [List.length_append, bitsOf_length, gb_length, padN]
    rw [show 8 * ((8 * a.length + 5 + 7) / 8) - (8 * a.length + 5) = 3 by omega]
    rfl
  rw [e, ← bitsOf_append, pack_bits]
theorem g5 (g : Nat) (A : Option Addr) (c : Nat) (L : List Bool) (m : Nat) (w : World) (h : Wri w g A c L) (hm : m < 32) (hL : L.length ≤ 10000) : Calls Try.prog 11 #[.pointer (some ⟨g, 0, none⟩), .int .u32 (m : Int), .int .i64 5] w fun e w' => e = .returned (.int .i64 0) ∧ Wrote g A (L ++ gb m 5) w w' :=
  group_t g A c L m 5 w h (by omega) (by decide) (by rw [fits_in (by decide), Nat.div_eq_of_lt hm]; rfl) (by omega)
set_option maxRecDepth 100000 in
theorem own_no (w : World) (A : Option Addr) (c : Nat) (l : List UInt8) (B : Option Addr) (d : Nat) (l2 : List UInt8) (n : Int) (h : 1000 < l.length ∨ 1000 < l2.length) :
    Calls Try.prog 6 #[.slice A l.length c, .slice B l2.length d, .int .u32 n] w fun e w' => e = .returned (.bool true) ∧ Below w.heap.size w w' := by
  have hdd : (decide ((1000 : Int) < (l.length : Int)) = true) ∨ (decide ((1000 : Int) < (l.length : Int)) = false ∧ decide ((1000 : Int) < (l2.length : Int)) = true) := by
    by_cases h1 : 1000 < l.length
    · exact .inl (by simp; omega)
    · exact .inr ⟨by simp; omega, by simp; omega⟩
  clear h
  rcases hdd with hd | ⟨hd, hd2⟩
  all_goals
    go_enter Try.func6, Try.ntmps6
    go_wp2_with fail
    refine (alive_t _).mono ?_
    rintro e w1 ⟨rfl, hb1⟩
    go_wp2_with fail
    go_ret
    exact ⟨rfl, hb1⟩
set_option maxHeartbeats 12800000 in
set_option maxRecDepth 100000 in
theorem own_yes (w : World) (A : Option Addr) (c : Nat) (l : List UInt8) (h1 : l.length ≤ 1000) (s : Bts w w.heap.size A l) (B : Option Addr) (d : Nat) (l2 : List UInt8) (h2 : l2.length ≤ 1000) (s2 : Bts w w.heap.size B l2) (n : Nat) (hn : n < 4294967296) :
    Calls Try.prog 6 #[.slice A l.length c, .slice B l2.length d, .int .u32 (n : Int)] w fun e w' => e = .returned (.bool true) ∧ Below w.heap.size w w' := by
  have HS := Lib.hid s
  have HS2 := Lib.hid s2
  have hd1 : decide ((1000 : Int) < (l.length : Int)) = false := by simp; omega
  have hd2 : decide ((1000 : Int) < (l2.length : Int)) = false := by simp; omega
  obtain ⟨m, hm⟩ : ∃ m : UInt8, (n : Int) % 32 = (m.toNat : Int) := ⟨UInt8.ofNat (n % 32), by rw [UInt8.toNat_ofNat']; omega⟩
  have hm32 : m.toNat < 32 := by omega
  have hm32i : (m.toNat : Int) < 32 := by omega
  have hop := own_pack l l2 m hm32
  have HOP := Lib.hid hop
  clear s s2 hop
  go_enter Try.func6, Try.ntmps6
  go_wp2_with fail
  refine (alive_t _).mono ?_
  rintro e w1 ⟨rfl, hb1⟩
  have HB1 := Lib.hid hb1
  clear hb1
  go_wp2_with (at_builtin; refine Hid.out ?_)
  have hw2 := wri_new w1
  have hb2 : Below w.heap.size w (w1.alloc (.cells #[.slice none 0 0, .int .i64 0] 27)) := newB HB1.out _
  have hw2b := hb2.size
  have hgw := HB1.out.size
  have hs2z : (w1.alloc (.cells #[.slice none 0 0, .int .i64 0] 27)).heap.size = w1.heap.size + 1 := by simp
  generalize hg : w1.heap.size = g at *
  generalize w1.alloc (.cells #[.slice none 0 0, .int .i64 0] 27) = w2 at *
  rw [← hs2z]
  have hO1 : Own (w2.alloc (.cells #[] 5)) w2.heap.size 5 1 (some ⟨w2.heap.size, 0, none⟩) 0 0 [] := Own.made w2 _ _ _ #[] 0 (Nat.le_refl _) (Nat.zero_le _) rfl
  have hW1 : Below w2.heap.size w2 (w2.alloc (.cells #[] 5)) := (Below.refl _ _).alloc (Nat.le_refl _) _
  have hS1 := (HS.out.at_below hb2).at_below hW1
  refine wpList_app (xs := []) rfl rfl elem_u8 rfl hO1 rfl hS1 (bvs_one _) l.length (Nat.zero_add _) (bvs l) rfl (by unfold maxLen; omega) (by omega) hW1.size ?_
  intro A3 c3 w3 o3 g3 q3
  have hb23 := appB hW1 hO1 g3 (Nat.le_refl _) hW1.size
  have HX3 : Hid (OwnB w3 w2.heap.size A3 c3 l) := Lib.hid o3
  have HW3 := Lib.hid (nextB hb2 hb23)
  have HR3 := Lib.hid (hw2.below hb23)
  clear hO1 hW1 hS1 o3 g3 q3 hb23 hw2 hb2 HB1 hs2z hg
  go_wp2_with fail
  refine (text_t g none 0 [] A3 c3 l _ HR3.out (OwnB.reads HX3.out) (by decide) (by omega)).mono ?_
  rintro e w4 ⟨rfl, A4, c4, h4, o4, q4⟩
  have hal : alignL [] ++ bitsOf l = bitsOf l := rfl
  rw [hal] at h4
  have hbl4 := bitsOf_length l
  have HX4 : Hid (OwnB w4 w2.heap.size A3 c3 l) := Lib.hid (Own.only HX3.out o4 (fun i hi e => by
    rcases e with rfl | e
    · exact Own.ne_blk HX3.out HR3.out.1 (by decide) hi
    · cases e))
  have hxw : Hid (∀ i, blockOf A4 = some i → blockOf A3 ≠ some i) := Lib.hid (fun i hi e => by
    have h1 := Own.block HX3.out e
    rcases q4 with q4 | ⟨j, hj, hz⟩
    · rw [q4] at hi
      cases hi
    · rw [hj] at hi
      injection hi with hi
      omega)
  have HW4 := Lib.hid (HW3.out.trans (wk_below HR3.out o4 hgw))
  have HR4 := Lib.hid h4
  clear h4 o4 q4 hal HX3 HR3 HW3
  go_wp2_with fail
  go_loopw [9] (fun u wr => ∃ (j : Nat) (R : List UInt8), j ≤ l.length ∧ u = .int .i64 (j : Int) ∧ R.length = l.length ∧ OwnB wr w2.heap.size A3 c3 R ∧ Wri wr g A4 c4 (bitsOf l) ∧ Below w.heap.size w wr) (fun u _ => l.length - (intOf u).toNat)
  case atStart => exact ⟨0, l, Nat.zero_le _, rfl, rfl, HX4.out, HR4.out, HW4.out⟩
  case round =>
    obtain ⟨j, R, hj, rfl, hRl, hown, hwri, hbel⟩ := hrel
    obtain ⟨wo, rfl⟩ : ∃ wo : World, wo = wr := ⟨_, rfl⟩
    by_cases hlt : j < l.length
    · have hji : (j : Int) < (l.length : Int) := by omega
      obtain ⟨gb, hA, hbg, hgl, hnc, hcl, hfz⟩ := Own.form (show Own wo w2.heap.size 5 1 A3 R.length c3 (bvs R) from hown) (by omega)
      subst hA
      have hc := hcl j (bv (R.getD j 0)) (by
        have : j < R.length := by omega
        simp [bvs, List.getD, this])
      unfold bv at hc
      generalize hx : R.getD j 0 = x at *
      have HINC := Lib.hid (inc_byte x)
      have hset : (bvs R).set j (.int .u8 ((x + 1).toNat : Int)) = bvs (R.set j (x + 1)) := by
        unfold bvs
        rw [List.map_set]
        rfl
      have HSET := Lib.hid hset
      have HO := Lib.hid hown
      have HR := Lib.hid hwri
      have HW := Lib.hid hbel
      have HJ := Lib.hid hlt
      have HRL := Lib.hid hRl
      clear hx hset hown hwri hbel hlt hj hRl hcl hnc
      go_wp2_with fail
      go_roundw
      case rel =>
        have hon : Only (RK gb) wo (wo.setCell ⟨gb, j, none⟩ (.int .u8 ((x + 1).toNat : Int))) := (Only.refl (RK gb) _).set (p := ⟨gb, j, none⟩) (.inl rfl) _
        rw [HINC.out]
        refine ⟨j + 1, R.set j (x + 1), HJ.out, by go_num, by rw [List.length_set]; exact HRL.out, ?_, HR.out.only hon (fun (e : g = gb) => by subst e; exact Own.ne_blk HO.out HR.out.1 (by decide) rfl) (fun i hi (e : i = gb) => hxw.out i hi (by rw [e]; rfl)), HW.out.setCell (p := ⟨gb, j, none⟩) (show w.heap.size ≤ gb by omega) _⟩
        have h1 := Own.stored (show Own wo w2.heap.size 5 1 (some ⟨gb, 0, none⟩) R.length c3 (bvs R) from HO.out) j (.int .u8 ((x + 1).toNat : Int))
        unfold OwnB
        rw [List.length_set, ← HSET.out]
        exact h1
      case measure => have := HJ.out; simp [intOf]; omega
    · obtain rfl : l.length = j := by omega
      have HR := Lib.hid hwri
      have HW := Lib.hid hbel
      clear hj hlt hRl hown hwri hbel
      go_wp2_with fail
      refine (bytes_t g A4 c4 (bitsOf l) _ HR.out (by omega)).mono ?_
      rintro e w6 ⟨A6, c6, rfl, h6, b6⟩
      obtain ⟨P, hP⟩ : ∃ P, P = pack (bitsOf l) := ⟨_, rfl⟩
      have hPl : P.length ≤ 1000 := by rw [hP, pack_bits]; exact h1
      rw [← hP] at h6 ⊢
      have HX6 := Lib.hid h6
      have HR6 := Lib.hid (HR.out.below b6)
      have HW6 := Lib.hid (nextB HW.out b6)
      have hxw6 : Hid (∀ i, blockOf A4 = some i → i < wo.heap.size) := Lib.hid (fun i hi => (Own.block (show Own wo g 5 1 A4 _ c4 _ from HR.out.2) hi).2)
      have hwo : w.heap.size ≤ wo.heap.size := HW.out.size
      clear h6 b6 hP
      go_wp2_with fail
      go_loopw [11] (fun u wr => ∃ (j : Nat) (R : List UInt8), j ≤ P.length ∧ u = .int .i64 (j : Int) ∧ R.length = P.length ∧ OwnB wr wo.heap.size A6 c6 R ∧ Wri wr g A4 c4 (bitsOf l) ∧ Below w.heap.size w wr) (fun u _ => P.length - (intOf u).toNat)
      case atStart => exact ⟨0, P, Nat.zero_le _, rfl, rfl, HX6.out, HR6.out, HW6.out⟩
      case round =>
        obtain ⟨j, R, hj, rfl, hRl, hown, hwri, hbel⟩ := hrel
        obtain ⟨wp, rfl⟩ : ∃ wp : World, wp = wr := ⟨_, rfl⟩
        by_cases hlt : j < P.length
        · have hji : (j : Int) < (P.length : Int) := by omega
          obtain ⟨gb, hA, hbg, hgl, hnc, hcl, hfz⟩ := Own.form (show Own wp wo.heap.size 5 1 A6 R.length c6 (bvs R) from hown) (by omega)
          subst hA
          have hc := hcl j (bv (R.getD j 0)) (by
            have : j < R.length := by omega
            simp [bvs, List.getD, this])
          unfold bv at hc
          generalize hx : R.getD j 0 = x at *
          obtain ⟨y, hy⟩ := dec_byte x
          have HY := Lib.hid hy
          have hset : (bvs R).set j (.int .u8 (y.toNat : Int)) = bvs (R.set j y) := by
            unfold bvs
            rw [List.map_set]
            rfl
          have HSET := Lib.hid hset
          have HO := Lib.hid hown
          have HR := Lib.hid hwri
          have HW := Lib.hid hbel
          have HJ := Lib.hid hlt
          have HRL := Lib.hid hRl
          clear hx hset hown hwri hbel hlt hj hRl hcl hnc
          go_wp2_with fail
          go_roundw
          case rel =>
            have hon : Only (RK gb) wp (wp.setCell ⟨gb, j, none⟩ (.int .u8 (y.toNat : Int))) := (Only.refl (RK gb) _).set (p := ⟨gb, j, none⟩) (.inl rfl) _
            refine ⟨j + 1, R.set j y, HJ.out, by go_num, by rw [List.length_set]; exact HRL.out, ?_, HR.out.only hon (fun (e : g = gb) => by subst e; exact Own.ne_blk HO.out HR.out.1 (by decide) rfl) (fun i hi (e : i = gb) => by have := hxw6.out i hi; omega), HW.out.setCell (p := ⟨gb, j, none⟩) (show w.heap.size ≤ gb by omega) _⟩
            have h1 := Own.stored (show Own wp wo.heap.size 5 1 (some ⟨gb, 0, none⟩) R.length c6 (bvs R) from HO.out) j (.int .u8 (y.toNat : Int))
            unfold OwnB
            rw [List.length_set, ← HSET.out]
            exact h1
          case measure => have := HJ.out; simp [intOf]; omega
        · obtain rfl : P.length = j := by omega
          have HR := Lib.hid hwri
          have HW := Lib.hid hbel
          have HG5 := Lib.hid (g5 g A4 c4 (bitsOf l) m.toNat wp hwri hm32 (by omega))
          clear hj hlt hRl hown hwri hbel
          go_wp2_with fail
          refine HG5.out.mono ?_
          rintro e w7 ⟨rfl, A7, c7, h7, o7, _⟩
          have HR7 := Lib.hid h7
          have HW7 := Lib.hid (HW.out.trans (wk_below HR.out o7 hgw))
          have hl7 : (bitsOf l ++ gb m.toNat 5).length ≤ 9000 := by rw [List.length_append, gb_length]; omega
          clear h7 o7 HG5
          go_wp2_with fail
          refine (text_t g A7 c7 _ B d l2 _ HR7.out (HS2.out.at_below HW7.out) (by omega) (by omega)).mono ?_
          rintro e w8 ⟨rfl, A17, c17, h8, o8, _⟩
          have HR8 := Lib.hid h8
          have HW8 := Lib.hid (HW7.out.trans (wk_below HR7.out o8 hgw))
          clear h8 o8
          go_wp2_with (at_builtin; refine Hid.out ?_)
          have hO9 : Own (w8.alloc (.cells #[] 5)) w8.heap.size 5 1 (some ⟨w8.heap.size, 0, none⟩) 0 0 [] := Own.made w8 _ _ _ #[] 0 (Nat.le_refl _) (Nat.zero_le _) rfl
          have hW9 : Below w8.heap.size w8 (w8.alloc (.cells #[] 5)) := (Below.refl _ _).alloc (Nat.le_refl _) _
          have hS9 := (HS.out.at_below HW8.out).at_below hW9
          refine wpList_app (xs := []) rfl rfl elem_u8 rfl hO9 rfl hS9 (bvs_one _) l.length (Nat.zero_add _) (bvs l) rfl (by unfold maxLen; omega) (by omega) hW9.size ?_
          intro A9 c9 w9 o9 g9 q9
          have hb89 := appB hW9 hO9 g9 (Nat.le_refl _) hW9.size
          have HX9 : Hid (OwnB w9 w8.heap.size A9 c9 l) := Lib.hid o9
          have HR9 := Lib.hid (HR8.out.below hb89)
          have HW9 := Lib.hid (nextB HW8.out hb89)
          clear hO9 hW9 hS9 o9 g9 q9
          go_wp2_with (at_builtin; refine Hid.out ?_)
          have hOa := Own.alloc (show Own w9 w8.heap.size 5 1 A9 l.length c9 (bvs l) from HX9.out) (.cells #[.int .u8 (m.toNat : Int)] 5)
          have hWa : Below w8.heap.size w8 (w9.alloc (.cells #[.int .u8 (m.toNat : Int)] 5)) := newB hb89 _
          refine wpList_app (xs := bvs l) rfl rfl elem_u8 rfl hOa rfl (byte_new w9 m) (bvs_one _) (l.length + 1) rfl (bvs (l ++ [m])) (bvs_append _ _).symm (by unfold maxLen; omega) (by omega) hWa.size ?_
          intro A18 c18 w19 o18 g18 q18
          have hb819 := appB hWa hOa g18 (Nat.le_refl _) hWa.size
          obtain ⟨want, hwant⟩ : ∃ want, want = l ++ [m] := ⟨_, rfl⟩
          have hwl : l.length + 1 = want.length := by rw [hwant]; simp
          have HWT : Hid (OwnB w19 w.heap.size A18 c18 want) := Lib.hid (by
            have h := Own.mono (base' := w.heap.size) o18 HW8.out.size
            unfold OwnB
            rw [← hwl, hwant]
            exact h)
          have hpk : pack (alignL (bitsOf l ++ gb m.toNat 5) ++ bitsOf l2) = want ++ l2 := by rw [hwant]; exact HOP.out
          have HWR := Lib.hid (HR8.out.below hb819)
          have hlL : (alignL (bitsOf l ++ gb m.toNat 5) ++ bitsOf l2).length ≤ 100000 := by
            rw [List.length_append, alignL_length, bitsOf_length]
            omega
          have hby := fun (W : World) h => bytes_t g A17 c17 (alignL (bitsOf l ++ gb m.toNat 5) ++ bitsOf l2) W h (by omega)
          rw [hpk] at hby
          have HBY := Lib.hid hby
          have HBW := Lib.hid (nextB HW8.out hb819)
          have HSB := Lib.hid (HS2.out.at_below HBW.out)
          rw [hwl]
          have hwm : want.length ≤ 1001 := by omega
          clear hOa hWa o18 g18 q18 hb819 hb89 hpk hby hwl hwant HX9 HR9 HW9 HR8 HR7 HW7 HW8 hlL hl7
          go_wp2_with fail
          refine wp_region_noPanic ?_
          refine wp_region_held_drew (S := (fun _ => True)) (by kernel_rfl) trivial (fun _ => ?_)
          refine wpAnyH_take (i := 0) (oi := ?_) (v := ?_) ?_ ?_ ?_ ?_ ?_ ?_ ?_ ?_
          rotate_left 2
          · simp only [List.getElem?_toArray, List.getElem?_cons_zero]; rfl
          · kernel_rfl
          · kernel_rfl
          · kernel_rfl
          · exact fun _ _ _ h => h
          · exact Or.inl ⟨by kernel_rfl, by intro w hSw; (try dsimp only at hSw); go_simp; try with_reducible rfl⟩
          · trivial
          try go_simp
          refine wpAnyH_take (i := 3) (oi := ?_) (v := ?_) ?_ ?_ ?_ ?_ ?_ ?_ ?_ ?_
          rotate_left 2
          · simp only [List.getElem?_toArray, List.getElem?_cons_succ, List.getElem?_cons_zero]; rfl
          · kernel_rfl
          · kernel_rfl
          · kernel_rfl
          · exact fun _ _ _ h => h
          · exact Or.inl ⟨by kernel_rfl, by intro w hSw; (try dsimp only at hSw); go_simp; try with_reducible rfl⟩
          · trivial
          try go_simp
          refine wpAnyH_take (i := 4) (oi := ?_) (v := ?_) ?_ ?_ ?_ ?_ ?_ ?_ ?_ ?_
          rotate_left 2
          · simp only [List.getElem?_toArray, List.getElem?_cons_succ, List.getElem?_cons_zero]; rfl
          · kernel_rfl
          · kernel_rfl
          · kernel_rfl
          · exact fun _ _ _ h => h
          · exact Or.inl ⟨by kernel_rfl, by intro w hSw; (try dsimp only at hSw); go_simp; try with_reducible rfl⟩
          · trivial
          try go_simp
          refine wpAnyH_ready (rs := [1]) (by kernel_rfl) (by simp) ?_
          refine AllReadyH.cons (o := ?_) ?_ ?_ AllReadyH.nil
          rotate_left 1
          · simp only [List.getElem?_toArray, List.getElem?_cons_succ, List.getElem?_cons_zero]; rfl
          intro K hK
          go_simp
          refine (HBY.out _ HWR.out.drew_).mono ?_
          rintro e w20 ⟨A20, c20, rfl, h20, b20'⟩
          have b20 : Below w19.heap.size w19 w20 := ((Below.refl w19.heap.size w19).drew).trans b20'
          have hs2 := str_own (n := want.length + l2.length) h20 (by rw [List.length_append])
          have HY20 := Lib.hid h20
          have HW20 : Hid (OwnB w20 w.heap.size A18 c18 want) := Lib.hid (Own.below HWT.out b20)
          have HS20 := Lib.hid (HSB.out.at_below b20)
          have HB20 := Lib.hid (nextB HBW.out b20)
          clear h20 b20 b20'
          refine hK.out _ _ trivial (fun _ => ?_)
          clear hK K
          try go_simp
          refine wpAnyH_ready (rs := [2, 5]) (by kernel_rfl) (by simp) ?_
          refine AllReadyH.cons (o := ?_) ?_ ?_ ?_
          rotate_left 1
          · simp only [List.getElem?_toArray, List.getElem?_cons_succ, List.getElem?_cons_zero]; rfl
          · intro K hK
            go_simp
            refine hK.out _ _ trivial (fun _ => ?_)
            clear hK K
            try go_simp
            refine wpAnyH_ready (rs := [5]) (by kernel_rfl) (by simp) ?_
            refine AllReadyH.cons (o := ?_) ?_ ?_ AllReadyH.nil
            rotate_left 1
            · simp only [List.getElem?_toArray, List.getElem?_cons_succ, List.getElem?_cons_zero]; rfl
            intro K hK
            refine step_app rfl rfl elem_u8 rfl HW20.out rfl HS20.out (bvs_one _) (want.length + l2.length) rfl (bvs (want ++ l2)) (bvs_append _ _).symm (by unfold maxLen; omega) (by omega) HB20.out.size ?_
            intro A21 c21 w21 o21 g21 q21
            have HW21 : Hid (OwnB w21 w.heap.size A21 c21 (want ++ l2)) := Lib.hid (by unfold OwnB; rw [List.length_append]; exact o21)
            have HY21 : Hid (OwnB w21 w19.heap.size A20 c20 (want ++ l2)) := Lib.hid (Own.kept HY20.out g21 (by
              cases hA : blockOf A20 with
              | none => exact .inl rfl
              | some i =>
                refine .inr (fun e => ?_)
                have h1 : w19.heap.size ≤ i := (Own.block HY20.out hA).1
                have h2 := (Own.block HWT.out e.symm).2
                omega))
            have HB21 := Lib.hid (HB20.out.grown g21 HB20.out.size (fun i hi => (Own.block HW20.out hi).1))
            have hs6 := str_own (n := want.length + l2.length) HW21.out (by rw [List.length_append])
            clear hs2
            have hs2 := str_own (n := want.length + l2.length) HY21.out (by rw [List.length_append])
            clear o21 g21 q21
            refine hK.out _ _ trivial (fun _ => ?_)
            clear hK K
            try go_simp
            refine wpAnyH_ready (rs := [6]) (by kernel_rfl) (by simp) ?_
            refine AllReadyH.cons (o := ?_) ?_ ?_ AllReadyH.nil
            rotate_left 1
            · simp only [List.getElem?_toArray, List.getElem?_cons_succ, List.getElem?_cons_zero]; rfl
            intro K hK
            go_simp
            refine hK.out _ _ trivial (fun _ => ?_)
            clear hK K
            try go_simp
            refine wpAnyH_take (i := 7) (oi := ?_) (v := ?_) ?_ ?_ ?_ ?_ ?_ ?_ ?_ ?_
            rotate_left 2
            · simp only [List.getElem?_toArray, List.getElem?_cons_succ, List.getElem?_cons_zero]; rfl
            · kernel_rfl
            · kernel_rfl
            · kernel_rfl
            · exact fun _ _ _ h => h
            · exact Or.inl ⟨by kernel_rfl, by intro w hSw; (try dsimp only at hSw); go_simp; try with_reducible rfl⟩
            · trivial
            try go_simp
            refine wpAnyH_take (i := 8) (oi := ?_) (v := ?_) ?_ ?_ ?_ ?_ ?_ ?_ ?_ ?_
            rotate_left 2
            · simp only [List.getElem?_toArray, List.getElem?_cons_succ, List.getElem?_cons_zero]; rfl
            · kernel_rfl
            · kernel_rfl
            · kernel_rfl
            · exact fun _ _ _ h => h
            · exact Or.inl ⟨by kernel_rfl, by intro w hSw; (try dsimp only at hSw); go_simp; try with_reducible rfl⟩
            · trivial
            try go_simp
            refine wpAnyH_done (by kernel_rfl) ?_ _
            refine NoPanic.normal ?_
            go_wp2_with fail
            go_ret
            exact ⟨rfl, HB21.out⟩
          · refine AllReadyH.cons (o := ?_) ?_ ?_ AllReadyH.nil
            rotate_left 1
            · simp only [List.getElem?_toArray, List.getElem?_cons_succ, List.getElem?_cons_zero]; rfl
            intro K hK
            refine step_app rfl rfl elem_u8 rfl HW20.out rfl HS20.out (bvs_one _) (want.length + l2.length) rfl (bvs (want ++ l2)) (bvs_append _ _).symm (by unfold maxLen; omega) (by omega) HB20.out.size ?_
            intro A21 c21 w21 o21 g21 q21
            have HW21 : Hid (OwnB w21 w.heap.size A21 c21 (want ++ l2)) := Lib.hid (by unfold OwnB; rw [List.length_append]; exact o21)
            have HY21 : Hid (OwnB w21 w19.heap.size A20 c20 (want ++ l2)) := Lib.hid (Own.kept HY20.out g21 (by
              cases hA : blockOf A20 with
              | none => exact .inl rfl
              | some i =>
                refine .inr (fun e => ?_)
                have h1 : w19.heap.size ≤ i := (Own.block HY20.out hA).1
                have h2 := (Own.block HWT.out e.symm).2
                omega))
            have HB21 := Lib.hid (HB20.out.grown g21 HB20.out.size (fun i hi => (Own.block HW20.out hi).1))
            have hs6 := str_own (n := want.length + l2.length) HW21.out (by rw [List.length_append])
            clear hs2
            have hs2 := str_own (n := want.length + l2.length) HY21.out (by rw [List.length_append])
            clear o21 g21 q21
            refine hK.out _ _ trivial (fun _ => ?_)
            clear hK K
            try go_simp
            refine wpAnyH_ready (rs := [2, 6]) (by kernel_rfl) (by simp) ?_
            refine AllReadyH.cons (o := ?_) ?_ ?_ ?_
            rotate_left 1
            · simp only [List.getElem?_toArray, List.getElem?_cons_succ, List.getElem?_cons_zero]; rfl
            · intro K hK
              go_simp
              refine hK.out _ _ trivial (fun _ => ?_)
              clear hK K
              try go_simp
              refine wpAnyH_ready (rs := [6]) (by kernel_rfl) (by simp) ?_
              refine AllReadyH.cons (o := ?_) ?_ ?_ AllReadyH.nil
              rotate_left 1
              · simp only [List.getElem?_toArray, List.getElem?_cons_succ, List.getElem?_cons_zero]; rfl
              intro K hK
              go_simp
              refine hK.out _ _ trivial (fun _ => ?_)
              clear hK K
              try go_simp
              refine wpAnyH_take (i := 7) (oi := ?_) (v := ?_) ?_ ?_ ?_ ?_ ?_ ?_ ?_ ?_
              rotate_left 2
              · simp only [List.getElem?_toArray, List.getElem?_cons_succ, List.getElem?_cons_zero]; rfl
              · kernel_rfl
              · kernel_rfl
              · kernel_rfl
              · exact fun _ _ _ h => h
              · exact Or.inl ⟨by kernel_rfl, by intro w hSw; (try dsimp only at hSw); go_simp; try with_reducible rfl⟩
              · trivial
              try go_simp
              refine wpAnyH_take (i := 8) (oi := ?_) (v := ?_) ?_ ?_ ?_ ?_ ?_ ?_ ?_ ?_
              rotate_left 2
              · simp only [List.getElem?_toArray, List.getElem?_cons_succ, List.getElem?_cons_zero]; rfl
              · kernel_rfl
              · kernel_rfl
              · kernel_rfl
              · exact fun _ _ _ h => h
              · exact Or.inl ⟨by kernel_rfl, by intro w hSw; (try dsimp only at hSw); go_simp; try with_reducible rfl⟩
              · trivial
              try go_simp
              refine wpAnyH_done (by kernel_rfl) ?_ _
              refine NoPanic.normal ?_
              go_wp2_with fail
              go_ret
              exact ⟨rfl, HB21.out⟩
            · refine AllReadyH.cons (o := ?_) ?_ ?_ AllReadyH.nil
              rotate_left 1
              · simp only [List.getElem?_toArray, List.getElem?_cons_succ, List.getElem?_cons_zero]; rfl
              intro K hK
              go_simp
              refine hK.out _ _ trivial (fun _ => ?_)
              clear hK K
              try go_simp
              refine wpAnyH_ready (rs := [2]) (by kernel_rfl) (by simp) ?_
              refine AllReadyH.cons (o := ?_) ?_ ?_ AllReadyH.nil
              rotate_left 1
              · simp only [List.getElem?_toArray, List.getElem?_cons_succ, List.getElem?_cons_zero]; rfl
              intro K hK
              go_simp
              refine hK.out _ _ trivial (fun _ => ?_)
              clear hK K
              try go_simp
              refine wpAnyH_take (i := 7) (oi := ?_) (v := ?_) ?_ ?_ ?_ ?_ ?_ ?_ ?_ ?_
              rotate_left 2
              · simp only [List.getElem?_toArray, List.getElem?_cons_succ, List.getElem?_cons_zero]; rfl
              · kernel_rfl
              · kernel_rfl
              · kernel_rfl
              · exact fun _ _ _ h => h
              · exact Or.inl ⟨by kernel_rfl, by intro w hSw; (try dsimp only at hSw); go_simp; try with_reducible rfl⟩
              · trivial
              try go_simp
              refine wpAnyH_take (i := 8) (oi := ?_) (v := ?_) ?_ ?_ ?_ ?_ ?_ ?_ ?_ ?_
              rotate_left 2
              · simp only [List.getElem?_toArray, List.getElem?_cons_succ, List.getElem?_cons_zero]; rfl
              · kernel_rfl
              · kernel_rfl
              · kernel_rfl
              · exact fun _ _ _ h => h
              · exact Or.inl ⟨by kernel_rfl, by intro w hSw; (try dsimp only at hSw); go_simp; try with_reducible rfl⟩
              · trivial
              try go_simp
              refine wpAnyH_done (by kernel_rfl) ?_ _
              refine NoPanic.normal ?_
              go_wp2_with fail
              go_ret
              exact ⟨rfl, HB21.out⟩
theorem bitioOwn_walk (w : World) (A : Option Addr) (c : Nat) (l : List UInt8) (_m : l.length ≤ maxLen) (_e : l.length ≤ c) (s : Bts w w.heap.size A l) (B : Option Addr) (d : Nat) (l2 : List UInt8) (_m2 : l2.length ≤ maxLen) (_e2 : l2.length ≤ d) (s2 : Bts w w.heap.size B l2) (a : Int) (a0 : 0 ≤ a) (a1 : a ≤ 4294967295) :
    Calls Try.prog 6 #[.slice A l.length c, .slice B l2.length d, .int .u32 a] w fun e w' => e = .returned (.bool true) ∧ Below w.heap.size w w' := by
  by_cases h : 1000 < l.length ∨ 1000 < l2.length
  · exact own_no w A c l B d l2 a h
  · obtain ⟨n, rfl⟩ := Int.eq_ofNat_of_zero_le a0
    exact own_yes w A c l (by omega) s B d l2 (by omega) s2 n (by omega)
end Go.Proofs.Ytboakhhmbjomfaa
