/- DdwireSpoilt walked. -/
import Derived.Test.YtbfhiegbgkkgiaaGreatC31
import Derived.Test.YtbfhiegbgkkgiaaGreatC01
import Derived.Deep.DeepCutAuto
import Derived.Deep.CutBlock
import Derived.Test.YtbfhiegbgkkgiaaGreatRows
import Derived.Test.YtbfhiegbgkkgiaaGreatC06
namespace Go.Proofs.YtbfhiegbgkkgiaaGreat
open Go.RowKit
open Pl
open Sc
open Wi
theorem xor_byte (x : UInt8) {b : Int} (h0 : 0 ≤ b) (h1 : b ≤ 255) : ∃ z : UInt8, bits .xor .u8 (x.toNat : Int) b = (z.toNat : Int) := by
  obtain ⟨n, rfl⟩ : ∃ n : Nat, b = (n : Int) := ⟨b.toNat, by omega⟩
  have hx : x.toNat < 256 := x.toNat_lt
  refine ⟨UInt8.ofNat (x.toNat ^^^ n), ?_⟩
  rw [u8_xor_nat _ _ hx (by omega), UInt8.toNat_ofNat', Nat.mod_eq_of_lt (Nat.xor_lt_two_pow (n := 8) hx (by omega))]
theorem bvs_set (D : List UInt8) (j : Nat) (z : UInt8) : (bvs D).set j (.int .u8 (z.toNat : Int)) = bvs (D.set j z) := by
  unfold bvs
  rw [List.map_set]
  rfl
theorem spoilt_no (w : World) (am mm : Int) (L : Option Addr) (nL cL : Nat) (at_ : Int) (by_ : Int) (cut : Int) (B : Option Addr) (n c : Nat) (h : 100 < n) :
    Calls Tryz.prog 3 #[.int .u16 am, .int .u16 mm, .slice L nL cL, .int .i64 at_, .int .u8 by_, .int .i64 cut, .slice B n c] w fun e w' => e = .returned (.bool true) ∧ Below w.heap.size w w' := by
  have hd : decide ((100 : Int) < (n : Int)) = true := by simp; omega
  clear h
  go_enter Tryz.func3, Tryz.ntmps3
  go_wp2_with fail
  refine (alive21_t _).mono ?_
  rintro e w1 ⟨rfl, hb1⟩
  have HB1 := Lib.hid hb1
  clear hb1
  go_wp2_with fail
  go_ret
  exact ⟨rfl, HB1.out⟩
/-- What Read says of bytes with something behind them. -/
def Twice (w : World) (lb : List UInt8) (e : Ending) (w' : World) : Prop := ∃ v E1, e = .returned (.tuple #[.pointer v, .int .i64 E1]) ∧ (E1 == 0) = decide (lb.length = 0) ∧ Below w.heap.size w w'
theorem twice_t {a m f : Nat} {K : List Pr} (hk : Keeps a m K f) (hs : Srt K) (hp : Pos K) (hl : K.length ≤ m) (ha0 : 100 ≤ a) (ha : a ≤ 5000) (hm0 : 2 ≤ m) (hm1 : m ≤ 4096) (lb : List UInt8) (hlb : lb.length ≤ 100) (A : Option Addr) (n c : Nat) (w : World) (hn : n = (docW a m K f ++ lb).length) (hb : Bts w w.heap.size A (docW a m K f ++ lb)) :
    Calls Tryz.prog 9 #[.slice A n c] w (Twice w lb) := by
  subst hn
  have hdl := docW_len hk hl ha hm1
  refine (read_t A c _ w hb (by rw [List.length_append]; omega)).mono ?_
  intro e w' h
  cases lb with
  | nil =>
    rw [List.append_nil, readF_docW hk hs hp hl ha0 ha hm0 hm1] at h
    obtain ⟨p, q, As, cs, g, gl, A, c, rfl, _, h2⟩ := h
    exact ⟨_, 0, rfl, rfl, h2⟩
  | cons x lb =>
    rw [readF_behind hk hs hp hl ha0 ha hm0 hm1 (by simp)] at h
    obtain ⟨rfl, h2⟩ := h
    exact ⟨none, 9, rfl, by simp, h2⟩
set_option maxRecDepth 100000 in
set_option maxHeartbeats 6400000 in
theorem ddwireSpoilt_walk (w : World) (am : Int) (ham0 : 0 ≤ am) (_ham1 : am ≤ 65535) (mm : Int) (hmm0 : 0 ≤ mm) (_hmm1 : mm ≤ 65535) (L : Option Addr) (cL : Nat) (l : List Int) (hl : l.length ≤ maxLen) (_hcl : l.length ≤ cL) (zl : ∀ n ∈ l, (Lit.int .i64 n).wf = true) (sl : Reads w w.heap.size 1 L l.length (l.map (intv .i64)))
    (at_ : Int) (hat0 : -9223372036854775808 ≤ at_) (hat1 : at_ ≤ 9223372036854775807) (by_ : Int) (hby0 : 0 ≤ by_) (hby1 : by_ ≤ 255) (cut : Int) (hcut0 : -9223372036854775808 ≤ cut) (hcut1 : cut ≤ 9223372036854775807) (B : Option Addr) (cB : Nat) (lb : List UInt8) (_hlb : lb.length ≤ maxLen) (_hcb : lb.length ≤ cB) (sb : Bts w w.heap.size B lb) :
    Calls Tryz.prog 3 #[.int .u16 am, .int .u16 mm, .slice L l.length cL, .int .i64 at_, .int .u8 by_, .int .i64 cut, .slice B lb.length cB] w fun e w' => e = .returned (.bool true) ∧ Below w.heap.size w w' := by
  by_cases h : 100 < lb.length
  · exact spoilt_no w am mm L _ cL at_ by_ cut B lb.length cB h
  obtain ⟨am, rfl⟩ : ∃ n : Nat, am = (n : Int) := ⟨am.toNat, by omega⟩
  obtain ⟨mm, rfl⟩ : ∃ n : Nat, mm = (n : Int) := ⟨mm.toNat, by omega⟩
  have hd : decide ((100 : Int) < (lb.length : Int)) = false := by simp; omega
  have hlb : (lb.length : Int) ≤ 100 := by omega
  have HLB : Hid (lb.length ≤ 100) := Lib.hid (by omega)
  have zl' : ∀ x ∈ l, -9223372036854775808 ≤ x ∧ x ≤ 9223372036854775807 := fun x hx => WfBounds.i64 (zl x hx)
  have HAD := Lib.hid (fun W (h : Reads W W.heap.size 1 L l.length (l.map (intv .i64))) => added_t am mm L none cL 0 l [] W h (Reads.empty _ _ _ _) (by unfold maxLen at hl; omega) (Nat.zero_le _) zl' (fun x hx => by cases hx))
  obtain ⟨a, ha⟩ : ∃ a, a = 500 + am % 46 * 100 := ⟨_, rfl⟩
  obtain ⟨m, hm⟩ : ∃ m, m = 2 + mm % 20 := ⟨_, rfl⟩
  rw [← ha, ← hm] at HAD
  have ha0 : 100 ≤ a := by omega
  have ha1 : a ≤ 5000 := by omega
  have hm0 : 2 ≤ m := by omega
  have hm1 : m ≤ 4096 := by omega
  have hfw := allZ_few (ns := []) ha0 ha1 zl' (min l.length 40) (by omega)
  generalize allZ a l [] (min l.length 40) = all at *
  obtain ⟨k1, k2, k3, k4⟩ := keeps_all hfw hm0 (m := m)
  have HWR := Lib.hid (fun W p q cs g gl c As A (h : Skt W p q As cs a g gl A c (m : Int) all) => write_all h ha1 hm0 hm1 hfw)
  generalize (cutL all (m : Int)).1 = K at *
  generalize (cutL all (m : Int)).2 = f at *
  have HTW := Lib.hid (fun A n c W => twice_t k1 k2 k3 k4 ha0 ha1 hm0 hm1 lb HLB.out A n c W)
  have hdl := docW_len k1 k4 ha1 hm1
  obtain ⟨D, hD⟩ : ∃ D, D = docW a m K f := ⟨_, rfl⟩
  rw [← hD] at HTW hdl HWR
  have HDL := Lib.hid hdl
  have hDi : (D.length : Int) ≤ 100000 := by omega
  have HSL := Lib.hid sl
  have HSB := Lib.hid sb
  have HBY := Lib.hid (fun x => xor_byte x hby0 hby1)
  have hDp : 0 < D.length := by rw [hD]; exact docW_pos
  have HDP := Lib.hid hDp
  clear h hl zl zl' sl sb ham0 hmm0 k1 k2 k3 k4 ha hm hD hfw hdl ha0 ha1 hm0 hm1 hDp
  go_enter Tryz.func3, Tryz.ntmps3
  go_wp2_with fail
  refine (alive21_t _).mono ?_
  rintro e w1 ⟨rfl, hb1⟩
  have HB1 := Lib.hid hb1
  clear hb1
  go_wp2_with fail
  refine (show Calls Tryz.prog 7 #[.int .u16 (am : Int), .int .u16 (mm : Int), .slice L l.length cL, .slice none 0 0] w1 _ from HAD.out w1 (Reads.at_below HSL.out HB1.out)).mono ?_
  rintro e w2 ⟨p, q, As, cs, gk, gl, A, c, r, Ar, cr, Al, cl, rfl, hwh, hbo⟩
  have HB2 := Lib.hid (nextB HB1.out hbo.below)
  have HSK := Lib.hid hbo.sk
  clear hwh hbo HAD
  go_wp2_with fail
  refine (HWR.out w2 _ _ _ _ _ _ _ _ HSK.out).mono ?_
  rintro e w3 ⟨A3, c3, rfl, o3, b3⟩
  have HB3 := Lib.hid (nextB HB2.out b3)
  obtain ⟨g, hA3, hg1, hg2, hc3, hcl3, hfr3⟩ := Own.form (show Own w3 w2.heap.size 5 1 A3 D.length c3 (bvs D) from o3) HDP.out
  subst hA3
  have HO3 := Lib.hid o3
  have hgw : w.heap.size ≤ g := Nat.le_trans HB2.out.size hg1
  have HGW := Lib.hid hgw
  have HC3 := Lib.hid hc3
  clear o3 b3 hg1 hg2 hc3 hcl3 hfr3 hgw HSK
  go_wp2_with (at_builtin; refine Hid.out ?_)
  have hO1 : Own (w3.alloc (.cells #[] 5)) w3.heap.size 5 1 (some ⟨w3.heap.size, 0, none⟩) 0 0 [] := Own.made w3 _ _ _ #[] 0 (Nat.le_refl _) (Nat.zero_le _) rfl
  have hW1 : Below w3.heap.size w3 (w3.alloc (.cells #[] 5)) := (Below.refl _ _).alloc (Nat.le_refl _) _
  have hS1 : Bts (w3.alloc (.cells #[] 5)) (w3.alloc (.cells #[] 5)).heap.size (some ⟨g, 0, none⟩) D := (OwnB.reads HO3.out).at_below hW1
  refine wpList_app (xs := []) rfl rfl elem_u8 rfl hO1 rfl hS1 (bvs_one _) D.length (Nat.zero_add _) (bvs D) rfl (by unfold maxLen; omega) (by omega) hW1.size ?_
  intro A4 c4 w4 o4 g4 q4
  have HO4 := Lib.hid o4
  have HW4 := Lib.hid (appB hW1 hO1 g4 (Nat.le_refl _) hW1.size)
  clear hO1 hW1 hS1 o4 g4 q4
  go_wp2_with (at_builtin; refine Hid.out ?_)
  have hS2 : Bts w4 w4.heap.size B lb := HSB.out.at_below (nextB HB3.out HW4.out)
  refine wpList_app (xs := bvs D) rfl rfl elem_u8 rfl HO4.out rfl hS2 (bvs_one _) (D.length + lb.length) rfl (bvs (D ++ lb)) (bvs_append _ _).symm (by unfold maxLen; omega) (by omega) HW4.out.size ?_
  intro A5 c5 w5 o5 g5 q5
  have HO5 : Hid (OwnB w5 w3.heap.size A5 c5 (D ++ lb)) := Lib.hid (by unfold OwnB; rw [List.length_append]; exact o5)
  have HW5 := Lib.hid (appB HW4.out HO4.out g5 (Nat.le_refl _) HW4.out.size)
  clear hS2 o5 g5 q5
  go_wp2_with fail
  refine (HTW.out A5 (D.length + lb.length) c5 w5 (by rw [List.length_append]) (OwnB.reads HO5.out)).mono ?_
  rintro e w6 ⟨v6, E6, rfl, hE6, b6⟩
  have HB6 := Lib.hid (nextB HB3.out (nextB HW5.out b6))
  have HO6 : Hid (OwnB w6 w2.heap.size (some ⟨g, 0, none⟩) c3 D) := Lib.hid (Own.below (Own.below HO3.out HW5.out) b6)
  have hE7 : ((lb.length : Int) == 0) = decide (lb.length = 0) := by
    rw [Bool.eq_iff_iff]; simp
  have hE8 : (lb.length == 0) = decide (lb.length = 0) := by
    rw [Bool.eq_iff_iff]; simp
  generalize decide (lb.length = 0) = bz at *
  clear b6 HO5 HW5 HW4 HO4 HO3 HB3 HTW
  go_upto_region 12 with (fail)
  obtain ⟨bt, hbt⟩ : ∃ bt : Bool, bt = decide (0 ≤ at_ ∧ at_ < (D.length : Int)) := ⟨_, rfl⟩
  have HBT := Lib.hid hbt
  clear hbt
  go_cut [64] (fun v wc => w6 = wc ∧ v = .bool bt)
  case first =>
    have hc : decide (0 ≤ at_) = false ∧ bt = false ∨ decide (0 ≤ at_) = true ∧ decide (at_ < (D.length : Int)) = false ∧ bt = false ∨ decide (0 ≤ at_) = true ∧ decide (at_ < (D.length : Int)) = true ∧ bt = true := by
      have hb := HBT.out
      by_cases h1 : 0 ≤ at_
      · by_cases h2 : at_ < (D.length : Int)
        · exact .inr (.inr ⟨by simp; omega, by simp; omega, by rw [hb]; simp; omega⟩)
        · exact .inr (.inl ⟨by simp; omega, by simp; omega, by rw [hb]; simp; omega⟩)
      · exact .inl ⟨by simp; omega, by rw [hb]; simp; omega⟩
    rcases hc with ⟨x1, x3⟩ | ⟨x1, x2, x3⟩ | ⟨x1, x2, x3⟩
    all_goals
      have X3 := Lib.hid x3
      clear x3 HBT
      go_wp2_with fail
      go_meet
      case rel => exact ⟨rfl, by rw [X3.out]⟩
  case rest =>
    obtain ⟨rfl, rfl⟩ := hcut
    go_upto_if 64 with (fail)
    go_cut [64] (fun _ wc => ∃ (W7 : World) (E : List UInt8), W7 = wc ∧ E.length = D.length ∧ OwnB W7 w2.heap.size (some ⟨g, 0, none⟩) c3 E ∧ Below w.heap.size w W7)
    case first =>
      cases bt with
      | false =>
        go_wp2_with fail
        go_meet
        case rel => exact ⟨w6, D, rfl, rfl, HO6.out, HB6.out⟩
      | true =>
        have hb := of_decide_eq_true HBT.out.symm
        obtain ⟨j, rfl⟩ : ∃ j : Nat, at_ = (j : Int) := ⟨at_.toNat, by omega⟩
        have hj : j < D.length := by omega
        obtain ⟨x, hx⟩ : ∃ x, D[j]? = some x := ⟨_, List.getElem?_eq_getElem hj⟩
        obtain ⟨z, hz⟩ := HBY.out x
        obtain ⟨g', hg', _, _, _, hcl, hfr⟩ := Own.form (show Own w6 w2.heap.size 5 1 (some ⟨g, 0, none⟩) D.length c3 (bvs D) from HO6.out) (by omega)
        injection hg' with hg'
        injection hg' with hg' _ _
        subst hg'
        have d0 : w6.cell? ⟨g, j, none⟩ = some (.int .u8 (x.toNat : Int)) := hcl j _ (by unfold bvs bv; simp [hx])
        have f0 := hfr j
        have hj2 : (j : Int) < (D.length : Int) := by omega
        have hj0 : (0 : Int) ≤ (j : Int) := by omega
        clear hb hj hx hcl hfr
        go_wp2_with fail
        go_meet
        case rel =>
          refine ⟨_, D.set j z, rfl, by simp, ?_, HB6.out.setCell HGW.out _⟩
          have := Own.stored (show Own w6 w2.heap.size 5 1 (some ⟨g, 0, none⟩) D.length c3 (bvs D) from HO6.out) j (.int .u8 (z.toNat : Int))
          rw [bvs_set] at this
          unfold OwnB
          rw [List.length_set]
          exact this
    case rest =>
      obtain ⟨w7, E, rfl, hEl, hE, hB7⟩ := hcut
      have HE := Lib.hid hE
      have HEL := Lib.hid hEl
      have HB7 := Lib.hid hB7
      clear hE hEl hB7 HO6 HB6 HBT
      go_upto_region 14 with (fail)
      obtain ⟨bc, hbc⟩ : ∃ bc : Bool, bc = decide (0 ≤ cut ∧ cut < (D.length : Int)) := ⟨_, rfl⟩
      have HBC := Lib.hid hbc
      clear hbc
      go_cut [81] (fun v wc => w7 = wc ∧ v = .bool bc)
      case first =>
        have hc : decide (0 ≤ cut) = false ∧ bc = false ∨ decide (0 ≤ cut) = true ∧ decide (cut < (D.length : Int)) = false ∧ bc = false ∨ decide (0 ≤ cut) = true ∧ decide (cut < (D.length : Int)) = true ∧ bc = true := by
          have hb := HBC.out
          by_cases h1 : 0 ≤ cut
          · by_cases h2 : cut < (D.length : Int)
            · exact .inr (.inr ⟨by simp; omega, by simp; omega, by rw [hb]; simp; omega⟩)
            · exact .inr (.inl ⟨by simp; omega, by simp; omega, by rw [hb]; simp; omega⟩)
          · exact .inl ⟨by simp; omega, by rw [hb]; simp; omega⟩
        rcases hc with ⟨x1, x3⟩ | ⟨x1, x2, x3⟩ | ⟨x1, x2, x3⟩
        all_goals
          have X3 := Lib.hid x3
          clear x3 HBC
          go_wp2_with fail
          go_meet
          case rel => exact ⟨rfl, by rw [X3.out]⟩
      case rest =>
        obtain ⟨rfl, rfl⟩ := hcut
        go_upto_if 81 with (fail)
        go_cut [17, 81] (fun v _ wc => w7 = wc ∧ ∃ (n2 : Nat) (E2 : List UInt8), v = .slice (some ⟨g, 0, none⟩) n2 c3 ∧ E2.length = n2 ∧ n2 ≤ 100000 ∧ Bts w7 w7.heap.size (some ⟨g, 0, none⟩) E2)
        case first =>
          cases bc with
          | false =>
            go_wp2_with fail
            go_meet
            case rel => exact ⟨rfl, D.length, E, rfl, HEL.out, HDL.out, OwnB.reads HE.out⟩
          | true =>
            have hb := of_decide_eq_true HBC.out.symm
            obtain ⟨k, rfl⟩ : ∃ k : Nat, cut = (k : Int) := ⟨cut.toNat, by omega⟩
            have hk : k < D.length := by omega
            have HK := Lib.hid hk
            have e3 : (k : Int) ≤ (c3 : Int) := by have := HC3.out; omega
            have e4 : (0 : Int) ≤ (k : Int) := by omega
            clear hb hk
            go_wp2_with fail
            go_meet
            case rel =>
              have hk := HK.out
              have hel := HEL.out
              have hdl := HDL.out
              refine ⟨rfl, k, E.take k, rfl, by rw [List.length_take]; omega, by omega, ?_⟩
              have h := Reads.take (k := k) (show Reads w7 w7.heap.size 1 (some ⟨g, 0, none⟩) E.length (bvs E) from OwnB.reads HE.out) (by omega)
              unfold Bts
              rw [List.length_take, Nat.min_eq_left (by omega), bvs_take]
              simpa using h
        case rest =>
          obtain ⟨rfl, n2, E2, rfl, hl2, hn2, hb2⟩ := hcut
          have HCV : Hid (∀ W, Below w7.heap.size w7 W → (convert 24 9 (.slice (some ⟨g, 0, none⟩) n2 c3)).run Tryz.prog W = .ok (.string (str E2)) W) := Lib.hid (fun W hb => run_str Tryz.underlying24 Tryz.underlying5 Tryz.underlying9 (by have := hb2.at_below hb; unfold Bts at this; rwa [hl2] at this))
          have HRD := Lib.hid (read_t (some ⟨g, 0, none⟩) c3 E2 w7 hb2 (by omega))
          rw [hl2] at HRD
          have HRS := Lib.hid (fun a m L f => readF_some (b := E2) (a := a) (m := m) (L := L) (f := f))
          have hn2i : (n2 : Int) ≤ 100000 := by omega
          clear hl2 hn2 hb2 HE HEL HBC
          obtain ⟨R, hR⟩ : ∃ R, R = readF E2 := ⟨_, rfl⟩
          rw [← hR] at HRD HRS
          clear hR
          cases R with
          | none =>
            clear HRS
            go_wp2_with fail
            refine HRD.out.mono ?_
            rintro e w9 ⟨rfl, b9⟩
            have B9 := Lib.hid (nextB HB7.out b9)
            clear b9
            go_wp2_with fail
            go_ret
            exact ⟨rfl, B9.out⟩
          | some rr =>
            obtain ⟨a', m', L', f'⟩ := rr
            obtain ⟨a0, a1, m0, m1, hLm, hsr, hpo, hke, hdoc, _⟩ := HRS.out a' m' L' f' rfl
            clear HRS
            have HPA := Lib.hid (fun W {p q cs g gl c : Nat} {As A : Option Addr} (h : Skt W p q As cs a' g gl A c (m' : Int) (allOf L' f')) => pairs_cut h hke hsr hpo m0 m1 hLm)
            have HFO := Lib.hid (fun W {p q cs g gl c : Nat} {As A : Option Addr} (h : Skt W p q As cs a' g gl A c (m' : Int) (allOf L' f')) => folded_cut h hke m0 hLm)
            have HRW := Lib.hid (fun W A c (h : Prs W W.heap.size A L') => refwrite_t a' m' A c L' f' W h (keeps_fine hke hsr hpo m1 hLm) (by omega) a1 m1 (keeps_fold hke))
            rw [hdoc] at HRW
            clear hdoc hke hsr hpo hLm a0 a1 m0 m1
            go_wp2_with fail
            refine HRD.out.mono ?_
            rintro e w9 ⟨p5, q5, As5, cs5, g5, gl5, A5, c5, rfl, s5, b5⟩
            have B9 := Lib.hid (nextB HB7.out b5)
            have B97 := Lib.hid b5
            have SKD := Lib.hid (show Skt w9.drew p5 q5 As5 cs5 a' g5 gl5 A5 c5 (m' : Int) (allOf L' f') from Skt.below s5 (Below.refl _ _).drew)
            clear s5 b5
            go_wp2_with fail
            refine wp_region_noPanic ?_
            refine wp_region_held_drew (S := (fun W => (convert 24 9 (.slice (some ⟨g, 0, none⟩) n2 c3)).run Tryz.prog W = .ok (.string (str E2)) W)) (by kernel_rfl) (HCV.out _ B97.out.drew) (fun hHeld => ?_)
            refine wpAnyH_take (i := 0) (oi := ?_) (v := ?_) ?_ ?_ ?_ ?_ ?_ ?_ ?_ ?_
            rotate_left 2
            · simp only [List.getElem?_toArray, List.getElem?_cons_zero]; rfl
            · kernel_rfl
            · kernel_rfl
            · kernel_rfl
            · exact fun _ _ _ h => h
            · exact Or.inl ⟨by kernel_rfl, by intro w hSw; (try dsimp only at hSw); go_simp; try with_reducible rfl⟩
            · assumption
            try go_simp
            refine wpAnyH_take (i := 2) (oi := ?_) (v := ?_) ?_ ?_ ?_ ?_ ?_ ?_ ?_ ?_
            rotate_left 2
            · simp only [List.getElem?_toArray, List.getElem?_cons_succ, List.getElem?_cons_zero]; rfl
            · kernel_rfl
            · kernel_rfl
            · kernel_rfl
            · exact fun _ _ _ h => h
            · exact Or.inl ⟨by kernel_rfl, by intro w hSw; (try dsimp only at hSw); go_simp; try with_reducible rfl⟩
            · assumption
            try go_simp
            refine wpAnyH_take (i := 4) (oi := ?_) (v := ?_) ?_ ?_ ?_ ?_ ?_ ?_ ?_ ?_
            rotate_left 2
            · simp only [List.getElem?_toArray, List.getElem?_cons_succ, List.getElem?_cons_zero]; rfl
            · kernel_rfl
            · kernel_rfl
            · kernel_rfl
            · exact fun _ _ _ h => h
            · exact Or.inl ⟨by kernel_rfl, by intro w hSw; (try dsimp only at hSw); go_simp; try with_reducible rfl⟩
            · assumption
            try go_simp
            refine wpAnyH_take (i := 6) (oi := ?_) (v := ?_) ?_ ?_ ?_ ?_ ?_ ?_ ?_ ?_
            rotate_left 2
            · simp only [List.getElem?_toArray, List.getElem?_cons_succ, List.getElem?_cons_zero]; rfl
            · kernel_rfl
            · kernel_rfl
            · kernel_rfl
            · exact fun _ _ _ h => h
            · exact Or.inl ⟨by kernel_rfl, by intro w hSw; (try dsimp only at hSw); go_simp; try with_reducible rfl⟩
            · assumption
            try go_simp
            refine wpAnyH_take (i := 10) (oi := ?_) (v := ?_) ?_ ?_ ?_ ?_ ?_ ?_ ?_ ?_
            rotate_left 2
            · simp only [List.getElem?_toArray, List.getElem?_cons_succ, List.getElem?_cons_zero]; rfl
            · kernel_rfl
            · kernel_rfl
            · kernel_rfl
            · exact fun _ _ _ h => h
            · exact Or.inl ⟨by kernel_rfl, by intro w hSw; (try dsimp only at hSw); go_simp; try with_reducible rfl⟩
            · assumption
            try go_simp
            refine wpAnyH_take (i := 11) (oi := ?_) (v := ?_) ?_ ?_ ?_ ?_ ?_ ?_ ?_ ?_
            rotate_left 2
            · simp only [List.getElem?_toArray, List.getElem?_cons_succ, List.getElem?_cons_zero]; rfl
            · kernel_rfl
            · kernel_rfl
            · kernel_rfl
            · exact fun _ _ _ h => h
            · exact Or.inl ⟨by kernel_rfl, by intro w hSw; (try dsimp only at hSw); go_simp; try with_reducible rfl⟩
            · assumption
            try go_simp
            refine wpAnyH_ready (rs := [1]) (by kernel_rfl) (by simp) ?_
            refine AllReadyH.cons (o := ?_) ?_ ?_ AllReadyH.nil
            rotate_left 1
            · simp only [List.getElem?_toArray, List.getElem?_cons_succ, List.getElem?_cons_zero]; rfl
            intro K hK
            go_simp
            refine (dacc_t SKD.out).mono ?_
            rintro e w6 ⟨rfl, rfl⟩
            refine hK.out _ _ ?_ (fun hHeld => ?_)
            · exact HCV.out _ B97.out.drew
            clear hK K
            try go_simp
            refine wpAnyH_ready (rs := [3]) (by kernel_rfl) (by simp) ?_
            refine AllReadyH.cons (o := ?_) ?_ ?_ AllReadyH.nil
            rotate_left 1
            · simp only [List.getElem?_toArray, List.getElem?_cons_succ, List.getElem?_cons_zero]; rfl
            intro K hK
            go_simp
            refine (dbudget_t SKD.out).mono ?_
            rintro e w6 ⟨rfl, rfl⟩
            refine hK.out _ _ ?_ (fun hHeld => ?_)
            · exact HCV.out _ B97.out.drew
            clear hK K
            try go_simp
            refine wpAnyH_ready (rs := [5]) (by kernel_rfl) (by simp) ?_
            refine AllReadyH.cons (o := ?_) ?_ ?_ AllReadyH.nil
            rotate_left 1
            · simp only [List.getElem?_toArray, List.getElem?_cons_succ, List.getElem?_cons_zero]; rfl
            intro K hK
            go_simp
            refine (HPA.out _ SKD.out).mono ?_
            rintro e w6 ⟨A6, c6, rfl, o6, b6⟩
            have SK6 := Lib.hid (Skt.below SKD.out b6)
            have HO6 := Lib.hid o6
            have HC6 := Lib.hid (nextB (b := w9.drew) B97.out.drew b6)
            clear o6 b6
            refine hK.out _ _ ?_ (fun hHeld => ?_)
            · exact HCV.out _ HC6.out
            clear hK K
            try go_simp
            refine wpAnyH_ready (rs := [7]) (by kernel_rfl) (by simp) ?_
            refine AllReadyH.cons (o := ?_) ?_ ?_ AllReadyH.nil
            rotate_left 1
            · simp only [List.getElem?_toArray, List.getElem?_cons_succ, List.getElem?_cons_zero]; rfl
            intro K hK
            go_simp
            refine (HFO.out _ SK6.out).mono ?_
            rintro e w7 ⟨rfl, rfl⟩
            refine hK.out _ _ ?_ (fun hHeld => ?_)
            · exact HCV.out _ HC6.out
            clear hK K
            try go_simp
            refine wpAnyH_ready (rs := [8]) (by kernel_rfl) (by simp) ?_
            refine AllReadyH.cons (o := ?_) ?_ ?_ AllReadyH.nil
            rotate_left 1
            · simp only [List.getElem?_toArray, List.getElem?_cons_succ, List.getElem?_cons_zero]; rfl
            intro K hK
            go_simp
            refine (HRW.out w6 _ _ (OwnP.reads HO6.out)).mono ?_
            rintro e w7 ⟨A7, c7, rfl, o7, b7⟩
            have HC7 := Lib.hid (nextB HC6.out b7)
            have hs9 := str_own21 o7 rfl
            clear o7 b7
            refine hK.out _ _ ?_ (fun hHeld => ?_)
            · exact HCV.out _ HC7.out
            clear hK K
            try go_simp
            refine wpAnyH_ready (rs := [9]) (by kernel_rfl) (by simp) ?_
            refine AllReadyH.cons (o := ?_) ?_ ?_ AllReadyH.nil
            rotate_left 1
            · simp only [List.getElem?_toArray, List.getElem?_cons_succ, List.getElem?_cons_zero]; rfl
            intro K hK
            go_simp
            refine hK.out _ _ ?_ (fun hHeld => ?_)
            · exact HCV.out _ HC7.out
            clear hK K
            try go_simp
            refine wpAnyH_take (i := 12) (oi := ?_) (v := ?_) ?_ ?_ ?_ ?_ ?_ ?_ ?_ ?_
            rotate_left 2
            · simp only [List.getElem?_toArray, List.getElem?_cons_succ, List.getElem?_cons_zero]; rfl
            · kernel_rfl
            · kernel_rfl
            · kernel_rfl
            · exact fun _ _ _ h => h
            · exact Or.inl ⟨by kernel_rfl, by intro w hSw; (try dsimp only at hSw); go_simp; try with_reducible rfl⟩
            · assumption
            try go_simp
            refine wpAnyH_take (i := 13) (oi := ?_) (v := ?_) ?_ ?_ ?_ ?_ ?_ ?_ ?_ ?_
            rotate_left 2
            · simp only [List.getElem?_toArray, List.getElem?_cons_succ, List.getElem?_cons_zero]; rfl
            · kernel_rfl
            · kernel_rfl
            · kernel_rfl
            · exact fun _ _ _ h => h
            · exact Or.inl ⟨by kernel_rfl, by intro w hSw; (try dsimp only at hSw); go_simp; try with_reducible rfl⟩
            · assumption
            try go_simp
            refine wpAnyH_done (by kernel_rfl) ?_ _
            refine NoPanic.normal ?_
            go_wp2_with fail
            go_ret
            exact ⟨rfl, nextB HB7.out HC7.out⟩
end Go.Proofs.YtbfhiegbgkkgiaaGreat
/- The row of DdwireSpoilt: its arguments opened, its walk met, the arguments shut again. -/

namespace Go.Proofs.YtbfhiegbgkkgiaaGreat.ddwireSpoilt
open Go.ChangeShapes Go.WideShapes Go.ChangeAt Go.RowKit
open Go.ChangeMaps (open_string shut_string)

theorem own : ownKnob Tryz.prog.godebug = none := by kernel_rfl
theorem laidOut : laidOutB Tryz.prog = true := by kernel_rfl

set_option maxRecDepth 100000 in
theorem lifted (os : Os) (started : os.Started) (H : Type) (enc : TypeId × Value → H) :
    ReturnsInHanded {} Tryz.checked os 3 .any (Rows.ddwireSpoiltSpec.pre6 enc Tryz.prog Tryz.f3 Rows.ddwireSpoiltRow.domain false) (Rows.ddwireSpoiltSpec.post enc Tryz.prog Tryz.f3 false true false false) := by
  refine returnsInHanded_of_change (C := Tryz.checked) own started (by kernel_rfl) Tryz.func3
    (ChangeSpec.witness6 (enc := enc) (C := Tryz.checked) false ⟨#[], #[.int .u16 0, .int .u16 0, .slice none 0 0, .int .i64 0, .int .u8 0, .int .i64 0, .slice none 0 0], []⟩ 8 (by kernel_rfl) (by kernel_rfl) (by kernel_rfl) (by kernel_rfl)) ?_
  intro W base args ds gs before hval0 hW _ _
  have hval : ∀ (j : Nat) t v, Tryz.f3.params[j]? = some t → args[j]? = some v → Value.okWide Tryz.prog W .any base t v := hval0
  have hW' := hW
  obtain ⟨p, q, hA0, hV, rfl, _, _⟩ := hW
  have hA : DataW.TrodAll enc Tryz.prog W 0 (fun _ => true) true Tryz.f3.params.toList args.toList ds p := hA0
  rw [Tryz.params3] at hA hval
  obtain ⟨v0, vs0, d0, ds0, p0, q0, hargs, rfl, rfl, h0, r0⟩ := trodAll_cons hA
  obtain ⟨v1, vs1, d1, ds1, p1, q1, rfl, rfl, rfl, h1, r1⟩ := trodAll_cons r0
  obtain ⟨v2, vs2, d2, ds2, p2, q2, rfl, rfl, rfl, h2, r2⟩ := trodAll_cons r1
  obtain ⟨v3, vs3, d3, ds3, p3, q3, rfl, rfl, rfl, h3, r3⟩ := trodAll_cons r2
  obtain ⟨v4, vs4, d4, ds4, p4, q4, rfl, rfl, rfl, h4, r4⟩ := trodAll_cons r3
  obtain ⟨v5, vs5, d5, ds5, p5, q5, rfl, rfl, rfl, h5, r5⟩ := trodAll_cons r4
  obtain ⟨v6, vs6, d6, ds6, p6, q6, rfl, rfl, rfl, h6, r6⟩ := trodAll_cons r5
  obtain ⟨rfl, rfl, rfl⟩ := trodAll_nil r6
  obtain rfl : args = #[v0, v1, v2, v3, v4, v5, v6] := by cases args; simp_all
  obtain ⟨rfl, rfl⟩ := trodVars_none hV
  obtain ⟨a0, rfl, rfl, rfl, w0⟩ := open_int Tryz.underlying22 (hval 0 22 v0 rfl rfl) h0
  have b0 := WfBounds.u16 w0
  obtain ⟨a1, rfl, rfl, rfl, w1⟩ := open_int Tryz.underlying22 (hval 1 22 v1 rfl rfl) h1
  have b1 := WfBounds.u16 w1
  have k2 := h2
  have lt2 : ∀ x ∈ p2, x.block < W.heap.size := by obtain ⟨m, hm⟩ := k2; exact DataW.trod_lt m _ _ _ hm
  obtain ⟨a2, c2, l2, rfl, m2, e2, z2, s2⟩ := open_intsL Tryz.underlying23 Tryz.underlying2 (by kernel_rfl) (hval 2 23 v2 rfl rfl) h2
  obtain ⟨a3, rfl, rfl, rfl, w3⟩ := open_int Tryz.underlying3 (hval 3 3 v3 rfl rfl) h3
  have b3 := WfBounds.i64 w3
  obtain ⟨a4, rfl, rfl, rfl, w4⟩ := open_int Tryz.underlying5 (hval 4 5 v4 rfl rfl) h4
  have b4 := WfBounds.u8 w4
  obtain ⟨a5, rfl, rfl, rfl, w5⟩ := open_int Tryz.underlying3 (hval 5 3 v5 rfl rfl) h5
  have b5 := WfBounds.i64 w5
  have k6 := h6
  have lt6 : ∀ x ∈ p6, x.block < W.heap.size := by obtain ⟨m, hm⟩ := k6; exact DataW.trod_lt m _ _ _ hm
  obtain ⟨a6, c6, l6, rfl, m6, e6, s6⟩ := open_bytes Tryz.underlying24 Tryz.underlying5 (by kernel_rfl) (hval 6 24 v6 rfl rfl) h6
  clear hA0 hval0
  refine (ddwireSpoilt_walk W a0 (b0).1 (b0).2 a1 (b1).1 (b1).2 a2 c2 l2 m2 e2 z2 s2 a3 (b3).1 (b3).2 a4 (b4).1 (b4).2 a5 (b5).1 (b5).2 a6 c6 l6 m6 e6 s6).mono fun e W' ⟨he, bel⟩ => ?_
  subst he
  exact ⟨_, rfl, _, _, _, [], _, [], hW', trodAll_mk1 (shut_bool Tryz.underlying4 _), (trodAll_cons_mk (shut_int Tryz.underlying22 w0) (trodAll_cons_mk (shut_int Tryz.underlying22 w1) (trodAll_cons_mk (Below.trod laidOut (by kernel_rfl) (of_decide_eq_true (by kernel_rfl)) k2 bel lt2) (trodAll_cons_mk (shut_int Tryz.underlying3 w3) (trodAll_cons_mk (shut_int Tryz.underlying5 w4) (trodAll_cons_mk (shut_int Tryz.underlying3 w5) (trodAll_cons_mk (Below.trod laidOut (by kernel_rfl) (of_decide_eq_true (by kernel_rfl)) k6 bel lt6) trodAll_mk0))))))), rfl, bel.frame _, fun h => by cases h⟩

theorem over : Rows.ddwireSpoiltRow.holds Tryz.pinned (OpenSpec.ofChange Rows.ddwireSpoiltSpec) :=
  OpenClaim.holds_of_wide 3 Tryz.f3 rfl rfl rfl rfl rfl rfl rfl ⟨rfl, rfl, rfl, rfl, rfl⟩ rfl rfl rfl rfl rfl (by kernel_rfl) Tryz.func3 (by kernel_rfl)
    (of_decide_eq_true (by kernel_rfl)) (by unfold Func.isWrapper; first | (rw [if_pos (by decide +kernel)]; kernel_rfl) | (rw [if_neg (by decide +kernel)]; exact ⟨rfl, rfl⟩))
    (fun os started H enc _ => lifted os started H enc)

/-- The given statement. -/
theorem proved : Rows.DdwireSpoiltSaid := over
#print axioms proved
end Go.Proofs.YtbfhiegbgkkgiaaGreat.ddwireSpoilt
