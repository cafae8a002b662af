/- Wire: Put walked. -/
import Derived.Test.YtbfhiegbgkkgiaaM14
namespace Go.Proofs.Ytbfhiegbgkkgiaa
open Go.RowKit
open Wi
/-- Has a number room in a form? -/
def fitsF (f : Frm) (n : Nat) : Bool := decide (f.2.1 = 0) || decide (f.2.1 = 8) || decide (n < 256 ^ f.2.1)
/-- Numbers written by a pattern, behind the bytes S. -/
def putL : List UInt8 → List Nat → List UInt8 → Nat × List UInt8
  | x :: pt, n :: ns, S => match frms[fi x.toNat]? with
    | some f => if fitsF f n then putL pt ns (S ++ encF f n) else (5, [])
    | none => (5, [])
  | _, _, S => (0, S)
def putW (pt : List UInt8) (ns : List Nat) : Nat × List UInt8 := if rightB pt ∧ pt.length = ns.length then putL pt ns [] else (22, [])
def PutPost (w : World) (r : Nat × List UInt8) (e : Ending) (w' : World) : Prop := ∃ A c, e = .returned (.tuple #[.slice A r.2.length c, .int .i64 (r.1 : Nat)]) ∧ OwnB w' w.heap.size A c r.2 ∧ Below w.heap.size w w'
theorem Wr.below {w w' : World} {g : Nat} {A : Option Addr} {c : Nat} {L : List UInt8} (h : Wr w g A c L) (hb : Below w.heap.size w w') : Wr w' g A c L := ⟨h.1.below hb h.1.lt, Own.below h.2 hb⟩
theorem wr_out {w W2 w3 : World} {gw c : Nat} {A : Option Addr} {S L : List UInt8} (hbel : Below w.heap.size w W2) (hg : w.heap.size ≤ gw) (hw : Wr W2 gw A c S) (h3 : Wrote gw A L W2 w3) :
    ∃ A' c', Wr w3 gw A' c' L ∧ Below w.heap.size w w3 := by
  obtain ⟨A', c', h1, h2, _⟩ := h3
  refine ⟨A', c', h1, hbel.trans (h2.below hbel.size (fun i hi => ?_))⟩
  rcases hi with rfl | hi
  · exact hg
  · exact Nat.le_trans hg (Own.block hw.2 hi).1
theorem Us.at_ {w : World} {B : Nat} {A : Option Addr} {l : List Nat} (h : Us w B A l) (hn : 0 < l.length) : ∃ b o, A = some ⟨b, o, none⟩ ∧ b < B ∧ ∀ (j : Nat) (n : Nat), l[j]? = some n → w.cell? ⟨b, o + j, none⟩ = some (.int .u64 (n : Int)) := by
  obtain ⟨b, o, e, hb, hc⟩ := h.2 hn
  exact ⟨b, o, e, hb, fun j n hj => hc j _ (by simp [uvs, uv, hj])⟩
theorem shr_div (n s : Nat) : (n : Int) / 2 ^ (8 * s) = ((n / 256 ^ s : Nat) : Int) := by
  rw [show (256 : Nat) = 2 ^ 8 from rfl, ← Nat.pow_mul, Int.natCast_ediv, Int.natCast_pow]
  rfl
theorem fits_no {f : Frm} {n : Nat} (h1 : 0 < f.2.1) (h2 : (f.2.1 : Int) < 8) (h3 : 0 < (n : Int) / 2 ^ (8 * f.2.1)) : fitsF f n = false := by
  rw [shr_div] at h3
  have h4 : ¬ n < 256 ^ f.2.1 := fun h => by rw [Nat.div_eq_of_lt h] at h3; omega
  unfold fitsF
  rw [decide_eq_false (show ¬ f.2.1 = 0 by omega), decide_eq_false (show ¬ f.2.1 = 8 by omega), decide_eq_false h4]
  rfl
theorem fits_1 {f : Frm} {n : Nat} (h3 : (n : Int) / 2 ^ (8 * f.2.1) ≤ 0) : fitsF f n = true := by
  rw [shr_div] at h3
  have h4 : n < 256 ^ f.2.1 := by
    have hp : 0 < 256 ^ f.2.1 := Nat.pow_pos (by decide)
    rcases Nat.lt_or_ge n (256 ^ f.2.1) with h | h
    · exact h
    · have := Nat.div_pos h hp
      omega
  unfold fitsF
  rw [decide_eq_true h4, Bool.or_true]
theorem fits_2 {f : Frm} {n : Nat} (hs : f.2.1 ≤ 8) (h : (8 : Int) ≤ (f.2.1 : Int)) : fitsF f n = true := by
  unfold fitsF
  rw [decide_eq_true (show f.2.1 = 8 by omega), Bool.or_true, Bool.true_or]
theorem fits_3 {f : Frm} {n : Nat} (h : ¬ 0 < f.2.1) : fitsF f n = true := by
  unfold fitsF
  rw [decide_eq_true (show f.2.1 = 0 by omega), Bool.true_or, Bool.true_or]
set_option maxRecDepth 100000 in
set_option maxHeartbeats 3200000 in
theorem put_t (a : ByteArray) (A0 : Option Addr) (c0 : Nat) (l : List Nat) (w : World) (hb : Us w w.heap.size A0 l) (hl : l.length ≤ 100000000) (hn : ∀ n ∈ l, n < 18446744073709551616) :
    Calls Try.prog 38 #[.string a, .slice A0 l.length c0] w (PutPost w (putW a.data.toList l)) := by
  have hs : a.data.toList.length = a.size := by simp
  have HRT := Lib.hid (fun W => right_t a W)
  by_cases hR : rightB a.data.toList = true
  · rw [hR] at HRT
    by_cases hlen : a.size = l.length
    · have hall : a.data.toList.all okL = true := by
        unfold rightB at hR
        rw [Bool.and_eq_true] at hR
        exact hR.2
      have h64 : a.size ≤ 64 := by
        unfold rightB at hR
        rw [Bool.and_eq_true] at hR
        have := of_decide_eq_true hR.1
        omega
      have ha : (a.size : Int) ≤ 64 := by omega
      have e1 : ((a.size : Int) != (l.length : Int)) = false := by simp; omega
      have e2 : (a.size != l.length) = false := by simp; omega
      have e3 : ((a.size : Int) == (l.length : Int)) = true := by simp; omega
      have e4 : (a.size == l.length) = true := by simp; omega
      obtain ⟨R, hRe⟩ : ∃ R, R = putW a.data.toList l := ⟨_, rfl⟩
      rw [← hRe]
      have HRE : Hid (R = putL a.data.toList l []) := Lib.hid (by rw [hRe, putW, if_pos ⟨hR, by omega⟩])
      have HA := Lib.hid hall
      have HS := Lib.hid hs
      have HB := Lib.hid hb
      have HN := Lib.hid hn
      have HL := Lib.hid hlen
      clear hRe hR hall hs hb h64 hn hlen
      go_enter Try.func38, Try.ntmps38
      go_wp2_with fail
      refine (HRT.out _).mono ?_
      rintro e w1 ⟨rfl, h1⟩
      have H1 := Lib.hid h1
      clear h1
      go_wp2_with fail
      have HW1 := Lib.hid (show Wr (w1.alloc (.cells #[.slice none 0 0] 113)) w1.heap.size none 0 [] from ⟨Blk.new _ _ _, Own.nil _ _ _ _⟩)
      have HB1 := Lib.hid (newB H1.out (.cells #[.slice none 0 0] 113))
      have HG1 : Hid (w.heap.size ≤ w1.heap.size) := Lib.hid H1.out.size
      clear H1 e1 e2 e3 e4
      go_loopw [25] (fun v wr => ∃ (i : Nat) (S : List UInt8) (A : Option Addr) (c : Nat), v = .int .i64 (i : Int) ∧ i ≤ l.length ∧ S.length ≤ 10 * i ∧ R = putL (a.data.toList.drop i) (l.drop i) S ∧ Wr wr w1.heap.size A c S ∧ Below w.heap.size w wr) (fun v _ => l.length - (intOf v).toNat)
      case atStart => exact ⟨0, [], none, 0, rfl, Nat.zero_le _, Nat.zero_le _, HRE.out, HW1.out, HB1.out⟩
      case round =>
        obtain ⟨i, S, A, c, rfl, hi, hS, hRi, hwr, hbel⟩ := hrel
        obtain ⟨wo, rfl⟩ : ∃ wo : World, wo = wr := ⟨_, rfl⟩
        have HW := Lib.hid hwr
        have HBE := Lib.hid hbel
        have HRI := Lib.hid hRi
        clear hwr hbel hRi
        by_cases hlt : i < l.length
        · have hii : (i : Int) < (l.length : Int) := by omega
          have hia : i < a.size := by have := HL.out; omega
          have hia2 : (i : Int) < (a.size : Int) := by omega
          have hi0 : (0 : Int) ≤ (i : Int) := by omega
          obtain ⟨b, o, hA0, hbB, hcl⟩ := Us.at_ (show Us wo w.heap.size A0 l from Reads.keep HB.out fun q hq => HBE.out.cell hq) (by omega)
          subst hA0
          obtain ⟨n, hnn⟩ : ∃ n, l[i]? = some n := ⟨_, List.getElem?_eq_getElem hlt⟩
          have d0 := hcl i n hnn
          have hn64 := HN.out n (List.mem_of_getElem? hnn)
          obtain ⟨f, hf⟩ := ok_at HA.out hia
          have hRn : R = if fitsF f n then putL (a.data.toList.drop (i + 1)) (l.drop (i + 1)) (S ++ encF f n) else (5, []) := by
            obtain ⟨h1, h2⟩ := List.getElem?_eq_some_iff.1 hnn
            rw [HRI.out, drop_str hia, List.drop_eq_getElem_cons h1, h2, putL, hf]
          have hel := enc_len hf hn64
          have hs8 := frm_size hf
          have HRN := Lib.hid hRn
          have HF := Lib.hid hf
          have HI := Lib.hid hlt
          have HEL := Lib.hid hel
          clear hcl hnn hRn hf hi hel
          go_wp2_with fail
          refine (formOf_t _ wo).mono ?_
          rintro e w2 ⟨hc, hb1⟩
          have HB2 := Lib.hid hb1
          clear hb1
          rcases hc with ⟨f', hf', rfl⟩ | ⟨h10, rfl⟩
          · obtain rfl : f' = f := by
              have := HF.out
              rw [hf'] at this
              injection this
            clear hf'
            unfold frmV
            obtain ⟨W2, hW2⟩ : ∃ W2, W2 = (w2.alloc (.cells zeroC.toArray 86)).setRow w2.heap.size (frmC f').toArray := ⟨_, rfl⟩
            have B2 := row_new hW2
            have c1 : W2.cell? ⟨w2.heap.size, 1, none⟩ = some (.int .i64 (f'.2.1 : Int)) := by rw [B2.cell]; rfl
            have c2 : W2.cell? ⟨w2.heap.size, 2, none⟩ = some (fn0 f'.2.2.1) := by rw [B2.cell]; rfl
            have hbo : Below wo.heap.size wo W2 := by rw [hW2]; exact row_below HB2.out HB2.out.size _ _
            have hbw : Below w.heap.size w W2 := HBE.out.trans (hbo.mono HBE.out.size)
            have hwr2 := HW.out.below hbo
            have HG := Lib.hid (put_any HF.out w1.heap.size A c S n W2 hwr2 hn64 (by omega))
            have HOUT := Lib.hid (fun w3 (h3 : Wrote w1.heap.size A (S ++ encF f' n) W2 w3) => wr_out hbw HG1.out hwr2 h3)
            have HBW := Lib.hid hbw
            rw [hW2] at c1 c2 HG HOUT HBW
            unfold zeroC at c1 c2 HG HOUT HBW
            unfold fn0 at c2
            have hent := enter_put HF.out
            clear B2 hbw hbo hwr2 hW2 W2
            go_wp2_with (first | (refine wpList_store_row rfl 86 _ _ rfl w2.heap.size (frmC f').toArray rfl rfl 86 _ (heap_alloc_new _ _) frm_info rfl (frmC_one _) ?_) | fail)
            · have hfit : fitsF f' n = false := fits_no (by assumption) (by assumption) (by assumption)
              have HX : Hid (R = (5, [])) := Lib.hid (by rw [HRN.out, hfit]; rfl)
              go_ret2
              rw [HX.out]
              exact ⟨none, 0, rfl, Own.nil _ _ _ _, HBW.out⟩
            all_goals
              have hfit : fitsF f' n = true := by first | exact fits_1 (by assumption) | exact fits_2 hs8 (by assumption) | exact fits_3 (by assumption)
              have HX : Hid (R = putL (a.data.toList.drop (i + 1)) (l.drop (i + 1)) (S ++ encF f' n)) := Lib.hid (by rw [HRN.out, hfit]; rfl)
              refine HG.out.mono ?_
              rintro e w3 ⟨rfl, h3⟩
              obtain ⟨A3, c3, hw3, hb3⟩ := HOUT.out w3 h3
              have HW3 := Lib.hid hw3
              have HB3 := Lib.hid hb3
              clear h3 hw3 hb3 hfit c1 c2
              go_wp2_with fail
              go_roundw
              case rel => exact ⟨i + 1, S ++ encF f' n, A3, c3, by go_num, HI.out, by have := HEL.out; rw [List.length_append]; omega, HX.out, HW3.out, HB3.out⟩
              case measure => have := HI.out; simp [intOf]; omega
          · exfalso
            have := (List.getElem?_eq_some_iff.1 HF.out).1
            have e : frms.length = 10 := rfl
            omega
        · have hge : ¬ (i : Int) < (l.length : Int) := by omega
          have hge2 : decide (i < l.length) = false := by simp; omega
          have hX : R = (0, S) := by
            rw [HRI.out, List.drop_of_length_le (by rw [HS.out]; have := HL.out; omega), List.drop_of_length_le (by omega)]
            rfl
          have HX := Lib.hid hX
          have c0 : wo.cell? ⟨w1.heap.size, 0, none⟩ = some (.slice A S.length c) := by rw [HW.out.1.cell]; rfl
          clear hi hlt hX
          go_wp2_with fail
          go_ret2
          rw [HX.out]
          exact ⟨A, c, rfl, Own.mono HW.out.2 HG1.out, HBE.out⟩
    · have e1 : ((a.size : Int) != (l.length : Int)) = true := by simp; omega
      have e2 : (a.size != l.length) = true := by simp; omega
      have e3 : ((a.size : Int) == (l.length : Int)) = false := by simp; omega
      have e4 : (a.size == l.length) = false := by simp; omega
      have hg : putW a.data.toList l = (22, []) := by unfold putW; rw [if_neg]; omega
      rw [hg]
      clear hR hg hs hb hn hlen
      go_enter Try.func38, Try.ntmps38
      go_wp2_with fail
      refine (HRT.out _).mono ?_
      rintro e w1 ⟨rfl, h1⟩
      have H1 := Lib.hid h1
      clear h1
      go_wp2_with fail
      go_ret2
      exact ⟨none, 0, rfl, Own.nil _ _ _ _, H1.out⟩
  · have hR2 : rightB a.data.toList = false := by simpa using hR
    have hg : putW a.data.toList l = (22, []) := by unfold putW; rw [if_neg (by rw [hR2]; simp)]
    rw [hg]
    rw [hR2] at HRT
    clear hR hR2 hg hs hb hn
    go_enter Try.func38, Try.ntmps38
    go_wp2_with fail
    refine (HRT.out _).mono ?_
    rintro e w1 ⟨rfl, h1⟩
    have H1 := Lib.hid h1
    clear h1
    go_wp2_with fail
    go_ret2
    exact ⟨none, 0, rfl, Own.nil _ _ _ _, H1.out⟩
end Go.Proofs.Ytbfhiegbgkkgiaa
/- Wire: alive walked; WireSigns walked. -/

namespace Go.Proofs.Ytbfhiegbgkkgiaa
open Go.RowKit
open Wi
def PutIs (w : World) (n : Nat) (k : Int) (l : List UInt8) (e : Ending) (w' : World) : Prop := (∃ A c, e = .returned (.tuple #[.slice A n c, .int .i64 k]) ∧ Bts w' w'.heap.size A l) ∧ Below w.heap.size w w'
set_option maxRecDepth 100000 in
theorem put_is {a : ByteArray} {A0 : Option Addr} {c0 m : Nat} {ns : List Nat} {w : World} (hb : Us w w.heap.size A0 ns) (hm : ns.length = m) (hl : ns.length ≤ 100000000) (hn : ∀ n ∈ ns, n < 18446744073709551616) {n k : Nat} {l : List UInt8} (h : putW a.data.toList ns = (k, l)) (hn2 : l.length = n) :
    Calls Try.prog 38 #[.string a, .slice A0 m c0] w (PutIs w n (k : Int) l) := by
  subst hm
  refine (put_t a A0 c0 ns w hb hl hn).mono ?_
  rintro e w' ⟨A, c, rfl, h1, h2⟩
  rw [h] at h1 ⊢
  subst hn2
  exact ⟨⟨A, c, rfl, OwnB.reads h1⟩, h2⟩
set_option maxRecDepth 100000 in
theorem p1 (g : Nat) (w : World) {m : Nat × Nat} (h : w.heap[g]? = some (.cells #[.int .u64 1, .int .u64 2] 36 m)) : Calls Try.prog 38 #[.string ⟨#[98, 72]⟩, .slice (some ⟨g, 0, none⟩) 2 2] w (PutIs w 3 0 [1, 0, 2]) :=
  put_is (ns := [1, 2]) (Reads.lit h rfl rfl) rfl (by decide) (by decide) (by decide +kernel) rfl
theorem leb300 : leb 300 = [172, 2] := by rw [leb_more (by decide), leb_last (by decide)]; decide
set_option maxRecDepth 100000 in
theorem p2 (g : Nat) (w : World) {m : Nat × Nat} (h : w.heap[g]? = some (.cells #[.int .u64 300] 36 m)) : Calls Try.prog 38 #[.string ⟨#[118]⟩, .slice (some ⟨g, 0, none⟩) 1 1] w (PutIs w 2 0 [172, 2]) :=
  put_is (ns := [300]) (Reads.lit h rfl rfl) rfl (by decide) (by decide) ((by kernel_rfl : putW [118] [300] = (0, leb 300)).trans (by rw [leb300])) rfl
set_option maxRecDepth 100000 in
theorem p3 (g : Nat) (w : World) {m : Nat × Nat} (h : w.heap[g]? = some (.cells #[.int .u64 18446744073709551615] 36 m)) : Calls Try.prog 38 #[.string ⟨#[122]⟩, .slice (some ⟨g, 0, none⟩) 1 1] w (PutIs w 1 0 [1]) :=
  put_is (ns := [18446744073709551615]) (Reads.lit h rfl rfl) rfl (by decide) (by decide) ((by kernel_rfl : putW [122] [18446744073709551615] = (0, leb 1)).trans (by rw [leb_last (by decide)]; decide)) rfl
def GetBad (w : World) (k : Int) (e : Ending) (w' : World) : Prop := (∃ A c, e = .returned (.tuple #[.slice A 0 c, .int .i64 0, .int .i64 k])) ∧ Below w.heap.size w w'
def GetOne (w : World) (e : Ending) (w' : World) : Prop := (∃ g c, e = .returned (.tuple #[.slice (some ⟨g, 0, none⟩) 1 c, .int .i64 9, .int .i64 0]) ∧ w'.cell? ⟨g, 0, none⟩ = some (.int .u64 9223372036854775808)) ∧ Below w.heap.size w w'
set_option maxRecDepth 100000 in
theorem str_b {w : World} {A : Option Addr} {c n : Nat} {l : List UInt8} (h : Bts w w.heap.size A l) (hn : l.length = n) : (convert 22 9 (.slice A n c)).run Try.prog w = .ok (.string ⟨l.toArray⟩) w := by
  subst hn
  exact run_str Try.underlying22 Try.underlying5 Try.underlying9 h
theorem sg_big (n : Int) (h0 : -9223372036854775808 ≤ n) (h1 : n ≤ 9223372036854775807) : ∃ k : Nat, k < 18446744073709551616 ∧ n = sg k ∧ IntKind.u64.wrap n = (k : Int) := by
  by_cases h : n < 0
  · refine ⟨(n + 18446744073709551616).toNat, by omega, ?_, ?_⟩
    · unfold sg; rw [if_neg (by omega)]; omega
    · rw [IntKind.wrap_u64]; omega
  · refine ⟨n.toNat, by omega, ?_, ?_⟩
    · unfold sg; rw [if_pos (by omega)]; omega
    · rw [IntKind.wrap_u64]; omega
end Go.Proofs.Ytbfhiegbgkkgiaa
