/- Sparse: SparseOwn walked. -/
import Derived.Test.YtfpehefcgfhdmaaSpL
import Derived.Test.YtfpehefcgfhdmaaSpK
namespace Go.Proofs.Ytfpehefcgfhdmaa
open Go.RowKit
open Pl
theorem Lst.only {K : Nat → Prop} {w w' : World} {g : Nat} {A : Option Addr} {c : Nat} {L : List Pr} (h : Lst w g A c L) (k : Only K w w') (hg : ¬ K g) (hA : ∀ x, blockOf A = some x → ¬ K x) : Lst w' g A c L := ⟨h.1.only k hg, Own.only h.2 k hA⟩
/-- A list and the law's own pairs, all in blocks from B to H. -/
structure Tst (B H g : Nat) (A : Option Addr) (c : Nat) (W : Option Addr) (cw : Nat) (L : List Pr) (w : World) : Prop where
  lst : Lst w g A c L
  row : OwnP w B W cw L
  hg : B ≤ g ∧ g < H
  hA : ∀ x, blockOf A = some x → B ≤ x ∧ x < H
  hW : ∀ x, blockOf W = some x → B ≤ x ∧ x < H
theorem Tst.keep {B H g c cw : Nat} {A W : Option Addr} {L : List Pr} {w w' : World} (h : Tst B H g A c W cw L w) {K : Nat → Prop} (k : Only K w w') (hK : ∀ i, K i → i < B ∨ H ≤ i) : Tst B H g A c W cw L w' :=
  ⟨h.lst.only k (fun e => by have := hK _ e; have := h.hg; omega) (fun x hx e => by have := hK _ e; have := h.hA x hx; omega), Own.only h.row k (fun x hx e => by have := hK _ e; have := h.hW x hx; omega), h.hg, h.hA, h.hW⟩
theorem Tst.below {B H g c cw : Nat} {A W : Option Addr} {L : List Pr} {w w' : World} (h : Tst B H g A c W cw L w) (hb : Below w.heap.size w w') : Tst B H g A c W cw L w' := h.keep (Only.of_below (K := fun _ => False) hb) (fun _ hk => absurd hk id)
theorem Tst.of_ct {w w' : World} {g c c2 : Nat} {A A2 : Option Addr} {L : List Pr} (hg : w.heap.size ≤ g) (hl : Lst w' g A c L) (ho : OwnP w' w.heap.size A2 c2 L) : Tst w.heap.size w'.heap.size g A c A2 c2 L w' :=
  ⟨hl, ho, ⟨hg, hl.1.lt⟩, fun x hx => by
    have h := Own.block (show Own w' g 32 2 A L.length c (pcs L) from hl.2) hx
    omega, fun x hx => Own.block (show Own w' w.heap.size 32 2 A2 L.length c2 (pcs L) from ho) hx⟩
/-- A list whose blocks lie outside. -/
def Out (B H : Nat) (g : Nat) (A : Option Addr) : Prop := (g < B ∨ H ≤ g) ∧ ∀ x, blockOf A = some x → x < B ∨ H ≤ x
theorem Out.counted {B H g : Nat} {A A' : Option Addr} {w : World} (h : Out B H g A) (hw : H ≤ w.heap.size) (hq : blockOf A' = blockOf A ∨ ∃ i, blockOf A' = some i ∧ w.heap.size ≤ i) : Out B H g A' :=
  ⟨h.1, fun x hx => by
    rcases hq with e | ⟨i, e, hi⟩
    · exact h.2 x (by rw [← e]; exact hx)
    · rw [hx] at e
      injection e with e
      omega⟩
theorem Out.took {B H g : Nat} {A A' : Option Addr} {w : World} (h : Out B H g A) (hw : H ≤ w.heap.size) (hq : blockOf A' = blockOf A ∨ ∀ i, blockOf A' = some i → w.heap.size ≤ i) : Out B H g A' :=
  ⟨h.1, fun x hx => by
    rcases hq with e | e
    · exact h.2 x (by rw [← e]; exact hx)
    · have := e x hx
      omega⟩
theorem Out.lk {B H g : Nat} {A : Option Addr} (h : Out B H g A) : ∀ i, LK g A i → i < B ∨ H ≤ i := fun i hi => by
  rcases hi with rfl | hi
  · exact h.1
  · exact h.2 i hi
theorem Out.tk {B H g : Nat} {A : Option Addr} (h : Out B H g A) : ∀ i, TK g i → i < B ∨ H ≤ i := fun i hi => by
  obtain rfl : i = g := hi
  exact h.1
theorem cutL1_len (R : List Pr) : (cutL R 1).1.length ≤ 1 := by
  unfold cutL cutN
  rw [show (max (1 : Int) 1).toNat = 1 from rfl]
  split
  · assumption
  · rw [cutI_len]; omega
theorem cutL_fine {L : List Pr} (hf : Fine L) (m : Int) : Fine (cutL L m).1 ∧ tot (cutL L m).1 = tot L ∧ (cutL L m).1.length ≤ L.length := by
  have hc : 1 ≤ cutN m := by unfold cutN; omega
  unfold cutL
  split
  · exact ⟨hf, rfl, Nat.le_refl _⟩
  · have h1 := cutI_tot (L := L) (i := L.length - cutN m) (by omega)
    refine ⟨⟨cutI_srt hf.srt _, cutI_pos hf.pos _, cutI_keys (P := fun k => -1048576 ≤ k ∧ k ≤ 1048576) hf.keys, by simp only [h1]; exact hf.tot, ?_⟩, h1, ?_⟩
    · have := hf.len
      simp only [cutI_len]; omega
    · simp only [cutI_len]; omega
set_option maxRecDepth 100000 in
set_option maxHeartbeats 12800000 in
theorem sparseOwn_walk (w : World) (A0 : Option Addr) (c0 : Nat) (la : List Pr) (hla : la.length ≤ maxLen) (ha : Pairs w A0 la) (B0 : Option Addr) (d0 : Nat) (lb : List Pr) (hlb : lb.length ≤ maxLen) (hb : Pairs w B0 lb) :
    Calls Try.prog 5 #[.slice A0 la.length c0, .slice B0 lb.length d0] w fun e w' => e = .returned (.bool true) ∧ Below w.heap.size w w' := by
  have HPA := Lib.hid ha
  have HPB := Lib.hid hb
  have HCA := Lib.hid (fun W (h : Pairs W A0 la) => counted_t A0 c0 la W h (by unfold maxLen at hla; omega))
  have HCB := Lib.hid (fun W (h : Pairs W B0 lb) => counted_t B0 d0 lb W h (by unfold maxLen at hlb; omega))
  obtain ⟨L, hL⟩ : ∃ L, L = cntL (la.take 100) := ⟨_, rfl⟩
  obtain ⟨M, hM⟩ : ∃ M, M = cntL (lb.take 100) := ⟨_, rfl⟩
  obtain ⟨hf, ht, hl⟩ := cntL_fine la
  obtain ⟨hfm, htm, hlm⟩ := cntL_fine lb
  rw [← hL] at HCA hf ht hl
  rw [← hM] at HCB hfm htm hlm
  have hrt : rtake L M 0 = (puts L M, 0) := by
    rw [rtake0]
    by_cases h0 : M = []
    · rw [if_pos h0, h0]; rfl
    · rw [if_neg h0, if_neg (by omega)]
  obtain ⟨hfR, hlR⟩ := took_fine hf hfm (by omega)
  have HTK := Lib.hid (fun W g gt A At c ct (h : Lst W g A c L) (h2 : Lst W gt At ct M) => take_t g gt A At c ct L M W h h2 hf hfm (by omega))
  rw [hrt] at HTK hfR hlR
  have htR : tot (puts L M) = tot L + tot M := puts_tot
  dsimp only at hfR hlR
  obtain ⟨R, hR⟩ : ∃ R, R = puts L M := ⟨_, rfl⟩
  rw [← hR] at HTK hfR hlR htR
  obtain ⟨hfC, htC, hlC⟩ := cutL_fine hfR 1
  have hl1 := cutL1_len R
  have HCUT := Lib.hid (fun W g A c (h : Lst W g A c R) => cut_t g A c R 1 W h hfR (by decide) (by decide))
  obtain ⟨C, hC⟩ : ∃ C, C = (cutL R 1).1 := ⟨_, rfl⟩
  rw [← hC] at HCUT hfC htC hlC hl1
  generalize (cutL R 1).2 = cn0 at *
  have hra : radd C 3 3 0 = (put C 3 3, 0) := by rw [radd0, if_neg (by decide), if_neg (by decide), if_neg (by omega)]
  have HADD := Lib.hid (fun W g A c (h : Lst W g A c C) => add_t g A c C 3 3 W h hfC)
  rw [hra] at HADD
  have hfQ : Fine (put C 3 3) := put_fine hfC (by decide) (by decide) (by decide) (by omega) (by omega)
  have hlQ : (put C 3 3).length ≤ 2 := Nat.le_trans put_len (by omega)
  have hlQ1 : 1 ≤ (put C 3 3).length := List.length_pos_iff.2 put_ne
  obtain ⟨Q, hQ⟩ : ∃ Q, Q = put C 3 3 := ⟨_, rfl⟩
  rw [← hQ] at HADD hfQ hlQ hlQ1
  have HFR := Lib.hid hfR
  have HFM := Lib.hid hfm
  have HFQ := Lib.hid hfQ
  have HLQ := Lib.hid (And.intro hlQ hlQ1)
  have HLM := Lib.hid hlm
  have HLR := Lib.hid (show R.length ≤ 200 by omega)
  have hRl : (R.length : Int) ≤ 200 := by omega
  clear ha hb hla hlb hL hM hf ht hl hfm htm hlm hrt hfR hlR htR hR hfC htC hlC hl1 hC hra hfQ hlQ hlQ1 hQ
  go_enter Try.func5, Try.ntmps5
  go_wp2_with fail
  refine (alive_t _).mono ?_
  rintro e w1 ⟨rfl, hb1⟩
  have HB1 := Lib.hid hb1
  clear hb1
  go_wp2_with fail
  refine (HCA.out _ (ct_at HPA.out HB1.out)).mono ?_
  rintro e w2 ⟨g1, A1, c1, A2, c2, rfl, hg1, hlst, _, hb2, _⟩
  have HLS := Lib.hid hlst
  have HB2 := Lib.hid (nextB HB1.out hb2)
  have hg1w : w.heap.size ≤ g1 := Nat.le_trans HB1.out.size hg1
  clear hlst hb2 hg1
  go_wp2_with fail
  refine (HCB.out _ (ct_at HPB.out HB2.out)).mono ?_
  rintro e w3 ⟨g2, A3, c3, A4, c4, rfl, hg2, hlst3, how3, hb3, _⟩
  have hT := Tst.of_ct hg2 hlst3 how3
  have hS3 := HLS.out.below hb3
  have HOUT := Lib.hid (show Out w2.heap.size w3.heap.size g1 A1 from ⟨.inl HLS.out.1.lt, fun x hx => .inl (Own.block (show Own w2 g1 32 2 A1 L.length c1 (pcs L) from HLS.out.2) hx).2⟩)
  have HT := Lib.hid hT
  have HS3 := Lib.hid hS3
  have HB3 := Lib.hid (nextB HB2.out hb3)
  clear hT hS3 hlst3 how3 hb3 hg2
  go_wp2_with fail
  refine (HTK.out w3 g1 g2 A1 A3 c1 c3 HS3.out HT.out.lst).mono ?_
  rintro e w4 ⟨rfl, A5, c5, hl5, ho5, hq5⟩
  have HT4 := Lib.hid (HT.out.keep ho5 HOUT.out.tk)
  have HO4 := Lib.hid (HOUT.out.took (Nat.le_refl _) hq5)
  have HS4 := Lib.hid hl5
  have HB4 := Lib.hid (HB3.out.trans (ho5.below HB3.out.size (fun i hi => by obtain rfl : i = g1 := hi; exact hg1w)))
  have HH4 := Lib.hid ho5.size
  clear hl5 ho5 hq5
  go_wp2_with fail
  refine (pairs_t g1 A5 c5 R w4 HS4.out HFR.out).mono ?_
  rintro e w5 ⟨A6, c6, rfl, h6, hb5⟩
  have HT5 := Lib.hid (HT4.out.below hb5)
  have HS5 := Lib.hid (HS4.out.below hb5)
  have HP5 := Lib.hid h6
  have HB5 := Lib.hid (nextB HB4.out hb5)
  have HH5 := Lib.hid hb5.size
  have HSL := Lib.hid (show g1 < w4.heap.size ∧ ∀ x, blockOf A5 = some x → x < w4.heap.size from ⟨HS4.out.1.lt, fun x hx => (Own.block (show Own w4 g1 32 2 A5 R.length c5 (pcs R) from HS4.out.2) hx).2⟩)
  clear h6 hb5
  go_wp2_with fail
  go_loopw [10] (fun v wr => ∃ (i : Nat) (R' : List Pr), v = .int .i64 (i : Int) ∧ i ≤ R.length ∧ R'.length = R.length ∧ (∀ j, i ≤ j → R'[j]? = R[j]?) ∧ OwnP wr w4.heap.size A6 c6 R' ∧ Only (fun x => w4.heap.size ≤ x) w5 wr) (fun v _ => R.length - (intOf v).toNat)
  case atStart => exact ⟨0, R, rfl, Nat.zero_le _, rfl, fun _ _ => rfl, HP5.out, Only.refl _ _⟩
  case round =>
    obtain ⟨i, R', rfl, hi, hR', hle, hown, hon⟩ := hrel
    obtain ⟨wo, rfl⟩ : ∃ wo : World, wo = wr := ⟨_, rfl⟩
    have HON := Lib.hid hon
    by_cases hlt : i < R.length
    · obtain ⟨p, hp⟩ : ∃ p, R'[i]? = some p := ⟨_, List.getElem?_eq_getElem (by omega)⟩
      obtain ⟨gp, hA6, hgp, _, _, hcl, hfr⟩ := Own.form (show Own wo w4.heap.size 32 2 A6 R'.length c6 (pcs R') from hown) (by omega)
      subst hA6
      have d1 : wo.cell? ⟨gp, i * 2 + 1, none⟩ = some (.int .u64 (p.2 : Nat)) := hcl _ _ (pcs_key hp).2
      have fr := hfr (i * 2 + 1)
      have hii : (i : Int) < (R.length : Int) := by omega
      have hii2 : decide (i < R.length) = true := by simp; omega
      have hi0 : (0 : Int) ≤ (i : Int) := by omega
      have hpR : R[i]? = some p := by rw [← hle i (Nat.le_refl _)]; exact hp
      have hpl : (p.2 : Int) ≤ 4611686018427387904 := by have h1 := tot_le_of_mem (List.mem_of_getElem? hpR); have h2 := HFR.out.tot; omega
      have o2 := Own.stored (show Own wo w4.heap.size 32 2 (some ⟨gp, 0, none⟩) R'.length c6 (pcs R') from hown) (i * 2 + 1) (.int .u64 ((p.2 + 1 : Nat) : Int))
      rw [pcs_setN hp] at o2
      have HO2 : Hid (OwnP (wo.setCell ⟨gp, i * 2 + 1, none⟩ (.int .u64 ((p.2 + 1 : Nat) : Int))) w4.heap.size (some ⟨gp, 0, none⟩) c6 (R'.set i (p.1, p.2 + 1))) := Lib.hid (by unfold OwnP; rw [List.length_set]; exact o2)
      have HON2 := Lib.hid (HON.out.set (p := ⟨gp, i * 2 + 1, none⟩) (.inl hgp) (.int .u64 ((p.2 + 1 : Nat) : Int)))
      have HI := Lib.hid hlt
      have HL' := Lib.hid hR'
      have HLE : Hid (∀ j, i + 1 ≤ j → (R'.set i (p.1, p.2 + 1))[j]? = R[j]?) := Lib.hid (fun j hj => by rw [List.getElem?_set_ne (by omega)]; exact hle j (by omega))
      obtain ⟨px, pn⟩ := p
      dsimp only at d1 hpl HO2 HON2 HLE
      clear hi hR' hle hown hon hlt hp hpR o2 hcl hfr
      go_wp2_with fail
      go_roundw
      case rel => exact ⟨i + 1, R'.set i (px, pn + 1), by go_num, HI.out, by rw [List.length_set, HL'.out], HLE.out, HO2.out, HON2.out⟩
      case measure => have := HI.out; simp [intOf]; omega
    · have hge : ¬ (i : Int) < (R.length : Int) := by omega
      have hge2 : decide (i < R.length) = false := by simp; omega
      have HT6 := Lib.hid (HT5.out.keep HON.out (fun x hx => .inr (Nat.le_trans HH4.out hx)))
      have HS6 := Lib.hid (HS5.out.only HON.out (fun hx => by have := HSL.out.1; omega) (fun x h1 hx => by have := HSL.out.2 x h1; omega))
      have HB6 := Lib.hid (HB5.out.trans (HON.out.below HB5.out.size (fun x hx => Nat.le_trans HB4.out.size hx)))
      have HH6 := Lib.hid (Nat.le_trans HH4.out (Nat.le_trans HH5.out HON.out.size))
      clear hi hlt hR' hle hown hon
      go_wp2_with fail
      refine (HCUT.out wo g1 A5 c5 HS6.out).mono ?_
      rintro e w7 ⟨rfl, A7, c7, hl7, hon7, hq7⟩
      have HT7 := Lib.hid (HT6.out.keep hon7 HO4.out.lk)
      have HO7 := Lib.hid (HO4.out.counted HH6.out hq7)
      have HB7 := Lib.hid (counted_below HB6.out hg1w HS6.out ⟨A7, c7, hl7, hon7, hq7⟩).2
      have HH7 := Lib.hid (Nat.le_trans HH6.out hon7.size)
      have HS7 := Lib.hid hl7
      clear hl7 hon7 hq7
      go_wp2_with fail
      refine (HADD.out w7 g1 A7 c7 HS7.out).mono ?_
      rintro e w8 ⟨rfl, A8, c8, hl8, hon8, hq8⟩
      have HT8 := Lib.hid (HT7.out.keep hon8 HO7.out.lk)
      have HB8 := Lib.hid (counted_below HB7.out hg1w HS7.out ⟨A8, c8, hl8, hon8, hq8⟩).2
      have HS8 := Lib.hid hl8
      clear hl8 hon8 hq8
      go_wp2_with fail
      refine (pairs_t g1 A8 c8 Q w8 HS8.out HFQ.out).mono ?_
      rintro e w9 ⟨A9, c9, rfl, _, hb9⟩
      have HT9 := Lib.hid (HT8.out.below hb9)
      have HB9 := Lib.hid (nextB HB8.out hb9)
      clear hb9
      go_wp2_with fail
      refine (pairs_t g2 A3 c3 M w9 HT9.out.lst HFM.out).mono ?_
      rintro e wA ⟨AA, cA, rfl, hA, hbA⟩
      have HTA := Lib.hid (HT9.out.below hbA)
      have HBA := Lib.hid (nextB HB9.out hbA)
      have HOA := Lib.hid hA
      clear hA hbA
      go_wp2_with fail
      refine (same13_t AA A4 cA c4 _ _ M wA (OwnP.reads HOA.out) (OwnP.reads HTA.out.row) (by have := HLM.out; unfold maxLen; omega)).mono ?_
      rintro e wB ⟨rfl, q, rfl⟩
      have q1 : decide ((Q.length : Int) ≤ 2) = true := by have := HLQ.out; simp; omega
      have q2 : decide ((1 : Int) ≤ (Q.length : Int)) = true := by have := HLQ.out; simp; omega
      go_wp2_with fail
      go_ret
      exact ⟨rfl, below_drewN HBA.out q⟩
end Go.Proofs.Ytfpehefcgfhdmaa
