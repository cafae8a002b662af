/- Sparse: Cut walked. -/
import Derived.Test.YtmpmjgoipfgfoaaSpD
namespace Go.Proofs.Ytmpmjgoipfgfoaa
open Go.RowKit
open Pl
theorem clonep_tn (A : Option Addr) (c n : Nat) (L : List Pr) (w : World) (hb : Prs w w.heap.size A L) (hl : L.length ≤ 1000000) (hn : L.length = n) :
    Calls Try.prog 48 #[.slice A n c] w (NewPairs L w) := by
  subst hn
  exact clonep_t A c L w hb hl
theorem pcs_drop (L : List Pr) (i : Nat) : pcs (L.drop i) = (pcs L).drop (i * 2) := by
  induction i generalizing L with
  | zero => simp
  | succ i ih =>
    cases L with
    | nil => simp [pcs]
    | cons p L => rw [List.drop_succ_cons, ih, show (i + 1) * 2 = i * 2 + 2 by omega]; rfl
theorem prs_drop {w : World} {B g : Nat} {L : List Pr} {i : Nat} (h : Prs w B (some ⟨g, 0, none⟩) L) (hi : i ≤ L.length) : Prs w B (some ⟨g, i * 2, none⟩) (L.drop i) := by
  refine ⟨pcs_length _, fun hn => ?_⟩
  rw [List.length_drop] at hn
  obtain ⟨b, o, e, hb, hc⟩ := h.2 (by omega)
  injection e with e
  injection e with e1 e2 _
  subst e1
  subst e2
  refine ⟨g, i * 2, rfl, hb, fun j u hj => ?_⟩
  rw [pcs_drop, List.getElem?_drop] at hj
  have := hc _ u hj
  rwa [Nat.zero_add] at this
theorem lst_set0 {w W : World} {g g' base c t N S : Nat} {A : Option Addr} {D : List Pr} {p : Pr} (hb : Blk W g 76 #[.slice (some ⟨g', 0, none⟩) N c, .int .u64 (t : Nat)]) (ho : OwnP W base (some ⟨g', 0, none⟩) c D) (hbase : g ≤ base) (hN : N = D.length)
    (hp : D[0]? = some p) (hne : g' ≠ g) (ht : t = tot (D.set 0 (p.1, p.2 + S))) (hon : Only (LK g A) w W) (hl : w.heap.size ≤ g') :
    Counted g A (D.set 0 (p.1, p.2 + S)) w (W.setCell ⟨g', 1, none⟩ (.int .u64 ((p.2 + S : Nat) : Int))) := by
  subst hN
  have h1 := hb.far (p := ⟨g', 1, none⟩) (fun e => hne e.symm) (.int .u64 ((p.2 + S : Nat) : Int))
  have o1 := Own.stored (show Own W base 38 2 (some ⟨g', 0, none⟩) D.length c (pcs D) from ho) 1 (.int .u64 ((p.2 + S : Nat) : Int))
  have e := pcs_setN hp (p.2 + S)
  rw [show 0 * 2 + 1 = 1 from rfl] at e
  rw [e] at o1
  refine ⟨some ⟨g', 0, none⟩, c, ⟨?_, ?_⟩, hon.set (p := ⟨g', 1, none⟩) (.inr hl) _, .inr ⟨g', rfl, hl⟩⟩
  · rw [List.length_set, ← ht]
    exact h1
  · unfold OwnP
    rw [List.length_set]
    exact o1.mono hbase
theorem cutI_set {L : List Pr} {i : Nat} {p : Pr} (h : (L.drop i)[0]? = some p) : cutI L i = (L.drop i).set 0 (p.1, p.2 + tot (L.take i)) := by
  unfold cutI
  cases hd : L.drop i with
  | nil => rw [hd] at h; simp at h
  | cons q R =>
    rw [hd] at h
    simp at h
    subst h
    rfl
theorem cut_noA (g : Nat) (A : Option Addr) (c : Nat) (L : List Pr) (m : Int) (w : World) (h : Lst w g A c L) (hf : Fine L) (hm : m < 1) (_hhi : m ≤ 9223372036854775807) (hl : (L.length : Int) ≤ 1) :
    Calls Try.prog 47 #[.pointer (some ⟨g, 0, none⟩), .int .i64 m] w fun e w' => e = .returned (.int .u64 0) ∧ Counted g A L w w' := by
  have c0 : w.cell? ⟨g, 0, none⟩ = some (.slice A L.length c) := by rw [h.1.cell]; rfl
  have hll : (L.length : Int) ≤ 100000 := by have := hf.len; omega
  have hmax : max m 1 = 1 := by omega
  obtain ⟨d, hd⟩ : ∃ d, (L.length : Int) - 1 = d := ⟨_, rfl⟩
  have hd0 : d ≤ 0 := by omega
  have hlo : -9223372036854775808 ≤ m ∨ m < -9223372036854775808 := by omega
  have H := Lib.hid h
  have hk1 : ¬ 1 < m := by omega
  clear h hf hl hlo
  go_enter Try.func47, Try.ntmps47
  go_wp2_with fail
  go_ret
  exact ⟨rfl, Counted.refl H.out⟩
theorem cut_noB (g : Nat) (A : Option Addr) (c : Nat) (L : List Pr) (m : Int) (w : World) (h : Lst w g A c L) (hf : Fine L) (hm : 1 < m) (_hhi : m ≤ 9223372036854775807) (hl : (L.length : Int) ≤ m) :
    Calls Try.prog 47 #[.pointer (some ⟨g, 0, none⟩), .int .i64 m] w fun e w' => e = .returned (.int .u64 0) ∧ Counted g A L w w' := by
  have c0 : w.cell? ⟨g, 0, none⟩ = some (.slice A L.length c) := by rw [h.1.cell]; rfl
  have hll : (L.length : Int) ≤ 100000 := by have := hf.len; omega
  have hmax : max m 1 = m := by omega
  obtain ⟨d, hd⟩ : ∃ d, (L.length : Int) - m = d := ⟨_, rfl⟩
  have hd0 : d ≤ 0 := by omega
  have hlo : -9223372036854775808 ≤ m ∨ m < -9223372036854775808 := by omega
  have H := Lib.hid h
  have hk1 : ¬ m ≤ 1 := by omega
  clear h hf hl hlo
  go_enter Try.func47, Try.ntmps47
  go_wp2_with fail
  go_ret
  exact ⟨rfl, Counted.refl H.out⟩
theorem cut_noC (g : Nat) (A : Option Addr) (c : Nat) (L : List Pr) (m : Int) (w : World) (h : Lst w g A c L) (hf : Fine L) (hm : m = 1) (_hhi : m ≤ 9223372036854775807) (hl : (L.length : Int) ≤ 1) :
    Calls Try.prog 47 #[.pointer (some ⟨g, 0, none⟩), .int .i64 m] w fun e w' => e = .returned (.int .u64 0) ∧ Counted g A L w w' := by
  have c0 : w.cell? ⟨g, 0, none⟩ = some (.slice A L.length c) := by rw [h.1.cell]; rfl
  have hll : (L.length : Int) ≤ 100000 := by have := hf.len; omega
  obtain ⟨d, hd⟩ : ∃ d, (L.length : Int) - 1 = d := ⟨_, rfl⟩
  have hd0 : d ≤ 0 := by omega
  have hlo : -9223372036854775808 ≤ m ∨ m < -9223372036854775808 := by omega
  have H := Lib.hid h
  subst hm
  clear h hf hl hlo
  go_enter Try.func47, Try.ntmps47
  go_wp2_with fail
  go_ret
  exact ⟨rfl, Counted.refl H.out⟩
set_option maxHeartbeats 3200000 in
theorem cut_yesA (g : Nat) (A : Option Addr) (c : Nat) (L : List Pr) (m : Int) (i : Nat) (w : World) (h : Lst w g A c L) (hf : Fine L) (hm : m < 1) (hi : (L.length : Int) - 1 = (i : Int)) (hi0 : 0 < i) (hil : i < L.length) :
    Calls Try.prog 47 #[.pointer (some ⟨g, 0, none⟩), .int .i64 m] w fun e w' => e = .returned (.int .u64 (tot (L.take i) : Nat)) ∧ Counted g A (cutI L i) w w' := by
  have c0 : w.cell? ⟨g, 0, none⟩ = some (.slice A L.length c) := by rw [h.1.cell]; rfl
  have hll : (L.length : Int) ≤ 100000 := by have := hf.len; omega
  have hmax : max m 1 = 1 := by omega
  have hip : (0 : Int) < (i : Int) := by omega
  have hii : (i : Int) < (L.length : Int) := by omega
  have HSU := Lib.hid (sum_t g A c L i w h hf (Nat.le_of_lt hil))
  obtain ⟨p, hp⟩ : ∃ p, (L.drop i)[0]? = some p := ⟨_, List.getElem?_eq_getElem (by rw [List.length_drop]; omega)⟩
  have hcs := cutI_set hp
  have hct := cutI_tot hil
  have hpt : p.2 + tot (L.take i) ≤ tot L := by
    have h1 := tot_take_next (L := L) (i := i) (p := p) (by rw [List.getElem?_drop] at hp; exact hp)
    have h2 := tot_take_le' L (i + 1)
    omega
  have htot := hf.tot
  have hdl : (L.drop i).length = L.length - i := List.length_drop
  obtain ⟨g', hA, hgg, hgl, hlc, hcl, hfr⟩ := Own.form (show Own w g 38 2 A L.length c (pcs L) from h.2) (by omega)
  subst hA
  have hic : (i : Int) ≤ (c : Int) := by omega
  have hnc : ¬ c = i := by omega
  have hsum : (p.2 : Int) + ((tot (L.take i) : Nat) : Int) ≤ 4611686018427387904 := by omega
  have hlen := hf.len
  have H := Lib.hid h
  have HCL := Lib.hid (fun W (hW : Lst W g (some ⟨g', 0, none⟩) c L) c2 => clonep_tn (some ⟨g', i * 2, none⟩) c2 (L.length - i) (L.drop i) W (prs_drop (OwnP.reads hW.2) (Nat.le_of_lt hil)) (by omega) hdl)
  have HCS := Lib.hid hcs
  have HCT := Lib.hid hct
  have HP := Lib.hid hp
  have HDL := Lib.hid hdl
  have hdp : 0 < L.length - i := by omega
  have hk1 : ¬ 1 < m := by omega
  clear h hf hgg hgl hlc hcl hfr hi0 hil hcs hct hp hdl hpt htot hlen
  obtain ⟨S, hS⟩ : ∃ S, S = tot (L.take i) := ⟨_, rfl⟩
  rw [← hS] at HSU HCS hsum ⊢
  clear hS
  go_enter Try.func47, Try.ntmps47
  go_wp2_with fail
  refine HSU.out.mono ?_
  rintro e w1 ⟨rfl, hb1⟩
  have hL1 := H.out.below hb1
  clear c0
  have c0 : w1.cell? ⟨g, 0, none⟩ = some (.slice (some ⟨g', 0, none⟩) L.length c) := by rw [hL1.1.cell]; rfl
  have HL1 := Lib.hid hL1
  have HB1 := Lib.hid hb1
  clear hL1 hb1
  go_wp2_with fail
  refine (HCL.out w1 HL1.out _).mono ?_
  rintro e w2 ⟨A3, c3, rfl, h3, hb2⟩
  rw [HDL.out]
  obtain ⟨g3, hA3, hg3, hgl3, hlc3, hcl3, hfr3⟩ := Own.form (show Own w2 w1.heap.size 38 2 A3 (L.drop i).length c3 (pcs (L.drop i)) from h3) (by rw [HDL.out]; exact hdp)
  subst hA3
  have hL2 := HL1.out.below hb2
  have hgw := HL1.out.1.lt
  have hne : ¬ g3 = g := by omega
  have hne2 : ¬ g = g3 := by omega
  clear c0
  have c0 : w2.cell? ⟨g, 0, none⟩ = some (.slice (some ⟨g', 0, none⟩) L.length c) := by rw [hL2.1.cell]; rfl
  have fr := hL2.1.free
  have d1 : w2.cell? ⟨g3, 1, none⟩ = some (.int .u64 (p.2 : Nat)) := hcl3 _ _ (pcs_key HP.out).2
  have fr2 := hfr3 1
  have hbB := HB1.out.trans (hb2.mono HB1.out.size)
  have hb4 := hL2.1.put 0 (.slice (some ⟨g3, 0, none⟩) (L.length - i) c3)
  have ho4 := Own.setOther (show Own w2 w1.heap.size 38 2 (some ⟨g3, 0, none⟩) (L.drop i).length c3 (pcs (L.drop i)) from h3) (p := ⟨g, 0, none⟩) (by simpa [blockOf] using hne) (.slice (some ⟨g3, 0, none⟩) (L.length - i) c3)
  have hon4 := (Only.of_below (K := LK g (some ⟨g', 0, none⟩)) hbB).set (p := ⟨g, 0, none⟩) (.inl (.inl rfl)) (.slice (some ⟨g3, 0, none⟩) (L.length - i) c3)
  have hce := lst_set0 (w := w) (A := some ⟨g', 0, none⟩) (S := S) (t := tot L) (by simpa using hb4) ho4 (Nat.le_of_lt hgw) HDL.out.symm HP.out hne (by rw [← HCS.out, HCT.out]) hon4 (Nat.le_trans HB1.out.size hg3)
  rw [← HCS.out] at hce
  have HE := Lib.hid hce
  clear h3 hb2 hL2 hgw hg3 hgl3 hlc3 hcl3 hfr3 hbB hb4 ho4 hon4 hce
  go_wp2_with fail
  go_ret
  exact ⟨rfl, HE.out⟩
set_option maxHeartbeats 3200000 in
theorem cut_yesB (g : Nat) (A : Option Addr) (c : Nat) (L : List Pr) (m : Int) (i : Nat) (w : World) (h : Lst w g A c L) (hf : Fine L) (hm : 1 < m) (hi : (L.length : Int) - m = (i : Int)) (hi0 : 0 < i) (hil : i < L.length) :
    Calls Try.prog 47 #[.pointer (some ⟨g, 0, none⟩), .int .i64 m] w fun e w' => e = .returned (.int .u64 (tot (L.take i) : Nat)) ∧ Counted g A (cutI L i) w w' := by
  have c0 : w.cell? ⟨g, 0, none⟩ = some (.slice A L.length c) := by rw [h.1.cell]; rfl
  have hll : (L.length : Int) ≤ 100000 := by have := hf.len; omega
  have hmax : max m 1 = m := by omega
  have hip : (0 : Int) < (i : Int) := by omega
  have hii : (i : Int) < (L.length : Int) := by omega
  have HSU := Lib.hid (sum_t g A c L i w h hf (Nat.le_of_lt hil))
  obtain ⟨p, hp⟩ : ∃ p, (L.drop i)[0]? = some p := ⟨_, List.getElem?_eq_getElem (by rw [List.length_drop]; omega)⟩
  have hcs := cutI_set hp
  have hct := cutI_tot hil
  have hpt : p.2 + tot (L.take i) ≤ tot L := by
    have h1 := tot_take_next (L := L) (i := i) (p := p) (by rw [List.getElem?_drop] at hp; exact hp)
    have h2 := tot_take_le' L (i + 1)
    omega
  have htot := hf.tot
  have hdl : (L.drop i).length = L.length - i := List.length_drop
  obtain ⟨g', hA, hgg, hgl, hlc, hcl, hfr⟩ := Own.form (show Own w g 38 2 A L.length c (pcs L) from h.2) (by omega)
  subst hA
  have hic : (i : Int) ≤ (c : Int) := by omega
  have hnc : ¬ c = i := by omega
  have hsum : (p.2 : Int) + ((tot (L.take i) : Nat) : Int) ≤ 4611686018427387904 := by omega
  have hlen := hf.len
  have H := Lib.hid h
  have HCL := Lib.hid (fun W (hW : Lst W g (some ⟨g', 0, none⟩) c L) c2 => clonep_tn (some ⟨g', i * 2, none⟩) c2 (L.length - i) (L.drop i) W (prs_drop (OwnP.reads hW.2) (Nat.le_of_lt hil)) (by omega) hdl)
  have HCS := Lib.hid hcs
  have HCT := Lib.hid hct
  have HP := Lib.hid hp
  have HDL := Lib.hid hdl
  have hdp : 0 < L.length - i := by omega
  have hk1 : ¬ m ≤ 1 := by omega
  clear h hf hgg hgl hlc hcl hfr hi0 hil hcs hct hp hdl hpt htot hlen
  obtain ⟨S, hS⟩ : ∃ S, S = tot (L.take i) := ⟨_, rfl⟩
  rw [← hS] at HSU HCS hsum ⊢
  clear hS
  go_enter Try.func47, Try.ntmps47
  go_wp2_with fail
  refine HSU.out.mono ?_
  rintro e w1 ⟨rfl, hb1⟩
  have hL1 := H.out.below hb1
  clear c0
  have c0 : w1.cell? ⟨g, 0, none⟩ = some (.slice (some ⟨g', 0, none⟩) L.length c) := by rw [hL1.1.cell]; rfl
  have HL1 := Lib.hid hL1
  have HB1 := Lib.hid hb1
  clear hL1 hb1
  go_wp2_with fail
  refine (HCL.out w1 HL1.out _).mono ?_
  rintro e w2 ⟨A3, c3, rfl, h3, hb2⟩
  rw [HDL.out]
  obtain ⟨g3, hA3, hg3, hgl3, hlc3, hcl3, hfr3⟩ := Own.form (show Own w2 w1.heap.size 38 2 A3 (L.drop i).length c3 (pcs (L.drop i)) from h3) (by rw [HDL.out]; exact hdp)
  subst hA3
  have hL2 := HL1.out.below hb2
  have hgw := HL1.out.1.lt
  have hne : ¬ g3 = g := by omega
  have hne2 : ¬ g = g3 := by omega
  clear c0
  have c0 : w2.cell? ⟨g, 0, none⟩ = some (.slice (some ⟨g', 0, none⟩) L.length c) := by rw [hL2.1.cell]; rfl
  have fr := hL2.1.free
  have d1 : w2.cell? ⟨g3, 1, none⟩ = some (.int .u64 (p.2 : Nat)) := hcl3 _ _ (pcs_key HP.out).2
  have fr2 := hfr3 1
  have hbB := HB1.out.trans (hb2.mono HB1.out.size)
  have hb4 := hL2.1.put 0 (.slice (some ⟨g3, 0, none⟩) (L.length - i) c3)
  have ho4 := Own.setOther (show Own w2 w1.heap.size 38 2 (some ⟨g3, 0, none⟩) (L.drop i).length c3 (pcs (L.drop i)) from h3) (p := ⟨g, 0, none⟩) (by simpa [blockOf] using hne) (.slice (some ⟨g3, 0, none⟩) (L.length - i) c3)
  have hon4 := (Only.of_below (K := LK g (some ⟨g', 0, none⟩)) hbB).set (p := ⟨g, 0, none⟩) (.inl (.inl rfl)) (.slice (some ⟨g3, 0, none⟩) (L.length - i) c3)
  have hce := lst_set0 (w := w) (A := some ⟨g', 0, none⟩) (S := S) (t := tot L) (by simpa using hb4) ho4 (Nat.le_of_lt hgw) HDL.out.symm HP.out hne (by rw [← HCS.out, HCT.out]) hon4 (Nat.le_trans HB1.out.size hg3)
  rw [← HCS.out] at hce
  have HE := Lib.hid hce
  clear h3 hb2 hL2 hgw hg3 hgl3 hlc3 hcl3 hfr3 hbB hb4 ho4 hon4 hce
  go_wp2_with fail
  go_ret
  exact ⟨rfl, HE.out⟩
set_option maxHeartbeats 3200000 in
theorem cut_yesC (g : Nat) (A : Option Addr) (c : Nat) (L : List Pr) (m : Int) (i : Nat) (w : World) (h : Lst w g A c L) (hf : Fine L) (hm : m = 1) (hi : (L.length : Int) - 1 = (i : Int)) (hi0 : 0 < i) (hil : i < L.length) :
    Calls Try.prog 47 #[.pointer (some ⟨g, 0, none⟩), .int .i64 m] w fun e w' => e = .returned (.int .u64 (tot (L.take i) : Nat)) ∧ Counted g A (cutI L i) w w' := by
  have c0 : w.cell? ⟨g, 0, none⟩ = some (.slice A L.length c) := by rw [h.1.cell]; rfl
  have hll : (L.length : Int) ≤ 100000 := by have := hf.len; omega
  have hip : (0 : Int) < (i : Int) := by omega
  have hii : (i : Int) < (L.length : Int) := by omega
  have HSU := Lib.hid (sum_t g A c L i w h hf (Nat.le_of_lt hil))
  obtain ⟨p, hp⟩ : ∃ p, (L.drop i)[0]? = some p := ⟨_, List.getElem?_eq_getElem (by rw [List.length_drop]; omega)⟩
  have hcs := cutI_set hp
  have hct := cutI_tot hil
  have hpt : p.2 + tot (L.take i) ≤ tot L := by
    have h1 := tot_take_next (L := L) (i := i) (p := p) (by rw [List.getElem?_drop] at hp; exact hp)
    have h2 := tot_take_le' L (i + 1)
    omega
  have htot := hf.tot
  have hdl : (L.drop i).length = L.length - i := List.length_drop
  obtain ⟨g', hA, hgg, hgl, hlc, hcl, hfr⟩ := Own.form (show Own w g 38 2 A L.length c (pcs L) from h.2) (by omega)
  subst hA
  have hic : (i : Int) ≤ (c : Int) := by omega
  have hnc : ¬ c = i := by omega
  have hsum : (p.2 : Int) + ((tot (L.take i) : Nat) : Int) ≤ 4611686018427387904 := by omega
  have hlen := hf.len
  have H := Lib.hid h
  have HCL := Lib.hid (fun W (hW : Lst W g (some ⟨g', 0, none⟩) c L) c2 => clonep_tn (some ⟨g', i * 2, none⟩) c2 (L.length - i) (L.drop i) W (prs_drop (OwnP.reads hW.2) (Nat.le_of_lt hil)) (by omega) hdl)
  have HCS := Lib.hid hcs
  have HCT := Lib.hid hct
  have HP := Lib.hid hp
  have HDL := Lib.hid hdl
  have hdp : 0 < L.length - i := by omega
  subst hm
  clear h hf hgg hgl hlc hcl hfr hi0 hil hcs hct hp hdl hpt htot hlen
  obtain ⟨S, hS⟩ : ∃ S, S = tot (L.take i) := ⟨_, rfl⟩
  rw [← hS] at HSU HCS hsum ⊢
  clear hS
  go_enter Try.func47, Try.ntmps47
  go_wp2_with fail
  refine HSU.out.mono ?_
  rintro e w1 ⟨rfl, hb1⟩
  have hL1 := H.out.below hb1
  clear c0
  have c0 : w1.cell? ⟨g, 0, none⟩ = some (.slice (some ⟨g', 0, none⟩) L.length c) := by rw [hL1.1.cell]; rfl
  have HL1 := Lib.hid hL1
  have HB1 := Lib.hid hb1
  clear hL1 hb1
  go_wp2_with fail
  refine (HCL.out w1 HL1.out _).mono ?_
  rintro e w2 ⟨A3, c3, rfl, h3, hb2⟩
  rw [HDL.out]
  obtain ⟨g3, hA3, hg3, hgl3, hlc3, hcl3, hfr3⟩ := Own.form (show Own w2 w1.heap.size 38 2 A3 (L.drop i).length c3 (pcs (L.drop i)) from h3) (by rw [HDL.out]; exact hdp)
  subst hA3
  have hL2 := HL1.out.below hb2
  have hgw := HL1.out.1.lt
  have hne : ¬ g3 = g := by omega
  have hne2 : ¬ g = g3 := by omega
  clear c0
  have c0 : w2.cell? ⟨g, 0, none⟩ = some (.slice (some ⟨g', 0, none⟩) L.length c) := by rw [hL2.1.cell]; rfl
  have fr := hL2.1.free
  have d1 : w2.cell? ⟨g3, 1, none⟩ = some (.int .u64 (p.2 : Nat)) := hcl3 _ _ (pcs_key HP.out).2
  have fr2 := hfr3 1
  have hbB := HB1.out.trans (hb2.mono HB1.out.size)
  have hb4 := hL2.1.put 0 (.slice (some ⟨g3, 0, none⟩) (L.length - i) c3)
  have ho4 := Own.setOther (show Own w2 w1.heap.size 38 2 (some ⟨g3, 0, none⟩) (L.drop i).length c3 (pcs (L.drop i)) from h3) (p := ⟨g, 0, none⟩) (by simpa [blockOf] using hne) (.slice (some ⟨g3, 0, none⟩) (L.length - i) c3)
  have hon4 := (Only.of_below (K := LK g (some ⟨g', 0, none⟩)) hbB).set (p := ⟨g, 0, none⟩) (.inl (.inl rfl)) (.slice (some ⟨g3, 0, none⟩) (L.length - i) c3)
  have hce := lst_set0 (w := w) (A := some ⟨g', 0, none⟩) (S := S) (t := tot L) (by simpa using hb4) ho4 (Nat.le_of_lt hgw) HDL.out.symm HP.out hne (by rw [← HCS.out, HCT.out]) hon4 (Nat.le_trans HB1.out.size hg3)
  rw [← HCS.out] at hce
  have HE := Lib.hid hce
  clear h3 hb2 hL2 hgw hg3 hgl3 hlc3 hcl3 hfr3 hbB hb4 ho4 hon4 hce
  go_wp2_with fail
  go_ret
  exact ⟨rfl, HE.out⟩
theorem cut_t (g : Nat) (A : Option Addr) (c : Nat) (L : List Pr) (m : Int) (w : World) (h : Lst w g A c L) (hf : Fine L) (_h0 : -9223372036854775808 ≤ m) (h1 : m ≤ 9223372036854775807) :
    Calls Try.prog 47 #[.pointer (some ⟨g, 0, none⟩), .int .i64 m] w fun e w' => e = .returned (.int .u64 ((cutL L m).2 : Nat)) ∧ Counted g A (cutL L m).1 w w' := by
  unfold cutL cutN
  by_cases hm : m ≤ 1
  · rw [show max m 1 = 1 by omega]
    by_cases he : m = 1
    · split
      · exact cut_noC g A c L m w h hf he h1 (by omega)
      · exact cut_yesC g A c L m _ w h hf he (by omega) (by omega) (by omega)
    · split
      · exact cut_noA g A c L m w h hf (by omega) h1 (by omega)
      · exact cut_yesA g A c L m _ w h hf (by omega) (by omega) (by omega) (by omega)
  · rw [show max m 1 = m by omega]
    split
    · exact cut_noB g A c L m w h hf (by omega) h1 (by omega)
    · exact cut_yesB g A c L m _ w h hf (by omega) (by omega) (by omega) (by omega)
end Go.Proofs.Ytmpmjgoipfgfoaa
