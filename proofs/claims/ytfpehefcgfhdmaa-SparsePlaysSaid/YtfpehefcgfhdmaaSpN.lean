/- Sparse: SparseCuts walked. -/
import Derived.Test.YtfpehefcgfhdmaaSpM
import Derived.Test.YtfpehefcgfhdmaaSpCutP
namespace Go.Proofs.Ytfpehefcgfhdmaa
open Go.RowKit
open Pl
def Dj (A A2 : Option Addr) : Prop := ∀ x, blockOf A = some x → blockOf A2 ≠ some x
theorem Dj.symm {A A2 : Option Addr} (h : Dj A A2) : Dj A2 A := fun x h1 h2 => h x h2 h1
/-- A list, the law's own pairs, two more lists, all apart from each other. -/
structure St3 (g1 : Nat) (A1 : Option Addr) (c1 : Nat) (L : List Pr) (base : Nat) (W : Option Addr) (cw : Nat) (Lw : List Pr) (g2 : Nat) (A2 : Option Addr) (c2 : Nat) (M : List Pr) (g3 : Nat) (A3 : Option Addr) (c3 : Nat) (R : List Pr) (w : World) : Prop where
  s : Lst w g1 A1 c1 L
  r : OwnP w base W cw Lw
  t : Lst w g2 A2 c2 M
  u : Lst w g3 A3 c3 R
  n12 : g1 ≠ g2
  n13 : g1 ≠ g3
  n23 : g2 ≠ g3
  d1w : Dj A1 W
  d12 : Dj A1 A2
  d13 : Dj A1 A3
  d2w : Dj A2 W
  d23 : Dj A2 A3
  d3w : Dj A3 W
section
variable {w w' : World} {g g' c c' base cw : Nat} {A A' A2 W : Option Addr} {L L' M : List Pr}
theorem lst_other (h : Lst w g A c L) (hy : Lst w g' A2 c' M) (hg : g ≠ g') (hd : Dj A A2) (k : Only (LK g A) w w') : Lst w' g' A2 c' M :=
  hy.only k (fun e => by
    rcases e with e | e
    · exact hg e.symm
    · exact Own.ne_blk (show Own w g 32 2 A L.length c (pcs L) from h.2) hy.1 (by decide) e) (fun x hx e => by
    rcases e with e | e
    · exact Own.ne_blk (show Own w g' 32 2 A2 M.length c' (pcs M) from hy.2) h.1 (by decide) (by rw [← e]; exact hx)
    · exact hd x e hx)
theorem row_other (h : Lst w g A c L) (hy : OwnP w base W cw M) (hd : Dj A W) (k : Only (LK g A) w w') : OwnP w' base W cw M :=
  Own.only hy k (fun x hx e => by
    rcases e with e | e
    · exact Own.ne_blk (show Own w base 32 2 W M.length cw (pcs M) from hy) h.1 (by decide) (by rw [← e]; exact hx)
    · exact hd x e hx)
theorem dj_new (hd : Dj A W) (hy : OwnP w base W cw M) (hq : ∀ x, blockOf A' = some x → blockOf A = some x ∨ w.heap.size ≤ x) : Dj A' W := fun x hx e => by
  rcases hq x hx with h | h
  · exact hd x h e
  · have := (Own.block (show Own w base 32 2 W M.length cw (pcs M) from hy) e).2
    omega
/-- What an act on a list leaves: Add, Cut, Take. -/
def Acted (g : Nat) (A : Option Addr) (L' : List Pr) (w w' : World) (A' : Option Addr) (c' : Nat) : Prop := Lst w' g A' c' L' ∧ Only (LK g A) w w' ∧ ∀ x, blockOf A' = some x → blockOf A = some x ∨ w.heap.size ≤ x
theorem Counted.acted (h : Counted g A L w w') : ∃ A' c', Acted g A L w w' A' c' := by
  obtain ⟨A', c', h1, h2, h3⟩ := h
  refine ⟨A', c', h1, h2, fun x hx => ?_⟩
  rcases h3 with h3 | ⟨i, h3, h4⟩
  · exact .inl (by rw [← h3]; exact hx)
  · rw [hx] at h3
    injection h3 with h3
    exact .inr (by omega)
theorem Took.acted (h : Took g A L w w') : ∃ A' c', Acted g A L w w' A' c' := by
  obtain ⟨A', c', h1, h2, h3⟩ := h
  refine ⟨A', c', h1, h2.mono (fun i hi => .inl hi), fun x hx => ?_⟩
  rcases h3 with h3 | h3
  · exact .inl (by rw [← h3]; exact hx)
  · exact .inr (h3 x hx)
theorem acted_below {B : Nat} {w0 : World} (hb : Below B w0 w) (hB : B ≤ w.heap.size) (hg : B ≤ g) (h : Lst w g A c L) {A' : Option Addr} {c' : Nat} (ha : Acted g A L' w w' A' c') : Below B w0 w' := by
  refine hb.trans (ha.2.1.below hB (fun i hi => ?_))
  rcases hi with rfl | hi
  · exact hg
  · exact Nat.le_trans hg (Own.block (show Own w g 32 2 A L.length c (pcs L) from h.2) hi).1
end
section
variable {g1 c1 base cw g2 c2 g3 c3 c' : Nat} {A1 W A2 A3 A' : Option Addr} {L Lw M R L' : List Pr} {w w' : World}
theorem St3.below (h : St3 g1 A1 c1 L base W cw Lw g2 A2 c2 M g3 A3 c3 R w) (hb : Below w.heap.size w w') : St3 g1 A1 c1 L base W cw Lw g2 A2 c2 M g3 A3 c3 R w' :=
  { h with s := h.s.below hb, r := Own.below h.r hb, t := h.t.below hb, u := h.u.below hb }
theorem St3.act1 (h : St3 g1 A1 c1 L base W cw Lw g2 A2 c2 M g3 A3 c3 R w) (a : Acted g1 A1 L' w w' A' c') : St3 g1 A' c' L' base W cw Lw g2 A2 c2 M g3 A3 c3 R w' :=
  { h with s := a.1, r := row_other h.s h.r h.d1w a.2.1, t := lst_other h.s h.t h.n12 h.d12 a.2.1, u := lst_other h.s h.u h.n13 h.d13 a.2.1, d1w := dj_new h.d1w h.r a.2.2, d12 := dj_new h.d12 h.t.2 a.2.2, d13 := dj_new h.d13 h.u.2 a.2.2 }
theorem St3.act2 (h : St3 g1 A1 c1 L base W cw Lw g2 A2 c2 M g3 A3 c3 R w) (a : Acted g2 A2 L' w w' A' c') : St3 g1 A1 c1 L base W cw Lw g2 A' c' L' g3 A3 c3 R w' :=
  { h with t := a.1, r := row_other h.t h.r h.d2w a.2.1, s := lst_other h.t h.s h.n12.symm h.d12.symm a.2.1, u := lst_other h.t h.u h.n23 h.d23 a.2.1, d2w := dj_new h.d2w h.r a.2.2, d12 := (dj_new h.d12.symm h.s.2 a.2.2).symm, d23 := dj_new h.d23 h.u.2 a.2.2 }
theorem St3.act3 (h : St3 g1 A1 c1 L base W cw Lw g2 A2 c2 M g3 A3 c3 R w) (a : Acted g3 A3 L' w w' A' c') : St3 g1 A1 c1 L base W cw Lw g2 A2 c2 M g3 A' c' L' w' :=
  { h with u := a.1, r := row_other h.u h.r h.d3w a.2.1, s := lst_other h.u h.s h.n13.symm h.d13.symm a.2.1, t := lst_other h.u h.t h.n23.symm h.d23.symm a.2.1, d3w := dj_new h.d3w h.r a.2.2, d13 := (dj_new h.d13.symm h.s.2 a.2.2).symm, d23 := (dj_new h.d23.symm h.t.2 a.2.2).symm }
end
theorem tot_nil_of {L : List Pr} (hp : Pos L) (h : tot L = 0) : L = [] := by
  cases L with
  | nil => rfl
  | cons p L => have := tot_pos hp (l := p :: L) (by simp); omega
theorem cutL_rank {L : List Pr} (hf : Fine L) (m : Int) {r : Nat} (h1 : 1 ≤ r) (h2 : r ≤ tot L) : rank L r ≤ rank (cutL L m).1 r := by
  have hc : 1 ≤ cutN m := by unfold cutN; omega
  unfold cutL
  split
  · exact Int.le_refl _
  · exact cutI_rank hf.srt (by omega) h1 h2
theorem cutL_len {L : List Pr} {m : Nat} (h : 1 ≤ m) : (cutL L (m : Int)).1.length ≤ m := by
  unfold cutL cutN
  rw [show (max (m : Int) 1).toNat = m by omega]
  split
  · assumption
  · simp only [cutI_len]; omega
theorem cutL_count {L : List Pr} (hf : Fine L) (m : Int) {t : Nat} {q : Pr} (ht : 0 < t) (hq : (cutL L m).1[t]? = some q) : cnt L q.1 = q.2 := by
  have hc : 1 ≤ cutN m := by unfold cutN; omega
  unfold cutL at hq
  split at hq
  · exact cnt_of_mem hf.srt (List.mem_of_getElem? hq)
  · exact cutI_count hf.srt (by omega) ht hq
theorem key_one (g : Nat) (A : Option Addr) (c : Nat) (L : List Pr) (w : World) (h : Lst w g A c L) (hf : Fine L) (h2 : 1 ≤ tot L) :
    Calls Try.prog 15 #[.pointer (some ⟨g, 0, none⟩), .int .u64 1] w fun e w' => e = .returned (.tuple #[.int .i64 (rank L 1), .int .i64 0]) ∧ Below w.heap.size w w' := key_ok g A c L 1 w h hf (Nat.le_refl _) h2
theorem key_none (g : Nat) (A : Option Addr) (c : Nat) (L : List Pr) (w : World) (h : Lst w g A c L) (h2 : tot L = 0) :
    Calls Try.prog 15 #[.pointer (some ⟨g, 0, none⟩), .int .u64 1] w fun e w' => e = .returned (.tuple #[.int .i64 0, .int .i64 8]) ∧ w = w' := key_no g A c L 1 w h h2
set_option maxRecDepth 100000 in
set_option maxHeartbeats 25600000 in
theorem cuts_big (w : World) (A0 : Option Addr) (c0 : Nat) (la : List Pr) (hla : la.length ≤ maxLen) (ha : Pairs w A0 la) (B0 : Option Addr) (d0 : Nat) (lb : List Pr) (hlb : lb.length ≤ maxLen) (hb : Pairs w B0 lb) (m : Int) (r : Nat) (hT : 1 < tot (cntL (la.take 100))) :
    Calls Try.prog 6 #[.slice A0 la.length c0, .slice B0 lb.length d0, .int .i64 m, .int .u64 (r : Int)] w fun e w' => e = .returned (.bool true) ∧ Below w.heap.size w w' := by
  have HPA := Lib.hid ha
  have HPB := Lib.hid hb
  have HCA := Lib.hid (fun W (h : Pairs W A0 la) => counted_t A0 c0 la W h (by unfold maxLen at hla; omega))
  have HCB := Lib.hid (fun W (h : Pairs W B0 lb) => counted_t B0 d0 lb W h (by unfold maxLen at hlb; omega))
  obtain ⟨L, hL⟩ : ∃ L, L = cntL (la.take 100) := ⟨_, rfl⟩
  obtain ⟨M, hM⟩ : ∃ M, M = cntL (lb.take 100) := ⟨_, rfl⟩
  obtain ⟨hf, ht, hl⟩ := cntL_fine la
  obtain ⟨hfm, htm, hlm⟩ := cntL_fine lb
  rw [← hL] at HCA hf ht hl hT
  rw [← hM] at HCB hfm htm hlm
  -- the number of pairs
  obtain ⟨u, hu⟩ : ∃ u : Nat, IntKind.u64.wrap m = (u : Int) := ⟨(IntKind.u64.wrap m).toNat, by rw [IntKind.wrap_u64]; omega⟩
  obtain ⟨q, hq⟩ : ∃ q : Nat, q = u % 20 := ⟨_, rfl⟩
  have hq2 : (u : Int) % 20 = (q : Int) := by omega
  have hq20 : (q : Int) < 20 := by omega
  obtain ⟨k, hk⟩ : ∃ k : Nat, k = 1 + q := ⟨_, rfl⟩
  have hk2 : 1 + (q : Int) = (k : Int) := by omega
  have hk1 : 1 ≤ k := by omega
  have hk20 : (k : Int) ≤ 20 := by omega
  -- taken together
  have hrt : ∀ (L M : List Pr), tot L ≤ 200000 → tot M ≤ 200000 → rtake L M 0 = (puts L M, 0) := fun L M h1 h2 => by
    rw [rtake0]
    by_cases h0 : M = []
    · rw [if_pos h0, h0]; rfl
    · rw [if_neg h0, if_neg (by omega)]
  have HT1 := Lib.hid (fun W g gt A At c ct (h : Lst W g A c L) (h2 : Lst W gt At ct M) => take_t g gt A At c ct L M W h h2 hf hfm (by omega))
  rw [hrt L M (by omega) (by omega)] at HT1
  obtain ⟨hfR, hlR⟩ := took_fine hf hfm (by omega)
  rw [hrt L M (by omega) (by omega)] at hfR hlR
  obtain ⟨hfC, htC, hlC⟩ := cutL_fine hf (k : Int)
  obtain ⟨hfD, htD, hlD⟩ := cutL_fine hfm (k : Int)
  have hclen := cutL_len (L := L) hk1
  have hcc := fun t q h0 h => cutL_count hf (k : Int) (t := t) (q := q) h0 h
  have htw := cut_twice hf.srt hf.pos hfm.srt hfm.pos (k : Int)
  have hrank := fun r h1 h2 => cutL_rank hf (k : Int) (r := r) h1 h2
  have HU1 := Lib.hid (fun W g A c (h : Lst W g A c L) => cut_t g A c L (k : Int) W h hf (by omega) (by omega))
  have HU2 := Lib.hid (fun W g A c (h : Lst W g A c M) => cut_t g A c M (k : Int) W h hfm (by omega) (by omega))
  have HU3 := Lib.hid (fun W g A c (h : Lst W g A c (puts L M)) => cut_t g A c (puts L M) (k : Int) W h hfR (by omega) (by omega))
  obtain ⟨C, hC⟩ : ∃ C, C = (cutL L (k : Int)).1 := ⟨_, rfl⟩
  obtain ⟨D, hD⟩ : ∃ D, D = (cutL M (k : Int)).1 := ⟨_, rfl⟩
  rw [← hC] at HU1 hfC htC hlC hclen hcc htw hrank
  rw [← hD] at HU2 hfD htD hlD htw
  have HT2 := Lib.hid (fun W g gt A At c ct (h : Lst W g A c C) (h2 : Lst W gt At ct D) => take_t g gt A At c ct C D W h h2 hfC hfD (by omega))
  rw [hrt C D (by omega) (by omega)] at HT2
  obtain ⟨hfE, hlE⟩ := took_fine hfC hfD (by omega)
  rw [hrt C D (by omega) (by omega)] at hfE hlE
  have HU4 := Lib.hid (fun W g A c (h : Lst W g A c (puts C D)) => cut_t g A c (puts C D) (k : Int) W h hfE (by omega) (by omega))
  obtain ⟨hfF, _, hlF⟩ := cutL_fine hfR (k : Int)
  obtain ⟨F, hF⟩ : ∃ F, F = (cutL (puts L M) (k : Int)).1 := ⟨_, rfl⟩
  rw [htw] at HU4
  rw [← hF] at HU3 HU4 hfF hlF
  generalize (cutL L (k : Int)).2 = n1 at *
  generalize (cutL M (k : Int)).2 = n2 at *
  generalize (cutL (puts L M) (k : Int)).2 = n3 at *
  generalize (cutL (puts C D) (k : Int)).2 = n4 at *
  dsimp only at HU1 HU2 HU3 HU4 HT1 HT2 hfR hlR hfE hlE
  have HFL := Lib.hid hf
  have HFM := Lib.hid hfm
  have HFC := Lib.hid hfC
  have HFF := Lib.hid hfF
  dsimp only at hlF
  have HLF := Lib.hid (show F.length ≤ 200 by omega)
  have HLL := Lib.hid hl
  have hcl1 : (C.length : Int) ≤ (k : Int) := by omega
  have hcl2 : decide ((k : Int) < (C.length : Int)) = false := by simp; omega
  have hcl3 : decide (k < C.length) = false := by simp; omega
  have HCC := Lib.hid hcc
  obtain ⟨rm, hrm⟩ : ∃ rm : Nat, rm = r % tot L := ⟨_, rfl⟩
  have hrml : rm < tot L := by rw [hrm]; exact Nat.mod_lt _ (by omega)
  have hrm2 : (r : Int) % ((tot L : Nat) : Int) = (rm : Int) := by rw [hrm]; rfl
  obtain ⟨rr, hrre⟩ : ∃ rr : Nat, rr = 1 + rm := ⟨_, rfl⟩
  have hrr : 1 ≤ rr ∧ rr ≤ tot L := by omega
  have hri : 1 + (rm : Int) = (rr : Int) := by omega
  have hrb : (rr : Int) ≤ 100000 := by omega
  have hTb : (1 : Int) < ((tot L : Nat) : Int) := by omega
  have hTb2 : ((tot L : Nat) : Int) ≤ 100000 := by omega
  have HT0 := Lib.hid htC
  have htC0 := htC
  have HR1 := Lib.hid (show 1 ≤ rr from hrr.1)
  have HR2 := Lib.hid (show rr ≤ tot L from hrr.2)
  have HR2C := Lib.hid (show rr ≤ tot C by rw [htC]; exact hrr.2)
  have hrk := hrank rr hrr.1 hrr.2
  have hrk2 : decide (rank C rr < rank L rr) = false := by simp; omega
  clear hrm hrml hrre hrr hT
  clear ha hb hla hlb hL hM hf ht hl hfm htm hlm hq hk hk1 hrt hfR hlR hfC htC0 hlC hfD htD hlD hclen hcc htw hrank hC hD hfE hlE hfF hlF hF
  go_enter Try.func6, Try.ntmps6
  go_wp2_with fail
  refine (alive_t _).mono ?_
  rintro e w1 ⟨rfl, hb1⟩
  have HB1 := Lib.hid hb1
  clear hb1
  go_wp2_with fail
  refine (HCA.out _ (ct_at HPA.out HB1.out)).mono ?_
  rintro e w2 ⟨g1, A1, c1, Aw, cw, rfl, hg1, hl1, hw1, hb2, hd1⟩
  have HB2 := Lib.hid (nextB HB1.out hb2)
  have hg1w : w.heap.size ≤ g1 := Nat.le_trans HB1.out.size hg1
  have HL1 := Lib.hid hl1
  have HW1 := Lib.hid hw1
  have HD1 := Lib.hid hd1
  clear hl1 hw1 hb2 hg1 hd1
  go_wp2_with fail
  refine (HCB.out _ (ct_at HPB.out HB2.out)).mono ?_
  rintro e w3 ⟨g2, A2, c2, Ax, cx, rfl, hg2, hl2, _, hb3, _⟩
  have HB3 := Lib.hid (nextB HB2.out hb3)
  have hg2w : w.heap.size ≤ g2 := Nat.le_trans HB2.out.size hg2
  have HL1 := Lib.hid (And.intro HL1.out (HL1.out.below hb3))
  have HW1 := Lib.hid (And.intro HW1.out (Own.below HW1.out hb3))
  have HL2 := Lib.hid hl2
  have HG2 := Lib.hid hg2
  clear hl2 hb3 hg2
  go_wp2_with fail
  refine (HCA.out _ (ct_at HPA.out HB3.out)).mono ?_
  rintro e w4 ⟨g3, A3, c3, Ay, cy, rfl, hg3, hl3, _, hb4, _⟩
  have HB4 := Lib.hid (nextB HB3.out hb4)
  have hg3w : w.heap.size ≤ g3 := Nat.le_trans HB3.out.size hg3
  have HS4 : Hid (St3 g1 A1 c1 L w1.heap.size Aw cw L g2 A2 c2 M g3 A3 c3 L w4) := Lib.hid (by
    have a1 := fun x (hx : blockOf A1 = some x) => (Own.block (show Own w2 g1 32 2 A1 L.length c1 (pcs L) from HL1.out.1.2) hx)
    have aw := fun x (hx : blockOf Aw = some x) => (Own.block (show Own w2 w1.heap.size 32 2 Aw L.length cw (pcs L) from HW1.out.1) hx)
    have a2 := fun x (hx : blockOf A2 = some x) => (Own.block (show Own w3 g2 32 2 A2 M.length c2 (pcs M) from HL2.out.2) hx)
    have a3 := fun x (hx : blockOf A3 = some x) => (Own.block (show Own w4 g3 32 2 A3 L.length c3 (pcs L) from hl3.2) hx)
    have b1 := HL1.out.1.1.lt
    have b2 := HL2.out.1.lt
    have hh2 := HG2.out
    have hw3 : w2.heap.size ≤ w3.heap.size := by omega
    exact ⟨HL1.out.2.below hb4, Own.below HW1.out.2 hb4, HL2.out.below hb4, hl3, (by omega), (by omega), (by omega), HD1.out,
      (fun x h1 h2 => by have := a1 x h1; have := a2 x h2; omega), (fun x h1 h2 => by have := a1 x h1; have := a3 x h2; omega), (fun x h1 h2 => by have := a2 x h1; have := aw x h2; omega),
      (fun x h1 h2 => by have := a2 x h1; have := a3 x h2; omega), (fun x h1 h2 => by have := a3 x h1; have := aw x h2; omega)⟩)
  clear hl3 hb4 hg3 HL1 HL2 HW1 HD1 HG2
  go_wp2_with fail
  refine (HT1.out w4 g3 g2 A3 A2 c3 c2 HS4.out.u HS4.out.t).mono ?_
  rintro e w5 ⟨rfl, h5⟩
  obtain ⟨A3', c3', a5⟩ := h5.acted
  have HS5 := Lib.hid (HS4.out.act3 a5)
  have HB5 := Lib.hid (acted_below HB4.out HB4.out.size hg3w HS4.out.u a5)
  clear h5 a5
  go_wp2_with fail
  refine (total_t g1 A1 c1 L w5 HS5.out.s).mono ?_
  rintro e w6 ⟨rfl, rfl⟩
  skip
  go_wp2_with fail
  refine (key_ok g1 A1 c1 L rr w5 HS5.out.s HFL.out HR1.out HR2.out).mono ?_
  rintro e w7 ⟨rfl, hb7⟩
  have HS7 := Lib.hid (HS5.out.below hb7)
  have HB7 := Lib.hid (nextB HB5.out hb7)
  clear hb7
  go_wp2_with fail
  refine (HU1.out w7 g1 A1 c1 HS7.out.s).mono ?_
  rintro e w8 ⟨rfl, h8⟩
  obtain ⟨A1', c1', a8⟩ := h8.acted
  have HS8 := Lib.hid (HS7.out.act1 a8)
  have HB8 := Lib.hid (acted_below HB7.out HB7.out.size hg1w HS7.out.s a8)
  clear h8 a8
  go_wp2_with fail
  refine (key_ok g1 A1' c1' C rr w8 HS8.out.s HFC.out HR1.out HR2C.out).mono ?_
  rintro e w9 ⟨rfl, hb9⟩
  have HS9 := Lib.hid (HS8.out.below hb9)
  have HB9 := Lib.hid (nextB HB8.out hb9)
  clear hb9
  go_wp2_with fail
  refine (pairs_t g1 A1' c1' C w9 HS9.out.s HFC.out).mono ?_
  rintro e w10 ⟨Ap, cp, rfl, h10, hb10⟩
  have HS10 := Lib.hid (HS9.out.below hb10)
  have HB10 := Lib.hid (nextB HB9.out hb10)
  have HP10 := Lib.hid (OwnP.reads h10)
  clear h10 hb10
  go_wp2_with fail
  refine (total_t g1 A1' c1' C w10 HS10.out.s).mono ?_
  rintro e w11 ⟨rfl, rfl⟩
  rw [HT0.out]
  go_wp2_with fail
  go_loopw [21] (fun v wr => ∃ (i n : Nat), v = .int .i64 (i : Int) ∧ 1 ≤ i ∧ wr = w10.drewN n) (fun v _ => C.length - (intOf v).toNat)
  case atStart => exact ⟨1, 0, rfl, Nat.le_refl _, rfl⟩
  case round =>
    obtain ⟨i, n, rfl, hi1, rfl⟩ := hrel
    by_cases hlt : i < C.length
    · obtain ⟨p, hp⟩ : ∃ p, C[i]? = some p := ⟨_, List.getElem?_eq_getElem hlt⟩
      obtain ⟨b, o, rfl, _, hc⟩ := HP10.out.at_ (by omega)
      have d1 : (w10.drewN n).cell? ⟨b, o + i * 2, none⟩ = some (.int .i64 p.1) := (hc i p hp).1
      have d2 : (w10.drewN n).cell? ⟨b, o + i * 2 + 1, none⟩ = some (.int .u64 (p.2 : Nat)) := (hc i p hp).2
      have hcn := HCC.out i p (by omega) hp
      have hii : (i : Int) < (C.length : Int) := by omega
      have hii2 : decide (i < C.length) = true := by simp; omega
      have hi0 : (0 : Int) ≤ (i : Int) := by omega
      obtain ⟨px, pn⟩ := p
      dsimp only at d1 d2 hcn
      obtain ⟨wo, hwo⟩ : ∃ wo : World, wo = w10.drewN n := ⟨_, rfl⟩
      rw [← hwo] at d1 d2 ⊢
      have HCN : Hid (∀ n, Calls Try.prog 22 #[.slice Aw L.length cw, .int .i64 px] (wo.drewN n) fun e w' => e = .returned (.int .u64 (pn : Nat)) ∧ w' = wo.drewN n) := Lib.hid (fun n' => by
        have h := count13_t Aw cw w10.heap.size L px (wo.drewN n') (by rw [hwo]; exact OwnP.reads HS10.out.r) (by have := HLL.out; unfold maxLen; omega)
        rw [hcn] at h
        exact h)
      have HWO := Lib.hid hwo
      have HI := Lib.hid hlt
      have HI1 := Lib.hid hi1
      clear hc hp hcn hwo hlt hi1
      go_wp2_with fail
      go_quiet ((go_at_call 22; exact Calls.quiet_of_same (HCN.out _)))
      go_wp2_with fail
      go_roundw
      case rel => exact ⟨i + 1, n + _, by go_num, by omega, by rw [HWO.out, World.drewN_drewN]⟩
      case measure => have := HI.out; simp [intOf]; omega
    · have hge : ¬ (i : Int) < (C.length : Int) := by omega
      have hge2 : decide (i < C.length) = false := by simp; omega
      have HS11 := Lib.hid (HS10.out.below (below_drewN (Below.refl _ _) n))
      have HB11 := Lib.hid (below_drewN HB10.out n)
      clear hlt hi1
      go_wp2_with fail
      refine (HU2.out _ g2 A2 c2 HS11.out.t).mono ?_
      rintro e w12 ⟨rfl, h12⟩
      obtain ⟨A2', c2', a12⟩ := h12.acted
      have HS12 := Lib.hid (HS11.out.act2 a12)
      have HB12 := Lib.hid (acted_below HB11.out HB11.out.size hg2w HS11.out.t a12)
      clear h12 a12
      go_wp2_with fail
      refine (HT2.out w12 g1 g2 A1' A2' c1' c2' HS12.out.s HS12.out.t).mono ?_
      rintro e w13 ⟨rfl, h13⟩
      obtain ⟨A1'', c1'', a13⟩ := h13.acted
      have HS13 := Lib.hid (HS12.out.act1 a13)
      have HB13 := Lib.hid (acted_below HB12.out HB12.out.size hg1w HS12.out.s a13)
      clear h13 a13
      go_wp2_with fail
      refine (HU4.out w13 g1 A1'' c1'' HS13.out.s).mono ?_
      rintro e w14 ⟨rfl, h14⟩
      obtain ⟨A1f, c1f, a14⟩ := h14.acted
      have HS14 := Lib.hid (HS13.out.act1 a14)
      have HB14 := Lib.hid (acted_below HB13.out HB13.out.size hg1w HS13.out.s a14)
      clear h14 a14
      go_wp2_with fail
      refine (HU3.out w14 g3 A3' c3' HS14.out.u).mono ?_
      rintro e w15 ⟨rfl, h15⟩
      obtain ⟨A3f, c3f, a15⟩ := h15.acted
      have HS15 := Lib.hid (HS14.out.act3 a15)
      have HB15 := Lib.hid (acted_below HB14.out HB14.out.size hg3w HS14.out.u a15)
      clear h15 a15
      go_wp2_with fail
      refine (pairs_t g1 A1f c1f F w15 HS15.out.s HFF.out).mono ?_
      rintro e w16 ⟨Aq, cq, rfl, h16, hb16⟩
      have HS16 := Lib.hid (HS15.out.below hb16)
      have HB16 := Lib.hid (nextB HB15.out hb16)
      have HP16 := Lib.hid (OwnP.reads h16)
      clear h16 hb16
      go_wp2_with fail
      refine (pairs_t g3 A3f c3f F w16 HS16.out.u HFF.out).mono ?_
      rintro e w17 ⟨Ar, cr, rfl, h17, hb17⟩
      have HB17 := Lib.hid (nextB HB16.out hb17)
      have HP17 := Lib.hid (OwnP.reads h17)
      have HP16 := Lib.hid (HP16.out.at_below hb17)
      clear h17 hb17
      go_wp2_with fail
      refine (same13_t Aq Ar cq cr _ _ F w17 HP16.out HP17.out (by have := HLF.out; unfold maxLen; omega)).mono ?_
      rintro e w18 ⟨rfl, z, rfl⟩
      go_wp2_with fail
      go_ret
      exact ⟨rfl, below_drewN HB17.out z⟩
set_option maxRecDepth 100000 in
set_option maxHeartbeats 25600000 in
theorem cuts_one (w : World) (A0 : Option Addr) (c0 : Nat) (la : List Pr) (hla : la.length ≤ maxLen) (ha : Pairs w A0 la) (B0 : Option Addr) (d0 : Nat) (lb : List Pr) (hlb : lb.length ≤ maxLen) (hb : Pairs w B0 lb) (m : Int) (r : Nat) (hT : tot (cntL (la.take 100)) = 1) :
    Calls Try.prog 6 #[.slice A0 la.length c0, .slice B0 lb.length d0, .int .i64 m, .int .u64 (r : Int)] w fun e w' => e = .returned (.bool true) ∧ Below w.heap.size w w' := by
  have HPA := Lib.hid ha
  have HPB := Lib.hid hb
  have HCA := Lib.hid (fun W (h : Pairs W A0 la) => counted_t A0 c0 la W h (by unfold maxLen at hla; omega))
  have HCB := Lib.hid (fun W (h : Pairs W B0 lb) => counted_t B0 d0 lb W h (by unfold maxLen at hlb; omega))
  obtain ⟨L, hL⟩ : ∃ L, L = cntL (la.take 100) := ⟨_, rfl⟩
  obtain ⟨M, hM⟩ : ∃ M, M = cntL (lb.take 100) := ⟨_, rfl⟩
  obtain ⟨hf, ht, hl⟩ := cntL_fine la
  obtain ⟨hfm, htm, hlm⟩ := cntL_fine lb
  rw [← hL] at HCA hf ht hl hT
  rw [← hM] at HCB hfm htm hlm
  -- the number of pairs
  obtain ⟨u, hu⟩ : ∃ u : Nat, IntKind.u64.wrap m = (u : Int) := ⟨(IntKind.u64.wrap m).toNat, by rw [IntKind.wrap_u64]; omega⟩
  obtain ⟨q, hq⟩ : ∃ q : Nat, q = u % 20 := ⟨_, rfl⟩
  have hq2 : (u : Int) % 20 = (q : Int) := by omega
  have hq20 : (q : Int) < 20 := by omega
  obtain ⟨k, hk⟩ : ∃ k : Nat, k = 1 + q := ⟨_, rfl⟩
  have hk2 : 1 + (q : Int) = (k : Int) := by omega
  have hk1 : 1 ≤ k := by omega
  have hk20 : (k : Int) ≤ 20 := by omega
  -- taken together
  have hrt : ∀ (L M : List Pr), tot L ≤ 200000 → tot M ≤ 200000 → rtake L M 0 = (puts L M, 0) := fun L M h1 h2 => by
    rw [rtake0]
    by_cases h0 : M = []
    · rw [if_pos h0, h0]; rfl
    · rw [if_neg h0, if_neg (by omega)]
  have HT1 := Lib.hid (fun W g gt A At c ct (h : Lst W g A c L) (h2 : Lst W gt At ct M) => take_t g gt A At c ct L M W h h2 hf hfm (by omega))
  rw [hrt L M (by omega) (by omega)] at HT1
  obtain ⟨hfR, hlR⟩ := took_fine hf hfm (by omega)
  rw [hrt L M (by omega) (by omega)] at hfR hlR
  obtain ⟨hfC, htC, hlC⟩ := cutL_fine hf (k : Int)
  obtain ⟨hfD, htD, hlD⟩ := cutL_fine hfm (k : Int)
  have hclen := cutL_len (L := L) hk1
  have hcc := fun t q h0 h => cutL_count hf (k : Int) (t := t) (q := q) h0 h
  have htw := cut_twice hf.srt hf.pos hfm.srt hfm.pos (k : Int)
  have hrank := fun r h1 h2 => cutL_rank hf (k : Int) (r := r) h1 h2
  have HU1 := Lib.hid (fun W g A c (h : Lst W g A c L) => cut_t g A c L (k : Int) W h hf (by omega) (by omega))
  have HU2 := Lib.hid (fun W g A c (h : Lst W g A c M) => cut_t g A c M (k : Int) W h hfm (by omega) (by omega))
  have HU3 := Lib.hid (fun W g A c (h : Lst W g A c (puts L M)) => cut_t g A c (puts L M) (k : Int) W h hfR (by omega) (by omega))
  obtain ⟨C, hC⟩ : ∃ C, C = (cutL L (k : Int)).1 := ⟨_, rfl⟩
  obtain ⟨D, hD⟩ : ∃ D, D = (cutL M (k : Int)).1 := ⟨_, rfl⟩
  rw [← hC] at HU1 hfC htC hlC hclen hcc htw hrank
  rw [← hD] at HU2 hfD htD hlD htw
  have HT2 := Lib.hid (fun W g gt A At c ct (h : Lst W g A c C) (h2 : Lst W gt At ct D) => take_t g gt A At c ct C D W h h2 hfC hfD (by omega))
  rw [hrt C D (by omega) (by omega)] at HT2
  obtain ⟨hfE, hlE⟩ := took_fine hfC hfD (by omega)
  rw [hrt C D (by omega) (by omega)] at hfE hlE
  have HU4 := Lib.hid (fun W g A c (h : Lst W g A c (puts C D)) => cut_t g A c (puts C D) (k : Int) W h hfE (by omega) (by omega))
  obtain ⟨hfF, _, hlF⟩ := cutL_fine hfR (k : Int)
  obtain ⟨F, hF⟩ : ∃ F, F = (cutL (puts L M) (k : Int)).1 := ⟨_, rfl⟩
  rw [htw] at HU4
  rw [← hF] at HU3 HU4 hfF hlF
  generalize (cutL L (k : Int)).2 = n1 at *
  generalize (cutL M (k : Int)).2 = n2 at *
  generalize (cutL (puts L M) (k : Int)).2 = n3 at *
  generalize (cutL (puts C D) (k : Int)).2 = n4 at *
  dsimp only at HU1 HU2 HU3 HU4 HT1 HT2 hfR hlR hfE hlE
  have HFL := Lib.hid hf
  have HFM := Lib.hid hfm
  have HFC := Lib.hid hfC
  have HFF := Lib.hid hfF
  dsimp only at hlF
  have HLF := Lib.hid (show F.length ≤ 200 by omega)
  have HLL := Lib.hid hl
  have hcl1 : (C.length : Int) ≤ (k : Int) := by omega
  have hcl2 : decide ((k : Int) < (C.length : Int)) = false := by simp; omega
  have hcl3 : decide (k < C.length) = false := by simp; omega
  have HCC := Lib.hid hcc
  have HT0 := Lib.hid htC
  have htC0 := htC
  have HR2 := Lib.hid (show 1 ≤ tot L by omega)
  have HR2C := Lib.hid (show 1 ≤ tot C by omega)
  have hrk := hrank 1 (by omega) (by omega)
  have hrk2 : decide (rank C 1 < rank L 1) = false := by simp; omega
  clear ha hb hla hlb hL hM hf ht hl hfm htm hlm hq hk hk1 hrt hfR hlR hfC htC0 hlC hfD htD hlD hclen hcc htw hrank hC hD hfE hlE hfF hlF hF
  go_enter Try.func6, Try.ntmps6
  go_wp2_with fail
  refine (alive_t _).mono ?_
  rintro e w1 ⟨rfl, hb1⟩
  have HB1 := Lib.hid hb1
  clear hb1
  go_wp2_with fail
  refine (HCA.out _ (ct_at HPA.out HB1.out)).mono ?_
  rintro e w2 ⟨g1, A1, c1, Aw, cw, rfl, hg1, hl1, hw1, hb2, hd1⟩
  have HB2 := Lib.hid (nextB HB1.out hb2)
  have hg1w : w.heap.size ≤ g1 := Nat.le_trans HB1.out.size hg1
  have HL1 := Lib.hid hl1
  have HW1 := Lib.hid hw1
  have HD1 := Lib.hid hd1
  clear hl1 hw1 hb2 hg1 hd1
  go_wp2_with fail
  refine (HCB.out _ (ct_at HPB.out HB2.out)).mono ?_
  rintro e w3 ⟨g2, A2, c2, Ax, cx, rfl, hg2, hl2, _, hb3, _⟩
  have HB3 := Lib.hid (nextB HB2.out hb3)
  have hg2w : w.heap.size ≤ g2 := Nat.le_trans HB2.out.size hg2
  have HL1 := Lib.hid (And.intro HL1.out (HL1.out.below hb3))
  have HW1 := Lib.hid (And.intro HW1.out (Own.below HW1.out hb3))
  have HL2 := Lib.hid hl2
  have HG2 := Lib.hid hg2
  clear hl2 hb3 hg2
  go_wp2_with fail
  refine (HCA.out _ (ct_at HPA.out HB3.out)).mono ?_
  rintro e w4 ⟨g3, A3, c3, Ay, cy, rfl, hg3, hl3, _, hb4, _⟩
  have HB4 := Lib.hid (nextB HB3.out hb4)
  have hg3w : w.heap.size ≤ g3 := Nat.le_trans HB3.out.size hg3
  have HS4 : Hid (St3 g1 A1 c1 L w1.heap.size Aw cw L g2 A2 c2 M g3 A3 c3 L w4) := Lib.hid (by
    have a1 := fun x (hx : blockOf A1 = some x) => (Own.block (show Own w2 g1 32 2 A1 L.length c1 (pcs L) from HL1.out.1.2) hx)
    have aw := fun x (hx : blockOf Aw = some x) => (Own.block (show Own w2 w1.heap.size 32 2 Aw L.length cw (pcs L) from HW1.out.1) hx)
    have a2 := fun x (hx : blockOf A2 = some x) => (Own.block (show Own w3 g2 32 2 A2 M.length c2 (pcs M) from HL2.out.2) hx)
    have a3 := fun x (hx : blockOf A3 = some x) => (Own.block (show Own w4 g3 32 2 A3 L.length c3 (pcs L) from hl3.2) hx)
    have b1 := HL1.out.1.1.lt
    have b2 := HL2.out.1.lt
    have hh2 := HG2.out
    have hw3 : w2.heap.size ≤ w3.heap.size := by omega
    exact ⟨HL1.out.2.below hb4, Own.below HW1.out.2 hb4, HL2.out.below hb4, hl3, (by omega), (by omega), (by omega), HD1.out,
      (fun x h1 h2 => by have := a1 x h1; have := a2 x h2; omega), (fun x h1 h2 => by have := a1 x h1; have := a3 x h2; omega), (fun x h1 h2 => by have := a2 x h1; have := aw x h2; omega),
      (fun x h1 h2 => by have := a2 x h1; have := a3 x h2; omega), (fun x h1 h2 => by have := a3 x h1; have := aw x h2; omega)⟩)
  clear hl3 hb4 hg3 HL1 HL2 HW1 HD1 HG2
  go_wp2_with fail
  refine (HT1.out w4 g3 g2 A3 A2 c3 c2 HS4.out.u HS4.out.t).mono ?_
  rintro e w5 ⟨rfl, h5⟩
  obtain ⟨A3', c3', a5⟩ := h5.acted
  have HS5 := Lib.hid (HS4.out.act3 a5)
  have HB5 := Lib.hid (acted_below HB4.out HB4.out.size hg3w HS4.out.u a5)
  clear h5 a5
  go_wp2_with fail
  refine (total_t g1 A1 c1 L w5 HS5.out.s).mono ?_
  rintro e w6 ⟨rfl, rfl⟩
  rw [hT]
  have HT9 := Lib.hid (HT0.out.trans hT)
  clear hT
  go_wp2_with fail
  refine (key_one g1 A1 c1 L w5 HS5.out.s HFL.out HR2.out).mono ?_
  rintro e w7 ⟨rfl, hb7⟩
  have HS7 := Lib.hid (HS5.out.below hb7)
  have HB7 := Lib.hid (nextB HB5.out hb7)
  clear hb7
  go_wp2_with fail
  refine (HU1.out w7 g1 A1 c1 HS7.out.s).mono ?_
  rintro e w8 ⟨rfl, h8⟩
  obtain ⟨A1', c1', a8⟩ := h8.acted
  have HS8 := Lib.hid (HS7.out.act1 a8)
  have HB8 := Lib.hid (acted_below HB7.out HB7.out.size hg1w HS7.out.s a8)
  clear h8 a8
  go_wp2_with fail
  refine (key_one g1 A1' c1' C w8 HS8.out.s HFC.out HR2C.out).mono ?_
  rintro e w9 ⟨rfl, hb9⟩
  have HS9 := Lib.hid (HS8.out.below hb9)
  have HB9 := Lib.hid (nextB HB8.out hb9)
  clear hb9
  go_wp2_with fail
  refine (pairs_t g1 A1' c1' C w9 HS9.out.s HFC.out).mono ?_
  rintro e w10 ⟨Ap, cp, rfl, h10, hb10⟩
  have HS10 := Lib.hid (HS9.out.below hb10)
  have HB10 := Lib.hid (nextB HB9.out hb10)
  have HP10 := Lib.hid (OwnP.reads h10)
  clear h10 hb10
  go_wp2_with fail
  refine (total_t g1 A1' c1' C w10 HS10.out.s).mono ?_
  rintro e w11 ⟨rfl, rfl⟩
  rw [HT9.out]
  go_wp2_with fail
  go_loopw [21] (fun v wr => ∃ (i n : Nat), v = .int .i64 (i : Int) ∧ 1 ≤ i ∧ wr = w10.drewN n) (fun v _ => C.length - (intOf v).toNat)
  case atStart => exact ⟨1, 0, rfl, Nat.le_refl _, rfl⟩
  case round =>
    obtain ⟨i, n, rfl, hi1, rfl⟩ := hrel
    by_cases hlt : i < C.length
    · obtain ⟨p, hp⟩ : ∃ p, C[i]? = some p := ⟨_, List.getElem?_eq_getElem hlt⟩
      obtain ⟨b, o, rfl, _, hc⟩ := HP10.out.at_ (by omega)
      have d1 : (w10.drewN n).cell? ⟨b, o + i * 2, none⟩ = some (.int .i64 p.1) := (hc i p hp).1
      have d2 : (w10.drewN n).cell? ⟨b, o + i * 2 + 1, none⟩ = some (.int .u64 (p.2 : Nat)) := (hc i p hp).2
      have hcn := HCC.out i p (by omega) hp
      have hii : (i : Int) < (C.length : Int) := by omega
      have hii2 : decide (i < C.length) = true := by simp; omega
      have hi0 : (0 : Int) ≤ (i : Int) := by omega
      obtain ⟨px, pn⟩ := p
      dsimp only at d1 d2 hcn
      obtain ⟨wo, hwo⟩ : ∃ wo : World, wo = w10.drewN n := ⟨_, rfl⟩
      rw [← hwo] at d1 d2 ⊢
      have HCN : Hid (∀ n, Calls Try.prog 22 #[.slice Aw L.length cw, .int .i64 px] (wo.drewN n) fun e w' => e = .returned (.int .u64 (pn : Nat)) ∧ w' = wo.drewN n) := Lib.hid (fun n' => by
        have h := count13_t Aw cw w10.heap.size L px (wo.drewN n') (by rw [hwo]; exact OwnP.reads HS10.out.r) (by have := HLL.out; unfold maxLen; omega)
        rw [hcn] at h
        exact h)
      have HWO := Lib.hid hwo
      have HI := Lib.hid hlt
      have HI1 := Lib.hid hi1
      clear hc hp hcn hwo hlt hi1
      go_wp2_with fail
      go_quiet ((go_at_call 22; exact Calls.quiet_of_same (HCN.out _)))
      go_wp2_with fail
      go_roundw
      case rel => exact ⟨i + 1, n + _, by go_num, by omega, by rw [HWO.out, World.drewN_drewN]⟩
      case measure => have := HI.out; simp [intOf]; omega
    · have hge : ¬ (i : Int) < (C.length : Int) := by omega
      have hge2 : decide (i < C.length) = false := by simp; omega
      have HS11 := Lib.hid (HS10.out.below (below_drewN (Below.refl _ _) n))
      have HB11 := Lib.hid (below_drewN HB10.out n)
      clear hlt hi1
      go_wp2_with fail
      refine (HU2.out _ g2 A2 c2 HS11.out.t).mono ?_
      rintro e w12 ⟨rfl, h12⟩
      obtain ⟨A2', c2', a12⟩ := h12.acted
      have HS12 := Lib.hid (HS11.out.act2 a12)
      have HB12 := Lib.hid (acted_below HB11.out HB11.out.size hg2w HS11.out.t a12)
      clear h12 a12
      go_wp2_with fail
      refine (HT2.out w12 g1 g2 A1' A2' c1' c2' HS12.out.s HS12.out.t).mono ?_
      rintro e w13 ⟨rfl, h13⟩
      obtain ⟨A1'', c1'', a13⟩ := h13.acted
      have HS13 := Lib.hid (HS12.out.act1 a13)
      have HB13 := Lib.hid (acted_below HB12.out HB12.out.size hg1w HS12.out.s a13)
      clear h13 a13
      go_wp2_with fail
      refine (HU4.out w13 g1 A1'' c1'' HS13.out.s).mono ?_
      rintro e w14 ⟨rfl, h14⟩
      obtain ⟨A1f, c1f, a14⟩ := h14.acted
      have HS14 := Lib.hid (HS13.out.act1 a14)
      have HB14 := Lib.hid (acted_below HB13.out HB13.out.size hg1w HS13.out.s a14)
      clear h14 a14
      go_wp2_with fail
      refine (HU3.out w14 g3 A3' c3' HS14.out.u).mono ?_
      rintro e w15 ⟨rfl, h15⟩
      obtain ⟨A3f, c3f, a15⟩ := h15.acted
      have HS15 := Lib.hid (HS14.out.act3 a15)
      have HB15 := Lib.hid (acted_below HB14.out HB14.out.size hg3w HS14.out.u a15)
      clear h15 a15
      go_wp2_with fail
      refine (pairs_t g1 A1f c1f F w15 HS15.out.s HFF.out).mono ?_
      rintro e w16 ⟨Aq, cq, rfl, h16, hb16⟩
      have HS16 := Lib.hid (HS15.out.below hb16)
      have HB16 := Lib.hid (nextB HB15.out hb16)
      have HP16 := Lib.hid (OwnP.reads h16)
      clear h16 hb16
      go_wp2_with fail
      refine (pairs_t g3 A3f c3f F w16 HS16.out.u HFF.out).mono ?_
      rintro e w17 ⟨Ar, cr, rfl, h17, hb17⟩
      have HB17 := Lib.hid (nextB HB16.out hb17)
      have HP17 := Lib.hid (OwnP.reads h17)
      have HP16 := Lib.hid (HP16.out.at_below hb17)
      clear h17 hb17
      go_wp2_with fail
      refine (same13_t Aq Ar cq cr _ _ F w17 HP16.out HP17.out (by have := HLF.out; unfold maxLen; omega)).mono ?_
      rintro e w18 ⟨rfl, z, rfl⟩
      go_wp2_with fail
      go_ret
      exact ⟨rfl, below_drewN HB17.out z⟩
set_option maxRecDepth 100000 in
set_option maxHeartbeats 25600000 in
theorem cuts_zero (w : World) (A0 : Option Addr) (c0 : Nat) (la : List Pr) (hla : la.length ≤ maxLen) (ha : Pairs w A0 la) (B0 : Option Addr) (d0 : Nat) (lb : List Pr) (hlb : lb.length ≤ maxLen) (hb : Pairs w B0 lb) (m : Int) (r : Nat) (hT : tot (cntL (la.take 100)) = 0) :
    Calls Try.prog 6 #[.slice A0 la.length c0, .slice B0 lb.length d0, .int .i64 m, .int .u64 (r : Int)] w fun e w' => e = .returned (.bool true) ∧ Below w.heap.size w w' := by
  have HPA := Lib.hid ha
  have HPB := Lib.hid hb
  have HCA := Lib.hid (fun W (h : Pairs W A0 la) => counted_t A0 c0 la W h (by unfold maxLen at hla; omega))
  have HCB := Lib.hid (fun W (h : Pairs W B0 lb) => counted_t B0 d0 lb W h (by unfold maxLen at hlb; omega))
  obtain ⟨L, hL⟩ : ∃ L, L = cntL (la.take 100) := ⟨_, rfl⟩
  obtain ⟨M, hM⟩ : ∃ M, M = cntL (lb.take 100) := ⟨_, rfl⟩
  obtain ⟨hf, ht, hl⟩ := cntL_fine la
  obtain ⟨hfm, htm, hlm⟩ := cntL_fine lb
  rw [← hL] at HCA hf ht hl hT
  rw [← hM] at HCB hfm htm hlm
  -- the number of pairs
  obtain ⟨u, hu⟩ : ∃ u : Nat, IntKind.u64.wrap m = (u : Int) := ⟨(IntKind.u64.wrap m).toNat, by rw [IntKind.wrap_u64]; omega⟩
  obtain ⟨q, hq⟩ : ∃ q : Nat, q = u % 20 := ⟨_, rfl⟩
  have hq2 : (u : Int) % 20 = (q : Int) := by omega
  have hq20 : (q : Int) < 20 := by omega
  obtain ⟨k, hk⟩ : ∃ k : Nat, k = 1 + q := ⟨_, rfl⟩
  have hk2 : 1 + (q : Int) = (k : Int) := by omega
  have hk1 : 1 ≤ k := by omega
  have hk20 : (k : Int) ≤ 20 := by omega
  -- taken together
  have hrt : ∀ (L M : List Pr), tot L ≤ 200000 → tot M ≤ 200000 → rtake L M 0 = (puts L M, 0) := fun L M h1 h2 => by
    rw [rtake0]
    by_cases h0 : M = []
    · rw [if_pos h0, h0]; rfl
    · rw [if_neg h0, if_neg (by omega)]
  have HT1 := Lib.hid (fun W g gt A At c ct (h : Lst W g A c L) (h2 : Lst W gt At ct M) => take_t g gt A At c ct L M W h h2 hf hfm (by omega))
  rw [hrt L M (by omega) (by omega)] at HT1
  obtain ⟨hfR, hlR⟩ := took_fine hf hfm (by omega)
  rw [hrt L M (by omega) (by omega)] at hfR hlR
  obtain ⟨hfC, htC, hlC⟩ := cutL_fine hf (k : Int)
  obtain ⟨hfD, htD, hlD⟩ := cutL_fine hfm (k : Int)
  have hclen := cutL_len (L := L) hk1
  have hcc := fun t q h0 h => cutL_count hf (k : Int) (t := t) (q := q) h0 h
  have htw := cut_twice hf.srt hf.pos hfm.srt hfm.pos (k : Int)
  have hrank := fun r h1 h2 => cutL_rank hf (k : Int) (r := r) h1 h2
  have HU1 := Lib.hid (fun W g A c (h : Lst W g A c L) => cut_t g A c L (k : Int) W h hf (by omega) (by omega))
  have HU2 := Lib.hid (fun W g A c (h : Lst W g A c M) => cut_t g A c M (k : Int) W h hfm (by omega) (by omega))
  have HU3 := Lib.hid (fun W g A c (h : Lst W g A c (puts L M)) => cut_t g A c (puts L M) (k : Int) W h hfR (by omega) (by omega))
  obtain ⟨C, hC⟩ : ∃ C, C = (cutL L (k : Int)).1 := ⟨_, rfl⟩
  obtain ⟨D, hD⟩ : ∃ D, D = (cutL M (k : Int)).1 := ⟨_, rfl⟩
  rw [← hC] at HU1 hfC htC hlC hclen hcc htw hrank
  rw [← hD] at HU2 hfD htD hlD htw
  have HT2 := Lib.hid (fun W g gt A At c ct (h : Lst W g A c C) (h2 : Lst W gt At ct D) => take_t g gt A At c ct C D W h h2 hfC hfD (by omega))
  rw [hrt C D (by omega) (by omega)] at HT2
  obtain ⟨hfE, hlE⟩ := took_fine hfC hfD (by omega)
  rw [hrt C D (by omega) (by omega)] at hfE hlE
  have HU4 := Lib.hid (fun W g A c (h : Lst W g A c (puts C D)) => cut_t g A c (puts C D) (k : Int) W h hfE (by omega) (by omega))
  obtain ⟨hfF, _, hlF⟩ := cutL_fine hfR (k : Int)
  obtain ⟨F, hF⟩ : ∃ F, F = (cutL (puts L M) (k : Int)).1 := ⟨_, rfl⟩
  rw [htw] at HU4
  rw [← hF] at HU3 HU4 hfF hlF
  generalize (cutL L (k : Int)).2 = n1 at *
  generalize (cutL M (k : Int)).2 = n2 at *
  generalize (cutL (puts L M) (k : Int)).2 = n3 at *
  generalize (cutL (puts C D) (k : Int)).2 = n4 at *
  dsimp only at HU1 HU2 HU3 HU4 HT1 HT2 hfR hlR hfE hlE
  have HFL := Lib.hid hf
  have HFM := Lib.hid hfm
  have HFC := Lib.hid hfC
  have HFF := Lib.hid hfF
  dsimp only at hlF
  have HLF := Lib.hid (show F.length ≤ 200 by omega)
  have HLL := Lib.hid hl
  have hcl1 : (C.length : Int) ≤ (k : Int) := by omega
  have hcl2 : decide ((k : Int) < (C.length : Int)) = false := by simp; omega
  have hcl3 : decide (k < C.length) = false := by simp; omega
  have HCC := Lib.hid hcc
  have HT0 := Lib.hid htC
  have htC0 := htC
  have HT8 := Lib.hid hT
  clear ha hb hla hlb hL hM hf ht hl hfm htm hlm hq hk hk1 hrt hfR hlR hfC htC0 hlC hfD htD hlD hclen hcc htw hrank hC hD hfE hlE hfF hlF hF
  go_enter Try.func6, Try.ntmps6
  go_wp2_with fail
  refine (alive_t _).mono ?_
  rintro e w1 ⟨rfl, hb1⟩
  have HB1 := Lib.hid hb1
  clear hb1
  go_wp2_with fail
  refine (HCA.out _ (ct_at HPA.out HB1.out)).mono ?_
  rintro e w2 ⟨g1, A1, c1, Aw, cw, rfl, hg1, hl1, hw1, hb2, hd1⟩
  have HB2 := Lib.hid (nextB HB1.out hb2)
  have hg1w : w.heap.size ≤ g1 := Nat.le_trans HB1.out.size hg1
  have HL1 := Lib.hid hl1
  have HW1 := Lib.hid hw1
  have HD1 := Lib.hid hd1
  clear hl1 hw1 hb2 hg1 hd1
  go_wp2_with fail
  refine (HCB.out _ (ct_at HPB.out HB2.out)).mono ?_
  rintro e w3 ⟨g2, A2, c2, Ax, cx, rfl, hg2, hl2, _, hb3, _⟩
  have HB3 := Lib.hid (nextB HB2.out hb3)
  have hg2w : w.heap.size ≤ g2 := Nat.le_trans HB2.out.size hg2
  have HL1 := Lib.hid (And.intro HL1.out (HL1.out.below hb3))
  have HW1 := Lib.hid (And.intro HW1.out (Own.below HW1.out hb3))
  have HL2 := Lib.hid hl2
  have HG2 := Lib.hid hg2
  clear hl2 hb3 hg2
  go_wp2_with fail
  refine (HCA.out _ (ct_at HPA.out HB3.out)).mono ?_
  rintro e w4 ⟨g3, A3, c3, Ay, cy, rfl, hg3, hl3, _, hb4, _⟩
  have HB4 := Lib.hid (nextB HB3.out hb4)
  have hg3w : w.heap.size ≤ g3 := Nat.le_trans HB3.out.size hg3
  have HS4 : Hid (St3 g1 A1 c1 L w1.heap.size Aw cw L g2 A2 c2 M g3 A3 c3 L w4) := Lib.hid (by
    have a1 := fun x (hx : blockOf A1 = some x) => (Own.block (show Own w2 g1 32 2 A1 L.length c1 (pcs L) from HL1.out.1.2) hx)
    have aw := fun x (hx : blockOf Aw = some x) => (Own.block (show Own w2 w1.heap.size 32 2 Aw L.length cw (pcs L) from HW1.out.1) hx)
    have a2 := fun x (hx : blockOf A2 = some x) => (Own.block (show Own w3 g2 32 2 A2 M.length c2 (pcs M) from HL2.out.2) hx)
    have a3 := fun x (hx : blockOf A3 = some x) => (Own.block (show Own w4 g3 32 2 A3 L.length c3 (pcs L) from hl3.2) hx)
    have b1 := HL1.out.1.1.lt
    have b2 := HL2.out.1.lt
    have hh2 := HG2.out
    have hw3 : w2.heap.size ≤ w3.heap.size := by omega
    exact ⟨HL1.out.2.below hb4, Own.below HW1.out.2 hb4, HL2.out.below hb4, hl3, (by omega), (by omega), (by omega), HD1.out,
      (fun x h1 h2 => by have := a1 x h1; have := a2 x h2; omega), (fun x h1 h2 => by have := a1 x h1; have := a3 x h2; omega), (fun x h1 h2 => by have := a2 x h1; have := aw x h2; omega),
      (fun x h1 h2 => by have := a2 x h1; have := a3 x h2; omega), (fun x h1 h2 => by have := a3 x h1; have := aw x h2; omega)⟩)
  clear hl3 hb4 hg3 HL1 HL2 HW1 HD1 HG2
  go_wp2_with fail
  refine (HT1.out w4 g3 g2 A3 A2 c3 c2 HS4.out.u HS4.out.t).mono ?_
  rintro e w5 ⟨rfl, h5⟩
  obtain ⟨A3', c3', a5⟩ := h5.acted
  have HS5 := Lib.hid (HS4.out.act3 a5)
  have HB5 := Lib.hid (acted_below HB4.out HB4.out.size hg3w HS4.out.u a5)
  clear h5 a5
  go_wp2_with fail
  refine (total_t g1 A1 c1 L w5 HS5.out.s).mono ?_
  rintro e w6 ⟨rfl, rfl⟩
  rw [hT]
  have HT9 := Lib.hid (HT0.out.trans hT)
  clear hT
  go_wp2_with fail
  refine (key_none g1 A1 c1 L w5 HS5.out.s HT8.out).mono ?_
  rintro e w5 ⟨rfl, hwe⟩
  obtain rfl := hwe.symm
  have HS7 := HS5
  have HB7 := HB5
  go_wp2_with fail
  refine (HU1.out w5 g1 A1 c1 HS7.out.s).mono ?_
  rintro e w8 ⟨rfl, h8⟩
  obtain ⟨A1', c1', a8⟩ := h8.acted
  have HS8 := Lib.hid (HS7.out.act1 a8)
  have HB8 := Lib.hid (acted_below HB7.out HB7.out.size hg1w HS7.out.s a8)
  clear h8 a8
  go_wp2_with fail
  refine (key_none g1 A1' c1' C w8 HS8.out.s HT9.out).mono ?_
  rintro e w8 ⟨rfl, hwe⟩
  obtain rfl := hwe.symm
  have HS9 := HS8
  have HB9 := HB8
  go_wp2_with fail
  refine (pairs_t g1 A1' c1' C w8 HS9.out.s HFC.out).mono ?_
  rintro e w10 ⟨Ap, cp, rfl, h10, hb10⟩
  have HS10 := Lib.hid (HS9.out.below hb10)
  have HB10 := Lib.hid (nextB HB9.out hb10)
  have HP10 := Lib.hid (OwnP.reads h10)
  clear h10 hb10
  go_wp2_with fail
  refine (total_t g1 A1' c1' C w10 HS10.out.s).mono ?_
  rintro e w11 ⟨rfl, rfl⟩
  rw [HT9.out]
  go_wp2_with fail
  go_loopw [21] (fun v wr => ∃ (i n : Nat), v = .int .i64 (i : Int) ∧ 1 ≤ i ∧ wr = w10.drewN n) (fun v _ => C.length - (intOf v).toNat)
  case atStart => exact ⟨1, 0, rfl, Nat.le_refl _, rfl⟩
  case round =>
    obtain ⟨i, n, rfl, hi1, rfl⟩ := hrel
    by_cases hlt : i < C.length
    · obtain ⟨p, hp⟩ : ∃ p, C[i]? = some p := ⟨_, List.getElem?_eq_getElem hlt⟩
      obtain ⟨b, o, rfl, _, hc⟩ := HP10.out.at_ (by omega)
      have d1 : (w10.drewN n).cell? ⟨b, o + i * 2, none⟩ = some (.int .i64 p.1) := (hc i p hp).1
      have d2 : (w10.drewN n).cell? ⟨b, o + i * 2 + 1, none⟩ = some (.int .u64 (p.2 : Nat)) := (hc i p hp).2
      have hcn := HCC.out i p (by omega) hp
      have hii : (i : Int) < (C.length : Int) := by omega
      have hii2 : decide (i < C.length) = true := by simp; omega
      have hi0 : (0 : Int) ≤ (i : Int) := by omega
      obtain ⟨px, pn⟩ := p
      dsimp only at d1 d2 hcn
      obtain ⟨wo, hwo⟩ : ∃ wo : World, wo = w10.drewN n := ⟨_, rfl⟩
      rw [← hwo] at d1 d2 ⊢
      have HCN : Hid (∀ n, Calls Try.prog 22 #[.slice Aw L.length cw, .int .i64 px] (wo.drewN n) fun e w' => e = .returned (.int .u64 (pn : Nat)) ∧ w' = wo.drewN n) := Lib.hid (fun n' => by
        have h := count13_t Aw cw w10.heap.size L px (wo.drewN n') (by rw [hwo]; exact OwnP.reads HS10.out.r) (by have := HLL.out; unfold maxLen; omega)
        rw [hcn] at h
        exact h)
      have HWO := Lib.hid hwo
      have HI := Lib.hid hlt
      have HI1 := Lib.hid hi1
      clear hc hp hcn hwo hlt hi1
      go_wp2_with fail
      go_quiet ((go_at_call 22; exact Calls.quiet_of_same (HCN.out _)))
      go_wp2_with fail
      go_roundw
      case rel => exact ⟨i + 1, n + _, by go_num, by omega, by rw [HWO.out, World.drewN_drewN]⟩
      case measure => have := HI.out; simp [intOf]; omega
    · have hge : ¬ (i : Int) < (C.length : Int) := by omega
      have hge2 : decide (i < C.length) = false := by simp; omega
      have HS11 := Lib.hid (HS10.out.below (below_drewN (Below.refl _ _) n))
      have HB11 := Lib.hid (below_drewN HB10.out n)
      clear hlt hi1
      go_wp2_with fail
      refine (HU2.out _ g2 A2 c2 HS11.out.t).mono ?_
      rintro e w12 ⟨rfl, h12⟩
      obtain ⟨A2', c2', a12⟩ := h12.acted
      have HS12 := Lib.hid (HS11.out.act2 a12)
      have HB12 := Lib.hid (acted_below HB11.out HB11.out.size hg2w HS11.out.t a12)
      clear h12 a12
      go_wp2_with fail
      refine (HT2.out w12 g1 g2 A1' A2' c1' c2' HS12.out.s HS12.out.t).mono ?_
      rintro e w13 ⟨rfl, h13⟩
      obtain ⟨A1'', c1'', a13⟩ := h13.acted
      have HS13 := Lib.hid (HS12.out.act1 a13)
      have HB13 := Lib.hid (acted_below HB12.out HB12.out.size hg1w HS12.out.s a13)
      clear h13 a13
      go_wp2_with fail
      refine (HU4.out w13 g1 A1'' c1'' HS13.out.s).mono ?_
      rintro e w14 ⟨rfl, h14⟩
      obtain ⟨A1f, c1f, a14⟩ := h14.acted
      have HS14 := Lib.hid (HS13.out.act1 a14)
      have HB14 := Lib.hid (acted_below HB13.out HB13.out.size hg1w HS13.out.s a14)
      clear h14 a14
      go_wp2_with fail
      refine (HU3.out w14 g3 A3' c3' HS14.out.u).mono ?_
      rintro e w15 ⟨rfl, h15⟩
      obtain ⟨A3f, c3f, a15⟩ := h15.acted
      have HS15 := Lib.hid (HS14.out.act3 a15)
      have HB15 := Lib.hid (acted_below HB14.out HB14.out.size hg3w HS14.out.u a15)
      clear h15 a15
      go_wp2_with fail
      refine (pairs_t g1 A1f c1f F w15 HS15.out.s HFF.out).mono ?_
      rintro e w16 ⟨Aq, cq, rfl, h16, hb16⟩
      have HS16 := Lib.hid (HS15.out.below hb16)
      have HB16 := Lib.hid (nextB HB15.out hb16)
      have HP16 := Lib.hid (OwnP.reads h16)
      clear h16 hb16
      go_wp2_with fail
      refine (pairs_t g3 A3f c3f F w16 HS16.out.u HFF.out).mono ?_
      rintro e w17 ⟨Ar, cr, rfl, h17, hb17⟩
      have HB17 := Lib.hid (nextB HB16.out hb17)
      have HP17 := Lib.hid (OwnP.reads h17)
      have HP16 := Lib.hid (HP16.out.at_below hb17)
      clear h17 hb17
      go_wp2_with fail
      refine (same13_t Aq Ar cq cr _ _ F w17 HP16.out HP17.out (by have := HLF.out; unfold maxLen; omega)).mono ?_
      rintro e w18 ⟨rfl, z, rfl⟩
      go_wp2_with fail
      go_ret
      exact ⟨rfl, below_drewN HB17.out z⟩
theorem sparseCuts_walk (w : World) (A0 : Option Addr) (c0 : Nat) (la : List Pr) (hla : la.length ≤ maxLen) (ha : Pairs w A0 la) (B0 : Option Addr) (d0 : Nat) (lb : List Pr) (hlb : lb.length ≤ maxLen) (hb : Pairs w B0 lb) (m : Int) (_m0 : -9223372036854775808 ≤ m) (_m1 : m ≤ 9223372036854775807) (r : Int) (r0 : 0 ≤ r) (_r1 : r ≤ 18446744073709551615) :
    Calls Try.prog 6 #[.slice A0 la.length c0, .slice B0 lb.length d0, .int .i64 m, .int .u64 r] w fun e w' => e = .returned (.bool true) ∧ Below w.heap.size w w' := by
  obtain ⟨r, rfl⟩ : ∃ k : Nat, r = (k : Int) := ⟨r.toNat, by omega⟩
  by_cases h0 : tot (cntL (la.take 100)) = 0
  · exact cuts_zero w A0 c0 la hla ha B0 d0 lb hlb hb m r h0
  · by_cases h1 : tot (cntL (la.take 100)) = 1
    · exact cuts_one w A0 c0 la hla ha B0 d0 lb hlb hb m r h1
    · exact cuts_big w A0 c0 la hla ha B0 d0 lb hlb hb m r (by omega)
end Go.Proofs.Ytfpehefcgfhdmaa
