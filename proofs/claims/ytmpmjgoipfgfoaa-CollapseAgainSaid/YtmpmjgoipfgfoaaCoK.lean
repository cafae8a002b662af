/- CollapseAgain walked. -/
import Derived.Test.YtmpmjgoipfgfoaaCoJ
import Derived.Test.YtmpmjgoipfgfoaaCoG
import Derived.Deep.RegionHeld3
import Derived.Outline
namespace Go.Proofs.Ytmpmjgoipfgfoaa
open Go.RowKit
open Pl
theorem kept_load {L : List Pr} (hp : Pos L) {m : Nat} (hm : 1 ≤ m) : (cutL L (m : Int)).2 = 0 ∨ ((cutL L (m : Int)).1.length : Int) = (m : Int) ∧ ∃ p R, (cutL L (m : Int)).1 = p :: R ∧ (cutL L (m : Int)).2 < p.2 := by
  have e : cutN (m : Int) = m := by unfold cutN; omega
  unfold cutL
  rw [e]
  split
  · exact .inl rfl
  · rename_i h
    obtain ⟨p, R, e1, e2, e3⟩ := cutI_split (L := L) (i := L.length - m) (by omega)
    have := hp p (List.mem_of_getElem? e3)
    exact .inr ⟨by simp only [cutI_len]; omega, _, R, e2, by simp only; omega⟩
/-- Two stores apart from each other. -/
structure T2 (w0 : World) (m : Int) (g gl : Nat) (A : Option Addr) (c : Nat) (L : List Pr) (g2 gl2 : Nat) (A2 : Option Addr) (c2 : Nat) (L2 : List Pr) (w : World) : Prop where
  s : Sto w g gl A c m L
  t : Sto w g2 gl2 A2 c2 m L2
  ng : g ≠ g2
  nl : gl ≠ gl2
  dj : Dj A A2
  low : w0.heap.size ≤ g ∧ w0.heap.size ≤ gl ∧ w0.heap.size ≤ g2 ∧ w0.heap.size ≤ gl2
  bel : Below w0.heap.size w0 w
section
variable {w0 w w' : World} {m : Int} {g gl c g2 gl2 c2 c' : Nat} {A A2 A' : Option Addr} {L L2 L' : List Pr}
theorem T2.below (h : T2 w0 m g gl A c L g2 gl2 A2 c2 L2 w) (hb : Below w.heap.size w w') : T2 w0 m g gl A c L g2 gl2 A2 c2 L2 w' := { h with s := h.s.below hb, t := h.t.below hb, bel := nextB h.bel hb }
theorem T2.drewN (h : T2 w0 m g gl A c L g2 gl2 A2 c2 L2 w) (n : Nat) : T2 w0 m g gl A c L g2 gl2 A2 c2 L2 (w.drewN n) := { h with s := h.s.drewN n, t := h.t.drewN n, bel := below_drewN h.bel n }
theorem T2.act1 (h : T2 w0 m g gl A c L g2 gl2 A2 c2 L2 w) (k : Stored g gl A m L' w w' A' c') : T2 w0 m g gl A' c' L' g2 gl2 A2 c2 L2 w' :=
  { h with s := k.sto, t := sto_other h.s h.t h.ng h.nl h.dj k.only, dj := dj_new h.dj h.t.lst.2 k.new, bel := stored_below h.bel h.low.1 h.low.2.1 h.s k }
theorem T2.act2 (h : T2 w0 m g gl A c L g2 gl2 A2 c2 L2 w) (k : Stored g2 gl2 A2 m L' w w' A' c') : T2 w0 m g gl A c L g2 gl2 A' c' L' w' :=
  { h with t := k.sto, s := sto_other h.t h.s h.ng.symm h.nl.symm h.dj.symm k.only, dj := (dj_new h.dj.symm h.s.lst.2 k.new).symm, bel := stored_below h.bel h.low.2.2.1 h.low.2.2.2 h.t k }
end
set_option maxHeartbeats 12800000 in
set_option maxRecDepth 100000 in
theorem collapseAgain_walk (w : World) (m : Int) (m0 : 0 ≤ m) (_m1 : m ≤ 65535) (A0 : Option Addr) (c0 : Nat) (la : List Pr) (hla : la.length ≤ maxLen) (ha : Pairs w A0 la) (B0 : Option Addr) (d0 : Nat) (lb : List Pr) (hlb : lb.length ≤ maxLen) (hb : Pairs w B0 lb) :
    Calls Try.prog 6 #[.int .u16 m, .slice A0 la.length c0, .slice B0 lb.length d0] w fun e w' => e = .returned (.bool true) ∧ Below w.heap.size w w' := by
  obtain ⟨m, rfl⟩ : ∃ k : Nat, m = (k : Int) := ⟨m.toNat, by omega⟩
  have HPA0 := Lib.hid ha
  have HPB0 := Lib.hid hb
  have HL64 := Lib.hid (show (la.length : Int) ≤ 9223372036854775807 by unfold maxLen at hla; omega)
  have hlb64 : (lb.length : Int) ≤ 9223372036854775807 := by unfold maxLen at hlb; omega
  obtain ⟨mq, hmq⟩ : ∃ mq : Nat, mq = m % 30 := ⟨_, rfl⟩
  have hmq2 : (m : Int) % 30 = (mq : Int) := by omega
  have hmq3 : (mq : Int) < 30 := by omega
  obtain ⟨b, hbe⟩ : ∃ b : Nat, b = 2 + mq := ⟨_, rfl⟩
  have hb2 : 2 + (mq : Int) = (b : Int) := by omega
  have HB0 := Lib.hid (show (2 : Int) ≤ (b : Int) ∧ (b : Int) ≤ 4096 by omega)
  have HB1' := Lib.hid (show 1 ≤ b by omega)
  have HCT := Lib.hid (fun W (h : Pairs W A0 la) => counted_t A0 c0 (b : Int) la W h HL64.out HB0.out.1 HB0.out.2)
  obtain ⟨L0, hL⟩ : ∃ L, L = cntL (la.take 100) := ⟨_, rfl⟩
  obtain ⟨hf, ht5, hl1⟩ := cntL_fine la
  rw [← hL] at HCT hf ht5 hl1
  have hfC := kept_fine hf (b : Int)
  have hlC := cutL_len (L := L0) (m := b) HB1'.out
  have hld := kept_load hf.pos HB1'.out
  have HPS := Lib.hid (fun W g gl A c (h : Sto W g gl A c (b : Int) L0) => spairs_t g gl A c (b : Int) L0 W h hf)
  have HFS := Lib.hid (fun W g gl A c (h : Sto W g gl A c (b : Int) L0) => sfolded_t g gl A c (b : Int) L0 W h)
  have HLD := Lib.hid (fun W A c (h : Prs W W.heap.size A (cutL L0 (b : Int)).1) => load_t A c (b : Int) (cutL L0 (b : Int)).1 (cutL L0 (b : Int)).2 W h hfC HB0.out.1 HB0.out.2 (by omega) (by omega) hld)
  have HF := Lib.hid hf
  have HL1 := Lib.hid hl1
  have HSTO : Hid (∀ W g gl A c, Blk W g 61 #[.int .i64 (b : Int), .pointer (some ⟨gl, 0, none⟩), .int .u64 ((cutL L0 (b : Int)).2 : Nat)] → Lst W gl A c (cutL L0 (b : Int)).1 → Sto W g gl A c (b : Int) L0) := Lib.hid (fun _ _ _ _ _ h1 h2 => ⟨h1, h2⟩)
  generalize cutL L0 (b : Int) = R0 at *
  clear ha hb hla hlb hL hf ht5 hl1 hmq hbe hfC hlC hld
  go_enter Try.func6, Try.ntmps6
  go_wp2_with fail
  refine (alive_t _).mono ?_
  rintro e w1 ⟨rfl, hb1⟩
  have HB1 := Lib.hid hb1
  clear hb1
  go_wp2_with fail
  refine (HCT.out _ (ct_at HPA0.out HB1.out)).mono ?_
  rintro e w2 ⟨g, gl, A, c, A2, c2, rfl, hg, hgl, hsto, _, hb2', _⟩
  have HST := Lib.hid hsto
  have HB2 := Lib.hid (nextB HB1.out hb2')
  have HG := Lib.hid (And.intro (Nat.le_trans HB1.out.size hg) (Nat.le_trans HB1.out.size hgl))
  clear hsto hb2' hg hgl
  go_wp2_with fail
  refine (HPS.out w2 g gl A c HST.out).mono ?_
  rintro e w3 ⟨Ap, cp, rfl, hp, hb3⟩
  have HST3 := Lib.hid (HST.out.below hb3)
  have HP3 := Lib.hid (OwnP.reads hp)
  have HB3 := Lib.hid (nextB HB2.out hb3)
  clear hp hb3
  go_wp2_with fail
  refine (HFS.out w3 g gl A c HST3.out).mono ?_
  rintro e w4 ⟨rfl, rfl⟩
  go_wp2_with fail
  refine (HLD.out w3 Ap cp HP3.out).mono ?_
  rintro e w5 ⟨g2, gl2, A2, c2, rfl, hg2, hgl2, hbk, hls, hb5⟩
  have hs5 := HST3.out.below hb5
  have HT5 : Hid (T2 w (b : Int) g gl A c L0 g2 gl2 A2 c2 L0 w5) := Lib.hid (by
    have a1 := HST3.out.blk.lt
    have a2 := HST3.out.lst.1.lt
    refine ⟨hs5, HSTO.out w5 g2 gl2 A2 c2 hbk hls, by omega, by omega, fun x h1 h2 => ?_, ⟨HG.out.1, HG.out.2, Nat.le_trans HB3.out.size hg2, Nat.le_trans HB3.out.size hgl2⟩, nextB HB3.out hb5⟩
    have a3 := (Own.block (show Own w3 gl 38 2 A _ c (pcs _) from HST3.out.lst.2) h1).2
    have a4 := (Own.block (show Own w5 gl2 38 2 A2 _ c2 (pcs _) from hls.2) h2).1
    omega)
  clear hbk hls hb5 hs5 hg2 hgl2
  go_wp2_with fail
  go_loopw [12] (fun v wr => ∃ (i : Nat) (L : List Pr) (A : Option Addr) (c : Nat) (A2 : Option Addr) (c2 : Nat), v = .int .i64 (i : Int) ∧ i ≤ lb.length ∧ i ≤ 60 ∧ Fine L ∧ L.length ≤ 100 + i ∧ T2 w (b : Int) g gl A c L g2 gl2 A2 c2 L wr) (fun v _ => lb.length - (intOf v).toNat)
  case atStart => exact ⟨0, L0, A, c, A2, c2, rfl, Nat.zero_le _, Nat.zero_le _, HF.out, HL1.out, HT5.out⟩
  case round =>
    obtain ⟨i, L, A, c, A2, c2, rfl, hi, hi60, hf, hlen, ht⟩ := hrel
    obtain ⟨wo, rfl⟩ : ∃ wo : World, wo = wr := ⟨_, rfl⟩
    by_cases hlt : i < lb.length ∧ i < 60
    · obtain ⟨hlt, hlt2⟩ := hlt
      have hii : (i : Int) < (lb.length : Int) := by omega
      have hii2 : decide (i < lb.length) = true := by simp; omega
      have hii3 : (i : Int) < 60 := by omega
      have hi0 : (0 : Int) ≤ (i : Int) := by omega
      obtain ⟨p, hp⟩ : ∃ p, lb[i]? = some p := ⟨_, List.getElem?_eq_getElem hlt⟩
      obtain ⟨bb, o, rfl, hbb, hc⟩ := HPB0.out.2.at_ (by omega)
      obtain ⟨p1, p2⟩ := hc i p hp
      have hpo := HPB0.out.1 p (List.mem_of_getElem? hp)
      obtain ⟨k, n⟩ := p
      dsimp only at p1 p2 hpo
      have hcell : ∀ W, Below w.heap.size w W → W.cell? ⟨bb, o + i * 2, none⟩ = some (.int .i64 k) ∧ W.cell? ⟨bb, o + i * 2 + 1, none⟩ = some (.int .u64 (n : Nat)) := fun W hW => ⟨(hW.cell (p := ⟨bb, o + i * 2, none⟩) hbb).trans p1, (hW.cell (p := ⟨bb, o + i * 2 + 1, none⟩) hbb).trans p2⟩
      have HCE := Lib.hid hcell
      obtain ⟨x0, y0⟩ := hcell wo ht.bel
      have hrf := radd_fine (k := k) (n := n) hf (by omega)
      have HAD := Lib.hid (fun g gl A c W (h : Sto W g gl A c (b : Int) L) => sadd_t g gl A c (b : Int) L k n W h hf (by omega) HB0.out.1 (by have := HB0.out; omega))
      have hrfl : (radd L k n 0).1.length ≤ 100 + (i + 1) := by omega
      generalize radd L k n 0 = RR at *
      have HPA := Lib.hid (fun g gl A c W (h : Sto W g gl A c (b : Int) RR.1) => spairs_t g gl A c (b : Int) RR.1 W h hrf.1)
      have HFO := Lib.hid (fun g gl A c W (h : Sto W g gl A c (b : Int) RR.1) => sfolded_t g gl A c (b : Int) RR.1 W h)
      have hkl := (kept_fine hrf.1 (b : Int)).len
      have HSA := Lib.hid (fun A1 A2 c1 c2 B1 B2 W h1 h2 => same15_t A1 A2 c1 c2 B1 B2 (cutL RR.1 (b : Int)).1 W h1 h2 (by unfold maxLen; omega))
      have HT := Lib.hid ht
      have HRF := Lib.hid hrf.1
      have HRL := Lib.hid hrfl
      have HI := Lib.hid (And.intro hlt hlt2)
      generalize cutL RR.1 (b : Int) = CR at *
      clear ht hrf hrfl hlt hlt2 hp hc hcell p1 p2 hpo hbb hi hi60 hlen hkl hf
      go_wp2_with fail
      refine wp_region_noPanic ?_
      refine wp_region_held_drew (S := (fun W => W.cell? ⟨bb, o + i * 2, none⟩ = some (.int .i64 k) ∧ W.cell? ⟨bb, o + i * 2 + 1, none⟩ = some (.int .u64 (n : Nat)))) (by kernel_rfl) ⟨x0, y0⟩ (fun hHeld => ?_)
      refine wpAnyH_take (i := 0) (oi := ?_) (v := ?_) ?_ ?_ ?_ ?_ ?_ ?_ ?_ ?_
      rotate_left 2
      · simp only [List.getElem?_toArray, List.getElem?_cons_zero]; rfl
      · kernel_rfl
      · kernel_rfl
      · kernel_rfl
      · exact fun _ _ _ h => h
      · exact Or.inl ⟨by kernel_rfl, by intro w hSw; (try dsimp only at hSw); go_simp; try with_reducible rfl⟩
      · assumption
      try go_simp
      refine wpAnyH_take (i := 1) (oi := ?_) (v := ?_) ?_ ?_ ?_ ?_ ?_ ?_ ?_ ?_
      rotate_left 2
      · simp only [List.getElem?_toArray, List.getElem?_cons_succ, List.getElem?_cons_zero]; rfl
      · kernel_rfl
      · kernel_rfl
      · kernel_rfl
      · exact fun _ _ _ h => h
      · exact Or.inl ⟨by kernel_rfl, by intro w hSw; (try dsimp only at hSw); go_simp; try with_reducible rfl⟩
      · assumption
      try go_simp
      refine wpAnyH_take (i := 2) (oi := ?_) (v := ?_) ?_ ?_ ?_ ?_ ?_ ?_ ?_ ?_
      rotate_left 2
      · simp only [List.getElem?_toArray, List.getElem?_cons_succ, List.getElem?_cons_zero]; rfl
      · kernel_rfl
      · kernel_rfl
      · kernel_rfl
      · exact fun _ _ _ h => h
      · exact Or.inl ⟨by kernel_rfl, by intro w hSw; (try dsimp only at hSw); go_simp; try with_reducible rfl⟩
      · assumption
      try go_simp
      refine wpAnyH_take (i := 3) (oi := ?_) (v := ?_) ?_ ?_ ?_ ?_ ?_ ?_ ?_ ?_
      rotate_left 2
      · simp only [List.getElem?_toArray, List.getElem?_cons_succ, List.getElem?_cons_zero]; rfl
      · kernel_rfl
      · kernel_rfl
      · kernel_rfl
      · exact fun _ _ _ h => h
      · exact Or.inl ⟨by kernel_rfl, by intro w hSw; (try dsimp only at hSw); go_simp; try with_reducible rfl⟩
      · assumption
      try go_simp
      refine wpAnyH_take (i := 4) (oi := ?_) (v := ?_) ?_ ?_ ?_ ?_ ?_ ?_ ?_ ?_
      rotate_left 2
      · simp only [List.getElem?_toArray, List.getElem?_cons_succ, List.getElem?_cons_zero]; rfl
      · kernel_rfl
      · kernel_rfl
      · kernel_rfl
      · exact fun _ _ _ h => h
      · exact Or.inl ⟨by kernel_rfl, by intro w hSw; (try dsimp only at hSw); go_simp; try with_reducible rfl⟩
      · assumption
      try go_simp
      refine wpAnyH_take (i := 5) (oi := ?_) (v := ?_) ?_ ?_ ?_ ?_ ?_ ?_ ?_ ?_
      rotate_left 2
      · simp only [List.getElem?_toArray, List.getElem?_cons_succ, List.getElem?_cons_zero]; rfl
      · kernel_rfl
      · kernel_rfl
      · kernel_rfl
      · exact fun _ _ _ h => h
      · exact Or.inl ⟨by kernel_rfl, by intro w hSw; (try dsimp only at hSw); go_simp; try with_reducible rfl⟩
      · assumption
      try go_simp
      refine wpAnyH_take (i := 6) (oi := ?_) (v := ?_) ?_ ?_ ?_ ?_ ?_ ?_ ?_ ?_
      rotate_left 2
      · simp only [List.getElem?_toArray, List.getElem?_cons_succ, List.getElem?_cons_zero]; rfl
      · kernel_rfl
      · kernel_rfl
      · kernel_rfl
      · exact fun _ _ _ h => h
      · exact Or.inl ⟨by kernel_rfl, by intro w hSw; (try dsimp only at hSw); go_simp; try with_reducible rfl⟩
      · assumption
      try go_simp
      refine wpAnyH_take (i := 7) (oi := ?_) (v := ?_) ?_ ?_ ?_ ?_ ?_ ?_ ?_ ?_
      rotate_left 2
      · simp only [List.getElem?_toArray, List.getElem?_cons_succ, List.getElem?_cons_zero]; rfl
      · kernel_rfl
      · kernel_rfl
      · kernel_rfl
      · exact fun _ _ _ h => h
      · exact Or.inl ⟨by kernel_rfl, by intro w hSw; (try dsimp only at hSw); go_simp; try with_reducible rfl⟩
      · assumption
      try go_simp
      refine wpAnyH_take (i := 8) (oi := ?_) (v := ?_) ?_ ?_ ?_ ?_ ?_ ?_ ?_ ?_
      rotate_left 2
      · simp only [List.getElem?_toArray, List.getElem?_cons_succ, List.getElem?_cons_zero]; rfl
      · kernel_rfl
      · kernel_rfl
      · kernel_rfl
      · exact fun _ _ _ h => h
      · exact Or.inl ⟨by kernel_rfl, by intro w hSw; (try dsimp only at hSw); go_simp; try with_reducible rfl⟩
      · assumption
      try go_simp
      refine wpAnyH_take (i := 9) (oi := ?_) (v := ?_) ?_ ?_ ?_ ?_ ?_ ?_ ?_ ?_
      rotate_left 2
      · simp only [List.getElem?_toArray, List.getElem?_cons_succ, List.getElem?_cons_zero]; rfl
      · kernel_rfl
      · kernel_rfl
      · kernel_rfl
      · exact fun _ _ _ h => h
      · exact Or.inl ⟨by kernel_rfl, by intro w hSw; (try dsimp only at hSw); go_simp; try with_reducible rfl⟩
      · assumption
      try go_simp
      refine wpAnyH_take (i := 10) (oi := ?_) (v := ?_) ?_ ?_ ?_ ?_ ?_ ?_ ?_ ?_
      rotate_left 2
      · simp only [List.getElem?_toArray, List.getElem?_cons_succ, List.getElem?_cons_zero]; rfl
      · kernel_rfl
      · kernel_rfl
      · kernel_rfl
      · exact fun _ _ _ h => h
      · exact Or.inl ⟨by kernel_rfl, by intro w hSw; (try dsimp only at hSw); go_simp; try with_reducible rfl⟩
      · assumption
      try go_simp
      refine wpAnyH_take (i := 12) (oi := ?_) (v := ?_) ?_ ?_ ?_ ?_ ?_ ?_ ?_ ?_
      rotate_left 2
      · simp only [List.getElem?_toArray, List.getElem?_cons_succ, List.getElem?_cons_zero]; rfl
      · kernel_rfl
      · kernel_rfl
      · kernel_rfl
      · exact fun _ _ _ h => h
      · exact Or.inl ⟨by kernel_rfl, by intro w hSw; (try dsimp only at hSw); go_simp; try with_reducible rfl⟩
      · assumption
      try go_simp
      refine wpAnyH_take (i := 13) (oi := ?_) (v := ?_) ?_ ?_ ?_ ?_ ?_ ?_ ?_ ?_
      rotate_left 2
      · simp only [List.getElem?_toArray, List.getElem?_cons_succ, List.getElem?_cons_zero]; rfl
      · kernel_rfl
      · kernel_rfl
      · kernel_rfl
      · exact fun _ _ _ h => h
      · exact Or.inl ⟨by kernel_rfl, by intro w hSw; (try dsimp only at hSw); go_simp; try with_reducible rfl⟩
      · assumption
      try go_simp
      refine wpAnyH_take (i := 14) (oi := ?_) (v := ?_) ?_ ?_ ?_ ?_ ?_ ?_ ?_ ?_
      rotate_left 2
      · simp only [List.getElem?_toArray, List.getElem?_cons_succ, List.getElem?_cons_zero]; rfl
      · kernel_rfl
      · kernel_rfl
      · kernel_rfl
      · exact fun _ _ _ h => h
      · exact Or.inl ⟨by kernel_rfl, by intro w hSw; (try dsimp only at hSw); go_simp; try with_reducible rfl⟩
      · assumption
      try go_simp
      refine wpAnyH_take (i := 15) (oi := ?_) (v := ?_) ?_ ?_ ?_ ?_ ?_ ?_ ?_ ?_
      rotate_left 2
      · simp only [List.getElem?_toArray, List.getElem?_cons_succ, List.getElem?_cons_zero]; rfl
      · kernel_rfl
      · kernel_rfl
      · kernel_rfl
      · exact fun _ _ _ h => h
      · exact Or.inl ⟨by kernel_rfl, by intro w hSw; (try dsimp only at hSw); go_simp; try with_reducible rfl⟩
      · assumption
      try go_simp
      refine wpAnyH_take (i := 16) (oi := ?_) (v := ?_) ?_ ?_ ?_ ?_ ?_ ?_ ?_ ?_
      rotate_left 2
      · simp only [List.getElem?_toArray, List.getElem?_cons_succ, List.getElem?_cons_zero]; rfl
      · kernel_rfl
      · kernel_rfl
      · kernel_rfl
      · exact fun _ _ _ h => h
      · exact Or.inl ⟨by kernel_rfl, by intro w hSw; (try dsimp only at hSw); go_simp; try with_reducible rfl⟩
      · assumption
      try go_simp
      refine wpAnyH_take (i := 17) (oi := ?_) (v := ?_) ?_ ?_ ?_ ?_ ?_ ?_ ?_ ?_
      rotate_left 2
      · simp only [List.getElem?_toArray, List.getElem?_cons_succ, List.getElem?_cons_zero]; rfl
      · kernel_rfl
      · kernel_rfl
      · kernel_rfl
      · exact fun _ _ _ h => h
      · exact Or.inl ⟨by kernel_rfl, by intro w hSw; (try dsimp only at hSw); go_simp; try with_reducible rfl⟩
      · assumption
      try go_simp
      refine wpAnyH_take (i := 18) (oi := ?_) (v := ?_) ?_ ?_ ?_ ?_ ?_ ?_ ?_ ?_
      rotate_left 2
      · simp only [List.getElem?_toArray, List.getElem?_cons_succ, List.getElem?_cons_zero]; rfl
      · kernel_rfl
      · kernel_rfl
      · kernel_rfl
      · exact fun _ _ _ h => h
      · exact Or.inl ⟨by kernel_rfl, by intro w hSw; (try dsimp only at hSw); go_simp; try with_reducible rfl⟩
      · assumption
      try go_simp
      refine wpAnyH_take (i := 19) (oi := ?_) (v := ?_) ?_ ?_ ?_ ?_ ?_ ?_ ?_ ?_
      rotate_left 2
      · simp only [List.getElem?_toArray, List.getElem?_cons_succ, List.getElem?_cons_zero]; rfl
      · kernel_rfl
      · kernel_rfl
      · kernel_rfl
      · exact fun _ _ _ h => h
      · exact Or.inl ⟨by kernel_rfl, by intro w hSw; (try dsimp only at hSw); go_simp; try with_reducible rfl⟩
      · assumption
      try go_simp
      refine wpAnyH_take (i := 20) (oi := ?_) (v := ?_) ?_ ?_ ?_ ?_ ?_ ?_ ?_ ?_
      rotate_left 2
      · simp only [List.getElem?_toArray, List.getElem?_cons_succ, List.getElem?_cons_zero]; rfl
      · kernel_rfl
      · kernel_rfl
      · kernel_rfl
      · exact fun _ _ _ h => h
      · exact Or.inl ⟨by kernel_rfl, by intro w hSw; (try dsimp only at hSw); go_simp; try with_reducible rfl⟩
      · assumption
      try go_simp
      refine wpAnyH_take (i := 21) (oi := ?_) (v := ?_) ?_ ?_ ?_ ?_ ?_ ?_ ?_ ?_
      rotate_left 2
      · simp only [List.getElem?_toArray, List.getElem?_cons_succ, List.getElem?_cons_zero]; rfl
      · kernel_rfl
      · kernel_rfl
      · kernel_rfl
      · exact fun _ _ _ h => h
      · exact Or.inl ⟨by kernel_rfl, by intro w hSw; (try dsimp only at hSw); go_simp; try with_reducible rfl⟩
      · assumption
      try go_simp
      refine wpAnyH_take (i := 22) (oi := ?_) (v := ?_) ?_ ?_ ?_ ?_ ?_ ?_ ?_ ?_
      rotate_left 2
      · simp only [List.getElem?_toArray, List.getElem?_cons_succ, List.getElem?_cons_zero]; rfl
      · kernel_rfl
      · kernel_rfl
      · kernel_rfl
      · exact fun _ _ _ h => h
      · exact Or.inl ⟨by kernel_rfl, by intro w hSw; (try dsimp only at hSw); go_simp; try with_reducible rfl⟩
      · assumption
      try go_simp
      refine wpAnyH_ready (rs := [11]) (by kernel_rfl) (by simp) ?_
      refine AllReadyH.cons (o := ?_) ?_ ?_ AllReadyH.nil
      rotate_left 1
      · simp only [List.getElem?_toArray, List.getElem?_cons_succ, List.getElem?_cons_zero]; rfl
      intro K hK
      go_simp
      refine (HAD.out g gl A c wo.drew (HT.out.drewN 1).s).mono ?_
      rintro e w2 ⟨rfl, A5, c5, k5⟩
      have h2 := T2.act1 (w := wo.drew) (HT.out.drewN 1) k5
      obtain ⟨x2, y2⟩ := HCE.out w2 h2.bel
      have HT2 := Lib.hid h2
      clear k5 h2
      refine hK.out _ _ ?_ (fun hHeld => ?_)
      · exact ⟨x2, y2⟩
      clear hK K
      try go_simp
      refine wpAnyH_ready (rs := [23]) (by kernel_rfl) (by simp) ?_
      refine AllReadyH.cons (o := ?_) ?_ ?_ AllReadyH.nil
      rotate_left 1
      · simp only [List.getElem?_toArray, List.getElem?_cons_succ, List.getElem?_cons_zero]; rfl
      intro K hK
      go_simp
      refine (HAD.out g2 gl2 A2 c2 w2 HT2.out.t).mono ?_
      rintro e w3 ⟨rfl, A6, c6, k6⟩
      have h3 := HT2.out.act2 k6
      obtain ⟨x3, y3⟩ := HCE.out w3 h3.bel
      have HT3 := Lib.hid h3
      clear k6 h3
      refine hK.out _ _ ?_ (fun hHeld => ?_)
      · exact ⟨x3, y3⟩
      clear hK K
      try go_simp
      refine wpAnyH_take (i := 24) (oi := ?_) (v := ?_) ?_ ?_ ?_ ?_ ?_ ?_ ?_ ?_
      rotate_left 2
      · simp only [List.getElem?_toArray, List.getElem?_cons_succ, List.getElem?_cons_zero]; rfl
      · kernel_rfl
      · kernel_rfl
      · kernel_rfl
      · exact fun _ _ _ h => h
      · exact Or.inl ⟨by kernel_rfl, by intro w hSw; (try dsimp only at hSw); go_simp; try with_reducible rfl⟩
      · assumption
      try go_simp
      refine wpAnyH_take (i := 25) (oi := ?_) (v := ?_) ?_ ?_ ?_ ?_ ?_ ?_ ?_ ?_
      rotate_left 2
      · simp only [List.getElem?_toArray, List.getElem?_cons_succ, List.getElem?_cons_zero]; rfl
      · kernel_rfl
      · kernel_rfl
      · kernel_rfl
      · exact fun _ _ _ h => h
      · exact Or.inl ⟨by kernel_rfl, by intro w hSw; (try dsimp only at hSw); go_simp; try with_reducible rfl⟩
      · assumption
      try go_simp
      refine wpAnyH_take (i := 26) (oi := ?_) (v := ?_) ?_ ?_ ?_ ?_ ?_ ?_ ?_ ?_
      rotate_left 2
      · simp only [List.getElem?_toArray, List.getElem?_cons_succ, List.getElem?_cons_zero]; rfl
      · kernel_rfl
      · kernel_rfl
      · kernel_rfl
      · exact fun _ _ _ h => h
      · exact Or.inl ⟨by kernel_rfl, by intro w hSw; (try dsimp only at hSw); go_simp; try with_reducible rfl⟩
      · assumption
      try go_simp
      refine wpAnyH_take (i := 28) (oi := ?_) (v := ?_) ?_ ?_ ?_ ?_ ?_ ?_ ?_ ?_
      rotate_left 2
      · simp only [List.getElem?_toArray, List.getElem?_cons_succ, List.getElem?_cons_zero]; rfl
      · kernel_rfl
      · kernel_rfl
      · kernel_rfl
      · exact fun _ _ _ h => h
      · exact Or.inl ⟨by kernel_rfl, by intro w hSw; (try dsimp only at hSw); go_simp; try with_reducible rfl⟩
      · assumption
      try go_simp
      refine wpAnyH_ready (rs := [27]) (by kernel_rfl) (by simp) ?_
      refine AllReadyH.cons (o := ?_) ?_ ?_ AllReadyH.nil
      rotate_left 1
      · simp only [List.getElem?_toArray, List.getElem?_cons_succ, List.getElem?_cons_zero]; rfl
      intro K hK
      go_simp
      refine (HPA.out g gl A5 c5 w3 HT3.out.s).mono ?_
      rintro e w4 ⟨A7, c7, rfl, h7, hb7⟩
      have h4 := HT3.out.below hb7
      obtain ⟨x4, y4⟩ := HCE.out w4 h4.bel
      have HT4 := Lib.hid h4
      have HP7 := Lib.hid (OwnP.reads h7)
      clear h7 hb7 h4
      refine hK.out _ _ ?_ (fun hHeld => ?_)
      · exact ⟨x4, y4⟩
      clear hK K
      try go_simp
      refine wpAnyH_ready (rs := [29]) (by kernel_rfl) (by simp) ?_
      refine AllReadyH.cons (o := ?_) ?_ ?_ AllReadyH.nil
      rotate_left 1
      · simp only [List.getElem?_toArray, List.getElem?_cons_succ, List.getElem?_cons_zero]; rfl
      intro K hK
      go_simp
      refine (HPA.out g2 gl2 A6 c6 w4 HT4.out.t).mono ?_
      rintro e w5 ⟨A8, c8, rfl, h8, hb8⟩
      have h5 := HT4.out.below hb8
      obtain ⟨x5, y5⟩ := HCE.out w5 h5.bel
      have HT5 := Lib.hid h5
      have HP8 := Lib.hid (OwnP.reads h8)
      have HP7' := Lib.hid (HP7.out.at_below hb8)
      clear h8 hb8 h5
      refine hK.out _ _ ?_ (fun hHeld => ?_)
      · exact ⟨x5, y5⟩
      clear hK K
      try go_simp
      refine wpAnyH_ready (rs := [30]) (by kernel_rfl) (by simp) ?_
      refine AllReadyH.cons (o := ?_) ?_ ?_ AllReadyH.nil
      rotate_left 1
      · simp only [List.getElem?_toArray, List.getElem?_cons_succ, List.getElem?_cons_zero]; rfl
      intro K hK
      go_simp
      refine (HSA.out A7 A8 c7 c8 _ _ w5 HP7'.out HP8.out).mono ?_
      rintro e w6 ⟨rfl, z, rfl⟩
      have h6 := HT5.out.drewN z
      obtain ⟨x6, y6⟩ := HCE.out _ h6.bel
      have HT6 := Lib.hid h6
      clear h6
      refine hK.out _ _ ?_ (fun hHeld => ?_)
      · exact ⟨x6, y6⟩
      clear hK K
      try go_simp
      refine wpAnyH_take (i := 31) (oi := ?_) (v := ?_) ?_ ?_ ?_ ?_ ?_ ?_ ?_ ?_
      rotate_left 2
      · simp only [List.getElem?_toArray, List.getElem?_cons_succ, List.getElem?_cons_zero]; rfl
      · kernel_rfl
      · kernel_rfl
      · kernel_rfl
      · exact fun _ _ _ h => h
      · exact Or.inl ⟨by kernel_rfl, by intro w hSw; (try dsimp only at hSw); go_simp; try with_reducible rfl⟩
      · assumption
      try go_simp
      refine wpAnyH_take (i := 32) (oi := ?_) (v := ?_) ?_ ?_ ?_ ?_ ?_ ?_ ?_ ?_
      rotate_left 2
      · simp only [List.getElem?_toArray, List.getElem?_cons_succ, List.getElem?_cons_zero]; rfl
      · kernel_rfl
      · kernel_rfl
      · kernel_rfl
      · exact fun _ _ _ h => h
      · exact Or.inl ⟨by kernel_rfl, by intro w hSw; (try dsimp only at hSw); go_simp; try with_reducible rfl⟩
      · assumption
      try go_simp
      refine wpAnyH_take (i := 33) (oi := ?_) (v := ?_) ?_ ?_ ?_ ?_ ?_ ?_ ?_ ?_
      rotate_left 2
      · simp only [List.getElem?_toArray, List.getElem?_cons_succ, List.getElem?_cons_zero]; rfl
      · kernel_rfl
      · kernel_rfl
      · kernel_rfl
      · exact fun _ _ _ h => h
      · exact Or.inl ⟨by kernel_rfl, by intro w hSw; (try dsimp only at hSw); go_simp; try with_reducible rfl⟩
      · assumption
      try go_simp
      refine wpAnyH_take (i := 34) (oi := ?_) (v := ?_) ?_ ?_ ?_ ?_ ?_ ?_ ?_ ?_
      rotate_left 2
      · simp only [List.getElem?_toArray, List.getElem?_cons_succ, List.getElem?_cons_zero]; rfl
      · kernel_rfl
      · kernel_rfl
      · kernel_rfl
      · exact fun _ _ _ h => h
      · exact Or.inl ⟨by kernel_rfl, by intro w hSw; (try dsimp only at hSw); go_simp; try with_reducible rfl⟩
      · assumption
      try go_simp
      refine wpAnyH_take (i := 36) (oi := ?_) (v := ?_) ?_ ?_ ?_ ?_ ?_ ?_ ?_ ?_
      rotate_left 2
      · simp only [List.getElem?_toArray, List.getElem?_cons_succ, List.getElem?_cons_zero]; rfl
      · kernel_rfl
      · kernel_rfl
      · kernel_rfl
      · exact fun _ _ _ h => h
      · exact Or.inl ⟨by kernel_rfl, by intro w hSw; (try dsimp only at hSw); go_simp; try with_reducible rfl⟩
      · assumption
      try go_simp
      refine wpAnyH_ready (rs := [35]) (by kernel_rfl) (by simp) ?_
      refine AllReadyH.cons (o := ?_) ?_ ?_ AllReadyH.nil
      rotate_left 1
      · simp only [List.getElem?_toArray, List.getElem?_cons_succ, List.getElem?_cons_zero]; rfl
      intro K hK
      go_simp
      refine (HFO.out g gl A5 c5 _ HT6.out.s).mono ?_
      rintro e w7 ⟨rfl, hw7⟩
      obtain rfl := hw7
      refine hK.out _ _ ?_ (fun hHeld => ?_)
      · exact ⟨x6, y6⟩
      clear hK K
      try go_simp
      refine wpAnyH_ready (rs := [37]) (by kernel_rfl) (by simp) ?_
      refine AllReadyH.cons (o := ?_) ?_ ?_ AllReadyH.nil
      rotate_left 1
      · simp only [List.getElem?_toArray, List.getElem?_cons_succ, List.getElem?_cons_zero]; rfl
      intro K hK
      go_simp
      refine (HFO.out g2 gl2 A6 c6 _ HT6.out.t).mono ?_
      rintro e w8 ⟨rfl, hw8⟩
      obtain rfl := hw8
      refine hK.out _ _ ?_ (fun hHeld => ?_)
      · exact ⟨x6, y6⟩
      clear hK K
      try go_simp
      refine wpAnyH_take (i := 38) (oi := ?_) (v := ?_) ?_ ?_ ?_ ?_ ?_ ?_ ?_ ?_
      rotate_left 2
      · simp only [List.getElem?_toArray, List.getElem?_cons_succ, List.getElem?_cons_zero]; rfl
      · kernel_rfl
      · kernel_rfl
      · kernel_rfl
      · exact fun _ _ _ h => h
      · exact Or.inl ⟨by kernel_rfl, by intro w hSw; (try dsimp only at hSw); go_simp; try with_reducible rfl⟩
      · assumption
      try go_simp
      refine wpAnyH_take (i := 39) (oi := ?_) (v := ?_) ?_ ?_ ?_ ?_ ?_ ?_ ?_ ?_
      rotate_left 2
      · simp only [List.getElem?_toArray, List.getElem?_cons_succ, List.getElem?_cons_zero]; rfl
      · kernel_rfl
      · kernel_rfl
      · kernel_rfl
      · exact fun _ _ _ h => h
      · exact Or.inl ⟨by kernel_rfl, by intro w hSw; (try dsimp only at hSw); go_simp; try with_reducible rfl⟩
      · assumption
      try go_simp
      refine wpAnyH_done (by kernel_rfl) ?_ _
      refine NoPanic.normal ?_
      go_wp2_with fail
      go_roundw
      case rel => exact ⟨i + 1, RR.1, A5, c5, A6, c6, by go_num, HI.out.1, HI.out.2, HRF.out, HRL.out, HT6.out⟩
      case measure => have := HI.out; simp [intOf]; omega
    · have HT := Lib.hid ht
      have hc : decide ((i : Int) < (lb.length : Int)) = false ∧ decide (i < lb.length) = false ∨ decide ((i : Int) < (lb.length : Int)) = true ∧ decide (i < lb.length) = true ∧ decide ((i : Int) < 60) = false := by
        by_cases h1 : i < lb.length
        · exact .inr ⟨by simp; omega, by simp; omega, by simp; omega⟩
        · exact .inl ⟨by simp; omega, by simp; omega⟩
      clear ht hi hi60 hlt hlen hf
      rcases hc with ⟨e1, e2⟩ | ⟨e1, e2, e3⟩
      all_goals
        go_wp2_with fail
        go_ret
        exact ⟨rfl, HT.out.bel⟩
end Go.Proofs.Ytmpmjgoipfgfoaa
