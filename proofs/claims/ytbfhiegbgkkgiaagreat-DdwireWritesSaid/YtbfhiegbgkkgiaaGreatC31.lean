/- Sketches to which a law's values are added, and the document's: walked. -/
import Derived.Test.YtbfhiegbgkkgiaaGreatC30
import Derived.Test.YtbfhiegbgkkgiaaGreatC27
namespace Go.Proofs.YtbfhiegbgkkgiaaGreat
open Go.RowKit
open Pl
open Sc
theorem radd20_min (r : Nat) (n : Nat) (w : World) (hn : n ≠ 0) :
    Calls Tryz.prog 26 #[.pointer (some ⟨r, 0, none⟩), .int .i64 (-9223372036854775808), .int .u64 (n : Int)] w fun e w' => e = .returned (.int .i64 5) ∧ w = w' := by
  have e1 : ((n : Int) == 0) = false := by simp; omega
  have e1b : (n == 0) = false := by simp; omega
  clear hn
  go_enter Tryz.func26, Tryz.ntmps26
  go_wp2_with fail
  go_ret
  exact ⟨rfl, rfl⟩
/-- A sketch and the document's, of all that was counted. -/
structure Both (w0 w : World) (p q : Nat) (As : Option Addr) (cs a g gl : Nat) (A : Option Addr) (c m r : Nat) (Ar : Option Addr) (cr : Nat) (Al : Option Addr) (cl : Nat) (all : List Pr) : Prop where
  sk : Skt w p q As cs a g gl A c (m : Int) all
  rs : RSk w w0.heap.size r Ar cr a m Al cl all
  dj : Dj A Al
  below : Below w0.heap.size w0 w
structure Where (w0 : World) (p q g gl r : Nat) : Prop where
  p : w0.heap.size ≤ p
  g : w0.heap.size ≤ g
  gl : w0.heap.size ≤ gl
  r : w0.heap.size ≤ r
theorem RSk.stored {w w' : World} {base r cr a m cl g gl c c' : Nat} {Ar Al A A' : Option Addr} {mm : Int} {all all1 all2 : List Pr} (h : RSk w base r Ar cr a m Al cl all) (hs : Sto w g gl A c mm all1) (hd : Dj A Al) (k : Stored g gl A mm all2 w w' A' c') : RSk w' base r Ar cr a m Al cl all ∧ Dj A' Al := by
  obtain ⟨h1, h2⟩ := sto_row hs h.all hd k
  refine ⟨⟨h.blk.only k.only (sto_ne_blk hs h.blk (by decide) (by decide) (by decide)), Own.only h.rng k.only (fun i hi => ?_), h1⟩, h2⟩
  obtain ⟨xs, hx⟩ := Own.blk h.rng hi
  exact sto_ne_blk hs hx (by decide) (by decide) (by decide)
/-- A store into the document's sketch leaves a sketch as it is. -/
theorem Skt.onlyR {w w' : World} {p q cs a g gl c r base cr a2 m2 cl : Nat} {As A Ar Al : Option Addr} {m : Int} {all all2 : List Pr} (h : Skt w p q As cs a g gl A c m all) (hr : RSk w base r Ar cr a2 m2 Al cl all2) (k : Only (fun i => i = r) w w') : Skt w' p q As cs a g gl A c m all := by
  refine ⟨h.blk.only k (fun e => Blk.ne hr.blk h.blk (by decide) e.symm), scl_only h.scl k (fun x t' ys hx ht e => ?_), ⟨h.sto.blk.only k (fun e => Blk.ne hr.blk h.sto.blk (by decide) e.symm), h.sto.lst.only k (fun e => Blk.ne hr.blk h.sto.lst.1 (by decide) e.symm) (fun x hx e => ?_)⟩⟩
  · rcases ht with rfl | rfl
    · exact Blk.ne hr.blk hx (by decide) e.symm
    · exact Blk.ne hr.blk hx (by decide) e.symm
  · exact Own.ne_blk (show Own w gl 64 2 A (cutL all m).1.length c (pcs (cutL all m).1) from h.sto.lst.2) hr.blk (by decide) (by rw [hx]; exact congrArg some e)
/-- One value is added to both. -/
theorem both_add {w0 w : World} {p q cs a g gl c m r cr cl : Nat} {As A Ar Al : Option Addr} {all : List Pr} (h : Both w0 w p q As cs a g gl A c m r Ar cr Al cl all) (hw : Where w0 p q g gl r) {A' : Option Addr} {c' : Nat} {all' : List Pr} {w1 : World} (k : Stored g gl A (m : Int) all' w w1 A' c') :
    Skt w1 p q As cs a g gl A' c' (m : Int) all' ∧ RSk w1 w0.heap.size r Ar cr a m Al cl all ∧ Dj A' Al ∧ Below w0.heap.size w0 w1 := by
  obtain ⟨h1, h2⟩ := h.rs.stored h.sk.sto h.dj k
  exact ⟨h.sk.stored k, h1, h2, stored_below h.below hw.g hw.gl h.sk.sto k⟩
theorem both_radd {w0 w1 w2 : World} {p q cs a g gl c m r cr cl : Nat} {As A Ar Al : Option Addr} {all all' : List Pr} (h1 : Skt w1 p q As cs a g gl A c (m : Int) all') (h2 : RSk w1 w0.heap.size r Ar cr a m Al cl all) (hb : Below w0.heap.size w0 w1) (hw : Where w0 p q g gl r) {A2 : Option Addr} {c2 : Nat} (k1 : RSk w2 w0.heap.size r Ar cr a m A2 c2 all') (k2 : Only (fun i => i = r) w1 w2) (k3 : ∀ x, blockOf A2 = some x → w1.heap.size ≤ x) :
    Both w0 w2 p q As cs a g gl A c m r Ar cr A2 c2 all' := by
  refine ⟨h1.onlyR h2 k2, k1, fun x hx e => ?_, hb.trans (k2.below hb.size (fun i hi => by rw [hi]; exact hw.r))⟩
  have e1 := (Own.block (show Own w1 gl 64 2 A (cutL all' m).1.length c (pcs (cutL all' m).1) from h1.sto.lst.2) hx).2
  have e2 := k3 x e
  omega
def AddedPost (w0 : World) (a m : Nat) (all : List Pr) (e : Ending) (w' : World) : Prop :=
  ∃ p q As cs g gl A c r Ar cr Al cl, e = .returned (.tuple #[.pointer (some ⟨p, 0, none⟩), .pointer (some ⟨r, 0, none⟩)]) ∧ Where w0 p q g gl r ∧ Both w0 w' p q As cs a g gl A c m r Ar cr Al cl all
set_option maxRecDepth 100000 in
set_option maxHeartbeats 3200000 in
theorem added_t (am mm : Nat) (L N : Option Addr) (cL cN : Nat) (l ns : List Int) (w : World) (hL : Reads w w.heap.size 1 L l.length (l.map (intv .i64))) (hN : Reads w w.heap.size 1 N ns.length (ns.map (intv .u16)))
    (hl : l.length ≤ 9223372036854775807) (hn : ns.length ≤ 9223372036854775807) (zl : ∀ x ∈ l, -9223372036854775808 ≤ x ∧ x ≤ 9223372036854775807) (zn : ∀ x ∈ ns, 0 ≤ x ∧ x ≤ 65535) :
    Calls Tryz.prog 7 #[.int .u16 (am : Int), .int .u16 (mm : Int), .slice L l.length cL, .slice N ns.length cN] w (AddedPost w (500 + am % 46 * 100) (2 + mm % 20) (allZ (500 + am % 46 * 100) l ns (min l.length 40))) := by
  obtain ⟨a, ha⟩ : ∃ a, a = 500 + am % 46 * 100 := ⟨_, rfl⟩
  obtain ⟨m, hm⟩ : ∃ m, m = 2 + mm % 20 := ⟨_, rfl⟩
  obtain ⟨R, hR⟩ : ∃ R, R = allZ a l ns (min l.length 40) := ⟨_, rfl⟩
  rw [← ha, ← hm, ← hR]
  have HR := Lib.hid hR
  have ha0 : 100 ≤ a := by omega
  have ha1 : a ≤ 5000 := by omega
  have hm0 : 2 ≤ m := by omega
  have hm1 : m ≤ 4096 := by omega
  have HNEW := Lib.hid (dnew_t a m w ha0 ha1 hm0 hm1)
  have HRN := Lib.hid (fun W => rnew20_t a m W ha0 ha1 hm0 hm1)
  have e1 : (500 : Int) + (am : Int) % 46 * 100 = (a : Int) := by omega
  have e2 : (2 : Int) + (mm : Int) % 20 = (m : Int) := by omega
  have HAM := Lib.hid (And.intro ha0 (And.intro ha1 (And.intro hm0 hm1)))
  have HL := Lib.hid hL
  have HN := Lib.hid hN
  have HZL := Lib.hid zl
  have HZN := Lib.hid zn
  have HLL : Hid (l.length ≤ 9223372036854775807) := Lib.hid hl
  have hl2 : (l.length : Int) ≤ 9223372036854775807 := by omega
  have HNL := Lib.hid hn
  clear ha hm hR ha0 ha1 hm0 hm1 hL hN hl hn zl zn
  go_enter Tryz.func7, Tryz.ntmps7
  go_wp2_with fail
  refine HNEW.out.mono ?_
  rintro e w1 ⟨p, q, As, cs, g, gl, rfl, hp, hg, hgl, s1, b1⟩
  have S1 := Lib.hid s1
  have B1 := Lib.hid b1
  have HP := Lib.hid (And.intro hp (And.intro hg hgl))
  clear s1 b1 hp hg hgl
  go_wp2_with fail
  refine (HRN.out w1).mono ?_
  rintro e w2 ⟨r, Ar, cr, rfl, hr, r2, b2⟩
  have HWH : Hid (Where w p q g gl r) := Lib.hid ⟨HP.out.1, HP.out.2.1, HP.out.2.2, Nat.le_trans B1.out.size hr⟩
  have HBO : Hid (Both w w2 p q As cs a g gl none 0 m r Ar cr none 0 []) := Lib.hid ⟨S1.out.below b2, ⟨r2.blk, Own.mono r2.rng B1.out.size, Own.nil _ _ _ _⟩, fun x hx => by simp [blockOf] at hx, nextB B1.out b2⟩
  clear hr r2 b2 HP S1 B1
  go_wp2_with fail
  go_loopw [15] (fun u wr => ∃ (i : Nat) (all : List Pr) (A : Option Addr) (c : Nat) (Al : Option Addr) (cl : Nat), u = .int .i64 (i : Int) ∧ i ≤ l.length ∧ i ≤ 40 ∧ all = allZ a l ns i ∧ Few all i a ∧ Both w wr p q As cs a g gl A c m r Ar cr Al cl all) (fun u _ => 40 - (intOf u).toNat)
  case atStart => exact ⟨0, [], none, 0, none, 0, rfl, Nat.zero_le _, by omega, rfl, Few.start a, HBO.out⟩
  case round =>
    obtain ⟨i, all, A, c, Al, cl, rfl, hil, hi40, hall, hfew, hbo⟩ := hrel
    obtain ⟨wo, rfl⟩ : ∃ wo : World, wo = wr := ⟨_, rfl⟩
    have HF := Lib.hid hfew
    have HBT := Lib.hid hbo
    have HAL := Lib.hid hall
    by_cases hlt : i < l.length ∧ i < 40
    · obtain ⟨hlt, hlt4⟩ := hlt
      obtain ⟨v, hv⟩ : ∃ v, l[i]? = some v := ⟨_, List.getElem?_eq_getElem hlt⟩
      have hvz := HZL.out v (List.mem_of_getElem? hv)
      obtain ⟨b, o, rfl, hbb, hc⟩ := zs_at (HL.out.below hbo.below) hv
      have HW := Lib.hid (weight_t N cN w.heap.size i ns wo (HN.out.below hbo.below) HZN.out HNL.out)
      have hwi := weightF_in ns i
      have hwt := wtF_in ns i
      have hnx := allZ_next (a := a) (ns := ns) hv
      rw [← hall] at hnx
      obtain ⟨n, hn⟩ : ∃ n, n = weightF ns i := ⟨_, rfl⟩
      unfold addZ at hnx
      rw [← hn] at hwi hnx
      unfold weightF at hn
      obtain ⟨x, hx⟩ : ∃ x, x = wtF ns i := ⟨_, rfl⟩
      rw [← hx] at HW hwt hn
      obtain ⟨s, hs⟩ : ∃ s, s = 20 * (i % 3) := ⟨_, rfl⟩
      rw [← hs] at hn
      have t1 : (i : Int) < (l.length : Int) := by omega
      have t1b : decide (i < l.length) = true := by simp; omega
      have t2 : (i : Int) < 40 := by omega
      have t3 : (i : Int) % 3 * 20 = (s : Int) := by omega
      have t4 : IntKind.u64.wrap ((x : Int) * 2 ^ s) = (n : Int) := by
        rw [show ((x : Int) * 2 ^ s) = ((x * 2 ^ s : Nat) : Int) by rw [Int.natCast_mul, Int.natCast_pow]; rfl, ← hn]
        exact IntWalk.u64_in _ ⟨by omega, by omega⟩
      have HI := Lib.hid (And.intro hlt hlt4)
      have hbl := hbo.below
      have HNX := Lib.hid hnx
      have HN1 := Lib.hid hwi
      have HB8 := Lib.hid hbb
      have HVZ := Lib.hid hvz
      have HV := Lib.hid hv
      clear hall hfew hbo hnx hwi hwt hn hx hs hv hlt hlt4 hil hi40 hbl hbb hvz
      go_wp2_with fail
      refine HW.out.mono ?_
      rintro e w3 ⟨rfl, rfl⟩
      by_cases hvm : v < -9223372036854775807
      · obtain rfl : v = -9223372036854775808 := by have := HVZ.out; omega
        rw [if_pos (by decide)] at HNX
        clear hvm
        go_wp2_with fail
        refine (daddmin_t HBT.out.sk n HN1.out.1).mono ?_
        rintro e w4 ⟨rfl, b4⟩
        have HBT4 : Hid (Both w w4 p q As cs a g gl A c m r Ar cr Al cl all) := Lib.hid ⟨HBT.out.sk.below b4, HBT.out.rs.below b4, HBT.out.dj, nextB HBT.out.below b4⟩
        have hc4 : w4.cell? ⟨b, o + i, none⟩ = some (.int .i64 (-9223372036854775808)) := (b4.cell (p := ⟨b, o + i, none⟩) (by have := HB8.out; have := HBT.out.below.size; dsimp only; omega)).trans hc
        clear b4 hc
        go_wp2_with fail
        refine (radd20_min r n w4 (by have := HN1.out; omega)).mono ?_
        rintro e w5 ⟨rfl, rfl⟩
        go_wp2_with fail
        go_roundw
        case rel => exact ⟨i + 1, all, A, c, Al, cl, by go_num, HI.out.1, by have := HI.out; omega, HNX.out.symm, ⟨HF.out.fine, Nat.le_succ_of_le HF.out.len, by have := HF.out.tot; omega, HF.out.keys⟩, HBT4.out⟩
        case measure => have := HI.out; simp [intOf]; omega
      · have hv0 : -9223372036854775807 ≤ v := by omega
        have hv1 : v ≤ 9223372036854775807 := HVZ.out.2
        have hks := keyZ_spans HAM.out.1 HAM.out.2.1 hv0 hv1
        rw [if_neg hvm] at HNX
        obtain ⟨hfw, hrd⟩ := HF.out.put hks.1 hks.2 HN1.out.1 HN1.out.2 (by have := HI.out; omega)
        have HFW := Lib.hid hfw
        have HAD := Lib.hid (daddz_t HBT.out.sk v n HAM.out.1 HAM.out.2.1 HF.out.fine (by have := HF.out.len; have := HI.out; omega) (by have := HAM.out; omega) (by have := HAM.out; omega) hv0 hv1 HN1.out.1)
        rw [hrd] at HAD
        have HRA := Lib.hid (fun W (h : RSk W w.heap.size r Ar cr a m Al cl all) hb => radd20_t w.heap.size r cr a m cl Ar Al all v n W h HAM.out.1 HAM.out.2.1 hv0 hv1 (by have := HN1.out; omega) (by have := HF.out.len; have := HI.out; omega) (by have := HF.out.tot; have := HN1.out; have := HI.out; omega) hb)
        obtain ⟨all', hall'⟩ : ∃ all', all' = put all (keyZ a v) n := ⟨_, rfl⟩
        rw [← hall'] at HAD HRA HFW HNX
        dsimp only at HAD
        clear hks hvm hfw hrd hall' hv0 hv1
        go_wp2_with fail
        refine HAD.out.mono ?_
        rintro e w4 ⟨rfl, A', c', s4, k4⟩
        obtain ⟨h1, h2, h3, h4⟩ := both_add HBT.out HWH.out k4
        have H1 := Lib.hid h1
        have H2 := Lib.hid h2
        have H3 := Lib.hid h3
        have H4 := Lib.hid h4
        have hc4 : w4.cell? ⟨b, o + i, none⟩ = some (.int .i64 v) := by
          obtain ⟨b', o', e1, _, e2⟩ := zs_at (HL.out.below h4) HV.out
          injection e1 with e1
          injection e1 with e1 e3
          subst e1 e3
          exact e2
        clear h1 h2 h3 h4 s4 k4 hc
        go_wp2_with fail
        refine (HRA.out w4 H2.out H4.out.size).mono ?_
        rintro e w5 ⟨rfl, A5, c5, r5, k5, n5⟩
        have HBT5 := Lib.hid (both_radd H1.out H2.out H4.out HWH.out r5 k5 n5)
        clear r5 k5 n5
        go_wp2_with fail
        go_roundw
        case rel => exact ⟨i + 1, all', A', c', A5, c5, by go_num, HI.out.1, by have := HI.out; omega, HNX.out.symm, HFW.out, HBT5.out⟩
        case measure => have := HI.out; simp [intOf]; omega
    · have hie : R = all := by
        rw [HR.out, hall]
        congr 1
        omega
      have HRE := Lib.hid hie
      have t1 : decide (i < l.length) = false ∨ decide (i < l.length) = true ∧ decide ((i : Int) < 40) = false := by
        by_cases h : i < l.length
        · exact .inr ⟨by simp; omega, by simp; omega⟩
        · exact .inl (by simp; omega)
      clear hall hfew hbo hlt hil hi40 hie
      rcases t1 with t1 | ⟨t1, t2⟩
      all_goals
        go_wp2_with fail
        go_ret2
        rw [HRE.out]
        exact ⟨p, q, As, cs, g, gl, A, c, r, Ar, cr, Al, cl, rfl, HWH.out, HBT.out⟩
end Go.Proofs.YtbfhiegbgkkgiaaGreat
/- What a sketch keeps may be a sketch's; bytes with more behind them; plain. -/

namespace Go.Proofs.YtbfhiegbgkkgiaaGreat
open Go.RowKit
open Pl
open Sc
open Wi
theorem kept_loadD {L : List Pr} (hp : Pos L) {m : Nat} (hm : 1 ≤ m) : (cutL L (m : Int)).2 = 0 ∨ ((cutL L (m : Int)).1.length : Int) = (m : Int) ∧ ∃ p R, (cutL L (m : Int)).1 = p :: R ∧ (cutL L (m : Int)).2 < p.2 := by
  have e : cutN (m : Int) = m := by unfold cutN; omega
  unfold cutL
  rw [e]
  split
  · exact .inl rfl
  · rename_i h
    obtain ⟨p, R, e1, e2, e3⟩ := cutI_split (L := L) (i := L.length - m) (by omega)
    have := hp p (List.mem_of_getElem? e3)
    exact .inr ⟨by simp only [cutI_len]; omega, _, R, e2, by simp only; omega⟩
theorem cutI_keys {L : List Pr} {i : Nat} : ∀ q ∈ cutI L i, ∃ p ∈ L, p.1 = q.1 := by
  intro q hq
  unfold cutI at hq
  cases hd : L.drop i with
  | nil => rw [hd] at hq; cases hq
  | cons x R =>
    rw [hd] at hq
    have hm : ∀ y ∈ x :: R, y ∈ L := fun y hy => List.mem_of_mem_drop (i := i) (by rw [hd]; exact hy)
    rcases List.mem_cons.1 hq with rfl | hq
    · exact ⟨x, hm x (by simp), rfl⟩
    · exact ⟨q, hm q (by simp [hq]), rfl⟩
theorem cutL_keys {L : List Pr} {m : Int} : ∀ q ∈ (cutL L m).1, ∃ p ∈ L, p.1 = q.1 := by
  intro q hq
  unfold cutL at hq
  split at hq
  · exact ⟨q, hq, rfl⟩
  · exact cutI_keys q hq
theorem keeps_all {all : List Pr} {i a m : Nat} (h : Few all i a) (hm : 2 ≤ m) : Keeps a m (cutL all (m : Int)).1 (cutL all (m : Int)).2 ∧ Srt (cutL all (m : Int)).1 ∧ Pos (cutL all (m : Int)).1 ∧ (cutL all (m : Int)).1.length ≤ m := by
  have hf := (cutL_fine h.fine (m : Int)).1
  refine ⟨⟨fun q hq => ?_, hf.tot, ?_⟩, hf.srt, hf.pos, cutL_len (by omega)⟩
  · obtain ⟨p, hp, e⟩ := cutL_keys q hq
    rw [← e]
    exact h.keys p hp
  · rcases kept_loadD h.fine.pos (m := m) (by omega) with h1 | ⟨h1, p, R, h2, h3⟩
    · exact .inl h1
    · exact .inr ⟨by omega, p, R, h2, h3⟩
theorem readF_behind {a m f : Nat} {L : List Pr} (hk : Keeps a m L f) (hs : Srt L) (hp : Pos L) (hl : L.length ≤ m) (ha0 : 100 ≤ a) (ha : a ≤ 5000) (hm0 : 2 ≤ m) (hm1 : m ≤ 4096) {more : List UInt8} (hmore : more ≠ []) : readF (docW a m L f ++ more) = none := by
  have hF : f ≤ 4611686018427387904 := keeps_fold hk
  have hD : docW a m L f = leb a ++ (leb m ++ (leb L.length ++ (leb f ++ prsW none L))) := by
    unfold docW headW; simp only [List.append_assoc]
  have hsl := spans_len' a
  have hki : KeysIn L := fun q hq => by have := hk.keys q hq; omega
  obtain ⟨D, hDD⟩ : ∃ D, D = docW a m L f ++ more := ⟨_, rfl⟩
  rw [hD] at hDD
  rw [show docW a m L f ++ more = D by rw [hDD, hD]]
  have n1 : numF 100 5000 D 0 = some (a, (leb a).length) := by
    have := numF_app [] (leb m ++ (leb L.length ++ (leb f ++ (prsW none L ++ more)))) (lo := 100) (hi := 5000) ha0 ha (by omega)
    rw [hDD]; simpa using this
  have n2 : numF 2 4096 D (leb a).length = some (m, (leb a ++ leb m).length) := by
    have := numF_app (leb a) (leb L.length ++ (leb f ++ (prsW none L ++ more))) (lo := 2) (hi := 4096) hm0 hm1 (by omega)
    rw [hDD, ← this]; simp only [List.append_assoc]
  have n3 : numF 0 m D (leb a ++ leb m).length = some (L.length, (leb a ++ leb m ++ leb L.length).length) := by
    have := numF_app (leb a ++ leb m) (leb f ++ (prsW none L ++ more)) (lo := 0) (hi := m) (n := L.length) (by omega) hl (by omega)
    rw [hDD, ← this]; simp only [List.append_assoc]
  have n4 : numF 0 4611686018427387904 D (leb a ++ leb m ++ leb L.length).length = some (f, (leb a ++ leb m ++ leb L.length ++ leb f).length) := by
    have := numF_app (leb a ++ leb m ++ leb L.length) (prsW none L ++ more) (lo := 0) (hi := 4611686018427387904) (n := f) (by omega) hF (by omega)
    rw [hDD, ← this]; simp only [List.append_assoc]
  have n5 : pairsF L.length none D (leb a ++ leb m ++ leb L.length ++ leb f).length = some (L, (docW a m L f).length) := by
    have := pairsF_app L none (leb a ++ leb m ++ leb L.length ++ leb f) more hs hp hki (fun p h => Nat.le_trans (le_tot h) hk.tot) (fun q h => by cases h)
    rw [hDD, hD]; simp only [List.append_assoc] at this ⊢; exact this
  unfold readF
  rw [n1]; dsimp only
  rw [n2]; dsimp only
  rw [n3]; dsimp only
  rw [n4]; dsimp only
  rw [n5]; dsimp only
  rw [if_neg]
  intro hc
  have h1 := hc.1
  rw [hDD, ← hD, List.length_append] at h1
  have : more.length ≠ 0 := fun e => hmore (List.eq_nil_of_length_eq_zero e)
  omega
theorem prsW_len : ∀ (L : List Pr) (pv : Option Int), KeysIn L → (∀ p ∈ L, p.2 ≤ 4611686018427387904) → (∀ q, pv = some q → -1048576 ≤ q) → (prsW pv L).length ≤ 20 * L.length
  | [], pv, _, _, _ => Nat.zero_le _
  | p :: L, pv, hk, hn, hq => by
    have hp := hk p (by simp)
    have h1 := dkey_len pv p.1 hp.1 hp.2 hq
    have h2 := leb_len64 (show p.2 < 18446744073709551616 by have := hn p (by simp); omega)
    have h3 := prsW_len L (some p.1) (fun q h => hk q (by simp [h])) (fun q h => hn q (by simp [h])) (fun q h => by injection h with h; omega)
    rw [show prsW pv (p :: L) = dkey pv p.1 ++ leb p.2 ++ prsW (some p.1) L from rfl, List.length_append, List.length_append, List.length_cons]
    omega
theorem docW_len {a m f : Nat} {L : List Pr} (hk : Keeps a m L f) (hl : L.length ≤ m) (ha : a ≤ 5000) (hm1 : m ≤ 4096) : (docW a m L f).length ≤ 100000 := by
  have hF : f ≤ 4611686018427387904 := keeps_fold hk
  have hsl := spans_len' a
  have h1 := prsW_len L none (fun q hq => by have := hk.keys q hq; omega) (fun p h => Nat.le_trans (le_tot h) hk.tot) (fun q h => by cases h)
  have h2 := headW_len (a := a) (m := m) (n := L.length) (f := f) (by omega) (by omega) (by omega) (by omega)
  unfold docW
  rw [List.length_append]
  omega
theorem docW_pos {a m f : Nat} {L : List Pr} : 0 < (docW a m L f).length := by
  have h : 0 < (leb a).length := leb_pos a
  unfold docW headW
  simp only [List.length_append]
  omega
theorem write_all {w : World} {p q cs a g gl c m : Nat} {As A : Option Addr} {all : List Pr} (h : Skt w p q As cs a g gl A c (m : Int) all) (ha : a ≤ 5000) (hm0 : 2 ≤ m) (hm1 : m ≤ 4096) {i : Nat} (hf : Few all i a) :
    Calls Tryz.prog 8 #[.pointer (some ⟨p, 0, none⟩)] w (Bytes w (docW a m (cutL all (m : Int)).1 (cutL all (m : Int)).2)) := by
  obtain ⟨k1, k2, k3, k4⟩ := keeps_all hf hm0 (m := m)
  exact write_g p a m _ _ w (keeps_fine k1 k2 k3 hm1 k4) (by omega) ha hm1 (keeps_fold k1) (dpairs_t h hf.fine) (fun W hb => dacc_t (h.below hb)) (fun W hb => dbudget_t (h.below hb)) (fun W hb => dfolded_t (h.below hb))
end Go.Proofs.YtbfhiegbgkkgiaaGreat
