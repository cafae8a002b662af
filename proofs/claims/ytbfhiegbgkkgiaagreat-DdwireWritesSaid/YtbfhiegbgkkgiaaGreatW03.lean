/- DdwireWrites walked. -/
import Derived.Test.YtbfhiegbgkkgiaaGreatW01
import Derived.Test.YtbfhiegbgkkgiaaGreatW02
import Derived.Test.YtbfhiegbgkkgiaaGreatRows
import Derived.Test.YtbfhiegbgkkgiaaGreatC06
namespace Go.Proofs.YtbfhiegbgkkgiaaGreat
open Go.RowKit
open Pl
open Sc
open Wi
theorem allOf_tot {L : List Pr} {f : Nat} (h : f = 0 ∨ ∃ p R, L = p :: R ∧ f < p.2) : tot (allOf L f) = tot L := by
  unfold allOf
  split
  · rfl
  · rename_i h0
    rcases h with h | ⟨p, R, rfl, h⟩
    · exact absurd h h0
    · dsimp only
      rw [tot_cons, tot_cons, tot_cons]
      dsimp only
      omega
set_option maxRecDepth 100000 in
set_option maxHeartbeats 6400000 in
theorem ddwireWrites_walk (w : World) (am : Int) (ham0 : 0 ≤ am) (_ham1 : am ≤ 65535) (mm : Int) (hmm0 : 0 ≤ mm) (_hmm1 : mm ≤ 65535) (L : Option Addr) (cL : Nat) (l : List Int) (hl : l.length ≤ maxLen) (_hcl : l.length ≤ cL) (zl : ∀ n ∈ l, (Lit.int .i64 n).wf = true) (sl : Reads w w.heap.size 1 L l.length (l.map (intv .i64)))
    (N : Option Addr) (cN : Nat) (ns : List Int) (hn : ns.length ≤ maxLen) (_hcn : ns.length ≤ cN) (zn : ∀ n ∈ ns, (Lit.int .u16 n).wf = true) (sn : Reads w w.heap.size 1 N ns.length (ns.map (intv .u16))) :
    Calls Tryz.prog 4 #[.int .u16 am, .int .u16 mm, .slice L l.length cL, .slice N ns.length cN] w fun e w' => e = .returned (.bool true) ∧ Below w.heap.size w w' := by
  obtain ⟨am, rfl⟩ : ∃ n : Nat, am = (n : Int) := ⟨am.toNat, by omega⟩
  obtain ⟨mm, rfl⟩ : ∃ n : Nat, mm = (n : Int) := ⟨mm.toNat, by omega⟩
  unfold maxLen at hl hn
  have zl' : ∀ x ∈ l, -9223372036854775808 ≤ x ∧ x ≤ 9223372036854775807 := fun x hx => WfBounds.i64 (zl x hx)
  have zn' : ∀ x ∈ ns, 0 ≤ x ∧ x ≤ 65535 := fun x hx => WfBounds.u16 (zn x hx)
  have HAD := Lib.hid (fun W (h : Reads W W.heap.size 1 L l.length (l.map (intv .i64))) (h2 : Reads W W.heap.size 1 N ns.length (ns.map (intv .u16))) => added_t am mm L N cL cN l ns W h h2 (by omega) (by omega) zl' zn')
  obtain ⟨a, ha⟩ : ∃ a, a = 500 + am % 46 * 100 := ⟨_, rfl⟩
  obtain ⟨m, hm⟩ : ∃ m, m = 2 + mm % 20 := ⟨_, rfl⟩
  rw [← ha, ← hm] at HAD
  have ha0 : 100 ≤ a := by omega
  have ha1 : a ≤ 5000 := by omega
  have hm0 : 2 ≤ m := by omega
  have hm1 : m ≤ 4096 := by omega
  have hfw := allZ_few (ns := ns) ha0 ha1 zl' (min l.length 40) (by omega)
  generalize allZ a l ns (min l.length 40) = all at *
  obtain ⟨k1, k2, k3, k4⟩ := keeps_all hfw hm0 (m := m)
  have HWR := Lib.hid (fun W p q cs g gl c As A (h : Skt W p q As cs a g gl A c (m : Int) all) => write_all h ha1 hm0 hm1 hfw)
  have HSIZE := Lib.hid (fun W {p q cs g gl c : Nat} {As A : Option Addr} (h : Skt W p q As cs a g gl A c (m : Int) all) => dsize_t p _ W (write_all h ha1 hm0 hm1 hfw))
  have HOF := Lib.hid (fun A c W {base : Nat} (h : OwnP W base A c all) hb => rof_t base a m A c all W h hb hfw.fine hm0 hm1 ha1)
  have hac := allOf_cut k1 hm0 k4
  have haf := allOf_fine k1 k2 k3 (by omega)
  have hat : tot (allOf (cutL all (m : Int)).1 (cutL all (m : Int)).2) = tot all := by
    rw [allOf_tot (by rcases k1.fold with h | ⟨_, h⟩; exact .inl h; exact .inr h), kept_tot hfw.fine]
  have hkeys := k1.keys
  have HSAME := Lib.hid (fun W {p q cs g gl c r base cr cl : Nat} {As A Ar Al : Option Addr} (h : Skt W p q As cs a g gl A c (m : Int) (allOf (cutL all (m : Int)).1 (cutL all (m : Int)).2)) (h2 : RSk W base r Ar cr a m Al cl all) hb => same20_t h h2 hb haf hfw.fine hac hat ha0 ha1 (by rw [hac]; exact hkeys))
  have hrd := readF_docW k1 k2 k3 k4 ha0 ha1 hm0 hm1
  have hpk := peekF_docW (f := (cutL all (m : Int)).2) (L := (cutL all (m : Int)).1) ha0 ha1 hm0 hm1
  have hdl := docW_len k1 k4 ha1 hm1
  obtain ⟨D, hD⟩ : ∃ D, D = docW a m (cutL all (m : Int)).1 (cutL all (m : Int)).2 := ⟨_, rfl⟩
  rw [← hD] at HWR HSIZE HOF hrd hpk hdl
  have HRD := Lib.hid (fun A c W h => read_t A c D W h (by omega))
  rw [hrd] at HRD
  have HPK := Lib.hid (fun A c W h => peek_t A c D W h (by omega))
  rw [hpk] at HPK
  have hDi : (D.length : Int) ≤ 100000 := by omega
  have hai : (a : Int) ≤ 5000 := by omega
  have hmi : (m : Int) ≤ 4096 := by omega
  have HSL := Lib.hid sl
  have HSN := Lib.hid sn
  clear hl zl zl' sl hn zn zn' sn ham0 hmm0 k1 k2 k3 k4 ha hm hD hfw hdl ha0 ha1 hm0 hm1 hac haf hat hkeys hrd hpk
  go_enter Tryz.func4, Tryz.ntmps4
  go_wp2_with fail
  refine (alive21_t _).mono ?_
  rintro e w1 ⟨rfl, hb1⟩
  have HB1 := Lib.hid hb1
  clear hb1
  go_wp2_with fail
  refine (HAD.out w1 (Reads.at_below HSL.out HB1.out) (Reads.at_below HSN.out HB1.out)).mono ?_
  rintro e w2 ⟨p, q, As, cs, gk, gl, A, c, r, Ar, cr, Al, cl, rfl, _, hbo⟩
  have HB2 := Lib.hid (nextB HB1.out hbo.below)
  have HBO := Lib.hid hbo
  clear hbo HAD
  go_wp2_with fail
  refine (HWR.out w2 _ _ _ _ _ _ _ _ HBO.out.sk).mono ?_
  rintro e w3 ⟨A3, c3, rfl, o3, b3⟩
  have HB3 := Lib.hid (nextB HB2.out b3)
  have HO3 := Lib.hid o3
  have HS3 := Lib.hid (HBO.out.sk.below b3)
  have HR3 := Lib.hid (HBO.out.rs.below b3)
  have HZ3 := Lib.hid (Nat.le_trans HBO.out.below.size b3.size)
  clear o3 b3
  go_wp2_with fail
  refine (HPK.out A3 c3 w3 (OwnB.reads HO3.out)).mono ?_
  rintro e w4 ⟨rfl, b4⟩
  have B4 := Lib.hid b4
  clear b4
  unfold peekR
  go_wp2_with fail
  refine (HRD.out A3 c3 w4 ((OwnB.reads HO3.out).at_below B4.out)).mono ?_
  rintro e w5 ⟨p5, q5, As5, cs5, g5, gl5, A5, c5, rfl, s5, b5⟩
  have B5 := Lib.hid (nextB B4.out b5)
  have HT5 := Lib.hid s5
  have HS5 := Lib.hid (HS3.out.below B5.out)
  have HR5 := Lib.hid (HR3.out.below B5.out)
  have HBZ5 := Lib.hid (Nat.le_trans HZ3.out B5.out.size)
  have HSS : Hid (∀ W, Below w5.heap.size w5 W → (convert 24 9 (.slice A3 D.length c3)).run Tryz.prog W = .ok (.string (str D)) W ∧ W.cell? ⟨r, 1, none⟩ = some (.int .i64 (a : Int)) ∧ W.cell? ⟨r, 2, none⟩ = some (.int .i64 (m : Int)) ∧ W.cell? ⟨r, 3, none⟩ = some (.slice Al all.length cl)) := Lib.hid (fun W hb => by
    have h := (HR5.out.below hb).blk
    exact ⟨run_str Tryz.underlying24 Tryz.underlying5 Tryz.underlying9 (((OwnB.reads HO3.out).at_below B5.out).at_below hb), by rw [h.cell]; rfl, by rw [h.cell]; rfl, by rw [h.cell]; rfl⟩)
  have HRDD := Lib.hid (HR5.out.below (Below.refl w5.heap.size w5).drew)
  have HBZ := Lib.hid (show w1.heap.size ≤ w5.drew.heap.size from HBZ5.out)
  clear s5 b5 HRD HPK HWR
  have HRD := HRDD
  clear HRDD
  go_wp2_with fail
  refine (size_nil _).mono ?_
  rintro e w5' ⟨rfl, rfl⟩
  go_wp2_with fail
  refine wp_region_noPanic ?_
  refine wp_region_held_drew (S := (fun W => (convert 24 9 (.slice A3 D.length c3)).run Tryz.prog W = .ok (.string (str D)) W ∧ W.cell? ⟨r, 1, none⟩ = some (.int .i64 (a : Int)) ∧ W.cell? ⟨r, 2, none⟩ = some (.int .i64 (m : Int)) ∧ W.cell? ⟨r, 3, none⟩ = some (.slice Al all.length cl))) (by kernel_rfl) (HSS.out _ (Below.refl w5.heap.size w5).drew) (fun hHeld => ?_)
  refine wpAnyH_take (i := 0) (oi := ?_) (v := ?_) ?_ ?_ ?_ ?_ ?_ ?_ ?_ ?_
  rotate_left 2
  · simp only [List.getElem?_toArray]; rfl
  · kernel_rfl
  · kernel_rfl
  · kernel_rfl
  · exact fun _ _ _ h => h
  · exact Or.inl ⟨by kernel_rfl, by intro w hSw; (try dsimp only at hSw); go_simp; try with_reducible rfl⟩
  · assumption
  try go_simp
  refine wpAnyH_take (i := 1) (oi := ?_) (v := ?_) ?_ ?_ ?_ ?_ ?_ ?_ ?_ ?_
  rotate_left 2
  · simp only [List.getElem?_toArray, List.getElem?_cons_succ, List.getElem?_cons_zero]; rfl
  · kernel_rfl
  · kernel_rfl
  · kernel_rfl
  · exact fun _ _ _ h => h
  · exact Or.inl ⟨by kernel_rfl, by intro w hSw; (try dsimp only at hSw); go_simp; try with_reducible rfl⟩
  · assumption
  try go_simp
  refine wpAnyH_take (i := 2) (oi := ?_) (v := ?_) ?_ ?_ ?_ ?_ ?_ ?_ ?_ ?_
  rotate_left 2
  · simp only [List.getElem?_toArray, List.getElem?_cons_succ, List.getElem?_cons_zero]; rfl
  · kernel_rfl
  · kernel_rfl
  · kernel_rfl
  · exact fun _ _ _ h => h
  · exact Or.inl ⟨by kernel_rfl, by intro w hSw; (try dsimp only at hSw); go_simp; try with_reducible rfl⟩
  · assumption
  try go_simp
  refine wpAnyH_take (i := 3) (oi := ?_) (v := ?_) ?_ ?_ ?_ ?_ ?_ ?_ ?_ ?_
  rotate_left 2
  · simp only [List.getElem?_toArray, List.getElem?_cons_succ, List.getElem?_cons_zero]; rfl
  · kernel_rfl
  · kernel_rfl
  · kernel_rfl
  · exact fun _ _ _ h => h
  · exact Or.inl ⟨by kernel_rfl, by intro w hSw; (try dsimp only at hSw); go_simp; try with_reducible rfl⟩
  · assumption
  try go_simp
  refine wpAnyH_take (i := 4) (oi := ?_) (v := ?_) ?_ ?_ ?_ ?_ ?_ ?_ ?_ ?_
  rotate_left 2
  · simp only [List.getElem?_toArray, List.getElem?_cons_succ, List.getElem?_cons_zero]; rfl
  · kernel_rfl
  · kernel_rfl
  · kernel_rfl
  · exact fun _ _ _ h => h
  · exact Or.inl ⟨by kernel_rfl, by intro w hSw; (try dsimp only at hSw); go_simp; try with_reducible rfl⟩
  · assumption
  try go_simp
  refine wpAnyH_take (i := 5) (oi := ?_) (v := ?_) ?_ ?_ ?_ ?_ ?_ ?_ ?_ ?_
  rotate_left 2
  · simp only [List.getElem?_toArray, List.getElem?_cons_succ, List.getElem?_cons_zero]; rfl
  · kernel_rfl
  · kernel_rfl
  · kernel_rfl
  · exact fun _ _ _ h => h
  · exact Or.inl ⟨by kernel_rfl, by intro w hSw; (try dsimp only at hSw); go_simp; try with_reducible rfl⟩
  · assumption
  try go_simp
  refine wpAnyH_take (i := 6) (oi := ?_) (v := ?_) ?_ ?_ ?_ ?_ ?_ ?_ ?_ ?_
  rotate_left 2
  · simp only [List.getElem?_toArray, List.getElem?_cons_succ, List.getElem?_cons_zero]; rfl
  · kernel_rfl
  · kernel_rfl
  · kernel_rfl
  · exact fun _ _ _ h => h
  · exact Or.inl ⟨by kernel_rfl, by intro w hSw; (try dsimp only at hSw); go_simp; try with_reducible rfl⟩
  · assumption
  try go_simp
  refine wpAnyH_take (i := 7) (oi := ?_) (v := ?_) ?_ ?_ ?_ ?_ ?_ ?_ ?_ ?_
  rotate_left 2
  · simp only [List.getElem?_toArray, List.getElem?_cons_succ, List.getElem?_cons_zero]; rfl
  · kernel_rfl
  · kernel_rfl
  · kernel_rfl
  · exact fun _ _ _ h => h
  · exact Or.inl ⟨by kernel_rfl, by intro w hSw; (try dsimp only at hSw); go_simp; try with_reducible rfl⟩
  · assumption
  try go_simp
  refine wpAnyH_take (i := 8) (oi := ?_) (v := ?_) ?_ ?_ ?_ ?_ ?_ ?_ ?_ ?_
  rotate_left 2
  · simp only [List.getElem?_toArray, List.getElem?_cons_succ, List.getElem?_cons_zero]; rfl
  · kernel_rfl
  · kernel_rfl
  · kernel_rfl
  · exact fun _ _ _ h => h
  · exact Or.inl ⟨by kernel_rfl, by intro w hSw; (try dsimp only at hSw); go_simp; try with_reducible rfl⟩
  · assumption
  try go_simp
  refine wpAnyH_take (i := 9) (oi := ?_) (v := ?_) ?_ ?_ ?_ ?_ ?_ ?_ ?_ ?_
  rotate_left 2
  · simp only [List.getElem?_toArray, List.getElem?_cons_succ, List.getElem?_cons_zero]; rfl
  · kernel_rfl
  · kernel_rfl
  · kernel_rfl
  · exact fun _ _ _ h => h
  · exact Or.inl ⟨by kernel_rfl, by intro w hSw; (try dsimp only at hSw); go_simp; try with_reducible rfl⟩
  · assumption
  try go_simp
  refine wpAnyH_take (i := 10) (oi := ?_) (v := ?_) ?_ ?_ ?_ ?_ ?_ ?_ ?_ ?_
  rotate_left 2
  · simp only [List.getElem?_toArray, List.getElem?_cons_succ, List.getElem?_cons_zero]; rfl
  · kernel_rfl
  · kernel_rfl
  · kernel_rfl
  · exact fun _ _ _ h => h
  · exact Or.inl ⟨by kernel_rfl, by intro w hSw; (try dsimp only at hSw); go_simp; try with_reducible rfl⟩
  · assumption
  try go_simp
  refine wpAnyH_take (i := 11) (oi := ?_) (v := ?_) ?_ ?_ ?_ ?_ ?_ ?_ ?_ ?_
  rotate_left 2
  · simp only [List.getElem?_toArray, List.getElem?_cons_succ, List.getElem?_cons_zero]; rfl
  · kernel_rfl
  · kernel_rfl
  · kernel_rfl
  · exact fun _ _ _ h => h
  · exact Or.inl ⟨by kernel_rfl, by intro w hSw; (try dsimp only at hSw); go_simp; try with_reducible rfl⟩
  · assumption
  try go_simp
  refine wpAnyH_take (i := 12) (oi := ?_) (v := ?_) ?_ ?_ ?_ ?_ ?_ ?_ ?_ ?_
  rotate_left 2
  · simp only [List.getElem?_toArray, List.getElem?_cons_succ, List.getElem?_cons_zero]; rfl
  · kernel_rfl
  · kernel_rfl
  · kernel_rfl
  · exact fun _ _ _ h => h
  · exact Or.inl ⟨by kernel_rfl, by intro w hSw; (try dsimp only at hSw); go_simp; try with_reducible rfl⟩
  · assumption
  try go_simp
  refine wpAnyH_take (i := 13) (oi := ?_) (v := ?_) ?_ ?_ ?_ ?_ ?_ ?_ ?_ ?_
  rotate_left 2
  · simp only [List.getElem?_toArray, List.getElem?_cons_succ, List.getElem?_cons_zero]; rfl
  · kernel_rfl
  · kernel_rfl
  · kernel_rfl
  · exact fun _ _ _ h => h
  · exact Or.inl ⟨by kernel_rfl, by intro w hSw; (try dsimp only at hSw); go_simp; try with_reducible rfl⟩
  · assumption
  try go_simp
  refine wpAnyH_take (i := 14) (oi := ?_) (v := ?_) ?_ ?_ ?_ ?_ ?_ ?_ ?_ ?_
  rotate_left 2
  · simp only [List.getElem?_toArray, List.getElem?_cons_succ, List.getElem?_cons_zero]; rfl
  · kernel_rfl
  · kernel_rfl
  · kernel_rfl
  · exact fun _ _ _ h => h
  · exact Or.inl ⟨by kernel_rfl, by intro w hSw; (try dsimp only at hSw); go_simp; try with_reducible rfl⟩
  · assumption
  try go_simp
  refine wpAnyH_take (i := 15) (oi := ?_) (v := ?_) ?_ ?_ ?_ ?_ ?_ ?_ ?_ ?_
  rotate_left 2
  · simp only [List.getElem?_toArray, List.getElem?_cons_succ, List.getElem?_cons_zero]; rfl
  · kernel_rfl
  · kernel_rfl
  · kernel_rfl
  · exact fun _ _ _ h => h
  · exact Or.inl ⟨by kernel_rfl, by intro w hSw; (try dsimp only at hSw); go_simp; try with_reducible rfl⟩
  · assumption
  try go_simp
  refine wpAnyH_take (i := 16) (oi := ?_) (v := ?_) ?_ ?_ ?_ ?_ ?_ ?_ ?_ ?_
  rotate_left 2
  · simp only [List.getElem?_toArray, List.getElem?_cons_succ, List.getElem?_cons_zero]; rfl
  · kernel_rfl
  · kernel_rfl
  · kernel_rfl
  · exact fun _ _ _ h => h
  · exact Or.inl ⟨by kernel_rfl, by intro w hSw; (try dsimp only at hSw); go_simp; try with_reducible rfl⟩
  · assumption
  try go_simp
  refine wpAnyH_ready (rs := [17]) (by kernel_rfl) (by simp) ?_
  refine AllReadyH.cons (o := ?_) ?_ ?_ AllReadyH.nil
  rotate_left 1
  · simp only [List.getElem?_toArray, List.getElem?_cons_succ, List.getElem?_cons_zero]; rfl
  intro K hK
  go_simp
  refine (HOF.out Al cl w5.drew HRD.out.all HBZ.out).mono ?_
  rintro e w6 ⟨A6, c6, rfl, o6, b6⟩
  have C6 := Lib.hid (nextB (b := w5.drew) (Below.refl w5.heap.size w5).drew b6)
  have hs6 := str_own21 o6 rfl
  clear o6 b6
  refine hK.out _ _ ?_ (fun hHeld => ?_)
  · exact HSS.out _ C6.out
  clear hK K
  try go_simp
  refine wpAnyH_ready (rs := [18]) (by kernel_rfl) (by simp) ?_
  refine AllReadyH.cons (o := ?_) ?_ ?_ AllReadyH.nil
  rotate_left 1
  · simp only [List.getElem?_toArray, List.getElem?_cons_succ, List.getElem?_cons_zero]; rfl
  intro K hK
  go_simp
  refine hK.out _ _ ?_ (fun hHeld => ?_)
  · exact HSS.out _ C6.out
  clear hK K
  try go_simp
  refine wpAnyH_take (i := 19) (oi := ?_) (v := ?_) ?_ ?_ ?_ ?_ ?_ ?_ ?_ ?_
  rotate_left 2
  · simp only [List.getElem?_toArray, List.getElem?_cons_succ, List.getElem?_cons_zero]; rfl
  · kernel_rfl
  · kernel_rfl
  · kernel_rfl
  · exact fun _ _ _ h => h
  · exact Or.inl ⟨by kernel_rfl, by intro w hSw; (try dsimp only at hSw); go_simp; try with_reducible rfl⟩
  · assumption
  try go_simp
  refine wpAnyH_take (i := 20) (oi := ?_) (v := ?_) ?_ ?_ ?_ ?_ ?_ ?_ ?_ ?_
  rotate_left 2
  · simp only [List.getElem?_toArray, List.getElem?_cons_succ, List.getElem?_cons_zero]; rfl
  · kernel_rfl
  · kernel_rfl
  · kernel_rfl
  · exact fun _ _ _ h => h
  · exact Or.inl ⟨by kernel_rfl, by intro w hSw; (try dsimp only at hSw); go_simp; try with_reducible rfl⟩
  · assumption
  try go_simp
  refine wpAnyH_take (i := 21) (oi := ?_) (v := ?_) ?_ ?_ ?_ ?_ ?_ ?_ ?_ ?_
  rotate_left 2
  · simp only [List.getElem?_toArray, List.getElem?_cons_succ, List.getElem?_cons_zero]; rfl
  · kernel_rfl
  · kernel_rfl
  · kernel_rfl
  · exact fun _ _ _ h => h
  · exact Or.inl ⟨by kernel_rfl, by intro w hSw; (try dsimp only at hSw); go_simp; try with_reducible rfl⟩
  · assumption
  try go_simp
  refine wpAnyH_take (i := 22) (oi := ?_) (v := ?_) ?_ ?_ ?_ ?_ ?_ ?_ ?_ ?_
  rotate_left 2
  · simp only [List.getElem?_toArray, List.getElem?_cons_succ, List.getElem?_cons_zero]; rfl
  · kernel_rfl
  · kernel_rfl
  · kernel_rfl
  · exact fun _ _ _ h => h
  · exact Or.inl ⟨by kernel_rfl, by intro w hSw; (try dsimp only at hSw); go_simp; try with_reducible rfl⟩
  · assumption
  try go_simp
  refine wpAnyH_take (i := 23) (oi := ?_) (v := ?_) ?_ ?_ ?_ ?_ ?_ ?_ ?_ ?_
  rotate_left 2
  · simp only [List.getElem?_toArray, List.getElem?_cons_succ, List.getElem?_cons_zero]; rfl
  · kernel_rfl
  · kernel_rfl
  · kernel_rfl
  · exact fun _ _ _ h => h
  · exact Or.inl ⟨by kernel_rfl, by intro w hSw; (try dsimp only at hSw); go_simp; try with_reducible rfl⟩
  · assumption
  try go_simp
  refine wpAnyH_take (i := 24) (oi := ?_) (v := ?_) ?_ ?_ ?_ ?_ ?_ ?_ ?_ ?_
  rotate_left 2
  · simp only [List.getElem?_toArray, List.getElem?_cons_succ, List.getElem?_cons_zero]; rfl
  · kernel_rfl
  · kernel_rfl
  · kernel_rfl
  · exact fun _ _ _ h => h
  · exact Or.inl ⟨by kernel_rfl, by intro w hSw; (try dsimp only at hSw); go_simp; try with_reducible rfl⟩
  · assumption
  try go_simp
  refine wpAnyH_take (i := 25) (oi := ?_) (v := ?_) ?_ ?_ ?_ ?_ ?_ ?_ ?_ ?_
  rotate_left 2
  · simp only [List.getElem?_toArray, List.getElem?_cons_succ, List.getElem?_cons_zero]; rfl
  · kernel_rfl
  · kernel_rfl
  · kernel_rfl
  · exact fun _ _ _ h => h
  · exact Or.inl ⟨by kernel_rfl, by intro w hSw; (try dsimp only at hSw); go_simp; try with_reducible rfl⟩
  · assumption
  try go_simp
  refine wpAnyH_take (i := 26) (oi := ?_) (v := ?_) ?_ ?_ ?_ ?_ ?_ ?_ ?_ ?_
  rotate_left 2
  · simp only [List.getElem?_toArray, List.getElem?_cons_succ, List.getElem?_cons_zero]; rfl
  · kernel_rfl
  · kernel_rfl
  · kernel_rfl
  · exact fun _ _ _ h => h
  · exact Or.inl ⟨by kernel_rfl, by intro w hSw; (try dsimp only at hSw); go_simp; try with_reducible rfl⟩
  · assumption
  try go_simp
  refine wpAnyH_take (i := 27) (oi := ?_) (v := ?_) ?_ ?_ ?_ ?_ ?_ ?_ ?_ ?_
  rotate_left 2
  · simp only [List.getElem?_toArray, List.getElem?_cons_succ, List.getElem?_cons_zero]; rfl
  · kernel_rfl
  · kernel_rfl
  · kernel_rfl
  · exact fun _ _ _ h => h
  · exact Or.inl ⟨by kernel_rfl, by intro w hSw; (try dsimp only at hSw); go_simp; try with_reducible rfl⟩
  · assumption
  try go_simp
  refine wpAnyH_take (i := 28) (oi := ?_) (v := ?_) ?_ ?_ ?_ ?_ ?_ ?_ ?_ ?_
  rotate_left 2
  · simp only [List.getElem?_toArray, List.getElem?_cons_succ, List.getElem?_cons_zero]; rfl
  · kernel_rfl
  · kernel_rfl
  · kernel_rfl
  · exact fun _ _ _ h => h
  · exact Or.inl ⟨by kernel_rfl, by intro w hSw; (try dsimp only at hSw); go_simp; try with_reducible rfl⟩
  · assumption
  try go_simp
  refine wpAnyH_take (i := 29) (oi := ?_) (v := ?_) ?_ ?_ ?_ ?_ ?_ ?_ ?_ ?_
  rotate_left 2
  · simp only [List.getElem?_toArray, List.getElem?_cons_succ, List.getElem?_cons_zero]; rfl
  · kernel_rfl
  · kernel_rfl
  · kernel_rfl
  · exact fun _ _ _ h => h
  · exact Or.inl ⟨by kernel_rfl, by intro w hSw; (try dsimp only at hSw); go_simp; try with_reducible rfl⟩
  · assumption
  try go_simp
  refine wpAnyH_take (i := 30) (oi := ?_) (v := ?_) ?_ ?_ ?_ ?_ ?_ ?_ ?_ ?_
  rotate_left 2
  · simp only [List.getElem?_toArray, List.getElem?_cons_succ, List.getElem?_cons_zero]; rfl
  · kernel_rfl
  · kernel_rfl
  · kernel_rfl
  · exact fun _ _ _ h => h
  · exact Or.inl ⟨by kernel_rfl, by intro w hSw; (try dsimp only at hSw); go_simp; try with_reducible rfl⟩
  · assumption
  try go_simp
  refine wpAnyH_take (i := 31) (oi := ?_) (v := ?_) ?_ ?_ ?_ ?_ ?_ ?_ ?_ ?_
  rotate_left 2
  · simp only [List.getElem?_toArray, List.getElem?_cons_succ, List.getElem?_cons_zero]; rfl
  · kernel_rfl
  · kernel_rfl
  · kernel_rfl
  · exact fun _ _ _ h => h
  · exact Or.inl ⟨by kernel_rfl, by intro w hSw; (try dsimp only at hSw); go_simp; try with_reducible rfl⟩
  · assumption
  try go_simp
  refine wpAnyH_take (i := 32) (oi := ?_) (v := ?_) ?_ ?_ ?_ ?_ ?_ ?_ ?_ ?_
  rotate_left 2
  · simp only [List.getElem?_toArray, List.getElem?_cons_succ, List.getElem?_cons_zero]; rfl
  · kernel_rfl
  · kernel_rfl
  · kernel_rfl
  · exact fun _ _ _ h => h
  · exact Or.inl ⟨by kernel_rfl, by intro w hSw; (try dsimp only at hSw); go_simp; try with_reducible rfl⟩
  · assumption
  try go_simp
  refine wpAnyH_take (i := 33) (oi := ?_) (v := ?_) ?_ ?_ ?_ ?_ ?_ ?_ ?_ ?_
  rotate_left 2
  · simp only [List.getElem?_toArray, List.getElem?_cons_succ, List.getElem?_cons_zero]; rfl
  · kernel_rfl
  · kernel_rfl
  · kernel_rfl
  · exact fun _ _ _ h => h
  · exact Or.inl ⟨by kernel_rfl, by intro w hSw; (try dsimp only at hSw); go_simp; try with_reducible rfl⟩
  · assumption
  try go_simp
  refine wpAnyH_take (i := 34) (oi := ?_) (v := ?_) ?_ ?_ ?_ ?_ ?_ ?_ ?_ ?_
  rotate_left 2
  · simp only [List.getElem?_toArray, List.getElem?_cons_succ, List.getElem?_cons_zero]; rfl
  · kernel_rfl
  · kernel_rfl
  · kernel_rfl
  · exact fun _ _ _ h => h
  · exact Or.inl ⟨by kernel_rfl, by intro w hSw; (try dsimp only at hSw); go_simp; try with_reducible rfl⟩
  · assumption
  try go_simp
  refine wpAnyH_take (i := 35) (oi := ?_) (v := ?_) ?_ ?_ ?_ ?_ ?_ ?_ ?_ ?_
  rotate_left 2
  · simp only [List.getElem?_toArray, List.getElem?_cons_succ, List.getElem?_cons_zero]; rfl
  · kernel_rfl
  · kernel_rfl
  · kernel_rfl
  · exact fun _ _ _ h => h
  · exact Or.inl ⟨by kernel_rfl, by intro w hSw; (try dsimp only at hSw); go_simp; try with_reducible rfl⟩
  · assumption
  try go_simp
  refine wpAnyH_take (i := 36) (oi := ?_) (v := ?_) ?_ ?_ ?_ ?_ ?_ ?_ ?_ ?_
  rotate_left 2
  · simp only [List.getElem?_toArray, List.getElem?_cons_succ, List.getElem?_cons_zero]; rfl
  · kernel_rfl
  · kernel_rfl
  · kernel_rfl
  · exact fun _ _ _ h => h
  · exact Or.inl ⟨by kernel_rfl, by intro w hSw; (try dsimp only at hSw); go_simp; try with_reducible rfl⟩
  · assumption
  try go_simp
  refine wpAnyH_take (i := 37) (oi := ?_) (v := ?_) ?_ ?_ ?_ ?_ ?_ ?_ ?_ ?_
  rotate_left 2
  · simp only [List.getElem?_toArray, List.getElem?_cons_succ, List.getElem?_cons_zero]; rfl
  · kernel_rfl
  · kernel_rfl
  · kernel_rfl
  · exact fun _ _ _ h => h
  · exact Or.inl ⟨by kernel_rfl, by intro w hSw; (try dsimp only at hSw); go_simp; try with_reducible rfl⟩
  · assumption
  try go_simp
  refine wpAnyH_take (i := 38) (oi := ?_) (v := ?_) ?_ ?_ ?_ ?_ ?_ ?_ ?_ ?_
  rotate_left 2
  · simp only [List.getElem?_toArray, List.getElem?_cons_succ, List.getElem?_cons_zero]; rfl
  · kernel_rfl
  · kernel_rfl
  · kernel_rfl
  · exact fun _ _ _ h => h
  · exact Or.inl ⟨by kernel_rfl, by intro w hSw; (try dsimp only at hSw); go_simp; try with_reducible rfl⟩
  · assumption
  try go_simp
  refine wpAnyH_take (i := 39) (oi := ?_) (v := ?_) ?_ ?_ ?_ ?_ ?_ ?_ ?_ ?_
  rotate_left 2
  · simp only [List.getElem?_toArray, List.getElem?_cons_succ, List.getElem?_cons_zero]; rfl
  · kernel_rfl
  · kernel_rfl
  · kernel_rfl
  · exact fun _ _ _ h => h
  · exact Or.inl ⟨by kernel_rfl, by intro w hSw; (try dsimp only at hSw); go_simp; try with_reducible rfl⟩
  · assumption
  try go_simp
  refine wpAnyH_take (i := 40) (oi := ?_) (v := ?_) ?_ ?_ ?_ ?_ ?_ ?_ ?_ ?_
  rotate_left 2
  · simp only [List.getElem?_toArray, List.getElem?_cons_succ, List.getElem?_cons_zero]; rfl
  · kernel_rfl
  · kernel_rfl
  · kernel_rfl
  · exact fun _ _ _ h => h
  · exact Or.inl ⟨by kernel_rfl, by intro w hSw; (try dsimp only at hSw); go_simp; try with_reducible rfl⟩
  · assumption
  try go_simp
  refine wpAnyH_take (i := 41) (oi := ?_) (v := ?_) ?_ ?_ ?_ ?_ ?_ ?_ ?_ ?_
  rotate_left 2
  · simp only [List.getElem?_toArray, List.getElem?_cons_succ, List.getElem?_cons_zero]; rfl
  · kernel_rfl
  · kernel_rfl
  · kernel_rfl
  · exact fun _ _ _ h => h
  · exact Or.inl ⟨by kernel_rfl, by intro w hSw; (try dsimp only at hSw); go_simp; try with_reducible rfl⟩
  · assumption
  try go_simp
  refine wpAnyH_take (i := 42) (oi := ?_) (v := ?_) ?_ ?_ ?_ ?_ ?_ ?_ ?_ ?_
  rotate_left 2
  · simp only [List.getElem?_toArray, List.getElem?_cons_succ, List.getElem?_cons_zero]; rfl
  · kernel_rfl
  · kernel_rfl
  · kernel_rfl
  · exact fun _ _ _ h => h
  · exact Or.inl ⟨by kernel_rfl, by intro w hSw; (try dsimp only at hSw); go_simp; try with_reducible rfl⟩
  · assumption
  try go_simp
  refine wpAnyH_take (i := 43) (oi := ?_) (v := ?_) ?_ ?_ ?_ ?_ ?_ ?_ ?_ ?_
  rotate_left 2
  · simp only [List.getElem?_toArray, List.getElem?_cons_succ, List.getElem?_cons_zero]; rfl
  · kernel_rfl
  · kernel_rfl
  · kernel_rfl
  · exact fun _ _ _ h => h
  · exact Or.inl ⟨by kernel_rfl, by intro w hSw; (try dsimp only at hSw); go_simp; try with_reducible rfl⟩
  · assumption
  try go_simp
  refine wpAnyH_take (i := 44) (oi := ?_) (v := ?_) ?_ ?_ ?_ ?_ ?_ ?_ ?_ ?_
  rotate_left 2
  · simp only [List.getElem?_toArray, List.getElem?_cons_succ, List.getElem?_cons_zero]; rfl
  · kernel_rfl
  · kernel_rfl
  · kernel_rfl
  · exact fun _ _ _ h => h
  · exact Or.inl ⟨by kernel_rfl, by intro w hSw; (try dsimp only at hSw); go_simp; try with_reducible rfl⟩
  · assumption
  try go_simp
  refine wpAnyH_take (i := 45) (oi := ?_) (v := ?_) ?_ ?_ ?_ ?_ ?_ ?_ ?_ ?_
  rotate_left 2
  · simp only [List.getElem?_toArray, List.getElem?_cons_succ, List.getElem?_cons_zero]; rfl
  · kernel_rfl
  · kernel_rfl
  · kernel_rfl
  · exact fun _ _ _ h => h
  · exact Or.inl ⟨by kernel_rfl, by intro w hSw; (try dsimp only at hSw); go_simp; try with_reducible rfl⟩
  · assumption
  try go_simp
  refine wpAnyH_take (i := 46) (oi := ?_) (v := ?_) ?_ ?_ ?_ ?_ ?_ ?_ ?_ ?_
  rotate_left 2
  · simp only [List.getElem?_toArray, List.getElem?_cons_succ, List.getElem?_cons_zero]; rfl
  · kernel_rfl
  · kernel_rfl
  · kernel_rfl
  · exact fun _ _ _ h => h
  · exact Or.inl ⟨by kernel_rfl, by intro w hSw; (try dsimp only at hSw); go_simp; try with_reducible rfl⟩
  · assumption
  try go_simp
  refine wpAnyH_take (i := 47) (oi := ?_) (v := ?_) ?_ ?_ ?_ ?_ ?_ ?_ ?_ ?_
  rotate_left 2
  · simp only [List.getElem?_toArray, List.getElem?_cons_succ, List.getElem?_cons_zero]; rfl
  · kernel_rfl
  · kernel_rfl
  · kernel_rfl
  · exact fun _ _ _ h => h
  · exact Or.inl ⟨by kernel_rfl, by intro w hSw; (try dsimp only at hSw); go_simp; try with_reducible rfl⟩
  · assumption
  try go_simp
  refine wpAnyH_take (i := 48) (oi := ?_) (v := ?_) ?_ ?_ ?_ ?_ ?_ ?_ ?_ ?_
  rotate_left 2
  · simp only [List.getElem?_toArray, List.getElem?_cons_succ, List.getElem?_cons_zero]; rfl
  · kernel_rfl
  · kernel_rfl
  · kernel_rfl
  · exact fun _ _ _ h => h
  · exact Or.inl ⟨by kernel_rfl, by intro w hSw; (try dsimp only at hSw); go_simp; try with_reducible rfl⟩
  · assumption
  try go_simp
  refine wpAnyH_take (i := 49) (oi := ?_) (v := ?_) ?_ ?_ ?_ ?_ ?_ ?_ ?_ ?_
  rotate_left 2
  · simp only [List.getElem?_toArray, List.getElem?_cons_succ, List.getElem?_cons_zero]; rfl
  · kernel_rfl
  · kernel_rfl
  · kernel_rfl
  · exact fun _ _ _ h => h
  · exact Or.inl ⟨by kernel_rfl, by intro w hSw; (try dsimp only at hSw); go_simp; try with_reducible rfl⟩
  · assumption
  try go_simp
  refine wpAnyH_take (i := 50) (oi := ?_) (v := ?_) ?_ ?_ ?_ ?_ ?_ ?_ ?_ ?_
  rotate_left 2
  · simp only [List.getElem?_toArray, List.getElem?_cons_succ, List.getElem?_cons_zero]; rfl
  · kernel_rfl
  · kernel_rfl
  · kernel_rfl
  · exact fun _ _ _ h => h
  · exact Or.inl ⟨by kernel_rfl, by intro w hSw; (try dsimp only at hSw); go_simp; try with_reducible rfl⟩
  · assumption
  try go_simp
  refine wpAnyH_take (i := 51) (oi := ?_) (v := ?_) ?_ ?_ ?_ ?_ ?_ ?_ ?_ ?_
  rotate_left 2
  · simp only [List.getElem?_toArray, List.getElem?_cons_succ, List.getElem?_cons_zero]; rfl
  · kernel_rfl
  · kernel_rfl
  · kernel_rfl
  · exact fun _ _ _ h => h
  · exact Or.inl ⟨by kernel_rfl, by intro w hSw; (try dsimp only at hSw); go_simp; try with_reducible rfl⟩
  · assumption
  try go_simp
  refine wpAnyH_ready (rs := [52]) (by kernel_rfl) (by simp) ?_
  refine AllReadyH.cons (o := ?_) ?_ ?_ AllReadyH.nil
  rotate_left 1
  · simp only [List.getElem?_toArray, List.getElem?_cons_succ, List.getElem?_cons_zero]; rfl
  intro K hK
  go_simp
  refine (HSAME.out w6 (HT5.out.below C6.out) (HR5.out.below C6.out) (Nat.le_trans HBZ5.out C6.out.size)).mono ?_
  rintro e w7 ⟨rfl, b7⟩
  have C7 := Lib.hid (nextB C6.out b7)
  clear b7
  refine hK.out _ _ ?_ (fun hHeld => ?_)
  · exact HSS.out _ C7.out
  clear hK K
  try go_simp
  refine wpAnyH_take (i := 53) (oi := ?_) (v := ?_) ?_ ?_ ?_ ?_ ?_ ?_ ?_ ?_
  rotate_left 2
  · simp only [List.getElem?_toArray, List.getElem?_cons_succ, List.getElem?_cons_zero]; rfl
  · kernel_rfl
  · kernel_rfl
  · kernel_rfl
  · exact fun _ _ _ h => h
  · exact Or.inl ⟨by kernel_rfl, by intro w hSw; (try dsimp only at hSw); go_simp; try with_reducible rfl⟩
  · assumption
  try go_simp
  refine wpAnyH_take (i := 54) (oi := ?_) (v := ?_) ?_ ?_ ?_ ?_ ?_ ?_ ?_ ?_
  rotate_left 2
  · simp only [List.getElem?_toArray, List.getElem?_cons_succ, List.getElem?_cons_zero]; rfl
  · kernel_rfl
  · kernel_rfl
  · kernel_rfl
  · exact fun _ _ _ h => h
  · exact Or.inl ⟨by kernel_rfl, by intro w hSw; (try dsimp only at hSw); go_simp; try with_reducible rfl⟩
  · assumption
  try go_simp
  refine wpAnyH_take (i := 55) (oi := ?_) (v := ?_) ?_ ?_ ?_ ?_ ?_ ?_ ?_ ?_
  rotate_left 2
  · simp only [List.getElem?_toArray, List.getElem?_cons_succ, List.getElem?_cons_zero]; rfl
  · kernel_rfl
  · kernel_rfl
  · kernel_rfl
  · exact fun _ _ _ h => h
  · exact Or.inl ⟨by kernel_rfl, by intro w hSw; (try dsimp only at hSw); go_simp; try with_reducible rfl⟩
  · assumption
  try go_simp
  refine wpAnyH_take (i := 57) (oi := ?_) (v := ?_) ?_ ?_ ?_ ?_ ?_ ?_ ?_ ?_
  rotate_left 2
  · simp only [List.getElem?_toArray, List.getElem?_cons_succ, List.getElem?_cons_zero]; rfl
  · kernel_rfl
  · kernel_rfl
  · kernel_rfl
  · exact fun _ _ _ h => h
  · exact Or.inl ⟨by kernel_rfl, by intro w hSw; (try dsimp only at hSw); go_simp; try with_reducible rfl⟩
  · assumption
  try go_simp
  refine wpAnyH_take (i := 58) (oi := ?_) (v := ?_) ?_ ?_ ?_ ?_ ?_ ?_ ?_ ?_
  rotate_left 2
  · simp only [List.getElem?_toArray, List.getElem?_cons_succ, List.getElem?_cons_zero]; rfl
  · kernel_rfl
  · kernel_rfl
  · kernel_rfl
  · exact fun _ _ _ h => h
  · exact Or.inl ⟨by kernel_rfl, by intro w hSw; (try dsimp only at hSw); go_simp; try with_reducible rfl⟩
  · assumption
  try go_simp
  refine wpAnyH_ready (rs := [56]) (by kernel_rfl) (by simp) ?_
  refine AllReadyH.cons (o := ?_) ?_ ?_ AllReadyH.nil
  rotate_left 1
  · simp only [List.getElem?_toArray, List.getElem?_cons_succ, List.getElem?_cons_zero]; rfl
  intro K hK
  go_simp
  refine (HSIZE.out w7 (HS5.out.below C7.out)).mono ?_
  rintro e w8 ⟨rfl, b8⟩
  have C8 := Lib.hid (nextB C7.out b8)
  clear b8
  refine hK.out _ _ ?_ (fun hHeld => ?_)
  · exact HSS.out _ C8.out
  clear hK K
  try go_simp
  refine wpAnyH_take (i := 59) (oi := ?_) (v := ?_) ?_ ?_ ?_ ?_ ?_ ?_ ?_ ?_
  rotate_left 2
  · simp only [List.getElem?_toArray, List.getElem?_cons_succ, List.getElem?_cons_zero]; rfl
  · kernel_rfl
  · kernel_rfl
  · kernel_rfl
  · exact fun _ _ _ h => h
  · exact Or.inl ⟨by kernel_rfl, by intro w hSw; (try dsimp only at hSw); go_simp; try with_reducible rfl⟩
  · assumption
  try go_simp
  refine wpAnyH_take (i := 60) (oi := ?_) (v := ?_) ?_ ?_ ?_ ?_ ?_ ?_ ?_ ?_
  rotate_left 2
  · simp only [List.getElem?_toArray, List.getElem?_cons_succ, List.getElem?_cons_zero]; rfl
  · kernel_rfl
  · kernel_rfl
  · kernel_rfl
  · exact fun _ _ _ h => h
  · exact Or.inl ⟨by kernel_rfl, by intro w hSw; (try dsimp only at hSw); go_simp; try with_reducible rfl⟩
  · assumption
  try go_simp
  refine wpAnyH_take (i := 61) (oi := ?_) (v := ?_) ?_ ?_ ?_ ?_ ?_ ?_ ?_ ?_
  rotate_left 2
  · simp only [List.getElem?_toArray, List.getElem?_cons_succ, List.getElem?_cons_zero]; rfl
  · kernel_rfl
  · kernel_rfl
  · kernel_rfl
  · exact fun _ _ _ h => h
  · exact Or.inl ⟨by kernel_rfl, by intro w hSw; (try dsimp only at hSw); go_simp; try with_reducible rfl⟩
  · assumption
  try go_simp
  refine wpAnyH_take (i := 62) (oi := ?_) (v := ?_) ?_ ?_ ?_ ?_ ?_ ?_ ?_ ?_
  rotate_left 2
  · simp only [List.getElem?_toArray, List.getElem?_cons_succ, List.getElem?_cons_zero]; rfl
  · kernel_rfl
  · kernel_rfl
  · kernel_rfl
  · exact fun _ _ _ h => h
  · exact Or.inl ⟨by kernel_rfl, by intro w hSw; (try dsimp only at hSw); go_simp; try with_reducible rfl⟩
  · assumption
  try go_simp
  refine wpAnyH_take (i := 63) (oi := ?_) (v := ?_) ?_ ?_ ?_ ?_ ?_ ?_ ?_ ?_
  rotate_left 2
  · simp only [List.getElem?_toArray, List.getElem?_cons_succ, List.getElem?_cons_zero]; rfl
  · kernel_rfl
  · kernel_rfl
  · kernel_rfl
  · exact fun _ _ _ h => h
  · exact Or.inl ⟨by kernel_rfl, by intro w hSw; (try dsimp only at hSw); go_simp; try with_reducible rfl⟩
  · assumption
  try go_simp
  refine wpAnyH_take (i := 64) (oi := ?_) (v := ?_) ?_ ?_ ?_ ?_ ?_ ?_ ?_ ?_
  rotate_left 2
  · simp only [List.getElem?_toArray, List.getElem?_cons_succ, List.getElem?_cons_zero]; rfl
  · kernel_rfl
  · kernel_rfl
  · kernel_rfl
  · exact fun _ _ _ h => h
  · exact Or.inl ⟨by kernel_rfl, by intro w hSw; (try dsimp only at hSw); go_simp; try with_reducible rfl⟩
  · assumption
  try go_simp
  refine wpAnyH_take (i := 65) (oi := ?_) (v := ?_) ?_ ?_ ?_ ?_ ?_ ?_ ?_ ?_
  rotate_left 2
  · simp only [List.getElem?_toArray, List.getElem?_cons_succ, List.getElem?_cons_zero]; rfl
  · kernel_rfl
  · kernel_rfl
  · kernel_rfl
  · exact fun _ _ _ h => h
  · exact Or.inl ⟨by kernel_rfl, by intro w hSw; (try dsimp only at hSw); go_simp; try with_reducible rfl⟩
  · assumption
  try go_simp
  refine wpAnyH_ready (rs := [66]) (by kernel_rfl) (by simp) ?_
  refine AllReadyH.cons (o := ?_) ?_ ?_ AllReadyH.nil
  rotate_left 1
  · simp only [List.getElem?_toArray, List.getElem?_cons_succ, List.getElem?_cons_zero]; rfl
  intro K hK
  go_simp
  refine (dsize_nil _).mono ?_
  rintro e w9 ⟨rfl, rfl⟩
  refine hK.out _ _ ?_ (fun hHeld => ?_)
  · exact HSS.out _ C8.out
  clear hK K
  try go_simp
  refine wpAnyH_take (i := 67) (oi := ?_) (v := ?_) ?_ ?_ ?_ ?_ ?_ ?_ ?_ ?_
  rotate_left 2
  · simp only [List.getElem?_toArray, List.getElem?_cons_succ, List.getElem?_cons_zero]; rfl
  · kernel_rfl
  · kernel_rfl
  · kernel_rfl
  · exact fun _ _ _ h => h
  · exact Or.inl ⟨by kernel_rfl, by intro w hSw; (try dsimp only at hSw); go_simp; try with_reducible rfl⟩
  · assumption
  try go_simp
  refine wpAnyH_take (i := 68) (oi := ?_) (v := ?_) ?_ ?_ ?_ ?_ ?_ ?_ ?_ ?_
  rotate_left 2
  · simp only [List.getElem?_toArray, List.getElem?_cons_succ, List.getElem?_cons_zero]; rfl
  · kernel_rfl
  · kernel_rfl
  · kernel_rfl
  · exact fun _ _ _ h => h
  · exact Or.inl ⟨by kernel_rfl, by intro w hSw; (try dsimp only at hSw); go_simp; try with_reducible rfl⟩
  · assumption
  try go_simp
  refine wpAnyH_take (i := 69) (oi := ?_) (v := ?_) ?_ ?_ ?_ ?_ ?_ ?_ ?_ ?_
  rotate_left 2
  · simp only [List.getElem?_toArray, List.getElem?_cons_succ, List.getElem?_cons_zero]; rfl
  · kernel_rfl
  · kernel_rfl
  · kernel_rfl
  · exact fun _ _ _ h => h
  · exact Or.inl ⟨by kernel_rfl, by intro w hSw; (try dsimp only at hSw); go_simp; try with_reducible rfl⟩
  · assumption
  try go_simp
  refine wpAnyH_done (by kernel_rfl) ?_ _
  refine NoPanic.normal ?_
  go_wp2_with fail
  go_ret
  exact ⟨rfl, nextB HB3.out (nextB B5.out C8.out)⟩
end Go.Proofs.YtbfhiegbgkkgiaaGreat
/- The row of DdwireWrites: its arguments opened, its walk met, the arguments shut again. -/

namespace Go.Proofs.YtbfhiegbgkkgiaaGreat.ddwireWrites
open Go.ChangeShapes Go.WideShapes Go.ChangeAt Go.RowKit
open Go.ChangeMaps (open_string shut_string)

theorem own : ownKnob Tryz.prog.godebug = none := by kernel_rfl
theorem laidOut : laidOutB Tryz.prog = true := by kernel_rfl

set_option maxRecDepth 100000 in
theorem lifted (os : Os) (started : os.Started) (H : Type) (enc : TypeId × Value → H) :
    ReturnsInHanded {} Tryz.checked os 4 .any (Rows.ddwireWritesSpec.pre6 enc Tryz.prog Tryz.f4 Rows.ddwireWritesRow.domain false) (Rows.ddwireWritesSpec.post enc Tryz.prog Tryz.f4 false true false false) := by
  refine returnsInHanded_of_change (C := Tryz.checked) own started (by kernel_rfl) Tryz.func4
    (ChangeSpec.witness6 (enc := enc) (C := Tryz.checked) false ⟨#[], #[.int .u16 0, .int .u16 0, .slice none 0 0, .slice none 0 0], []⟩ 8 (by kernel_rfl) (by kernel_rfl) (by kernel_rfl) (by kernel_rfl)) ?_
  intro W base args ds gs before hval0 hW _ _
  have hval : ∀ (j : Nat) t v, Tryz.f4.params[j]? = some t → args[j]? = some v → Value.okWide Tryz.prog W .any base t v := hval0
  have hW' := hW
  obtain ⟨p, q, hA0, hV, rfl, _, _⟩ := hW
  have hA : DataW.TrodAll enc Tryz.prog W 0 (fun _ => true) true Tryz.f4.params.toList args.toList ds p := hA0
  rw [Tryz.params4] at hA hval
  obtain ⟨v0, vs0, d0, ds0, p0, q0, hargs, rfl, rfl, h0, r0⟩ := trodAll_cons hA
  obtain ⟨v1, vs1, d1, ds1, p1, q1, rfl, rfl, rfl, h1, r1⟩ := trodAll_cons r0
  obtain ⟨v2, vs2, d2, ds2, p2, q2, rfl, rfl, rfl, h2, r2⟩ := trodAll_cons r1
  obtain ⟨v3, vs3, d3, ds3, p3, q3, rfl, rfl, rfl, h3, r3⟩ := trodAll_cons r2
  obtain ⟨rfl, rfl, rfl⟩ := trodAll_nil r3
  obtain rfl : args = #[v0, v1, v2, v3] := by cases args; simp_all
  obtain ⟨rfl, rfl⟩ := trodVars_none hV
  obtain ⟨a0, rfl, rfl, rfl, w0⟩ := open_int Tryz.underlying22 (hval 0 22 v0 rfl rfl) h0
  have b0 := WfBounds.u16 w0
  obtain ⟨a1, rfl, rfl, rfl, w1⟩ := open_int Tryz.underlying22 (hval 1 22 v1 rfl rfl) h1
  have b1 := WfBounds.u16 w1
  have k2 := h2
  have lt2 : ∀ x ∈ p2, x.block < W.heap.size := by obtain ⟨m, hm⟩ := k2; exact DataW.trod_lt m _ _ _ hm
  obtain ⟨a2, c2, l2, rfl, m2, e2, z2, s2⟩ := open_intsL Tryz.underlying23 Tryz.underlying2 (by kernel_rfl) (hval 2 23 v2 rfl rfl) h2
  have k3 := h3
  have lt3 : ∀ x ∈ p3, x.block < W.heap.size := by obtain ⟨m, hm⟩ := k3; exact DataW.trod_lt m _ _ _ hm
  obtain ⟨a3, c3, l3, rfl, m3, e3, z3, s3⟩ := open_intsL Tryz.underlying42 Tryz.underlying22 (by kernel_rfl) (hval 3 42 v3 rfl rfl) h3
  clear hA0 hval0
  refine (ddwireWrites_walk W a0 (b0).1 (b0).2 a1 (b1).1 (b1).2 a2 c2 l2 m2 e2 z2 s2 a3 c3 l3 m3 e3 z3 s3).mono fun e W' ⟨he, bel⟩ => ?_
  subst he
  exact ⟨_, rfl, _, _, _, [], _, [], hW', trodAll_mk1 (shut_bool Tryz.underlying4 _), (trodAll_cons_mk (shut_int Tryz.underlying22 w0) (trodAll_cons_mk (shut_int Tryz.underlying22 w1) (trodAll_cons_mk (Below.trod laidOut (by kernel_rfl) (of_decide_eq_true (by kernel_rfl)) k2 bel lt2) (trodAll_cons_mk (Below.trod laidOut (by kernel_rfl) (of_decide_eq_true (by kernel_rfl)) k3 bel lt3) trodAll_mk0)))), rfl, bel.frame _, fun h => by cases h⟩

theorem over : Rows.ddwireWritesRow.holds Tryz.pinned (OpenSpec.ofChange Rows.ddwireWritesSpec) :=
  OpenClaim.holds_of_wide 4 Tryz.f4 rfl rfl rfl rfl rfl rfl rfl ⟨rfl, rfl, rfl, rfl, rfl⟩ rfl rfl rfl rfl rfl (by kernel_rfl) Tryz.func4 (by kernel_rfl)
    (of_decide_eq_true (by kernel_rfl)) (by unfold Func.isWrapper; first | (rw [if_pos (by decide +kernel)]; kernel_rfl) | (rw [if_neg (by decide +kernel)]; exact ⟨rfl, rfl⟩))
    (fun os started H enc _ => lifted os started H enc)

/-- The given statement. -/
theorem proved : Rows.DdwireWritesSaid := over
#print axioms proved
end Go.Proofs.YtbfhiegbgkkgiaaGreat.ddwireWrites
