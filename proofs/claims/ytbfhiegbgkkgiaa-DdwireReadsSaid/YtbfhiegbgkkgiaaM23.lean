/- DdwireReads walked. -/
import Derived.Test.YtbfhiegbgkkgiaaM21
import Derived.Test.YtbfhiegbgkkgiaaM22
import Derived.Test.YtbfhiegbgkkgiaaRows
import Derived.Test.YtbfhiegbgkkgiaaM01
namespace Go.Proofs.Ytbfhiegbgkkgiaa
open Go.RowKit
open Pl
open Sc
open Wi
theorem str_own21 {w : World} {B : Nat} {A : Option Addr} {c n : Nat} {S : List UInt8} (h : OwnB w B A c S) (hn : n = S.length) : (convert 22 9 (.slice A n c)).run Try.prog w = .ok (.string (str S)) w := by
  subst hn
  exact run_str Try.underlying22 Try.underlying5 Try.underlying9 (OwnB.reads h)
theorem dadd_lit {p q cs a g gl c : Nat} {As A : Option Addr} {m : Int} {all all' : List Pr} {w : World} (h : Skt w p q As cs a g gl A c m all) (v n : Nat) (ha0 : 100 ≤ a) (ha : a ≤ 5000) (hf : Fine all) (hl : all.length < 100000) (hm0 : 2 ≤ m) (hm1 : m ≤ 4097) (hv0 : 1 ≤ v) (hv1 : v ≤ 9223372036854775807) (hn : 1 ≤ n) (hr : radd all (keyOf a v) n 0 = (all', 0)) (W0 : World) (hb : Below W0.heap.size W0 w) (hp : W0.heap.size ≤ g) (hgl : W0.heap.size ≤ gl) (hA : ∀ i, blockOf A = some i → W0.heap.size ≤ i) :
    Calls Try.prog 15 #[.pointer (some ⟨p, 0, none⟩), .int .i64 (v : Int), .int .u64 (n : Int)] w fun e w' => e = .returned (.int .i64 0) ∧ (∃ A' c', Skt w' p q As cs a g gl A' c' m all' ∧ ∀ i, blockOf A' = some i → W0.heap.size ≤ i) ∧ Below W0.heap.size W0 w' := by
  refine (dadd_t h v n ha0 ha hf hl hm0 hm1 hv0 hv1 hn).mono ?_
  rintro e w' ⟨rfl, A', c', s, k⟩
  rw [hr] at s k ⊢
  refine ⟨rfl, ⟨A', c', s, fun i hi => ?_⟩, hb.trans (k.only.below hb.size (fun i hi => ?_))⟩
  · rcases k.new i hi with h1 | h1
    · exact hA i h1
    · exact Nat.le_trans hb.size h1
  · rcases hi with rfl | rfl | hi
    · exact hp
    · exact hgl
    · exact hA i hi
def aliveW : List UInt8 := [136, 39, 2, 2, 0, 2, 1, 0, 1]
theorem aliveW_doc : docW 5000 2 [(1, 1), (2, 1)] 0 = aliveW := by decide +kernel
theorem alive_keeps : Keeps 5000 2 [(1, 1), (2, 1)] 0 := by
  have h : 2 ≤ (spans 5000).length := by decide +kernel
  refine ⟨fun p hp => ?_, by decide, .inl rfl⟩
  simp only [List.mem_cons, List.not_mem_nil, or_false] at hp
  rcases hp with rfl | rfl
  · dsimp only; omega
  · dsimp only; omega
theorem alive_srt : Srt [((1 : Int), 1), (2, 1)] := by unfold Srt; decide
theorem alive_pos : Pos [((1 : Int), 1), (2, 1)] := by unfold Pos; decide
theorem alive_fine : Fine [((1 : Int), 1), (2, 1)] := ⟨alive_srt, alive_pos, by unfold KeysIn; decide, by decide, by decide⟩
theorem alive_fine1 : Fine [((2 : Int), 1)] := ⟨by unfold Srt; decide, by unfold Pos; decide, by unfold KeysIn; decide, by decide, by decide⟩
theorem alive_r1 : radd [] (keyOf 5000 8) 1 0 = ([(2, 1)], 0) := by decide +kernel
theorem alive_r2 : radd [(2, 1)] (keyOf 5000 1) 1 0 = ([(1, 1), (2, 1)], 0) := by decide +kernel
theorem alive_read : readF aliveW = some (5000, 2, [(1, 1), (2, 1)], 0) := by
  have h := readF_docW alive_keeps alive_srt alive_pos (by decide) (by decide) (by decide) (by decide) (by decide)
  rwa [aliveW_doc] at h
theorem alive_len : (docW 5000 2 [(1, 1), (2, 1)] 0).length = 9 := by rw [aliveW_doc]; rfl
set_option maxRecDepth 100000 in
set_option maxHeartbeats 1600000 in
theorem alive21_t (w : World) : Calls Try.prog 4 #[] w fun e w' => e = .returned (.bool true) ∧ Below w.heap.size w w' := by
  go_enter Try.func4, Try.ntmps4
  go_wp2_with fail
  refine (show Calls Try.prog 14 #[.int .i64 5000, .int .i64 2] w _ from dnew_t 5000 2 w (by decide) (by decide) (by decide) (by decide)).mono ?_
  rintro e w1 ⟨p, q, As, cs, g, gl, rfl, _, hg, hgl, s1, b1⟩
  have S1 := Lib.hid s1
  have B1 := Lib.hid b1
  have HG := Lib.hid (And.intro hg hgl)
  clear s1 b1 hg hgl
  go_wp2_with fail
  refine (show Calls Try.prog 15 #[.pointer (some ⟨p, 0, none⟩), .int .i64 8, .int .u64 1] w1 _ from dadd_lit S1.out 8 1 (by decide) (by decide) Fine.nil (by decide) (by decide) (by decide) (by decide) (by decide) (by decide) alive_r1 w B1.out HG.out.1 HG.out.2 (fun i hi => by simp [blockOf] at hi)).mono ?_
  rintro e w2 ⟨rfl, ⟨A2, c2, s2, hA2⟩, b2⟩
  have S2 := Lib.hid s2
  have B2 := Lib.hid b2
  have HA2 := Lib.hid hA2
  clear s2 b2 hA2
  go_wp2_with fail
  refine (show Calls Try.prog 15 #[.pointer (some ⟨p, 0, none⟩), .int .i64 1, .int .u64 1] w2 _ from dadd_lit S2.out 1 1 (by decide) (by decide) alive_fine1 (by decide) (by decide) (by decide) (by decide) (by decide) (by decide) alive_r2 w B2.out HG.out.1 HG.out.2 HA2.out).mono ?_
  rintro e w3 ⟨rfl, ⟨A3, c3, s3, hA3⟩, b3⟩
  have S3 := Lib.hid s3
  have B3 := Lib.hid b3
  clear s3 b3 hA3
  go_wp2_with fail
  refine (write_sk (L := [(1, 1), (2, 1)]) (f := 0) (m := 2) S3.out (by decide) (by decide) (by decide) alive_keeps alive_srt alive_pos (by decide)).mono ?_
  rintro e w4 ⟨A4, c4, rfl, o4, b4⟩
  rw [aliveW_doc] at o4 ⊢
  have O4 := Lib.hid o4
  have B4 := Lib.hid (nextB B3.out b4)
  clear o4 b4
  have HRD := Lib.hid (read_t A4 c4 aliveW w4 (OwnB.reads O4.out) (by decide))
  rw [alive_read] at HRD
  have e9 : aliveW.length = 9 := rfl
  go_wp2_with fail
  refine (show Calls Try.prog 7 #[.slice A4 9 c4] w4 _ from HRD.out).mono ?_
  rintro e w5 ⟨p5, q5, As5, cs5, g5, gl5, A5, c5, rfl, s5, b5⟩
  have S5 := Lib.hid s5
  have B5 := Lib.hid (nextB B4.out b5)
  have hs := str_own21 (n := 9) (Own.below (show Own w4 w3.heap.size 5 1 A4 aliveW.length c4 (bvs aliveW) from O4.out) b5) rfl
  clear s5 b5 e9
  have hs1 : ((str aliveW).toList == [136, 39, 2, 2, 0, 2, 1, 0, 1]) = true := by rw [str_toList]; rfl
  go_wp2_with fail
  refine (show Calls Try.prog 17 #[.pointer (some ⟨p5, 0, none⟩)] w5 (fun e w' => e = .returned (.int .u64 2) ∧ w5 = w') from dtotal_t S5.out alive_fine).mono ?_
  rintro e w6 ⟨rfl, rfl⟩
  go_wp2_with fail
  go_ret
  exact ⟨rfl, B5.out⟩
set_option maxRecDepth 100000 in
theorem reads_no (w : World) (A : Option Addr) (c n : Nat) (h : 3000 < n) :
    Calls Try.prog 3 #[.slice A n c] w fun e w' => e = .returned (.bool true) ∧ Below w.heap.size w w' := by
  have hd : decide ((3000 : Int) < (n : Int)) = true := by simp; omega
  clear h
  go_enter Try.func3, Try.ntmps3
  go_wp2_with fail
  refine (alive21_t _).mono ?_
  rintro e w1 ⟨rfl, hb1⟩
  have HB1 := Lib.hid hb1
  clear hb1
  go_wp2_with fail
  go_ret
  exact ⟨rfl, HB1.out⟩
theorem peek_read {l : List UInt8} (h : peekF l = none) : readF l = none := by
  cases hr : readF l with
  | none => rfl
  | some r =>
    obtain ⟨a, m, L, f⟩ := r
    have := readF_some hr
    rw [h] at this
    exact absurd this.2.2.2.2.2.2.2.2.2 (by simp)
theorem pairs_cut {w : World} {p q cs a g gl c : Nat} {As A : Option Addr} {m : Nat} {L : List Pr} {f : Nat} (h : Skt w p q As cs a g gl A c (m : Int) (allOf L f)) (hk : Keeps a m L f) (hs : Srt L) (hp : Pos L) (hm : 2 ≤ m) (hm1 : m ≤ 4096) (hl : L.length ≤ m) :
    Calls Try.prog 11 #[.pointer (some ⟨p, 0, none⟩)] w (NewPairs L w) := by
  have h1 := dpairs_t h (allOf_fine hk hs hp (by omega))
  rwa [allOf_cut hk hm hl] at h1
theorem folded_cut {w : World} {p q cs a g gl c : Nat} {As A : Option Addr} {m : Nat} {L : List Pr} {f : Nat} (h : Skt w p q As cs a g gl A c (m : Int) (allOf L f)) (hk : Keeps a m L f) (hm : 2 ≤ m) (hl : L.length ≤ m) :
    Calls Try.prog 12 #[.pointer (some ⟨p, 0, none⟩)] w fun e w' => e = .returned (.int .u64 (f : Nat)) ∧ w = w' := by
  have h1 := dfolded_t h
  rwa [allOf_cut hk hm hl] at h1
theorem keeps_fold {a m f : Nat} {L : List Pr} (hk : Keeps a m L f) : f ≤ 4611686018427387904 := by
  rcases hk.fold with h0 | ⟨_, x, R, hx, h2⟩
  · omega
  · have := hk.tot
    rw [hx, tot_cons] at this
    omega
theorem keeps_fine {a m f : Nat} {L : List Pr} (hk : Keeps a m L f) (hs : Srt L) (hp : Pos L) (hm1 : m ≤ 4096) (hl : L.length ≤ m) : Fine L :=
  ⟨hs, hp, fun q hq => by have := hk.keys q hq; have := spans_len' a; omega, hk.tot, by omega⟩
set_option maxRecDepth 100000 in
set_option maxHeartbeats 3200000 in
theorem ddwireReads_walk (w : World) (A : Option Addr) (c : Nat) (l : List UInt8) (_hl : l.length ≤ maxLen) (hc : l.length ≤ c) (s : Bts w w.heap.size A l) :
    Calls Try.prog 3 #[.slice A l.length c] w fun e w' => e = .returned (.bool true) ∧ Below w.heap.size w w' := by
  by_cases h : 3000 < l.length
  · exact reads_no w A c l.length h
  · have hd : decide ((3000 : Int) < (l.length : Int)) = false := by simp; omega
    have HS := Lib.hid s
    have HRP := Lib.hid (fun W hb => rpeek_t A c l W hb (by omega) hc)
    have HPK := Lib.hid (fun W hb => peek_t A c l W hb (by omega))
    have HRD := Lib.hid (fun W hb => read_t A c l W hb (by omega))
    have HPR := Lib.hid (fun h => peek_read (l := l) h)
    have HRS := Lib.hid (fun a m L f => readF_some (b := l) (a := a) (m := m) (L := L) (f := f))
    have HCV : Hid (∀ W, Below w.heap.size w W → (convert 22 9 (.slice A l.length c)).run Try.prog W = .ok (.string (str l)) W) := Lib.hid (fun W hb => run_str Try.underlying22 Try.underlying5 Try.underlying9 (HS.out.at_below hb))
    clear h s _hl hc
    unfold RPeek at HRP
    obtain ⟨P, hP⟩ : ∃ P, P = peekF l := ⟨_, rfl⟩
    obtain ⟨R, hR⟩ : ∃ R, R = readF l := ⟨_, rfl⟩
    rw [← hP] at HRP HPK HPR HRS
    rw [← hR] at HRD HPR HRS
    clear hP hR
    have hcase : (P = none ∧ R = none) ∨ (∃ a m, P = some (a, m) ∧ R = none) ∨ ∃ a m L f, P = some (a, m) ∧ R = some (a, m, L, f) := by
      cases P with
      | none => exact .inl ⟨rfl, HPR.out rfl⟩
      | some r =>
        obtain ⟨a, m⟩ := r
        cases R with
        | none => exact .inr (.inl ⟨a, m, rfl, rfl⟩)
        | some r =>
          obtain ⟨a', m', L, f⟩ := r
          have := (HRS.out a' m' L f rfl).2.2.2.2.2.2.2.2.2
          injection this with this
          injection this with h1 h2
          subst h1 h2
          exact .inr (.inr ⟨a, m, L, f, rfl, rfl⟩)
    clear HPR
    rcases hcase with ⟨rfl, rfl⟩ | ⟨a, m, rfl, rfl⟩ | ⟨a, m, L, f, rfl, rfl⟩
    · clear HRS
      go_enter Try.func3, Try.ntmps3
      go_wp2_with fail
      refine (alive21_t _).mono ?_
      rintro e w1 ⟨rfl, hb1⟩
      have HB1 := Lib.hid hb1
      clear hb1
      go_wp2_with fail
      refine (HRP.out _ (HS.out.at_below HB1.out)).mono ?_
      rintro e w2 ⟨rfl, q2, rfl⟩
      have HB2 := Lib.hid (below_drewN HB1.out q2)
      unfold rpeekR
      go_wp2_with fail
      refine (HPK.out _ (HS.out.at_below HB2.out)).mono ?_
      rintro e w3 ⟨rfl, hb3⟩
      have HB3 := Lib.hid (nextB HB2.out hb3)
      clear hb3
      unfold peekR
      go_wp2_with fail
      refine (HRD.out _ (HS.out.at_below HB3.out)).mono ?_
      rintro e w4 ⟨rfl, hb4⟩
      have HB4 := Lib.hid (nextB HB3.out hb4)
      clear hb4
      go_wp2_with fail
      go_ret
      exact ⟨rfl, HB4.out⟩
    · clear HRS
      go_enter Try.func3, Try.ntmps3
      go_wp2_with fail
      refine (alive21_t _).mono ?_
      rintro e w1 ⟨rfl, hb1⟩
      have HB1 := Lib.hid hb1
      clear hb1
      go_wp2_with fail
      refine (HRP.out _ (HS.out.at_below HB1.out)).mono ?_
      rintro e w2 ⟨rfl, q2, rfl⟩
      have HB2 := Lib.hid (below_drewN HB1.out q2)
      unfold rpeekR
      go_wp2_with fail
      refine (HPK.out _ (HS.out.at_below HB2.out)).mono ?_
      rintro e w3 ⟨rfl, hb3⟩
      have HB3 := Lib.hid (nextB HB2.out hb3)
      clear hb3
      unfold peekR
      go_wp2_with fail
      refine (HRD.out _ (HS.out.at_below HB3.out)).mono ?_
      rintro e w4 ⟨rfl, hb4⟩
      have HB4 := Lib.hid (nextB HB3.out hb4)
      clear hb4
      go_wp2_with fail
      go_ret
      exact ⟨rfl, HB4.out⟩
    · obtain ⟨a0, a1, m0, m1, hLm, hsr, hpo, hke, hdoc, _⟩ := HRS.out a m L f rfl
      clear HRS
      have HPA := Lib.hid (fun W {p q cs g gl c : Nat} {As A : Option Addr} (h : Skt W p q As cs a g gl A c (m : Int) (allOf L f)) => pairs_cut h hke hsr hpo m0 m1 hLm)
      have HFO := Lib.hid (fun W {p q cs g gl c : Nat} {As A : Option Addr} (h : Skt W p q As cs a g gl A c (m : Int) (allOf L f)) => folded_cut h hke m0 hLm)
      have HRI := Lib.hid (fun W A c (h : Prs W W.heap.size A L) => right15_t A c W.heap.size m f L W h m0 m1 hLm hsr hpo (keeps_fine hke hsr hpo m1 hLm).keys hke.tot hke.fold)
      have HRW := Lib.hid (fun W A c (h : Prs W W.heap.size A L) => refwrite_t a m A c L f W h (keeps_fine hke hsr hpo m1 hLm) (by omega) a1 m1 (keeps_fold hke))
      rw [hdoc] at HRW
      clear hdoc hke hsr hpo hLm a0 a1 m0 m1
      go_enter Try.func3, Try.ntmps3
      go_wp2_with fail
      refine (alive21_t _).mono ?_
      rintro e w1 ⟨rfl, hb1⟩
      have HB1 := Lib.hid hb1
      clear hb1
      go_wp2_with fail
      refine (HRP.out _ (HS.out.at_below HB1.out)).mono ?_
      rintro e w2 ⟨rfl, q2, rfl⟩
      have HB2 := Lib.hid (below_drewN HB1.out q2)
      unfold rpeekR
      go_wp2_with fail
      refine (HPK.out _ (HS.out.at_below HB2.out)).mono ?_
      rintro e w3 ⟨rfl, hb3⟩
      have HB3 := Lib.hid (nextB HB2.out hb3)
      clear hb3
      unfold peekR
      go_wp2_with fail
      refine (HRD.out _ (HS.out.at_below HB3.out)).mono ?_
      rintro e w5 ⟨p5, q5, As5, cs5, g5, gl5, A5, c5, rfl, s5, b5⟩
      have SK5 := Lib.hid s5
      have HB5 := Lib.hid (nextB HB3.out b5)
      have SKD := Lib.hid (show Skt w5.drew p5 q5 As5 cs5 a g5 gl5 A5 c5 (m : Int) (allOf L f) from Skt.below s5 (Below.refl _ _).drew)
      clear s5 b5
      go_wp2_with fail
      refine wp_region_noPanic ?_
      refine wp_region_held_drew (S := (fun W => (convert 22 9 (.slice A l.length c)).run Try.prog W = .ok (.string (str l)) W)) (by kernel_rfl) (HCV.out _ HB5.out.drew) (fun hHeld => ?_)
      refine wpAnyH_take (i := 0) (oi := ?_) (v := ?_) ?_ ?_ ?_ ?_ ?_ ?_ ?_ ?_
      rotate_left 2
      · simp only [List.getElem?_toArray, List.getElem?_cons_zero]; rfl
      · kernel_rfl
      · kernel_rfl
      · kernel_rfl
      · exact fun _ _ _ h => h
      · exact Or.inl ⟨by kernel_rfl, by intro w hSw; (try dsimp only at hSw); go_simp; try with_reducible rfl⟩
      · assumption
      try go_simp
      refine wpAnyH_take (i := 1) (oi := ?_) (v := ?_) ?_ ?_ ?_ ?_ ?_ ?_ ?_ ?_
      rotate_left 2
      · simp only [List.getElem?_toArray, List.getElem?_cons_succ, List.getElem?_cons_zero]; rfl
      · kernel_rfl
      · kernel_rfl
      · kernel_rfl
      · exact fun _ _ _ h => h
      · exact Or.inl ⟨by kernel_rfl, by intro w hSw; (try dsimp only at hSw); go_simp; try with_reducible rfl⟩
      · assumption
      try go_simp
      refine wpAnyH_take (i := 2) (oi := ?_) (v := ?_) ?_ ?_ ?_ ?_ ?_ ?_ ?_ ?_
      rotate_left 2
      · simp only [List.getElem?_toArray, List.getElem?_cons_succ, List.getElem?_cons_zero]; rfl
      · kernel_rfl
      · kernel_rfl
      · kernel_rfl
      · exact fun _ _ _ h => h
      · exact Or.inl ⟨by kernel_rfl, by intro w hSw; (try dsimp only at hSw); go_simp; try with_reducible rfl⟩
      · assumption
      try go_simp
      refine wpAnyH_take (i := 4) (oi := ?_) (v := ?_) ?_ ?_ ?_ ?_ ?_ ?_ ?_ ?_
      rotate_left 2
      · simp only [List.getElem?_toArray, List.getElem?_cons_succ, List.getElem?_cons_zero]; rfl
      · kernel_rfl
      · kernel_rfl
      · kernel_rfl
      · exact fun _ _ _ h => h
      · exact Or.inl ⟨by kernel_rfl, by intro w hSw; (try dsimp only at hSw); go_simp; try with_reducible rfl⟩
      · assumption
      try go_simp
      refine wpAnyH_ready (rs := [3]) (by kernel_rfl) (by simp) ?_
      refine AllReadyH.cons (o := ?_) ?_ ?_ AllReadyH.nil
      rotate_left 1
      · simp only [List.getElem?_toArray, List.getElem?_cons_succ, List.getElem?_cons_zero]; rfl
      intro K hK
      go_simp
      refine (dacc_t SKD.out).mono ?_
      rintro e w6 ⟨rfl, rfl⟩
      refine hK.out _ _ ?_ (fun hHeld => ?_)
      · exact HCV.out _ (HB5.out.drew)
      clear hK K
      try go_simp
      refine wpAnyH_take (i := 5) (oi := ?_) (v := ?_) ?_ ?_ ?_ ?_ ?_ ?_ ?_ ?_
      rotate_left 2
      · simp only [List.getElem?_toArray, List.getElem?_cons_succ, List.getElem?_cons_zero]; rfl
      · kernel_rfl
      · kernel_rfl
      · kernel_rfl
      · exact fun _ _ _ h => h
      · exact Or.inl ⟨by kernel_rfl, by intro w hSw; (try dsimp only at hSw); go_simp; try with_reducible rfl⟩
      · assumption
      try go_simp
      refine wpAnyH_take (i := 6) (oi := ?_) (v := ?_) ?_ ?_ ?_ ?_ ?_ ?_ ?_ ?_
      rotate_left 2
      · simp only [List.getElem?_toArray, List.getElem?_cons_succ, List.getElem?_cons_zero]; rfl
      · kernel_rfl
      · kernel_rfl
      · kernel_rfl
      · exact fun _ _ _ h => h
      · exact Or.inl ⟨by kernel_rfl, by intro w hSw; (try dsimp only at hSw); go_simp; try with_reducible rfl⟩
      · assumption
      try go_simp
      refine wpAnyH_take (i := 7) (oi := ?_) (v := ?_) ?_ ?_ ?_ ?_ ?_ ?_ ?_ ?_
      rotate_left 2
      · simp only [List.getElem?_toArray, List.getElem?_cons_succ, List.getElem?_cons_zero]; rfl
      · kernel_rfl
      · kernel_rfl
      · kernel_rfl
      · exact fun _ _ _ h => h
      · exact Or.inl ⟨by kernel_rfl, by intro w hSw; (try dsimp only at hSw); go_simp; try with_reducible rfl⟩
      · assumption
      try go_simp
      refine wpAnyH_take (i := 8) (oi := ?_) (v := ?_) ?_ ?_ ?_ ?_ ?_ ?_ ?_ ?_
      rotate_left 2
      · simp only [List.getElem?_toArray, List.getElem?_cons_succ, List.getElem?_cons_zero]; rfl
      · kernel_rfl
      · kernel_rfl
      · kernel_rfl
      · exact fun _ _ _ h => h
      · exact Or.inl ⟨by kernel_rfl, by intro w hSw; (try dsimp only at hSw); go_simp; try with_reducible rfl⟩
      · assumption
      try go_simp
      refine wpAnyH_take (i := 10) (oi := ?_) (v := ?_) ?_ ?_ ?_ ?_ ?_ ?_ ?_ ?_
      rotate_left 2
      · simp only [List.getElem?_toArray, List.getElem?_cons_succ, List.getElem?_cons_zero]; rfl
      · kernel_rfl
      · kernel_rfl
      · kernel_rfl
      · exact fun _ _ _ h => h
      · exact Or.inl ⟨by kernel_rfl, by intro w hSw; (try dsimp only at hSw); go_simp; try with_reducible rfl⟩
      · assumption
      try go_simp
      refine wpAnyH_ready (rs := [9]) (by kernel_rfl) (by simp) ?_
      refine AllReadyH.cons (o := ?_) ?_ ?_ AllReadyH.nil
      rotate_left 1
      · simp only [List.getElem?_toArray, List.getElem?_cons_succ, List.getElem?_cons_zero]; rfl
      intro K hK
      go_simp
      refine (dbudget_t SKD.out).mono ?_
      rintro e w6 ⟨rfl, rfl⟩
      refine hK.out _ _ ?_ (fun hHeld => ?_)
      · exact HCV.out _ (HB5.out.drew)
      clear hK K
      try go_simp
      refine wpAnyH_take (i := 11) (oi := ?_) (v := ?_) ?_ ?_ ?_ ?_ ?_ ?_ ?_ ?_
      rotate_left 2
      · simp only [List.getElem?_toArray, List.getElem?_cons_succ, List.getElem?_cons_zero]; rfl
      · kernel_rfl
      · kernel_rfl
      · kernel_rfl
      · exact fun _ _ _ h => h
      · exact Or.inl ⟨by kernel_rfl, by intro w hSw; (try dsimp only at hSw); go_simp; try with_reducible rfl⟩
      · assumption
      try go_simp
      refine wpAnyH_take (i := 12) (oi := ?_) (v := ?_) ?_ ?_ ?_ ?_ ?_ ?_ ?_ ?_
      rotate_left 2
      · simp only [List.getElem?_toArray, List.getElem?_cons_succ, List.getElem?_cons_zero]; rfl
      · kernel_rfl
      · kernel_rfl
      · kernel_rfl
      · exact fun _ _ _ h => h
      · exact Or.inl ⟨by kernel_rfl, by intro w hSw; (try dsimp only at hSw); go_simp; try with_reducible rfl⟩
      · assumption
      try go_simp
      refine wpAnyH_take (i := 13) (oi := ?_) (v := ?_) ?_ ?_ ?_ ?_ ?_ ?_ ?_ ?_
      rotate_left 2
      · simp only [List.getElem?_toArray, List.getElem?_cons_succ, List.getElem?_cons_zero]; rfl
      · kernel_rfl
      · kernel_rfl
      · kernel_rfl
      · exact fun _ _ _ h => h
      · exact Or.inl ⟨by kernel_rfl, by intro w hSw; (try dsimp only at hSw); go_simp; try with_reducible rfl⟩
      · assumption
      try go_simp
      refine wpAnyH_take (i := 14) (oi := ?_) (v := ?_) ?_ ?_ ?_ ?_ ?_ ?_ ?_ ?_
      rotate_left 2
      · simp only [List.getElem?_toArray, List.getElem?_cons_succ, List.getElem?_cons_zero]; rfl
      · kernel_rfl
      · kernel_rfl
      · kernel_rfl
      · exact fun _ _ _ h => h
      · exact Or.inl ⟨by kernel_rfl, by intro w hSw; (try dsimp only at hSw); go_simp; try with_reducible rfl⟩
      · assumption
      try go_simp
      refine wpAnyH_take (i := 15) (oi := ?_) (v := ?_) ?_ ?_ ?_ ?_ ?_ ?_ ?_ ?_
      rotate_left 2
      · simp only [List.getElem?_toArray, List.getElem?_cons_succ, List.getElem?_cons_zero]; rfl
      · kernel_rfl
      · kernel_rfl
      · kernel_rfl
      · exact fun _ _ _ h => h
      · exact Or.inl ⟨by kernel_rfl, by intro w hSw; (try dsimp only at hSw); go_simp; try with_reducible rfl⟩
      · assumption
      try go_simp
      refine wpAnyH_take (i := 17) (oi := ?_) (v := ?_) ?_ ?_ ?_ ?_ ?_ ?_ ?_ ?_
      rotate_left 2
      · simp only [List.getElem?_toArray, List.getElem?_cons_succ, List.getElem?_cons_zero]; rfl
      · kernel_rfl
      · kernel_rfl
      · kernel_rfl
      · exact fun _ _ _ h => h
      · exact Or.inl ⟨by kernel_rfl, by intro w hSw; (try dsimp only at hSw); go_simp; try with_reducible rfl⟩
      · assumption
      try go_simp
      refine wpAnyH_ready (rs := [16]) (by kernel_rfl) (by simp) ?_
      refine AllReadyH.cons (o := ?_) ?_ ?_ AllReadyH.nil
      rotate_left 1
      · simp only [List.getElem?_toArray, List.getElem?_cons_succ, List.getElem?_cons_zero]; rfl
      intro K hK
      go_simp
      refine (HPA.out w5.drew SKD.out).mono ?_
      rintro e w6 ⟨A6, c6, rfl, o6, b6⟩
      have SK6 := Lib.hid (Skt.below SKD.out b6)
      have HO6 := Lib.hid o6
      have HB6 := Lib.hid (nextB (b := w5.drew) HB5.out.drew b6)
      clear o6 b6
      refine hK.out _ _ ?_ (fun hHeld => ?_)
      · exact HCV.out _ HB6.out
      clear hK K
      try go_simp
      refine wpAnyH_ready (rs := [18]) (by kernel_rfl) (by simp) ?_
      refine AllReadyH.cons (o := ?_) ?_ ?_ AllReadyH.nil
      rotate_left 1
      · simp only [List.getElem?_toArray, List.getElem?_cons_succ, List.getElem?_cons_zero]; rfl
      intro K hK
      go_simp
      refine (HFO.out _ SK6.out).mono ?_
      rintro e w7 ⟨rfl, rfl⟩
      refine hK.out _ _ ?_ (fun hHeld => ?_)
      · exact HCV.out _ HB6.out
      clear hK K
      try go_simp
      refine wpAnyH_ready (rs := [19]) (by kernel_rfl) (by simp) ?_
      refine AllReadyH.cons (o := ?_) ?_ ?_ AllReadyH.nil
      rotate_left 1
      · simp only [List.getElem?_toArray, List.getElem?_cons_succ, List.getElem?_cons_zero]; rfl
      intro K hK
      go_simp
      refine (HRI.out w6 _ _ (OwnP.reads HO6.out)).mono ?_
      rintro e w7 ⟨rfl, n7, rfl⟩
      have SK7 := Lib.hid (show Skt (w6.drewN n7) _ _ _ _ _ _ _ _ _ _ _ from Skt.below SK6.out (below_drewN (Below.refl _ _) n7))
      have HB7 := Lib.hid (below_drewN HB6.out n7)
      refine hK.out _ _ ?_ (fun hHeld => ?_)
      · exact HCV.out _ HB7.out
      clear hK K
      try go_simp
      refine wpAnyH_take (i := 20) (oi := ?_) (v := ?_) ?_ ?_ ?_ ?_ ?_ ?_ ?_ ?_
      rotate_left 2
      · simp only [List.getElem?_toArray, List.getElem?_cons_succ, List.getElem?_cons_zero]; rfl
      · kernel_rfl
      · kernel_rfl
      · kernel_rfl
      · exact fun _ _ _ h => h
      · exact Or.inl ⟨by kernel_rfl, by intro w hSw; (try dsimp only at hSw); go_simp; try with_reducible rfl⟩
      · assumption
      try go_simp
      refine wpAnyH_take (i := 21) (oi := ?_) (v := ?_) ?_ ?_ ?_ ?_ ?_ ?_ ?_ ?_
      rotate_left 2
      · simp only [List.getElem?_toArray, List.getElem?_cons_succ, List.getElem?_cons_zero]; rfl
      · kernel_rfl
      · kernel_rfl
      · kernel_rfl
      · exact fun _ _ _ h => h
      · exact Or.inl ⟨by kernel_rfl, by intro w hSw; (try dsimp only at hSw); go_simp; try with_reducible rfl⟩
      · assumption
      try go_simp
      refine wpAnyH_take (i := 22) (oi := ?_) (v := ?_) ?_ ?_ ?_ ?_ ?_ ?_ ?_ ?_
      rotate_left 2
      · simp only [List.getElem?_toArray, List.getElem?_cons_succ, List.getElem?_cons_zero]; rfl
      · kernel_rfl
      · kernel_rfl
      · kernel_rfl
      · exact fun _ _ _ h => h
      · exact Or.inl ⟨by kernel_rfl, by intro w hSw; (try dsimp only at hSw); go_simp; try with_reducible rfl⟩
      · assumption
      try go_simp
      refine wpAnyH_take (i := 23) (oi := ?_) (v := ?_) ?_ ?_ ?_ ?_ ?_ ?_ ?_ ?_
      rotate_left 2
      · simp only [List.getElem?_toArray, List.getElem?_cons_succ, List.getElem?_cons_zero]; rfl
      · kernel_rfl
      · kernel_rfl
      · kernel_rfl
      · exact fun _ _ _ h => h
      · exact Or.inl ⟨by kernel_rfl, by intro w hSw; (try dsimp only at hSw); go_simp; try with_reducible rfl⟩
      · assumption
      try go_simp
      refine wpAnyH_take (i := 24) (oi := ?_) (v := ?_) ?_ ?_ ?_ ?_ ?_ ?_ ?_ ?_
      rotate_left 2
      · simp only [List.getElem?_toArray, List.getElem?_cons_succ, List.getElem?_cons_zero]; rfl
      · kernel_rfl
      · kernel_rfl
      · kernel_rfl
      · exact fun _ _ _ h => h
      · exact Or.inl ⟨by kernel_rfl, by intro w hSw; (try dsimp only at hSw); go_simp; try with_reducible rfl⟩
      · assumption
      try go_simp
      refine wpAnyH_take (i := 26) (oi := ?_) (v := ?_) ?_ ?_ ?_ ?_ ?_ ?_ ?_ ?_
      rotate_left 2
      · simp only [List.getElem?_toArray, List.getElem?_cons_succ, List.getElem?_cons_zero]; rfl
      · kernel_rfl
      · kernel_rfl
      · kernel_rfl
      · exact fun _ _ _ h => h
      · exact Or.inl ⟨by kernel_rfl, by intro w hSw; (try dsimp only at hSw); go_simp; try with_reducible rfl⟩
      · assumption
      try go_simp
      refine wpAnyH_take (i := 30) (oi := ?_) (v := ?_) ?_ ?_ ?_ ?_ ?_ ?_ ?_ ?_
      rotate_left 2
      · simp only [List.getElem?_toArray, List.getElem?_cons_succ, List.getElem?_cons_zero]; rfl
      · kernel_rfl
      · kernel_rfl
      · kernel_rfl
      · exact fun _ _ _ h => h
      · exact Or.inl ⟨by kernel_rfl, by intro w hSw; (try dsimp only at hSw); go_simp; try with_reducible rfl⟩
      · assumption
      try go_simp
      refine wpAnyH_take (i := 31) (oi := ?_) (v := ?_) ?_ ?_ ?_ ?_ ?_ ?_ ?_ ?_
      rotate_left 2
      · simp only [List.getElem?_toArray, List.getElem?_cons_succ, List.getElem?_cons_zero]; rfl
      · kernel_rfl
      · kernel_rfl
      · kernel_rfl
      · exact fun _ _ _ h => h
      · exact Or.inl ⟨by kernel_rfl, by intro w hSw; (try dsimp only at hSw); go_simp; try with_reducible rfl⟩
      · assumption
      try go_simp
      refine wpAnyH_ready (rs := [25]) (by kernel_rfl) (by simp) ?_
      refine AllReadyH.cons (o := ?_) ?_ ?_ AllReadyH.nil
      rotate_left 1
      · simp only [List.getElem?_toArray, List.getElem?_cons_succ, List.getElem?_cons_zero]; rfl
      intro K hK
      go_simp
      refine (HPA.out _ SK7.out).mono ?_
      rintro e w8 ⟨A8, c8, rfl, o8, b8⟩
      have SK8 := Lib.hid (Skt.below SK7.out b8)
      have HO8 := Lib.hid o8
      have HB8 := Lib.hid (nextB HB7.out b8)
      clear o8 b8
      refine hK.out _ _ ?_ (fun hHeld => ?_)
      · exact HCV.out _ HB8.out
      clear hK K
      try go_simp
      refine wpAnyH_ready (rs := [27]) (by kernel_rfl) (by simp) ?_
      refine AllReadyH.cons (o := ?_) ?_ ?_ AllReadyH.nil
      rotate_left 1
      · simp only [List.getElem?_toArray, List.getElem?_cons_succ, List.getElem?_cons_zero]; rfl
      intro K hK
      go_simp
      refine (HFO.out _ SK8.out).mono ?_
      rintro e w9 ⟨rfl, rfl⟩
      refine hK.out _ _ ?_ (fun hHeld => ?_)
      · exact HCV.out _ HB8.out
      clear hK K
      try go_simp
      refine wpAnyH_ready (rs := [28]) (by kernel_rfl) (by simp) ?_
      refine AllReadyH.cons (o := ?_) ?_ ?_ AllReadyH.nil
      rotate_left 1
      · simp only [List.getElem?_toArray, List.getElem?_cons_succ, List.getElem?_cons_zero]; rfl
      intro K hK
      go_simp
      refine (HRW.out w8 _ _ (OwnP.reads HO8.out)).mono ?_
      rintro e w9 ⟨A9, c9, rfl, o9, b9⟩
      have HB9 := Lib.hid (nextB HB8.out b9)
      have hs9 := str_own21 o9 rfl
      clear o9 b9
      refine hK.out _ _ ?_ (fun hHeld => ?_)
      · exact HCV.out _ HB9.out
      clear hK K
      try go_simp
      refine wpAnyH_ready (rs := [29]) (by kernel_rfl) (by simp) ?_
      refine AllReadyH.cons (o := ?_) ?_ ?_ AllReadyH.nil
      rotate_left 1
      · simp only [List.getElem?_toArray, List.getElem?_cons_succ, List.getElem?_cons_zero]; rfl
      intro K hK
      go_simp
      refine hK.out _ _ ?_ (fun hHeld => ?_)
      · exact HCV.out _ HB9.out
      clear hK K
      try go_simp
      refine wpAnyH_take (i := 32) (oi := ?_) (v := ?_) ?_ ?_ ?_ ?_ ?_ ?_ ?_ ?_
      rotate_left 2
      · simp only [List.getElem?_toArray, List.getElem?_cons_succ, List.getElem?_cons_zero]; rfl
      · kernel_rfl
      · kernel_rfl
      · kernel_rfl
      · exact fun _ _ _ h => h
      · exact Or.inl ⟨by kernel_rfl, by intro w hSw; (try dsimp only at hSw); go_simp; try with_reducible rfl⟩
      · assumption
      try go_simp
      refine wpAnyH_take (i := 33) (oi := ?_) (v := ?_) ?_ ?_ ?_ ?_ ?_ ?_ ?_ ?_
      rotate_left 2
      · simp only [List.getElem?_toArray, List.getElem?_cons_succ, List.getElem?_cons_zero]; rfl
      · kernel_rfl
      · kernel_rfl
      · kernel_rfl
      · exact fun _ _ _ h => h
      · exact Or.inl ⟨by kernel_rfl, by intro w hSw; (try dsimp only at hSw); go_simp; try with_reducible rfl⟩
      · assumption
      try go_simp
      refine wpAnyH_take (i := 34) (oi := ?_) (v := ?_) ?_ ?_ ?_ ?_ ?_ ?_ ?_ ?_
      rotate_left 2
      · simp only [List.getElem?_toArray, List.getElem?_cons_succ, List.getElem?_cons_zero]; rfl
      · kernel_rfl
      · kernel_rfl
      · kernel_rfl
      · exact fun _ _ _ h => h
      · exact Or.inl ⟨by kernel_rfl, by intro w hSw; (try dsimp only at hSw); go_simp; try with_reducible rfl⟩
      · assumption
      try go_simp
      refine wpAnyH_done (by kernel_rfl) ?_ _
      refine NoPanic.normal ?_
      go_wp2_with fail
      go_ret
      exact ⟨rfl, HB9.out⟩
end Go.Proofs.Ytbfhiegbgkkgiaa
/- The row of DdwireReads: its arguments opened, its walk met, the arguments shut again. -/

namespace Go.Proofs.Ytbfhiegbgkkgiaa.ddwireReads
open Go.ChangeShapes Go.WideShapes Go.ChangeAt Go.RowKit
open Go.ChangeMaps (open_string shut_string)

theorem own : ownKnob Try.prog.godebug = none := by kernel_rfl
theorem laidOut : laidOutB Try.prog = true := by kernel_rfl

set_option maxRecDepth 100000 in
theorem lifted (os : Os) (started : os.Started) (H : Type) (enc : TypeId × Value → H) :
    ReturnsInHanded {} Try.checked os 3 .any (Rows.ddwireReadsSpec.pre6 enc Try.prog Try.f3 Rows.ddwireReadsRow.domain false) (Rows.ddwireReadsSpec.post enc Try.prog Try.f3 false true false false) := by
  refine returnsInHanded_of_change (C := Try.checked) own started (by kernel_rfl) Try.func3
    (ChangeSpec.witness6 (enc := enc) (C := Try.checked) false ⟨#[], #[.slice none 0 0], []⟩ 8 (by kernel_rfl) (by kernel_rfl) (by kernel_rfl) (by kernel_rfl)) ?_
  intro W base args ds gs before hval0 hW _ _
  have hval : ∀ (j : Nat) t v, Try.f3.params[j]? = some t → args[j]? = some v → Value.okWide Try.prog W .any base t v := hval0
  have hW' := hW
  obtain ⟨p, q, hA0, hV, rfl, _, _⟩ := hW
  have hA : DataW.TrodAll enc Try.prog W 0 (fun _ => true) true Try.f3.params.toList args.toList ds p := hA0
  rw [Try.params3] at hA hval
  obtain ⟨v0, vs0, d0, ds0, p0, q0, hargs, rfl, rfl, h0, r0⟩ := trodAll_cons hA
  obtain ⟨rfl, rfl, rfl⟩ := trodAll_nil r0
  obtain rfl : args = #[v0] := by cases args; simp_all
  obtain ⟨rfl, rfl⟩ := trodVars_none hV
  have k0 := h0
  have lt0 : ∀ x ∈ p0, x.block < W.heap.size := by obtain ⟨m, hm⟩ := k0; exact DataW.trod_lt m _ _ _ hm
  obtain ⟨a0, c0, l0, rfl, m0, e0, s0⟩ := open_bytes Try.underlying22 Try.underlying5 (by kernel_rfl) (hval 0 22 v0 rfl rfl) h0
  clear hA0 hval0
  refine (ddwireReads_walk W a0 c0 l0 m0 e0 s0).mono fun e W' ⟨he, bel⟩ => ?_
  subst he
  exact ⟨_, rfl, _, _, _, [], _, [], hW', trodAll_mk1 (shut_bool Try.underlying4 _), (trodAll_cons_mk (Below.trod laidOut (by kernel_rfl) (of_decide_eq_true (by kernel_rfl)) k0 bel lt0) trodAll_mk0), rfl, bel.frame _, fun h => by cases h⟩

theorem over : Rows.ddwireReadsRow.holds Try.pinned (OpenSpec.ofChange Rows.ddwireReadsSpec) :=
  OpenClaim.holds_of_wide 3 Try.f3 rfl rfl rfl rfl rfl rfl rfl ⟨rfl, rfl, rfl, rfl, rfl⟩ rfl rfl rfl rfl rfl (by kernel_rfl) Try.func3 (by kernel_rfl)
    (of_decide_eq_true (by kernel_rfl)) (by unfold Func.isWrapper; first | (rw [if_pos (by decide +kernel)]; kernel_rfl) | (rw [if_neg (by decide +kernel)]; exact ⟨rfl, rfl⟩))
    (fun os started H enc _ => lifted os started H enc)

/-- The given statement. -/
theorem proved : Rows.DdwireReadsSaid := over
#print axioms proved
end Go.Proofs.Ytbfhiegbgkkgiaa.ddwireReads
