/- DensePlays walked. -/
import Derived.Test.YtknimekfkkihpaaDensePlaysP
import Derived.Test.YtknimekfkkihpaaOpenPairs
import Derived.Deep.DeepCutAuto
import Derived.Deep.CutBlock
namespace Go.Proofs.Ytknimekfkkihpaa
open Go.RowKit
open Ds Pl

theorem open_densePlays_0 {H : Type} {enc : TypeId × Value → H} {w : World} {base : Nat} {spare : Nat → Bool} {held : Bool} {r : Reach} {b0 : Nat} {v : Value} {d : DataW H} {p : List MemPlace}
    (hv : Value.okWide Try.prog w r b0 40 v) (h : DataW.Trod enc Try.prog w base spare held 40 v d p) :
    ∃ (A : Option Addr) (c : Nat) (l : List PlayOp), v = .slice A l.length c ∧ l.length ≤ maxLen ∧ Ops w A l := by
  obtain ⟨A, c, l, h1, h2, _, h3, h4⟩ := open_rows (s := 4) Try.underlying40 (by kernel_rfl) (by decide) hv h opcell (fun _ => rfl) OpOk (fun n cs y hl hy => by
    obtain ⟨xs, m, _, _, _, hlen, hf⟩ := DataW.trod_struct Try.underlying44 hy
    match cs, hl with
    | [c0, c1, c2, c3], _ =>
      match xs, hlen with
      | [y0, y1, y2, y3], _ =>
        have t0 := hf 0 _ rfl
        have t1 := hf 1 _ rfl
        have t2 := hf 2 _ rfl
        have t3 := hf 3 _ rfl
        obtain ⟨z0, e0, _, w0⟩ := DataW.trod_int Try.underlying5 t0
        obtain ⟨z1, e1, _⟩ := DataW.trod_bool Try.underlying4 t1
        obtain ⟨z2, e2, _, w2⟩ := DataW.trod_int Try.underlying3 t2
        obtain ⟨z3, e3, _, w3⟩ := DataW.trod_int Try.underlying26 t3
        have b0 := Go.Proofs.Ytknimekfkkihpaa.WfBounds.u8 w0
        have b2 := Go.Proofs.Ytknimekfkkihpaa.WfBounds.i64 w2
        have b3 := Go.Proofs.Ytknimekfkkihpaa.WfBounds.u64 w3
        have f0 : c0 = .int .u8 z0 := by simpa [show Try.prog.cellsOf 5 = 1 by kernel_rfl] using e0
        have f1 : c1 = .bool z1 := by simpa [show Try.prog.cellsOf 4 = 1 by kernel_rfl] using e1
        have f2 : c2 = .int .i64 z2 := by simpa [show Try.prog.cellsOf 3 = 1 by kernel_rfl] using e2
        have f3 : c3 = .int .u64 z3 := by simpa [show Try.prog.cellsOf 26 = 1 by kernel_rfl] using e3
        refine ⟨(z0.toNat, z1, z2, z3.toNat), ?_, by simp only; omega, b2.1, b2.2, by simp only; omega⟩
        rw [f0, f1, f2, f3, opcell]
        simp only
        rw [show ((z0.toNat : Nat) : Int) = z0 by omega, show ((z3.toNat : Nat) : Int) = z3 by omega])
  exact ⟨A, c, l, h1, h2, h3, h4⟩
theorem take_nil (g : Nat) (w : World) : Calls Try.prog 13 #[.pointer (some ⟨g, 0, none⟩), .pointer none] w fun e w' => e = .returned (.int .i64 1) ∧ w' = w := by
  go_enter Try.func13, Try.ntmps13
  go_wp2_with fail
  go_ret
  exact ⟨rfl, rfl⟩
set_option maxHeartbeats 12800000 in
set_option maxRecDepth 100000 in
theorem densePlays_walk (w : World) (A : Option Addr) (c : Nat) (l : List PlayOp) (_m : l.length ≤ maxLen) (s : Ops w A l) :
    Calls Try.prog 6 #[.slice A l.length c] w fun e w' => e = .returned (.bool true) ∧ Below w.heap.size w w' := by
  obtain ⟨hok, hp⟩ := s
  have HA := alive_t
  have HP := Lib.hid hp
  have HOK := Lib.hid hok
  clear hp hok
  have hmk : ∀ W, (Instr.makeSlice 42 (.int .i64 2) (.int .i64 2)).run Try.prog W = .ok (.slice (some ⟨W.heap.size, 0, none⟩) 2 2) (W.alloc (.cells #[.slice none 0 0, .slice none 0 0] 22)) := fun _ => by kernel_rfl
  go_enter Try.func6, Try.ntmps6
  go_wp2_with fail
  refine (HA _).mono ?_
  rintro e w1 ⟨rfl, hb1⟩
  have HB1 := Lib.hid hb1
  clear hb1
  go_wp2_with fail
  have hpi : PI w w1.heap.size (w1.heap.size + 2) (w1.heap.size + 3) (fun _ => e0) (fun _ => []) (fun _ => none) (fun _ => 0) ((((w1.alloc (.cells #[.int .i64 0, .slice none 0 0, .int .u64 0] 28)).alloc (.cells #[.int .i64 0, .slice none 0 0, .int .u64 0] 28)).alloc (.cells #[.pointer (some ⟨w1.heap.size, 0, none⟩), .pointer (some ⟨w1.heap.size + 1, 0, none⟩)] 24)).alloc (.cells #[.slice none 0 0, .slice none 0 0] 22)) := by
    have h1 := Sts.new (Sts.none w1 w1.heap.size (fun _ => e0)) (Nat.le_refl _)
    have h2 := Sts.new h1 (by simp)
    simp only [World.size_alloc] at h2
    have h3 : Sts _ w1.heap.size [w1.heap.size + 1, w1.heap.size] (fun _ => e0) := h2.congr (fun i hi => by
      simp at hi
      rcases hi with rfl | rfl <;> simp [upd, e0])
    have b1 : Below w1.heap.size w1 ((((w1.alloc (.cells #[.int .i64 0, .slice none 0 0, .int .u64 0] 28)).alloc (.cells #[.int .i64 0, .slice none 0 0, .int .u64 0] 28)).alloc (.cells #[.pointer (some ⟨w1.heap.size, 0, none⟩), .pointer (some ⟨w1.heap.size + 1, 0, none⟩)] 24)).alloc (.cells #[.slice none 0 0, .slice none 0 0] 22)) := ((((Below.refl _ _).alloc (Nat.le_refl _) _).alloc (by simp) _).alloc (by simp; omega) _).alloc (by simp; omega) _
    refine ⟨(h3.below ((Below.refl _ _).alloc (Nat.le_refl _) _)).below ((Below.refl _ _).alloc (Nat.le_refl _) _), fun a _ => fun h => absurd rfl h, ?_, ?_, fun a _ => Own.nil _ _ _ _, nextB HB1.out b1, HB1.out.size, b1.size, by have := HB1.out.size; omega⟩
    · have h := Blk.new ((w1.alloc (.cells #[.int .i64 0, .slice none 0 0, .int .u64 0] 28)).alloc (.cells #[.int .i64 0, .slice none 0 0, .int .u64 0] 28)) 24 #[.pointer (some ⟨w1.heap.size, 0, none⟩), .pointer (some ⟨w1.heap.size + 1, 0, none⟩)]
      simp only [World.size_alloc] at h
      exact h.alloc _
    · have h := Blk.new (((w1.alloc (.cells #[.int .i64 0, .slice none 0 0, .int .u64 0] 28)).alloc (.cells #[.int .i64 0, .slice none 0 0, .int .u64 0] 28)).alloc (.cells #[.pointer (some ⟨w1.heap.size, 0, none⟩), .pointer (some ⟨w1.heap.size + 1, 0, none⟩)] 24)) 22 #[.slice none 0 0, .slice none 0 0]
      simp only [World.size_alloc] at h
      exact h
  generalize ((((w1.alloc (.cells #[.int .i64 0, .slice none 0 0, .int .u64 0] 28)).alloc (.cells #[.int .i64 0, .slice none 0 0, .int .u64 0] 28)).alloc (.cells #[.pointer (some ⟨w1.heap.size, 0, none⟩), .pointer (some ⟨w1.heap.size + 1, 0, none⟩)] 24)).alloc (.cells #[.slice none 0 0, .slice none 0 0] 22)) = w0 at *
  have HPI0 := Lib.hid hpi
  clear hpi HB1
  generalize w1.heap.size = g at *
  go_loopg [5] (l.length) (fun gk i wr => ∃ (k : Nat) (S : Nat → St) (R : Nat → List Pr) (AA : Nat → Option Addr) (CC : Nat → Nat), k + gk = l.length ∧ i = .int .i64 k ∧ PI w g (g + 2) (g + 3) S R AA CC wr ∧ Side S g R)
  case atStart => exact ⟨0, _, _, _, _, Nat.zero_add _, rfl, HPI0.out, fun a _ => rfl⟩
  case round =>
    obtain ⟨k, S, R, AA, CC, hk, rfl, hpi, hside⟩ := hrel
    by_cases hlt : k < l.length ∧ k < 60
    · obtain ⟨hlt, hlt60⟩ := hlt
      obtain ⟨⟨kind, who, key, n⟩, hp⟩ : ∃ x, l[k]? = some x := ⟨l[k], by simp [hlt]⟩
      obtain ⟨b, o, rfl, hbl, c0, c1, c2, c3⟩ := ops_cells HP.out hp
      obtain ⟨o1, o2, o3, o4⟩ := HOK.out _ (List.mem_of_getElem? hp)
      simp only at c0 c1 c2 c3 o1 o2 o3 o4
      have hkk : (k : Int) < (l.length : Int) := by omega
      have hk6 : (k : Int) < 60 := by omega
      have hk0 : (0 : Int) ≤ (k : Int) := by omega
      have hcell : ∀ W, Below w.heap.size w W → W.cell? ⟨b, o + k * 4, none⟩ = some (.int .u8 (kind : Nat)) ∧ W.cell? ⟨b, o + k * 4 + 1, none⟩ = some (.bool who) ∧ W.cell? ⟨b, o + k * 4 + 2, none⟩ = some (.int .i64 key) ∧ W.cell? ⟨b, o + k * 4 + 3, none⟩ = some (.int .u64 (n : Nat)) := fun W hW =>
        ⟨(hW.cell (p := ⟨b, o + k * 4, none⟩) hbl).trans c0, (hW.cell (p := ⟨b, o + k * 4 + 1, none⟩) hbl).trans c1, (hW.cell (p := ⟨b, o + k * 4 + 2, none⟩) hbl).trans c2, (hW.cell (p := ⟨b, o + k * 4 + 3, none⟩) hbl).trans c3⟩
      have HCE := Lib.hid hcell
      obtain ⟨d0, d1, d2, d3⟩ := hcell wr hpi.bel
      have HPI := Lib.hid hpi
      have HSD := Lib.hid hside
      have HK := Lib.hid hk
      have HLT := Lib.hid hlt
      clear hpi hside hk hlt hlt60 hp c0 c1 c2 c3 hcell
      obtain ⟨a, hae⟩ : ∃ a : Nat, a = if who then 1 else 0 := ⟨_, rfl⟩
      have ha2 : a < 2 := by rw [hae]; split <;> omega
      go_upto_if 36 with (fail)
      go_cut [6] (fun s6 wc => wr = wc ∧ s6 = .int .i64 (a : Int))
      case first =>
        cases who
        all_goals
          go_wp2_with fail
          go_meet
          case rel => exact ⟨rfl, by rw [hae]; rfl⟩
      case rest =>
        obtain ⟨rfl, rfl⟩ := hcut
        clear hae
        obtain ⟨r, hr⟩ : ∃ r, r = kind % 7 := ⟨_, rfl⟩
        have hr7 : r < 7 := by omega
        have hrr : (kind : Int) % 7 = (r : Int) := by omega
        clear hr
        obtain ⟨bb, hbb, hbb2⟩ : ∃ bb : Nat, 1 - (a : Int) = (bb : Int) ∧ bb < 2 := ⟨1 - a, by omega, by omega⟩
        go_upto_block 2 with (fail)
        have ha0 : (0 : Int) ≤ (a : Int) := by omega
        have ha1 : (a : Int) < 2 := by omega
        have dp : wr.cell? ⟨g + 1 + 1, a, none⟩ = some (.pointer (some ⟨g + a, 0, none⟩)) := HPI.out.ptr ha2
        go_cut [7, 44] (fun _ _ wc => ∃ (W5 : World) (S : Nat → St) (R : Nat → List Pr) (AA : Nat → Option Addr) (CC : Nat → Nat), W5 = wc ∧ PI w g (g + 2) (g + 3) S R AA CC W5 ∧ Side S g R)
        case first =>
          have hr : r = 0 ∨ r = 1 ∨ r = 2 ∨ r = 3 ∨ r = 4 ∨ r = 5 ∨ r = 6 := by omega
          have hmem := HPI.out.mem ha2
          have hinv := HPI.out.sts.inv hmem
          have hinvR : (R a).length ≤ 8192 ∧ tot (R a) ≤ 4611686018427387904 ∧ KeysIn (R a) := by
            rw [HSD.out a ha2]
            exact ⟨prs_mlen hinv, by rw [prs_tot, hinv.sum]; exact hinv.cap, prs_in hinv⟩
          by_cases hadd : r = 0 ∨ r = 1 ∨ r = 2
          · have HADD := fun W hb h => sadd2_t (base := g) (ids := [g + 1, g]) (S := S) (g + a) key n W hb h hmem o2 o3 o4
            have hra : radd (R a) key n 8192 = (prs (addS (S (g + a)) (key, n)).1 (addS (S (g + a)) (key, n)).2.1, chk (S (g + a)).1 (S (g + a)).2.1 (S (g + a)).2.2 key n) := by rw [HSD.out a ha2]; exact radd_prs hinv (HPI.out.ends a ha2) key n
            have HRA := fun W A' c' hz h => add13_t A' c' g (R a) key n 8192 W h (by decide) o4 (by omega) hinvR.2.1 hinvR.2.2 hz
            have he := ends_addS (p := (key, n)) (HPI.out.ends a ha2)
            simp only [hra] at HRA
            have hside := fun R3 hR => Side.step HSD.out (a := a) (addS (S (g + a)) (key, n)) (R3 := R3) hR
            generalize chk (S (g + a)).1 (S (g + a)).2.1 (S (g + a)).2.2 key n = er at *
            generalize addS (S (g + a)) (key, n) = s' at *
            replace HADD := Lib.hid HADD
            replace HRA := Lib.hid HRA
            have HE := Lib.hid he
            have HSI := Lib.hid hside
            clear he hside hra hinv hinvR hmem hr
            rcases hadd with rfl | rfl | rfl
            all_goals
              as_aux_lemma =>
                go_wp2_with fail
                refine wp_region_noPanic ?_
                refine wp_region_held_drew (S := (fun w' => w'.cell? ⟨g + 1 + 1, a, none⟩ = some (.pointer (some ⟨g + a, 0, none⟩)) ∧ w'.cell? ⟨b, o + k * 4 + 2, none⟩ = some (.int .i64 key) ∧ w'.cell? ⟨b, o + k * 4 + 3, none⟩ = some (.int .u64 (n : Nat)))) (by kernel_rfl) ⟨dp, d2, d3⟩ (fun hHeld => ?_)
                refine wpAnyH_take (i := 0) (oi := ?_) (v := ?_) ?_ ?_ ?_ ?_ ?_ ?_ ?_ ?_
                rotate_left 2
                · simp only [List.getElem?_toArray, List.getElem?_cons_zero]; rfl
                · kernel_rfl
                · kernel_rfl
                · kernel_rfl
                · exact fun _ _ _ h => h
                · exact Or.inl ⟨by kernel_rfl, by intro w hSw; (try dsimp only at hSw); go_simp; try with_reducible rfl⟩
                · assumption
                try go_simp
                refine wpAnyH_take (i := 1) (oi := ?_) (v := ?_) ?_ ?_ ?_ ?_ ?_ ?_ ?_ ?_
                rotate_left 2
                · simp only [List.getElem?_toArray, List.getElem?_cons_succ, List.getElem?_cons_zero]; rfl
                · kernel_rfl
                · kernel_rfl
                · kernel_rfl
                · exact fun _ _ _ h => h
                · exact Or.inl ⟨by kernel_rfl, by intro w hSw; (try dsimp only at hSw); go_simp; try with_reducible rfl⟩
                · assumption
                try go_simp
                refine wpAnyH_take (i := 2) (oi := ?_) (v := ?_) ?_ ?_ ?_ ?_ ?_ ?_ ?_ ?_
                rotate_left 2
                · simp only [List.getElem?_toArray, List.getElem?_cons_succ, List.getElem?_cons_zero]; rfl
                · kernel_rfl
                · kernel_rfl
                · kernel_rfl
                · exact fun _ _ _ h => h
                · exact Or.inl ⟨by kernel_rfl, by intro w hSw; (try dsimp only at hSw); go_simp; try with_reducible rfl⟩
                · assumption
                try go_simp
                refine wpAnyH_take (i := 3) (oi := ?_) (v := ?_) ?_ ?_ ?_ ?_ ?_ ?_ ?_ ?_
                rotate_left 2
                · simp only [List.getElem?_toArray, List.getElem?_cons_succ, List.getElem?_cons_zero]; rfl
                · kernel_rfl
                · kernel_rfl
                · kernel_rfl
                · exact fun _ _ _ h => h
                · exact Or.inl ⟨by kernel_rfl, by intro w hSw; (try dsimp only at hSw); go_simp; try with_reducible rfl⟩
                · assumption
                try go_simp
                refine wpAnyH_take (i := 4) (oi := ?_) (v := ?_) ?_ ?_ ?_ ?_ ?_ ?_ ?_ ?_
                rotate_left 2
                · simp only [List.getElem?_toArray, List.getElem?_cons_succ, List.getElem?_cons_zero]; rfl
                · kernel_rfl
                · kernel_rfl
                · kernel_rfl
                · exact fun _ _ _ h => h
                · exact Or.inl ⟨by kernel_rfl, by intro w hSw; (try dsimp only at hSw); go_simp; try with_reducible rfl⟩
                · assumption
                try go_simp
                refine wpAnyH_take (i := 5) (oi := ?_) (v := ?_) ?_ ?_ ?_ ?_ ?_ ?_ ?_ ?_
                rotate_left 2
                · simp only [List.getElem?_toArray, List.getElem?_cons_succ, List.getElem?_cons_zero]; rfl
                · kernel_rfl
                · kernel_rfl
                · kernel_rfl
                · exact fun _ _ _ h => h
                · exact Or.inl ⟨by kernel_rfl, by intro w hSw; (try dsimp only at hSw); go_simp; try with_reducible rfl⟩
                · assumption
                try go_simp
                refine wpAnyH_take (i := 6) (oi := ?_) (v := ?_) ?_ ?_ ?_ ?_ ?_ ?_ ?_ ?_
                rotate_left 2
                · simp only [List.getElem?_toArray, List.getElem?_cons_succ, List.getElem?_cons_zero]; rfl
                · kernel_rfl
                · kernel_rfl
                · kernel_rfl
                · exact fun _ _ _ h => h
                · exact Or.inl ⟨by kernel_rfl, by intro w hSw; (try dsimp only at hSw); go_simp; try with_reducible rfl⟩
                · assumption
                try go_simp
                refine wpAnyH_take (i := 7) (oi := ?_) (v := ?_) ?_ ?_ ?_ ?_ ?_ ?_ ?_ ?_
                rotate_left 2
                · simp only [List.getElem?_toArray, List.getElem?_cons_succ, List.getElem?_cons_zero]; rfl
                · kernel_rfl
                · kernel_rfl
                · kernel_rfl
                · exact fun _ _ _ h => h
                · exact Or.inl ⟨by kernel_rfl, by intro w hSw; (try dsimp only at hSw); go_simp; try with_reducible rfl⟩
                · assumption
                try go_simp
                refine wpAnyH_take (i := 8) (oi := ?_) (v := ?_) ?_ ?_ ?_ ?_ ?_ ?_ ?_ ?_
                rotate_left 2
                · simp only [List.getElem?_toArray, List.getElem?_cons_succ, List.getElem?_cons_zero]; rfl
                · kernel_rfl
                · kernel_rfl
                · kernel_rfl
                · exact fun _ _ _ h => h
                · exact Or.inl ⟨by kernel_rfl, by intro w hSw; (try dsimp only at hSw); go_simp; try with_reducible rfl⟩
                · assumption
                try go_simp
                refine wpAnyH_take (i := 9) (oi := ?_) (v := ?_) ?_ ?_ ?_ ?_ ?_ ?_ ?_ ?_
                rotate_left 2
                · simp only [List.getElem?_toArray, List.getElem?_cons_succ, List.getElem?_cons_zero]; rfl
                · kernel_rfl
                · kernel_rfl
                · kernel_rfl
                · exact fun _ _ _ h => h
                · exact Or.inl ⟨by kernel_rfl, by intro w hSw; (try dsimp only at hSw); go_simp; try with_reducible rfl⟩
                · assumption
                try go_simp
                refine wpAnyH_take (i := 10) (oi := ?_) (v := ?_) ?_ ?_ ?_ ?_ ?_ ?_ ?_ ?_
                rotate_left 2
                · simp only [List.getElem?_toArray, List.getElem?_cons_succ, List.getElem?_cons_zero]; rfl
                · kernel_rfl
                · kernel_rfl
                · kernel_rfl
                · exact fun _ _ _ h => h
                · exact Or.inl ⟨by kernel_rfl, by intro w hSw; (try dsimp only at hSw); go_simp; try with_reducible rfl⟩
                · assumption
                try go_simp
                refine wpAnyH_take (i := 11) (oi := ?_) (v := ?_) ?_ ?_ ?_ ?_ ?_ ?_ ?_ ?_
                rotate_left 2
                · simp only [List.getElem?_toArray, List.getElem?_cons_succ, List.getElem?_cons_zero]; rfl
                · kernel_rfl
                · kernel_rfl
                · kernel_rfl
                · exact fun _ _ _ h => h
                · exact Or.inl ⟨by kernel_rfl, by intro w hSw; (try dsimp only at hSw); go_simp; try with_reducible rfl⟩
                · assumption
                try go_simp
                refine wpAnyH_take (i := 12) (oi := ?_) (v := ?_) ?_ ?_ ?_ ?_ ?_ ?_ ?_ ?_
                rotate_left 2
                · simp only [List.getElem?_toArray, List.getElem?_cons_succ, List.getElem?_cons_zero]; rfl
                · kernel_rfl
                · kernel_rfl
                · kernel_rfl
                · exact fun _ _ _ h => h
                · exact Or.inl ⟨by kernel_rfl, by intro w hSw; (try dsimp only at hSw); go_simp; try with_reducible rfl⟩
                · assumption
                try go_simp
                refine wpAnyH_take (i := 13) (oi := ?_) (v := ?_) ?_ ?_ ?_ ?_ ?_ ?_ ?_ ?_
                rotate_left 2
                · simp only [List.getElem?_toArray, List.getElem?_cons_succ, List.getElem?_cons_zero]; rfl
                · kernel_rfl
                · kernel_rfl
                · kernel_rfl
                · exact fun _ _ _ h => h
                · exact Or.inl ⟨by kernel_rfl, by intro w hSw; (try dsimp only at hSw); go_simp; try with_reducible rfl⟩
                · assumption
                try go_simp
                refine wpAnyH_ready (rs := [14]) (by kernel_rfl) (by simp) ?_
                refine AllReadyH.cons (o := ?_) ?_ ?_ AllReadyH.nil
                rotate_left 1
                · simp only [List.getElem?_toArray, List.getElem?_cons_succ, List.getElem?_cons_zero]; rfl
                intro K hK
                go_simp
                refine (HADD.out wr.drew HPI.out.high HPI.out.sts).mono ?_
                rintro e w2 ⟨rfl, hs2, hb2, ht2⟩
                have hpi2 : PI w g (g + 2) (g + 3) (upd S (g + a) s') R AA CC w2 := PI.turn (wr := wr.drew) (HPI.out.drewN 1) ha2 hs2 HE.out hb2 ht2
                obtain ⟨_, _, f2, f3⟩ := HCE.out w2 hpi2.bel
                have fp : w2.cell? ⟨g + 1 + 1, a, none⟩ = some (.pointer (some ⟨g + a, 0, none⟩)) := hpi2.ptr ha2
                have fl : w2.cell? ⟨g + 1 + 1 + 1, a, none⟩ = some (.slice (AA a) (R a).length (CC a)) := hpi2.lst ha2
                have HPI2 := Lib.hid hpi2
                clear hs2 hb2 ht2 hpi2
                refine hK.out _ _ ?_ (fun hHeld => ?_)
                · exact ⟨fp, f2, f3⟩
                clear hK K
                try go_simp
                refine wpAnyH_take (i := 15) (oi := ?_) (v := ?_) ?_ ?_ ?_ ?_ ?_ ?_ ?_ ?_
                rotate_left 2
                · simp only [List.getElem?_toArray, List.getElem?_cons_succ, List.getElem?_cons_zero]; rfl
                · kernel_rfl
                · kernel_rfl
                · kernel_rfl
                · exact fun _ _ _ h => h
                · exact Or.inl ⟨by kernel_rfl, by intro w hSw; (try dsimp only at hSw); go_simp; try with_reducible rfl⟩
                · assumption
                try go_simp
                refine wpAnyH_done (by kernel_rfl) ?_ _
                refine NoPanic.normal ?_
                go_wp2_with fail
                refine wp_region_noPanic ?_
                refine wp_region_held_drew (S := (fun w' => w'.cell? ⟨g + 1 + 1 + 1, a, none⟩ = some (.slice (AA a) (R a).length (CC a)) ∧ w'.cell? ⟨b, o + k * 4 + 2, none⟩ = some (.int .i64 key) ∧ w'.cell? ⟨b, o + k * 4 + 3, none⟩ = some (.int .u64 (n : Nat)))) (by kernel_rfl) ⟨fl, f2, f3⟩ (fun hHeld => ?_)
                refine wpAnyH_take (i := 0) (oi := ?_) (v := ?_) ?_ ?_ ?_ ?_ ?_ ?_ ?_ ?_
                rotate_left 2
                · simp only [List.getElem?_toArray, List.getElem?_cons_zero]; rfl
                · kernel_rfl
                · kernel_rfl
                · kernel_rfl
                · exact fun _ _ _ h => h
                · exact Or.inl ⟨by kernel_rfl, by intro w hSw; (try dsimp only at hSw); go_simp; try with_reducible rfl⟩
                · assumption
                try go_simp
                refine wpAnyH_take (i := 1) (oi := ?_) (v := ?_) ?_ ?_ ?_ ?_ ?_ ?_ ?_ ?_
                rotate_left 2
                · simp only [List.getElem?_toArray, List.getElem?_cons_succ, List.getElem?_cons_zero]; rfl
                · kernel_rfl
                · kernel_rfl
                · kernel_rfl
                · exact fun _ _ _ h => h
                · exact Or.inl ⟨by kernel_rfl, by intro w hSw; (try dsimp only at hSw); go_simp; try with_reducible rfl⟩
                · assumption
                try go_simp
                refine wpAnyH_take (i := 2) (oi := ?_) (v := ?_) ?_ ?_ ?_ ?_ ?_ ?_ ?_ ?_
                rotate_left 2
                · simp only [List.getElem?_toArray, List.getElem?_cons_succ, List.getElem?_cons_zero]; rfl
                · kernel_rfl
                · kernel_rfl
                · kernel_rfl
                · exact fun _ _ _ h => h
                · exact Or.inl ⟨by kernel_rfl, by intro w hSw; (try dsimp only at hSw); go_simp; try with_reducible rfl⟩
                · assumption
                try go_simp
                refine wpAnyH_take (i := 3) (oi := ?_) (v := ?_) ?_ ?_ ?_ ?_ ?_ ?_ ?_ ?_
                rotate_left 2
                · simp only [List.getElem?_toArray, List.getElem?_cons_succ, List.getElem?_cons_zero]; rfl
                · kernel_rfl
                · kernel_rfl
                · kernel_rfl
                · exact fun _ _ _ h => h
                · exact Or.inl ⟨by kernel_rfl, by intro w hSw; (try dsimp only at hSw); go_simp; try with_reducible rfl⟩
                · assumption
                try go_simp
                refine wpAnyH_take (i := 4) (oi := ?_) (v := ?_) ?_ ?_ ?_ ?_ ?_ ?_ ?_ ?_
                rotate_left 2
                · simp only [List.getElem?_toArray, List.getElem?_cons_succ, List.getElem?_cons_zero]; rfl
                · kernel_rfl
                · kernel_rfl
                · kernel_rfl
                · exact fun _ _ _ h => h
                · exact Or.inl ⟨by kernel_rfl, by intro w hSw; (try dsimp only at hSw); go_simp; try with_reducible rfl⟩
                · assumption
                try go_simp
                refine wpAnyH_take (i := 5) (oi := ?_) (v := ?_) ?_ ?_ ?_ ?_ ?_ ?_ ?_ ?_
                rotate_left 2
                · simp only [List.getElem?_toArray, List.getElem?_cons_succ, List.getElem?_cons_zero]; rfl
                · kernel_rfl
                · kernel_rfl
                · kernel_rfl
                · exact fun _ _ _ h => h
                · exact Or.inl ⟨by kernel_rfl, by intro w hSw; (try dsimp only at hSw); go_simp; try with_reducible rfl⟩
                · assumption
                try go_simp
                refine wpAnyH_take (i := 6) (oi := ?_) (v := ?_) ?_ ?_ ?_ ?_ ?_ ?_ ?_ ?_
                rotate_left 2
                · simp only [List.getElem?_toArray, List.getElem?_cons_succ, List.getElem?_cons_zero]; rfl
                · kernel_rfl
                · kernel_rfl
                · kernel_rfl
                · exact fun _ _ _ h => h
                · exact Or.inl ⟨by kernel_rfl, by intro w hSw; (try dsimp only at hSw); go_simp; try with_reducible rfl⟩
                · assumption
                try go_simp
                refine wpAnyH_take (i := 7) (oi := ?_) (v := ?_) ?_ ?_ ?_ ?_ ?_ ?_ ?_ ?_
                rotate_left 2
                · simp only [List.getElem?_toArray, List.getElem?_cons_succ, List.getElem?_cons_zero]; rfl
                · kernel_rfl
                · kernel_rfl
                · kernel_rfl
                · exact fun _ _ _ h => h
                · exact Or.inl ⟨by kernel_rfl, by intro w hSw; (try dsimp only at hSw); go_simp; try with_reducible rfl⟩
                · assumption
                try go_simp
                refine wpAnyH_take (i := 8) (oi := ?_) (v := ?_) ?_ ?_ ?_ ?_ ?_ ?_ ?_ ?_
                rotate_left 2
                · simp only [List.getElem?_toArray, List.getElem?_cons_succ, List.getElem?_cons_zero]; rfl
                · kernel_rfl
                · kernel_rfl
                · kernel_rfl
                · exact fun _ _ _ h => h
                · exact Or.inl ⟨by kernel_rfl, by intro w hSw; (try dsimp only at hSw); go_simp; try with_reducible rfl⟩
                · assumption
                try go_simp
                refine wpAnyH_take (i := 9) (oi := ?_) (v := ?_) ?_ ?_ ?_ ?_ ?_ ?_ ?_ ?_
                rotate_left 2
                · simp only [List.getElem?_toArray, List.getElem?_cons_succ, List.getElem?_cons_zero]; rfl
                · kernel_rfl
                · kernel_rfl
                · kernel_rfl
                · exact fun _ _ _ h => h
                · exact Or.inl ⟨by kernel_rfl, by intro w hSw; (try dsimp only at hSw); go_simp; try with_reducible rfl⟩
                · assumption
                try go_simp
                refine wpAnyH_take (i := 10) (oi := ?_) (v := ?_) ?_ ?_ ?_ ?_ ?_ ?_ ?_ ?_
                rotate_left 2
                · simp only [List.getElem?_toArray, List.getElem?_cons_succ, List.getElem?_cons_zero]; rfl
                · kernel_rfl
                · kernel_rfl
                · kernel_rfl
                · exact fun _ _ _ h => h
                · exact Or.inl ⟨by kernel_rfl, by intro w hSw; (try dsimp only at hSw); go_simp; try with_reducible rfl⟩
                · assumption
                try go_simp
                refine wpAnyH_take (i := 11) (oi := ?_) (v := ?_) ?_ ?_ ?_ ?_ ?_ ?_ ?_ ?_
                rotate_left 2
                · simp only [List.getElem?_toArray, List.getElem?_cons_succ, List.getElem?_cons_zero]; rfl
                · kernel_rfl
                · kernel_rfl
                · kernel_rfl
                · exact fun _ _ _ h => h
                · exact Or.inl ⟨by kernel_rfl, by intro w hSw; (try dsimp only at hSw); go_simp; try with_reducible rfl⟩
                · assumption
                try go_simp
                refine wpAnyH_take (i := 12) (oi := ?_) (v := ?_) ?_ ?_ ?_ ?_ ?_ ?_ ?_ ?_
                rotate_left 2
                · simp only [List.getElem?_toArray, List.getElem?_cons_succ, List.getElem?_cons_zero]; rfl
                · kernel_rfl
                · kernel_rfl
                · kernel_rfl
                · exact fun _ _ _ h => h
                · exact Or.inl ⟨by kernel_rfl, by intro w hSw; (try dsimp only at hSw); go_simp; try with_reducible rfl⟩
                · assumption
                try go_simp
                refine wpAnyH_take (i := 13) (oi := ?_) (v := ?_) ?_ ?_ ?_ ?_ ?_ ?_ ?_ ?_
                rotate_left 2
                · simp only [List.getElem?_toArray, List.getElem?_cons_succ, List.getElem?_cons_zero]; rfl
                · kernel_rfl
                · kernel_rfl
                · kernel_rfl
                · exact fun _ _ _ h => h
                · exact Or.inl ⟨by kernel_rfl, by intro w hSw; (try dsimp only at hSw); go_simp; try with_reducible rfl⟩
                · assumption
                try go_simp
                refine wpAnyH_ready (rs := [14]) (by kernel_rfl) (by simp) ?_
                refine AllReadyH.cons (o := ?_) ?_ ?_ AllReadyH.nil
                rotate_left 1
                · simp only [List.getElem?_toArray, List.getElem?_cons_succ, List.getElem?_cons_zero]; rfl
                intro K hK
                go_simp
                refine (HRA.out w2.drew (AA a) (CC a) HPI2.out.high (HPI2.out.own a ha2)).mono ?_
                rintro e w3 ⟨A3, c3, rfl, ho3, hb3⟩
                have hpi3 : PI w g (g + 2) (g + 3) (upd S (g + a) s') R AA CC w3 := PI.below (wr := w2.drew) (HPI2.out.drewN 1) hb3
                obtain ⟨_, _, g2, g3⟩ := HCE.out w3 hpi3.bel
                have gl : w3.cell? ⟨g + 1 + 1 + 1, a, none⟩ = some (.slice (AA a) (R a).length (CC a)) := hpi3.lst ha2
                have gf : w3.frozen? ⟨g + 1 + 1 + 1, a, none⟩ = false := hpi3.bwl.free a
                have HPI3 := Lib.hid hpi3
                have HO3 := Lib.hid ho3
                clear ho3 hb3 hpi3
                refine hK.out _ _ ?_ (fun hHeld => ?_)
                · exact ⟨gl, g2, g3⟩
                clear hK K
                try go_simp
                refine wpAnyH_take (i := 15) (oi := ?_) (v := ?_) ?_ ?_ ?_ ?_ ?_ ?_ ?_ ?_
                rotate_left 2
                · simp only [List.getElem?_toArray, List.getElem?_cons_succ, List.getElem?_cons_zero]; rfl
                · kernel_rfl
                · kernel_rfl
                · kernel_rfl
                · exact fun _ _ _ h => h
                · exact Or.inl ⟨by kernel_rfl, by intro w hSw; (try dsimp only at hSw); go_simp; try with_reducible rfl⟩
                · assumption
                try go_simp
                refine wpAnyH_take (i := 16) (oi := ?_) (v := ?_) ?_ ?_ ?_ ?_ ?_ ?_ ?_ ?_
                rotate_left 2
                · simp only [List.getElem?_toArray, List.getElem?_cons_succ, List.getElem?_cons_zero]; rfl
                · kernel_rfl
                · kernel_rfl
                · kernel_rfl
                · exact fun _ _ _ h => h
                · exact Or.inl ⟨by kernel_rfl, by intro w hSw; (try dsimp only at hSw); go_simp; try with_reducible rfl⟩
                · assumption
                try go_simp
                refine wpAnyH_take (i := 17) (oi := ?_) (v := ?_) ?_ ?_ ?_ ?_ ?_ ?_ ?_ ?_
                rotate_left 2
                · simp only [List.getElem?_toArray, List.getElem?_cons_succ, List.getElem?_cons_zero]; rfl
                · kernel_rfl
                · kernel_rfl
                · kernel_rfl
                · exact fun _ _ _ h => h
                · exact Or.inl ⟨by kernel_rfl, by intro w hSw; (try dsimp only at hSw); go_simp; try with_reducible rfl⟩
                · assumption
                try go_simp
                refine wpAnyH_take (i := 18) (oi := ?_) (v := ?_) ?_ ?_ ?_ ?_ ?_ ?_ ?_ ?_
                rotate_left 2
                · simp only [List.getElem?_toArray, List.getElem?_cons_succ, List.getElem?_cons_zero]; rfl
                · kernel_rfl
                · kernel_rfl
                · kernel_rfl
                · exact fun _ _ _ h => h
                · exact Or.inl ⟨by kernel_rfl, by intro w hSw; (try dsimp only at hSw); go_simp; try with_reducible rfl⟩
                · assumption
                try go_simp
                refine wpAnyH_take (i := 19) (oi := ?_) (v := ?_) ?_ ?_ ?_ ?_ ?_ ?_ ?_ ?_
                rotate_left 2
                · simp only [List.getElem?_toArray, List.getElem?_cons_succ, List.getElem?_cons_zero]; rfl
                · kernel_rfl
                · kernel_rfl
                · kernel_rfl
                · exact fun _ _ _ h => h
                · exact Or.inl ⟨by kernel_rfl, by intro w hSw; (try dsimp only at hSw); go_simp; try with_reducible rfl⟩
                · assumption
                try go_simp
                refine wpAnyH_done (by kernel_rfl) ?_ _
                refine NoPanic.normal ?_
                go_wp2_with fail
                go_meet
                case rel => exact ⟨_, _, _, _, _, rfl, PI.put HPI3.out ha2 HO3.out, HSI.out _ rfl⟩
          · by_cases htk : r = 3 ∨ r = 4
            · rcases htk with rfl | rfl
              · as_aux_lemma =>
                  have hmb := HPI.out.mem hbb2
                  have hinvB := HPI.out.sts.inv hmb
                  have hinvRB : (R bb).length ≤ 8192 ∧ tot (R bb) ≤ 4611686018427387904 ∧ KeysIn (R bb) := by
                    rw [HSD.out bb hbb2]
                    exact ⟨prs_mlen hinvB, by rw [prs_tot, hinvB.sum]; exact hinvB.cap, prs_in hinvB⟩
                  have hb0 : (0 : Int) ≤ (bb : Int) := by omega
                  have hb1 : (bb : Int) < 2 := by omega
                  have dpb : wr.cell? ⟨g + 1 + 1, bb, none⟩ = some (.pointer (some ⟨g + bb, 0, none⟩)) := HPI.out.ptr hbb2
                  have HTK := fun W hb h => stake2_t (base := g) (ids := [g + 1, g]) (S := S) (g + a) (g + bb) W hb h hmem hmb
                  have hra : rtake (R a) (R bb) 8192 = (prs (takeS (S (g + a)) (S (g + bb))).1 (takeS (S (g + a)) (S (g + bb))).2.1, tkc (S (g + a)).1 (S (g + a)).2.1 (S (g + a)).2.2 (S (g + bb)).1 (S (g + bb)).2.1 (S (g + bb)).2.2) := by rw [HSD.out a ha2]; first | (rw [HSD.out bb hbb2]; exact rtake_prs hinv hinvB (HPI.out.ends a ha2) (HPI.out.ends bb hbb2)) | exact rtake_prs hinv hinvB (HPI.out.ends a ha2) (HPI.out.ends bb hbb2)
                  have HRT := fun W A1 c1 A2 c2 hz h h2 => take13_t A1 A2 c1 c2 g (R a) (R bb) 8192 W h h2 (by omega) (by omega) hinvR.2.2 hinvRB.2.2 (by decide) hinvR.2.1 hinvRB.2.1 hz
                  have he := ends_take (s2 := S (g + bb)) (HPI.out.ends a ha2)
                  simp only [hra] at HRT
                  have hside := fun R3 hR => Side.step HSD.out (a := a) (takeS (S (g + a)) (S (g + bb))) (R3 := R3) hR
                  generalize tkc (S (g + a)).1 (S (g + a)).2.1 (S (g + a)).2.2 (S (g + bb)).1 (S (g + bb)).2.1 (S (g + bb)).2.2 = er at *
                  generalize takeS (S (g + a)) (S (g + bb)) = s' at *
                  replace HTK := Lib.hid HTK
                  replace HRT := Lib.hid HRT
                  have HE := Lib.hid he
                  have HSI := Lib.hid hside
                  clear he hside hra hinv hinvR hinvB hinvRB hmem hmb hr
                  go_wp2_with fail
                  refine wp_region_noPanic ?_
                  refine wp_region_held_drew (S := (fun w' => w'.cell? ⟨g + 1 + 1, a, none⟩ = some (.pointer (some ⟨g + a, 0, none⟩)) ∧ w'.cell? ⟨g + 1 + 1, bb, none⟩ = some (.pointer (some ⟨g + bb, 0, none⟩)))) (by kernel_rfl) ⟨dp, dpb⟩ (fun hHeld => ?_)
                  refine wpAnyH_take (i := 0) (oi := ?_) (v := ?_) ?_ ?_ ?_ ?_ ?_ ?_ ?_ ?_
                  rotate_left 2
                  · simp only [List.getElem?_toArray, List.getElem?_cons_zero]; rfl
                  · kernel_rfl
                  · kernel_rfl
                  · kernel_rfl
                  · exact fun _ _ _ h => h
                  · exact Or.inl ⟨by kernel_rfl, by intro w hSw; (try dsimp only at hSw); go_simp; try with_reducible rfl⟩
                  · assumption
                  try go_simp
                  refine wpAnyH_take (i := 1) (oi := ?_) (v := ?_) ?_ ?_ ?_ ?_ ?_ ?_ ?_ ?_
                  rotate_left 2
                  · simp only [List.getElem?_toArray, List.getElem?_cons_succ, List.getElem?_cons_zero]; rfl
                  · kernel_rfl
                  · kernel_rfl
                  · kernel_rfl
                  · exact fun _ _ _ h => h
                  · exact Or.inl ⟨by kernel_rfl, by intro w hSw; (try dsimp only at hSw); go_simp; try with_reducible rfl⟩
                  · assumption
                  try go_simp
                  refine wpAnyH_take (i := 2) (oi := ?_) (v := ?_) ?_ ?_ ?_ ?_ ?_ ?_ ?_ ?_
                  rotate_left 2
                  · simp only [List.getElem?_toArray, List.getElem?_cons_succ, List.getElem?_cons_zero]; rfl
                  · kernel_rfl
                  · kernel_rfl
                  · kernel_rfl
                  · exact fun _ _ _ h => h
                  · exact Or.inl ⟨by kernel_rfl, by intro w hSw; (try dsimp only at hSw); go_simp; try with_reducible rfl⟩
                  · assumption
                  try go_simp
                  refine wpAnyH_take (i := 3) (oi := ?_) (v := ?_) ?_ ?_ ?_ ?_ ?_ ?_ ?_ ?_
                  rotate_left 2
                  · simp only [List.getElem?_toArray, List.getElem?_cons_succ, List.getElem?_cons_zero]; rfl
                  · kernel_rfl
                  · kernel_rfl
                  · kernel_rfl
                  · exact fun _ _ _ h => h
                  · exact Or.inl ⟨by kernel_rfl, by intro w hSw; (try dsimp only at hSw); go_simp; try with_reducible rfl⟩
                  · assumption
                  try go_simp
                  refine wpAnyH_take (i := 4) (oi := ?_) (v := ?_) ?_ ?_ ?_ ?_ ?_ ?_ ?_ ?_
                  rotate_left 2
                  · simp only [List.getElem?_toArray, List.getElem?_cons_succ, List.getElem?_cons_zero]; rfl
                  · kernel_rfl
                  · kernel_rfl
                  · kernel_rfl
                  · exact fun _ _ _ h => h
                  · exact Or.inl ⟨by kernel_rfl, by intro w hSw; (try dsimp only at hSw); go_simp; try with_reducible rfl⟩
                  · assumption
                  try go_simp
                  refine wpAnyH_take (i := 5) (oi := ?_) (v := ?_) ?_ ?_ ?_ ?_ ?_ ?_ ?_ ?_
                  rotate_left 2
                  · simp only [List.getElem?_toArray, List.getElem?_cons_succ, List.getElem?_cons_zero]; rfl
                  · kernel_rfl
                  · kernel_rfl
                  · kernel_rfl
                  · exact fun _ _ _ h => h
                  · exact Or.inl ⟨by kernel_rfl, by intro w hSw; (try dsimp only at hSw); go_simp; try with_reducible rfl⟩
                  · assumption
                  try go_simp
                  refine wpAnyH_take (i := 6) (oi := ?_) (v := ?_) ?_ ?_ ?_ ?_ ?_ ?_ ?_ ?_
                  rotate_left 2
                  · simp only [List.getElem?_toArray, List.getElem?_cons_succ, List.getElem?_cons_zero]; rfl
                  · kernel_rfl
                  · kernel_rfl
                  · kernel_rfl
                  · exact fun _ _ _ h => h
                  · exact Or.inl ⟨by kernel_rfl, by intro w hSw; (try dsimp only at hSw); go_simp; try with_reducible rfl⟩
                  · assumption
                  try go_simp
                  refine wpAnyH_take (i := 7) (oi := ?_) (v := ?_) ?_ ?_ ?_ ?_ ?_ ?_ ?_ ?_
                  rotate_left 2
                  · simp only [List.getElem?_toArray, List.getElem?_cons_succ, List.getElem?_cons_zero]; rfl
                  · kernel_rfl
                  · kernel_rfl
                  · kernel_rfl
                  · exact fun _ _ _ h => h
                  · exact Or.inl ⟨by kernel_rfl, by intro w hSw; (try dsimp only at hSw); go_simp; try with_reducible rfl⟩
                  · assumption
                  try go_simp
                  refine wpAnyH_ready (rs := [8]) (by kernel_rfl) (by simp) ?_
                  refine AllReadyH.cons (o := ?_) ?_ ?_ AllReadyH.nil
                  rotate_left 1
                  · simp only [List.getElem?_toArray, List.getElem?_cons_succ, List.getElem?_cons_zero]; rfl
                  intro K hK
                  go_simp
                  refine (HTK.out wr.drew HPI.out.high HPI.out.sts).mono ?_
                  rintro e w2 ⟨rfl, hs2, hb2, ht2⟩
                  have hpi2 : PI w g (g + 2) (g + 3) (upd S (g + a) s') R AA CC w2 := PI.turn (wr := wr.drew) (HPI.out.drewN 1) ha2 hs2 HE.out hb2 ht2
                  have fp : w2.cell? ⟨g + 1 + 1, a, none⟩ = some (.pointer (some ⟨g + a, 0, none⟩)) := hpi2.ptr ha2
                  have fpb : w2.cell? ⟨g + 1 + 1, bb, none⟩ = some (.pointer (some ⟨g + bb, 0, none⟩)) := hpi2.ptr hbb2
                  have fl : w2.cell? ⟨g + 1 + 1 + 1, a, none⟩ = some (.slice (AA a) (R a).length (CC a)) := hpi2.lst ha2
                  have flb : w2.cell? ⟨g + 1 + 1 + 1, bb, none⟩ = some (.slice (AA bb) (R bb).length (CC bb)) := hpi2.lst hbb2
                  have HPI2 := Lib.hid hpi2
                  clear hs2 hb2 ht2 hpi2
                  refine hK.out _ _ ?_ (fun hHeld => ?_)
                  · first | exact ⟨fp, fpb⟩ | exact fp
                  clear hK K
                  try go_simp
                  refine wpAnyH_take (i := 9) (oi := ?_) (v := ?_) ?_ ?_ ?_ ?_ ?_ ?_ ?_ ?_
                  rotate_left 2
                  · simp only [List.getElem?_toArray, List.getElem?_cons_succ, List.getElem?_cons_zero]; rfl
                  · kernel_rfl
                  · kernel_rfl
                  · kernel_rfl
                  · exact fun _ _ _ h => h
                  · exact Or.inl ⟨by kernel_rfl, by intro w hSw; (try dsimp only at hSw); go_simp; try with_reducible rfl⟩
                  · assumption
                  try go_simp
                  refine wpAnyH_done (by kernel_rfl) ?_ _
                  refine NoPanic.normal ?_
                  go_wp2_with fail
                  refine wp_region_noPanic ?_
                  refine wp_region_held_drew (S := (fun w' => w'.cell? ⟨g + 1 + 1 + 1, a, none⟩ = some (.slice (AA a) (R a).length (CC a)) ∧ w'.cell? ⟨g + 1 + 1 + 1, bb, none⟩ = some (.slice (AA bb) (R bb).length (CC bb)))) (by kernel_rfl) ⟨fl, flb⟩ (fun hHeld => ?_)
                  refine wpAnyH_take (i := 0) (oi := ?_) (v := ?_) ?_ ?_ ?_ ?_ ?_ ?_ ?_ ?_
                  rotate_left 2
                  · simp only [List.getElem?_toArray, List.getElem?_cons_zero]; rfl
                  · kernel_rfl
                  · kernel_rfl
                  · kernel_rfl
                  · exact fun _ _ _ h => h
                  · exact Or.inl ⟨by kernel_rfl, by intro w hSw; (try dsimp only at hSw); go_simp; try with_reducible rfl⟩
                  · assumption
                  try go_simp
                  refine wpAnyH_take (i := 1) (oi := ?_) (v := ?_) ?_ ?_ ?_ ?_ ?_ ?_ ?_ ?_
                  rotate_left 2
                  · simp only [List.getElem?_toArray, List.getElem?_cons_succ, List.getElem?_cons_zero]; rfl
                  · kernel_rfl
                  · kernel_rfl
                  · kernel_rfl
                  · exact fun _ _ _ h => h
                  · exact Or.inl ⟨by kernel_rfl, by intro w hSw; (try dsimp only at hSw); go_simp; try with_reducible rfl⟩
                  · assumption
                  try go_simp
                  refine wpAnyH_take (i := 2) (oi := ?_) (v := ?_) ?_ ?_ ?_ ?_ ?_ ?_ ?_ ?_
                  rotate_left 2
                  · simp only [List.getElem?_toArray, List.getElem?_cons_succ, List.getElem?_cons_zero]; rfl
                  · kernel_rfl
                  · kernel_rfl
                  · kernel_rfl
                  · exact fun _ _ _ h => h
                  · exact Or.inl ⟨by kernel_rfl, by intro w hSw; (try dsimp only at hSw); go_simp; try with_reducible rfl⟩
                  · assumption
                  try go_simp
                  refine wpAnyH_take (i := 3) (oi := ?_) (v := ?_) ?_ ?_ ?_ ?_ ?_ ?_ ?_ ?_
                  rotate_left 2
                  · simp only [List.getElem?_toArray, List.getElem?_cons_succ, List.getElem?_cons_zero]; rfl
                  · kernel_rfl
                  · kernel_rfl
                  · kernel_rfl
                  · exact fun _ _ _ h => h
                  · exact Or.inl ⟨by kernel_rfl, by intro w hSw; (try dsimp only at hSw); go_simp; try with_reducible rfl⟩
                  · assumption
                  try go_simp
                  refine wpAnyH_take (i := 4) (oi := ?_) (v := ?_) ?_ ?_ ?_ ?_ ?_ ?_ ?_ ?_
                  rotate_left 2
                  · simp only [List.getElem?_toArray, List.getElem?_cons_succ, List.getElem?_cons_zero]; rfl
                  · kernel_rfl
                  · kernel_rfl
                  · kernel_rfl
                  · exact fun _ _ _ h => h
                  · exact Or.inl ⟨by kernel_rfl, by intro w hSw; (try dsimp only at hSw); go_simp; try with_reducible rfl⟩
                  · assumption
                  try go_simp
                  refine wpAnyH_take (i := 5) (oi := ?_) (v := ?_) ?_ ?_ ?_ ?_ ?_ ?_ ?_ ?_
                  rotate_left 2
                  · simp only [List.getElem?_toArray, List.getElem?_cons_succ, List.getElem?_cons_zero]; rfl
                  · kernel_rfl
                  · kernel_rfl
                  · kernel_rfl
                  · exact fun _ _ _ h => h
                  · exact Or.inl ⟨by kernel_rfl, by intro w hSw; (try dsimp only at hSw); go_simp; try with_reducible rfl⟩
                  · assumption
                  try go_simp
                  refine wpAnyH_take (i := 6) (oi := ?_) (v := ?_) ?_ ?_ ?_ ?_ ?_ ?_ ?_ ?_
                  rotate_left 2
                  · simp only [List.getElem?_toArray, List.getElem?_cons_succ, List.getElem?_cons_zero]; rfl
                  · kernel_rfl
                  · kernel_rfl
                  · kernel_rfl
                  · exact fun _ _ _ h => h
                  · exact Or.inl ⟨by kernel_rfl, by intro w hSw; (try dsimp only at hSw); go_simp; try with_reducible rfl⟩
                  · assumption
                  try go_simp
                  refine wpAnyH_take (i := 7) (oi := ?_) (v := ?_) ?_ ?_ ?_ ?_ ?_ ?_ ?_ ?_
                  rotate_left 2
                  · simp only [List.getElem?_toArray, List.getElem?_cons_succ, List.getElem?_cons_zero]; rfl
                  · kernel_rfl
                  · kernel_rfl
                  · kernel_rfl
                  · exact fun _ _ _ h => h
                  · exact Or.inl ⟨by kernel_rfl, by intro w hSw; (try dsimp only at hSw); go_simp; try with_reducible rfl⟩
                  · assumption
                  try go_simp
                  refine wpAnyH_ready (rs := [8]) (by kernel_rfl) (by simp) ?_
                  refine AllReadyH.cons (o := ?_) ?_ ?_ AllReadyH.nil
                  rotate_left 1
                  · simp only [List.getElem?_toArray, List.getElem?_cons_succ, List.getElem?_cons_zero]; rfl
                  intro K hK
                  go_simp
                  refine (HRT.out w2.drew (AA a) (CC a) (AA bb) (CC bb) HPI2.out.high (HPI2.out.own a ha2) (HPI2.out.own bb hbb2).reads).mono ?_
                  rintro e w3 ⟨A3, c3, rfl, ho3, hb3⟩
                  have hpi3 : PI w g (g + 2) (g + 3) (upd S (g + a) s') R AA CC w3 := PI.below (wr := w2.drew) (HPI2.out.drewN 1) hb3
                  have gl : w3.cell? ⟨g + 1 + 1 + 1, a, none⟩ = some (.slice (AA a) (R a).length (CC a)) := hpi3.lst ha2
                  have glb : w3.cell? ⟨g + 1 + 1 + 1, bb, none⟩ = some (.slice (AA bb) (R bb).length (CC bb)) := hpi3.lst hbb2
                  have gf : w3.frozen? ⟨g + 1 + 1 + 1, a, none⟩ = false := hpi3.bwl.free a
                  have HPI3 := Lib.hid hpi3
                  have HO3 := Lib.hid ho3
                  clear ho3 hb3 hpi3
                  refine hK.out _ _ ?_ (fun hHeld => ?_)
                  · first | exact ⟨gl, glb⟩ | exact gl
                  clear hK K
                  try go_simp
                  refine wpAnyH_take (i := 9) (oi := ?_) (v := ?_) ?_ ?_ ?_ ?_ ?_ ?_ ?_ ?_
                  rotate_left 2
                  · simp only [List.getElem?_toArray, List.getElem?_cons_succ, List.getElem?_cons_zero]; rfl
                  · kernel_rfl
                  · kernel_rfl
                  · kernel_rfl
                  · exact fun _ _ _ h => h
                  · exact Or.inl ⟨by kernel_rfl, by intro w hSw; (try dsimp only at hSw); go_simp; try with_reducible rfl⟩
                  · assumption
                  try go_simp
                  refine wpAnyH_take (i := 10) (oi := ?_) (v := ?_) ?_ ?_ ?_ ?_ ?_ ?_ ?_ ?_
                  rotate_left 2
                  · simp only [List.getElem?_toArray, List.getElem?_cons_succ, List.getElem?_cons_zero]; rfl
                  · kernel_rfl
                  · kernel_rfl
                  · kernel_rfl
                  · exact fun _ _ _ h => h
                  · exact Or.inl ⟨by kernel_rfl, by intro w hSw; (try dsimp only at hSw); go_simp; try with_reducible rfl⟩
                  · assumption
                  try go_simp
                  refine wpAnyH_take (i := 11) (oi := ?_) (v := ?_) ?_ ?_ ?_ ?_ ?_ ?_ ?_ ?_
                  rotate_left 2
                  · simp only [List.getElem?_toArray, List.getElem?_cons_succ, List.getElem?_cons_zero]; rfl
                  · kernel_rfl
                  · kernel_rfl
                  · kernel_rfl
                  · exact fun _ _ _ h => h
                  · exact Or.inl ⟨by kernel_rfl, by intro w hSw; (try dsimp only at hSw); go_simp; try with_reducible rfl⟩
                  · assumption
                  try go_simp
                  refine wpAnyH_take (i := 12) (oi := ?_) (v := ?_) ?_ ?_ ?_ ?_ ?_ ?_ ?_ ?_
                  rotate_left 2
                  · simp only [List.getElem?_toArray, List.getElem?_cons_succ, List.getElem?_cons_zero]; rfl
                  · kernel_rfl
                  · kernel_rfl
                  · kernel_rfl
                  · exact fun _ _ _ h => h
                  · exact Or.inl ⟨by kernel_rfl, by intro w hSw; (try dsimp only at hSw); go_simp; try with_reducible rfl⟩
                  · assumption
                  try go_simp
                  refine wpAnyH_take (i := 13) (oi := ?_) (v := ?_) ?_ ?_ ?_ ?_ ?_ ?_ ?_ ?_
                  rotate_left 2
                  · simp only [List.getElem?_toArray, List.getElem?_cons_succ, List.getElem?_cons_zero]; rfl
                  · kernel_rfl
                  · kernel_rfl
                  · kernel_rfl
                  · exact fun _ _ _ h => h
                  · exact Or.inl ⟨by kernel_rfl, by intro w hSw; (try dsimp only at hSw); go_simp; try with_reducible rfl⟩
                  · assumption
                  try go_simp
                  refine wpAnyH_done (by kernel_rfl) ?_ _
                  refine NoPanic.normal ?_
                  go_wp2_with fail
                  go_meet
                  case rel => exact ⟨_, _, _, _, _, rfl, PI.put HPI3.out ha2 HO3.out, HSI.out _ rfl⟩
              · as_aux_lemma =>
                  have hmb := HPI.out.mem ha2
                  have hinvB := HPI.out.sts.inv hmb
                  have hinvRB : (R a).length ≤ 8192 ∧ tot (R a) ≤ 4611686018427387904 ∧ KeysIn (R a) := by
                    rw [HSD.out a ha2]
                    exact ⟨prs_mlen hinvB, by rw [prs_tot, hinvB.sum]; exact hinvB.cap, prs_in hinvB⟩
                  have hb0 : (0 : Int) ≤ (a : Int) := by omega
                  have hb1 : (a : Int) < 2 := by omega
                  have dpb : wr.cell? ⟨g + 1 + 1, a, none⟩ = some (.pointer (some ⟨g + a, 0, none⟩)) := HPI.out.ptr ha2
                  have HTK := fun W hb h => stake2_t (base := g) (ids := [g + 1, g]) (S := S) (g + a) (g + a) W hb h hmem hmb
                  have hra : rtake (R a) (R a) 8192 = (prs (takeS (S (g + a)) (S (g + a))).1 (takeS (S (g + a)) (S (g + a))).2.1, tkc (S (g + a)).1 (S (g + a)).2.1 (S (g + a)).2.2 (S (g + a)).1 (S (g + a)).2.1 (S (g + a)).2.2) := by rw [HSD.out a ha2]; first | (rw [HSD.out a ha2]; exact rtake_prs hinv hinvB (HPI.out.ends a ha2) (HPI.out.ends a ha2)) | exact rtake_prs hinv hinvB (HPI.out.ends a ha2) (HPI.out.ends a ha2)
                  have HRT := fun W A1 c1 A2 c2 hz h h2 => take13_t A1 A2 c1 c2 g (R a) (R a) 8192 W h h2 (by omega) (by omega) hinvR.2.2 hinvRB.2.2 (by decide) hinvR.2.1 hinvRB.2.1 hz
                  have he := ends_take (s2 := S (g + a)) (HPI.out.ends a ha2)
                  simp only [hra] at HRT
                  have hside := fun R3 hR => Side.step HSD.out (a := a) (takeS (S (g + a)) (S (g + a))) (R3 := R3) hR
                  generalize tkc (S (g + a)).1 (S (g + a)).2.1 (S (g + a)).2.2 (S (g + a)).1 (S (g + a)).2.1 (S (g + a)).2.2 = er at *
                  generalize takeS (S (g + a)) (S (g + a)) = s' at *
                  replace HTK := Lib.hid HTK
                  replace HRT := Lib.hid HRT
                  have HE := Lib.hid he
                  have HSI := Lib.hid hside
                  clear he hside hra hinv hinvR hinvB hinvRB hmem hmb hr
                  go_wp2_with fail
                  refine wp_region_noPanic ?_
                  refine wp_region_held_drew (S := (fun w' => w'.cell? ⟨g + 1 + 1, a, none⟩ = some (.pointer (some ⟨g + a, 0, none⟩)) ∧ w'.cell? ⟨g + 1 + 1, a, none⟩ = some (.pointer (some ⟨g + a, 0, none⟩)))) (by kernel_rfl) ⟨dp, dpb⟩ (fun hHeld => ?_)
                  refine wpAnyH_take (i := 0) (oi := ?_) (v := ?_) ?_ ?_ ?_ ?_ ?_ ?_ ?_ ?_
                  rotate_left 2
                  · simp only [List.getElem?_toArray, List.getElem?_cons_zero]; rfl
                  · kernel_rfl
                  · kernel_rfl
                  · kernel_rfl
                  · exact fun _ _ _ h => h
                  · exact Or.inl ⟨by kernel_rfl, by intro w hSw; (try dsimp only at hSw); go_simp; try with_reducible rfl⟩
                  · assumption
                  try go_simp
                  refine wpAnyH_take (i := 1) (oi := ?_) (v := ?_) ?_ ?_ ?_ ?_ ?_ ?_ ?_ ?_
                  rotate_left 2
                  · simp only [List.getElem?_toArray, List.getElem?_cons_succ, List.getElem?_cons_zero]; rfl
                  · kernel_rfl
                  · kernel_rfl
                  · kernel_rfl
                  · exact fun _ _ _ h => h
                  · exact Or.inl ⟨by kernel_rfl, by intro w hSw; (try dsimp only at hSw); go_simp; try with_reducible rfl⟩
                  · assumption
                  try go_simp
                  refine wpAnyH_take (i := 2) (oi := ?_) (v := ?_) ?_ ?_ ?_ ?_ ?_ ?_ ?_ ?_
                  rotate_left 2
                  · simp only [List.getElem?_toArray, List.getElem?_cons_succ, List.getElem?_cons_zero]; rfl
                  · kernel_rfl
                  · kernel_rfl
                  · kernel_rfl
                  · exact fun _ _ _ h => h
                  · exact Or.inl ⟨by kernel_rfl, by intro w hSw; (try dsimp only at hSw); go_simp; try with_reducible rfl⟩
                  · assumption
                  try go_simp
                  refine wpAnyH_take (i := 3) (oi := ?_) (v := ?_) ?_ ?_ ?_ ?_ ?_ ?_ ?_ ?_
                  rotate_left 2
                  · simp only [List.getElem?_toArray, List.getElem?_cons_succ, List.getElem?_cons_zero]; rfl
                  · kernel_rfl
                  · kernel_rfl
                  · kernel_rfl
                  · exact fun _ _ _ h => h
                  · exact Or.inl ⟨by kernel_rfl, by intro w hSw; (try dsimp only at hSw); go_simp; try with_reducible rfl⟩
                  · assumption
                  try go_simp
                  refine wpAnyH_take (i := 4) (oi := ?_) (v := ?_) ?_ ?_ ?_ ?_ ?_ ?_ ?_ ?_
                  rotate_left 2
                  · simp only [List.getElem?_toArray, List.getElem?_cons_succ, List.getElem?_cons_zero]; rfl
                  · kernel_rfl
                  · kernel_rfl
                  · kernel_rfl
                  · exact fun _ _ _ h => h
                  · exact Or.inl ⟨by kernel_rfl, by intro w hSw; (try dsimp only at hSw); go_simp; try with_reducible rfl⟩
                  · assumption
                  try go_simp
                  refine wpAnyH_take (i := 5) (oi := ?_) (v := ?_) ?_ ?_ ?_ ?_ ?_ ?_ ?_ ?_
                  rotate_left 2
                  · simp only [List.getElem?_toArray, List.getElem?_cons_succ, List.getElem?_cons_zero]; rfl
                  · kernel_rfl
                  · kernel_rfl
                  · kernel_rfl
                  · exact fun _ _ _ h => h
                  · exact Or.inl ⟨by kernel_rfl, by intro w hSw; (try dsimp only at hSw); go_simp; try with_reducible rfl⟩
                  · assumption
                  try go_simp
                  refine wpAnyH_take (i := 6) (oi := ?_) (v := ?_) ?_ ?_ ?_ ?_ ?_ ?_ ?_ ?_
                  rotate_left 2
                  · simp only [List.getElem?_toArray, List.getElem?_cons_succ, List.getElem?_cons_zero]; rfl
                  · kernel_rfl
                  · kernel_rfl
                  · kernel_rfl
                  · exact fun _ _ _ h => h
                  · exact Or.inl ⟨by kernel_rfl, by intro w hSw; (try dsimp only at hSw); go_simp; try with_reducible rfl⟩
                  · assumption
                  try go_simp
                  refine wpAnyH_take (i := 7) (oi := ?_) (v := ?_) ?_ ?_ ?_ ?_ ?_ ?_ ?_ ?_
                  rotate_left 2
                  · simp only [List.getElem?_toArray, List.getElem?_cons_succ, List.getElem?_cons_zero]; rfl
                  · kernel_rfl
                  · kernel_rfl
                  · kernel_rfl
                  · exact fun _ _ _ h => h
                  · exact Or.inl ⟨by kernel_rfl, by intro w hSw; (try dsimp only at hSw); go_simp; try with_reducible rfl⟩
                  · assumption
                  try go_simp
                  refine wpAnyH_ready (rs := [8]) (by kernel_rfl) (by simp) ?_
                  refine AllReadyH.cons (o := ?_) ?_ ?_ AllReadyH.nil
                  rotate_left 1
                  · simp only [List.getElem?_toArray, List.getElem?_cons_succ, List.getElem?_cons_zero]; rfl
                  intro K hK
                  go_simp
                  refine (HTK.out wr.drew HPI.out.high HPI.out.sts).mono ?_
                  rintro e w2 ⟨rfl, hs2, hb2, ht2⟩
                  have hpi2 : PI w g (g + 2) (g + 3) (upd S (g + a) s') R AA CC w2 := PI.turn (wr := wr.drew) (HPI.out.drewN 1) ha2 hs2 HE.out hb2 ht2
                  have fp : w2.cell? ⟨g + 1 + 1, a, none⟩ = some (.pointer (some ⟨g + a, 0, none⟩)) := hpi2.ptr ha2
                  have fpb : w2.cell? ⟨g + 1 + 1, a, none⟩ = some (.pointer (some ⟨g + a, 0, none⟩)) := hpi2.ptr ha2
                  have fl : w2.cell? ⟨g + 1 + 1 + 1, a, none⟩ = some (.slice (AA a) (R a).length (CC a)) := hpi2.lst ha2
                  have flb : w2.cell? ⟨g + 1 + 1 + 1, a, none⟩ = some (.slice (AA a) (R a).length (CC a)) := hpi2.lst ha2
                  have HPI2 := Lib.hid hpi2
                  clear hs2 hb2 ht2 hpi2
                  refine hK.out _ _ ?_ (fun hHeld => ?_)
                  · first | exact ⟨fp, fpb⟩ | exact fp
                  clear hK K
                  try go_simp
                  refine wpAnyH_take (i := 9) (oi := ?_) (v := ?_) ?_ ?_ ?_ ?_ ?_ ?_ ?_ ?_
                  rotate_left 2
                  · simp only [List.getElem?_toArray, List.getElem?_cons_succ, List.getElem?_cons_zero]; rfl
                  · kernel_rfl
                  · kernel_rfl
                  · kernel_rfl
                  · exact fun _ _ _ h => h
                  · exact Or.inl ⟨by kernel_rfl, by intro w hSw; (try dsimp only at hSw); go_simp; try with_reducible rfl⟩
                  · assumption
                  try go_simp
                  refine wpAnyH_done (by kernel_rfl) ?_ _
                  refine NoPanic.normal ?_
                  go_wp2_with fail
                  refine wp_region_noPanic ?_
                  refine wp_region_held_drew (S := (fun w' => w'.cell? ⟨g + 1 + 1 + 1, a, none⟩ = some (.slice (AA a) (R a).length (CC a)) ∧ w'.cell? ⟨g + 1 + 1 + 1, a, none⟩ = some (.slice (AA a) (R a).length (CC a)))) (by kernel_rfl) ⟨fl, flb⟩ (fun hHeld => ?_)
                  refine wpAnyH_take (i := 0) (oi := ?_) (v := ?_) ?_ ?_ ?_ ?_ ?_ ?_ ?_ ?_
                  rotate_left 2
                  · simp only [List.getElem?_toArray, List.getElem?_cons_zero]; rfl
                  · kernel_rfl
                  · kernel_rfl
                  · kernel_rfl
                  · exact fun _ _ _ h => h
                  · exact Or.inl ⟨by kernel_rfl, by intro w hSw; (try dsimp only at hSw); go_simp; try with_reducible rfl⟩
                  · assumption
                  try go_simp
                  refine wpAnyH_take (i := 1) (oi := ?_) (v := ?_) ?_ ?_ ?_ ?_ ?_ ?_ ?_ ?_
                  rotate_left 2
                  · simp only [List.getElem?_toArray, List.getElem?_cons_succ, List.getElem?_cons_zero]; rfl
                  · kernel_rfl
                  · kernel_rfl
                  · kernel_rfl
                  · exact fun _ _ _ h => h
                  · exact Or.inl ⟨by kernel_rfl, by intro w hSw; (try dsimp only at hSw); go_simp; try with_reducible rfl⟩
                  · assumption
                  try go_simp
                  refine wpAnyH_take (i := 2) (oi := ?_) (v := ?_) ?_ ?_ ?_ ?_ ?_ ?_ ?_ ?_
                  rotate_left 2
                  · simp only [List.getElem?_toArray, List.getElem?_cons_succ, List.getElem?_cons_zero]; rfl
                  · kernel_rfl
                  · kernel_rfl
                  · kernel_rfl
                  · exact fun _ _ _ h => h
                  · exact Or.inl ⟨by kernel_rfl, by intro w hSw; (try dsimp only at hSw); go_simp; try with_reducible rfl⟩
                  · assumption
                  try go_simp
                  refine wpAnyH_take (i := 3) (oi := ?_) (v := ?_) ?_ ?_ ?_ ?_ ?_ ?_ ?_ ?_
                  rotate_left 2
                  · simp only [List.getElem?_toArray, List.getElem?_cons_succ, List.getElem?_cons_zero]; rfl
                  · kernel_rfl
                  · kernel_rfl
                  · kernel_rfl
                  · exact fun _ _ _ h => h
                  · exact Or.inl ⟨by kernel_rfl, by intro w hSw; (try dsimp only at hSw); go_simp; try with_reducible rfl⟩
                  · assumption
                  try go_simp
                  refine wpAnyH_take (i := 4) (oi := ?_) (v := ?_) ?_ ?_ ?_ ?_ ?_ ?_ ?_ ?_
                  rotate_left 2
                  · simp only [List.getElem?_toArray, List.getElem?_cons_succ, List.getElem?_cons_zero]; rfl
                  · kernel_rfl
                  · kernel_rfl
                  · kernel_rfl
                  · exact fun _ _ _ h => h
                  · exact Or.inl ⟨by kernel_rfl, by intro w hSw; (try dsimp only at hSw); go_simp; try with_reducible rfl⟩
                  · assumption
                  try go_simp
                  refine wpAnyH_take (i := 5) (oi := ?_) (v := ?_) ?_ ?_ ?_ ?_ ?_ ?_ ?_ ?_
                  rotate_left 2
                  · simp only [List.getElem?_toArray, List.getElem?_cons_succ, List.getElem?_cons_zero]; rfl
                  · kernel_rfl
                  · kernel_rfl
                  · kernel_rfl
                  · exact fun _ _ _ h => h
                  · exact Or.inl ⟨by kernel_rfl, by intro w hSw; (try dsimp only at hSw); go_simp; try with_reducible rfl⟩
                  · assumption
                  try go_simp
                  refine wpAnyH_take (i := 6) (oi := ?_) (v := ?_) ?_ ?_ ?_ ?_ ?_ ?_ ?_ ?_
                  rotate_left 2
                  · simp only [List.getElem?_toArray, List.getElem?_cons_succ, List.getElem?_cons_zero]; rfl
                  · kernel_rfl
                  · kernel_rfl
                  · kernel_rfl
                  · exact fun _ _ _ h => h
                  · exact Or.inl ⟨by kernel_rfl, by intro w hSw; (try dsimp only at hSw); go_simp; try with_reducible rfl⟩
                  · assumption
                  try go_simp
                  refine wpAnyH_take (i := 7) (oi := ?_) (v := ?_) ?_ ?_ ?_ ?_ ?_ ?_ ?_ ?_
                  rotate_left 2
                  · simp only [List.getElem?_toArray, List.getElem?_cons_succ, List.getElem?_cons_zero]; rfl
                  · kernel_rfl
                  · kernel_rfl
                  · kernel_rfl
                  · exact fun _ _ _ h => h
                  · exact Or.inl ⟨by kernel_rfl, by intro w hSw; (try dsimp only at hSw); go_simp; try with_reducible rfl⟩
                  · assumption
                  try go_simp
                  refine wpAnyH_ready (rs := [8]) (by kernel_rfl) (by simp) ?_
                  refine AllReadyH.cons (o := ?_) ?_ ?_ AllReadyH.nil
                  rotate_left 1
                  · simp only [List.getElem?_toArray, List.getElem?_cons_succ, List.getElem?_cons_zero]; rfl
                  intro K hK
                  go_simp
                  refine (HRT.out w2.drew (AA a) (CC a) (AA a) (CC a) HPI2.out.high (HPI2.out.own a ha2) (HPI2.out.own a ha2).reads).mono ?_
                  rintro e w3 ⟨A3, c3, rfl, ho3, hb3⟩
                  have hpi3 : PI w g (g + 2) (g + 3) (upd S (g + a) s') R AA CC w3 := PI.below (wr := w2.drew) (HPI2.out.drewN 1) hb3
                  have gl : w3.cell? ⟨g + 1 + 1 + 1, a, none⟩ = some (.slice (AA a) (R a).length (CC a)) := hpi3.lst ha2
                  have glb : w3.cell? ⟨g + 1 + 1 + 1, a, none⟩ = some (.slice (AA a) (R a).length (CC a)) := hpi3.lst ha2
                  have gf : w3.frozen? ⟨g + 1 + 1 + 1, a, none⟩ = false := hpi3.bwl.free a
                  have HPI3 := Lib.hid hpi3
                  have HO3 := Lib.hid ho3
                  clear ho3 hb3 hpi3
                  refine hK.out _ _ ?_ (fun hHeld => ?_)
                  · first | exact ⟨gl, glb⟩ | exact gl
                  clear hK K
                  try go_simp
                  refine wpAnyH_take (i := 9) (oi := ?_) (v := ?_) ?_ ?_ ?_ ?_ ?_ ?_ ?_ ?_
                  rotate_left 2
                  · simp only [List.getElem?_toArray, List.getElem?_cons_succ, List.getElem?_cons_zero]; rfl
                  · kernel_rfl
                  · kernel_rfl
                  · kernel_rfl
                  · exact fun _ _ _ h => h
                  · exact Or.inl ⟨by kernel_rfl, by intro w hSw; (try dsimp only at hSw); go_simp; try with_reducible rfl⟩
                  · assumption
                  try go_simp
                  refine wpAnyH_take (i := 10) (oi := ?_) (v := ?_) ?_ ?_ ?_ ?_ ?_ ?_ ?_ ?_
                  rotate_left 2
                  · simp only [List.getElem?_toArray, List.getElem?_cons_succ, List.getElem?_cons_zero]; rfl
                  · kernel_rfl
                  · kernel_rfl
                  · kernel_rfl
                  · exact fun _ _ _ h => h
                  · exact Or.inl ⟨by kernel_rfl, by intro w hSw; (try dsimp only at hSw); go_simp; try with_reducible rfl⟩
                  · assumption
                  try go_simp
                  refine wpAnyH_take (i := 11) (oi := ?_) (v := ?_) ?_ ?_ ?_ ?_ ?_ ?_ ?_ ?_
                  rotate_left 2
                  · simp only [List.getElem?_toArray, List.getElem?_cons_succ, List.getElem?_cons_zero]; rfl
                  · kernel_rfl
                  · kernel_rfl
                  · kernel_rfl
                  · exact fun _ _ _ h => h
                  · exact Or.inl ⟨by kernel_rfl, by intro w hSw; (try dsimp only at hSw); go_simp; try with_reducible rfl⟩
                  · assumption
                  try go_simp
                  refine wpAnyH_take (i := 12) (oi := ?_) (v := ?_) ?_ ?_ ?_ ?_ ?_ ?_ ?_ ?_
                  rotate_left 2
                  · simp only [List.getElem?_toArray, List.getElem?_cons_succ, List.getElem?_cons_zero]; rfl
                  · kernel_rfl
                  · kernel_rfl
                  · kernel_rfl
                  · exact fun _ _ _ h => h
                  · exact Or.inl ⟨by kernel_rfl, by intro w hSw; (try dsimp only at hSw); go_simp; try with_reducible rfl⟩
                  · assumption
                  try go_simp
                  refine wpAnyH_take (i := 13) (oi := ?_) (v := ?_) ?_ ?_ ?_ ?_ ?_ ?_ ?_ ?_
                  rotate_left 2
                  · simp only [List.getElem?_toArray, List.getElem?_cons_succ, List.getElem?_cons_zero]; rfl
                  · kernel_rfl
                  · kernel_rfl
                  · kernel_rfl
                  · exact fun _ _ _ h => h
                  · exact Or.inl ⟨by kernel_rfl, by intro w hSw; (try dsimp only at hSw); go_simp; try with_reducible rfl⟩
                  · assumption
                  try go_simp
                  refine wpAnyH_done (by kernel_rfl) ?_ _
                  refine NoPanic.normal ?_
                  go_wp2_with fail
                  go_meet
                  case rel => exact ⟨_, _, _, _, _, rfl, PI.put HPI3.out ha2 HO3.out, HSI.out _ rfl⟩
            · by_cases hdr : r = 5
              · as_aux_lemma =>
                  obtain rfl := hdr
                  have hml : (R a).length ≤ 8192 := hinvR.1
                  have dl : wr.cell? ⟨g + 1 + 1 + 1, a, none⟩ = some (.slice (AA a) (R a).length (CC a)) := HPI.out.lst ha2
                  have HD := fun W hb h => sdrop_t (base := g) (ids := [g + 1, g]) (S := S) (g + a) key W hb h hmem
                  have hcn : cnt (R a) key = cntS (S (g + a)).1 (S (g + a)).2.1 key := by rw [HSD.out a ha2, prs_cnt]
                  rw [← hcn] at HD
                  have HC := fun A1 c1 B1 W h1 => count13_t A1 c1 B1 (R a) key W h1 (by unfold maxLen; omega)
                  have HW := fun A1 c1 W h1 => without13_t A1 c1 (R a) key W h1 (by omega)
                  have he := dropS_ends (HPI.out.ends a ha2) key
                  have hwr : without (R a) key = prs (dropS (S (g + a)) key).1 (dropS (S (g + a)) key).2.1 := by rw [dropS_prs, HSD.out a ha2]
                  simp only [hwr] at HW
                  have hside := fun R3 hR => Side.step HSD.out (a := a) (dropS (S (g + a)) key) (R3 := R3) hR
                  clear hcn hwr
                  generalize dropS (S (g + a)) key = s' at *
                  generalize cnt (R a) key = cn at *
                  replace HD := Lib.hid HD
                  replace HC := Lib.hid HC
                  replace HW := Lib.hid HW
                  have HE := Lib.hid he
                  have HSI := Lib.hid hside
                  clear he hside hinv hinvR hml hmem hr
                  go_wp2_with fail
                  refine wp_region_noPanic ?_
                  refine wp_region_held_drew (S := (fun w' => w'.cell? ⟨g + 1 + 1, a, none⟩ = some (.pointer (some ⟨g + a, 0, none⟩)) ∧ w'.cell? ⟨g + 1 + 1 + 1, a, none⟩ = some (.slice (AA a) (R a).length (CC a)) ∧ w'.cell? ⟨b, o + k * 4 + 2, none⟩ = some (.int .i64 key))) (by kernel_rfl) ⟨dp, dl, d2⟩ (fun hHeld => ?_)
                  refine wpAnyH_take (i := 0) (oi := ?_) (v := ?_) ?_ ?_ ?_ ?_ ?_ ?_ ?_ ?_
                  rotate_left 2
                  · simp only [List.getElem?_toArray, List.getElem?_cons_zero]; rfl
                  · kernel_rfl
                  · kernel_rfl
                  · kernel_rfl
                  · exact fun _ _ _ h => h
                  · exact Or.inl ⟨by kernel_rfl, by intro w hSw; (try dsimp only at hSw); go_simp; try with_reducible rfl⟩
                  · assumption
                  try go_simp
                  refine wpAnyH_take (i := 1) (oi := ?_) (v := ?_) ?_ ?_ ?_ ?_ ?_ ?_ ?_ ?_
                  rotate_left 2
                  · simp only [List.getElem?_toArray, List.getElem?_cons_succ, List.getElem?_cons_zero]; rfl
                  · kernel_rfl
                  · kernel_rfl
                  · kernel_rfl
                  · exact fun _ _ _ h => h
                  · exact Or.inl ⟨by kernel_rfl, by intro w hSw; (try dsimp only at hSw); go_simp; try with_reducible rfl⟩
                  · assumption
                  try go_simp
                  refine wpAnyH_take (i := 2) (oi := ?_) (v := ?_) ?_ ?_ ?_ ?_ ?_ ?_ ?_ ?_
                  rotate_left 2
                  · simp only [List.getElem?_toArray, List.getElem?_cons_succ, List.getElem?_cons_zero]; rfl
                  · kernel_rfl
                  · kernel_rfl
                  · kernel_rfl
                  · exact fun _ _ _ h => h
                  · exact Or.inl ⟨by kernel_rfl, by intro w hSw; (try dsimp only at hSw); go_simp; try with_reducible rfl⟩
                  · assumption
                  try go_simp
                  refine wpAnyH_take (i := 3) (oi := ?_) (v := ?_) ?_ ?_ ?_ ?_ ?_ ?_ ?_ ?_
                  rotate_left 2
                  · simp only [List.getElem?_toArray, List.getElem?_cons_succ, List.getElem?_cons_zero]; rfl
                  · kernel_rfl
                  · kernel_rfl
                  · kernel_rfl
                  · exact fun _ _ _ h => h
                  · exact Or.inl ⟨by kernel_rfl, by intro w hSw; (try dsimp only at hSw); go_simp; try with_reducible rfl⟩
                  · assumption
                  try go_simp
                  refine wpAnyH_take (i := 4) (oi := ?_) (v := ?_) ?_ ?_ ?_ ?_ ?_ ?_ ?_ ?_
                  rotate_left 2
                  · simp only [List.getElem?_toArray, List.getElem?_cons_succ, List.getElem?_cons_zero]; rfl
                  · kernel_rfl
                  · kernel_rfl
                  · kernel_rfl
                  · exact fun _ _ _ h => h
                  · exact Or.inl ⟨by kernel_rfl, by intro w hSw; (try dsimp only at hSw); go_simp; try with_reducible rfl⟩
                  · assumption
                  try go_simp
                  refine wpAnyH_take (i := 5) (oi := ?_) (v := ?_) ?_ ?_ ?_ ?_ ?_ ?_ ?_ ?_
                  rotate_left 2
                  · simp only [List.getElem?_toArray, List.getElem?_cons_succ, List.getElem?_cons_zero]; rfl
                  · kernel_rfl
                  · kernel_rfl
                  · kernel_rfl
                  · exact fun _ _ _ h => h
                  · exact Or.inl ⟨by kernel_rfl, by intro w hSw; (try dsimp only at hSw); go_simp; try with_reducible rfl⟩
                  · assumption
                  try go_simp
                  refine wpAnyH_take (i := 6) (oi := ?_) (v := ?_) ?_ ?_ ?_ ?_ ?_ ?_ ?_ ?_
                  rotate_left 2
                  · simp only [List.getElem?_toArray, List.getElem?_cons_succ, List.getElem?_cons_zero]; rfl
                  · kernel_rfl
                  · kernel_rfl
                  · kernel_rfl
                  · exact fun _ _ _ h => h
                  · exact Or.inl ⟨by kernel_rfl, by intro w hSw; (try dsimp only at hSw); go_simp; try with_reducible rfl⟩
                  · assumption
                  try go_simp
                  refine wpAnyH_take (i := 7) (oi := ?_) (v := ?_) ?_ ?_ ?_ ?_ ?_ ?_ ?_ ?_
                  rotate_left 2
                  · simp only [List.getElem?_toArray, List.getElem?_cons_succ, List.getElem?_cons_zero]; rfl
                  · kernel_rfl
                  · kernel_rfl
                  · kernel_rfl
                  · exact fun _ _ _ h => h
                  · exact Or.inl ⟨by kernel_rfl, by intro w hSw; (try dsimp only at hSw); go_simp; try with_reducible rfl⟩
                  · assumption
                  try go_simp
                  refine wpAnyH_take (i := 8) (oi := ?_) (v := ?_) ?_ ?_ ?_ ?_ ?_ ?_ ?_ ?_
                  rotate_left 2
                  · simp only [List.getElem?_toArray, List.getElem?_cons_succ, List.getElem?_cons_zero]; rfl
                  · kernel_rfl
                  · kernel_rfl
                  · kernel_rfl
                  · exact fun _ _ _ h => h
                  · exact Or.inl ⟨by kernel_rfl, by intro w hSw; (try dsimp only at hSw); go_simp; try with_reducible rfl⟩
                  · assumption
                  try go_simp
                  refine wpAnyH_take (i := 10) (oi := ?_) (v := ?_) ?_ ?_ ?_ ?_ ?_ ?_ ?_ ?_
                  rotate_left 2
                  · simp only [List.getElem?_toArray, List.getElem?_cons_succ, List.getElem?_cons_zero]; rfl
                  · kernel_rfl
                  · kernel_rfl
                  · kernel_rfl
                  · exact fun _ _ _ h => h
                  · exact Or.inl ⟨by kernel_rfl, by intro w hSw; (try dsimp only at hSw); go_simp; try with_reducible rfl⟩
                  · assumption
                  try go_simp
                  refine wpAnyH_take (i := 11) (oi := ?_) (v := ?_) ?_ ?_ ?_ ?_ ?_ ?_ ?_ ?_
                  rotate_left 2
                  · simp only [List.getElem?_toArray, List.getElem?_cons_succ, List.getElem?_cons_zero]; rfl
                  · kernel_rfl
                  · kernel_rfl
                  · kernel_rfl
                  · exact fun _ _ _ h => h
                  · exact Or.inl ⟨by kernel_rfl, by intro w hSw; (try dsimp only at hSw); go_simp; try with_reducible rfl⟩
                  · assumption
                  try go_simp
                  refine wpAnyH_take (i := 12) (oi := ?_) (v := ?_) ?_ ?_ ?_ ?_ ?_ ?_ ?_ ?_
                  rotate_left 2
                  · simp only [List.getElem?_toArray, List.getElem?_cons_succ, List.getElem?_cons_zero]; rfl
                  · kernel_rfl
                  · kernel_rfl
                  · kernel_rfl
                  · exact fun _ _ _ h => h
                  · exact Or.inl ⟨by kernel_rfl, by intro w hSw; (try dsimp only at hSw); go_simp; try with_reducible rfl⟩
                  · assumption
                  try go_simp
                  refine wpAnyH_take (i := 13) (oi := ?_) (v := ?_) ?_ ?_ ?_ ?_ ?_ ?_ ?_ ?_
                  rotate_left 2
                  · simp only [List.getElem?_toArray, List.getElem?_cons_succ, List.getElem?_cons_zero]; rfl
                  · kernel_rfl
                  · kernel_rfl
                  · kernel_rfl
                  · exact fun _ _ _ h => h
                  · exact Or.inl ⟨by kernel_rfl, by intro w hSw; (try dsimp only at hSw); go_simp; try with_reducible rfl⟩
                  · assumption
                  try go_simp
                  refine wpAnyH_take (i := 14) (oi := ?_) (v := ?_) ?_ ?_ ?_ ?_ ?_ ?_ ?_ ?_
                  rotate_left 2
                  · simp only [List.getElem?_toArray, List.getElem?_cons_succ, List.getElem?_cons_zero]; rfl
                  · kernel_rfl
                  · kernel_rfl
                  · kernel_rfl
                  · exact fun _ _ _ h => h
                  · exact Or.inl ⟨by kernel_rfl, by intro w hSw; (try dsimp only at hSw); go_simp; try with_reducible rfl⟩
                  · assumption
                  try go_simp
                  refine wpAnyH_take (i := 15) (oi := ?_) (v := ?_) ?_ ?_ ?_ ?_ ?_ ?_ ?_ ?_
                  rotate_left 2
                  · simp only [List.getElem?_toArray, List.getElem?_cons_succ, List.getElem?_cons_zero]; rfl
                  · kernel_rfl
                  · kernel_rfl
                  · kernel_rfl
                  · exact fun _ _ _ h => h
                  · exact Or.inl ⟨by kernel_rfl, by intro w hSw; (try dsimp only at hSw); go_simp; try with_reducible rfl⟩
                  · assumption
                  try go_simp
                  refine wpAnyH_take (i := 16) (oi := ?_) (v := ?_) ?_ ?_ ?_ ?_ ?_ ?_ ?_ ?_
                  rotate_left 2
                  · simp only [List.getElem?_toArray, List.getElem?_cons_succ, List.getElem?_cons_zero]; rfl
                  · kernel_rfl
                  · kernel_rfl
                  · kernel_rfl
                  · exact fun _ _ _ h => h
                  · exact Or.inl ⟨by kernel_rfl, by intro w hSw; (try dsimp only at hSw); go_simp; try with_reducible rfl⟩
                  · assumption
                  try go_simp
                  refine wpAnyH_take (i := 17) (oi := ?_) (v := ?_) ?_ ?_ ?_ ?_ ?_ ?_ ?_ ?_
                  rotate_left 2
                  · simp only [List.getElem?_toArray, List.getElem?_cons_succ, List.getElem?_cons_zero]; rfl
                  · kernel_rfl
                  · kernel_rfl
                  · kernel_rfl
                  · exact fun _ _ _ h => h
                  · exact Or.inl ⟨by kernel_rfl, by intro w hSw; (try dsimp only at hSw); go_simp; try with_reducible rfl⟩
                  · assumption
                  try go_simp
                  refine wpAnyH_take (i := 18) (oi := ?_) (v := ?_) ?_ ?_ ?_ ?_ ?_ ?_ ?_ ?_
                  rotate_left 2
                  · simp only [List.getElem?_toArray, List.getElem?_cons_succ, List.getElem?_cons_zero]; rfl
                  · kernel_rfl
                  · kernel_rfl
                  · kernel_rfl
                  · exact fun _ _ _ h => h
                  · exact Or.inl ⟨by kernel_rfl, by intro w hSw; (try dsimp only at hSw); go_simp; try with_reducible rfl⟩
                  · assumption
                  try go_simp
                  refine wpAnyH_ready (rs := [9]) (by kernel_rfl) (by simp) ?_
                  refine AllReadyH.cons (o := ?_) ?_ ?_ AllReadyH.nil
                  rotate_left 1
                  · simp only [List.getElem?_toArray, List.getElem?_cons_succ, List.getElem?_cons_zero]; rfl
                  intro K hK
                  go_simp
                  refine (HD.out wr.drew HPI.out.high HPI.out.sts).mono ?_
                  rintro e w2 ⟨rfl, hs2, hb2, ht2⟩
                  have hpi2 : PI w g (g + 2) (g + 3) (upd S (g + a) s') R AA CC w2 := PI.turn (wr := wr.drew) (HPI.out.drewN 1) ha2 hs2 HE.out hb2 ht2
                  have fp : w2.cell? ⟨g + 1 + 1, a, none⟩ = some (.pointer (some ⟨g + a, 0, none⟩)) := hpi2.ptr ha2
                  have fl : w2.cell? ⟨g + 1 + 1 + 1, a, none⟩ = some (.slice (AA a) (R a).length (CC a)) := hpi2.lst ha2
                  have ff : w2.frozen? ⟨g + 1 + 1 + 1, a, none⟩ = false := hpi2.bwl.free a
                  obtain ⟨_, _, f2, _⟩ := HCE.out w2 hpi2.bel
                  have HPI2 := Lib.hid hpi2
                  clear hs2 hb2 ht2 hpi2
                  refine hK.out _ _ ?_ (fun hHeld => ?_)
                  · exact ⟨fp, fl, f2⟩
                  clear hK K
                  try go_simp
                  refine wpAnyH_ready (rs := [19]) (by kernel_rfl) (by simp) ?_
                  refine AllReadyH.cons (o := ?_) ?_ ?_ AllReadyH.nil
                  rotate_left 1
                  · simp only [List.getElem?_toArray, List.getElem?_cons_succ, List.getElem?_cons_zero]; rfl
                  intro K hK
                  go_simp
                  refine (HC.out (AA a) (CC a) _ _ (HPI2.out.own a ha2).reads).mono ?_
                  rintro e w3 ⟨rfl, hw⟩
                  obtain rfl := hw.symm
                  refine hK.out _ _ ?_ (fun hHeld => ?_)
                  · exact ⟨fp, fl, f2⟩
                  clear hK K
                  try go_simp
                  refine wpAnyH_take (i := 20) (oi := ?_) (v := ?_) ?_ ?_ ?_ ?_ ?_ ?_ ?_ ?_
                  rotate_left 2
                  · simp only [List.getElem?_toArray, List.getElem?_cons_succ, List.getElem?_cons_zero]; rfl
                  · kernel_rfl
                  · kernel_rfl
                  · kernel_rfl
                  · exact fun _ _ _ h => h
                  · exact Or.inl ⟨by kernel_rfl, by intro w hSw; (try dsimp only at hSw); go_simp; try with_reducible rfl⟩
                  · assumption
                  try go_simp
                  refine wpAnyH_done (by kernel_rfl) ?_ _
                  refine NoPanic.normal ?_
                  go_wp2_with fail
                  refine wp_region_noPanic ?_
                  refine wp_region_T (S := (fun w' => w'.cell? ⟨g + 1 + 1 + 1, a, none⟩ = some (.slice (AA a) (R a).length (CC a)) ∧ w'.cell? ⟨b, o + k * 4 + 2, none⟩ = some (.int .i64 key) ∧ w'.frozen? ⟨g + 1 + 1 + 1, a, none⟩ = false)) (L := 13) (by kernel_rfl) ⟨fl, f2, ff⟩ (fun hHeld => ?_)
                  refine wpAnyT_take (i := 0) (oi := ?_) (v := ?_) ?_ ?_ ?_ ?_ ?_ ?_ ?_ ?_ ?_
                  rotate_left 2
                  · simp only [List.getElem?_toArray, List.getElem?_cons_zero]; rfl
                  · kernel_rfl
                  · kernel_rfl
                  · kernel_rfl
                  · kernel_rfl
                  · exact fun _ _ _ h => h
                  · exact Or.inl ⟨by kernel_rfl, by intro w hSw; (try dsimp only at hSw); go_simp; try with_reducible rfl⟩
                  · assumption
                  try go_simp
                  refine wpAnyT_take (i := 1) (oi := ?_) (v := ?_) ?_ ?_ ?_ ?_ ?_ ?_ ?_ ?_ ?_
                  rotate_left 2
                  · simp only [List.getElem?_toArray, List.getElem?_cons_succ, List.getElem?_cons_zero]; rfl
                  · kernel_rfl
                  · kernel_rfl
                  · kernel_rfl
                  · kernel_rfl
                  · exact fun _ _ _ h => h
                  · exact Or.inl ⟨by kernel_rfl, by intro w hSw; (try dsimp only at hSw); go_simp; try with_reducible rfl⟩
                  · assumption
                  try go_simp
                  refine wpAnyT_take (i := 2) (oi := ?_) (v := ?_) ?_ ?_ ?_ ?_ ?_ ?_ ?_ ?_ ?_
                  rotate_left 2
                  · simp only [List.getElem?_toArray, List.getElem?_cons_succ, List.getElem?_cons_zero]; rfl
                  · kernel_rfl
                  · kernel_rfl
                  · kernel_rfl
                  · kernel_rfl
                  · exact fun _ _ _ h => h
                  · exact Or.inl ⟨by kernel_rfl, by intro w hSw; (try dsimp only at hSw); go_simp; try with_reducible rfl⟩
                  · assumption
                  try go_simp
                  refine wpAnyT_take (i := 3) (oi := ?_) (v := ?_) ?_ ?_ ?_ ?_ ?_ ?_ ?_ ?_ ?_
                  rotate_left 2
                  · simp only [List.getElem?_toArray, List.getElem?_cons_succ, List.getElem?_cons_zero]; rfl
                  · kernel_rfl
                  · kernel_rfl
                  · kernel_rfl
                  · kernel_rfl
                  · exact fun _ _ _ h => h
                  · exact Or.inl ⟨by kernel_rfl, by intro w hSw; (try dsimp only at hSw); go_simp; try with_reducible rfl⟩
                  · assumption
                  try go_simp
                  refine wpAnyT_take (i := 4) (oi := ?_) (v := ?_) ?_ ?_ ?_ ?_ ?_ ?_ ?_ ?_ ?_
                  rotate_left 2
                  · simp only [List.getElem?_toArray, List.getElem?_cons_succ, List.getElem?_cons_zero]; rfl
                  · kernel_rfl
                  · kernel_rfl
                  · kernel_rfl
                  · kernel_rfl
                  · exact fun _ _ _ h => h
                  · exact Or.inl ⟨by kernel_rfl, by intro w hSw; (try dsimp only at hSw); go_simp; try with_reducible rfl⟩
                  · assumption
                  try go_simp
                  refine wpAnyT_take (i := 5) (oi := ?_) (v := ?_) ?_ ?_ ?_ ?_ ?_ ?_ ?_ ?_ ?_
                  rotate_left 2
                  · simp only [List.getElem?_toArray, List.getElem?_cons_succ, List.getElem?_cons_zero]; rfl
                  · kernel_rfl
                  · kernel_rfl
                  · kernel_rfl
                  · kernel_rfl
                  · exact fun _ _ _ h => h
                  · exact Or.inl ⟨by kernel_rfl, by intro w hSw; (try dsimp only at hSw); go_simp; try with_reducible rfl⟩
                  · assumption
                  try go_simp
                  refine wpAnyT_take (i := 6) (oi := ?_) (v := ?_) ?_ ?_ ?_ ?_ ?_ ?_ ?_ ?_ ?_
                  rotate_left 2
                  · simp only [List.getElem?_toArray, List.getElem?_cons_succ, List.getElem?_cons_zero]; rfl
                  · kernel_rfl
                  · kernel_rfl
                  · kernel_rfl
                  · kernel_rfl
                  · exact fun _ _ _ h => h
                  · exact Or.inl ⟨by kernel_rfl, by intro w hSw; (try dsimp only at hSw); go_simp; try with_reducible rfl⟩
                  · assumption
                  try go_simp
                  refine wpAnyT_take (i := 7) (oi := ?_) (v := ?_) ?_ ?_ ?_ ?_ ?_ ?_ ?_ ?_ ?_
                  rotate_left 2
                  · simp only [List.getElem?_toArray, List.getElem?_cons_succ, List.getElem?_cons_zero]; rfl
                  · kernel_rfl
                  · kernel_rfl
                  · kernel_rfl
                  · kernel_rfl
                  · exact fun _ _ _ h => h
                  · exact Or.inl ⟨by kernel_rfl, by intro w hSw; (try dsimp only at hSw); go_simp; try with_reducible rfl⟩
                  · assumption
                  try go_simp
                  refine wpAnyT_take (i := 8) (oi := ?_) (v := ?_) ?_ ?_ ?_ ?_ ?_ ?_ ?_ ?_ ?_
                  rotate_left 2
                  · simp only [List.getElem?_toArray, List.getElem?_cons_succ, List.getElem?_cons_zero]; rfl
                  · kernel_rfl
                  · kernel_rfl
                  · kernel_rfl
                  · kernel_rfl
                  · exact fun _ _ _ h => h
                  · exact Or.inl ⟨by kernel_rfl, by intro w hSw; (try dsimp only at hSw); go_simp; try with_reducible rfl⟩
                  · assumption
                  try go_simp
                  refine wpAnyT_take (i := 9) (oi := ?_) (v := ?_) ?_ ?_ ?_ ?_ ?_ ?_ ?_ ?_ ?_
                  rotate_left 2
                  · simp only [List.getElem?_toArray, List.getElem?_cons_succ, List.getElem?_cons_zero]; rfl
                  · kernel_rfl
                  · kernel_rfl
                  · kernel_rfl
                  · kernel_rfl
                  · exact fun _ _ _ h => h
                  · exact Or.inl ⟨by kernel_rfl, by intro w hSw; (try dsimp only at hSw); go_simp; try with_reducible rfl⟩
                  · assumption
                  try go_simp
                  refine wpAnyT_take (i := 10) (oi := ?_) (v := ?_) ?_ ?_ ?_ ?_ ?_ ?_ ?_ ?_ ?_
                  rotate_left 2
                  · simp only [List.getElem?_toArray, List.getElem?_cons_succ, List.getElem?_cons_zero]; rfl
                  · kernel_rfl
                  · kernel_rfl
                  · kernel_rfl
                  · kernel_rfl
                  · exact fun _ _ _ h => h
                  · exact Or.inl ⟨by kernel_rfl, by intro w hSw; (try dsimp only at hSw); go_simp; try with_reducible rfl⟩
                  · assumption
                  try go_simp
                  refine wpAnyT_one (i := 11) (o := ?_) ?_ ?_ ?_
                  rotate_left 1
                  · simp only [List.getElem?_toArray, List.getElem?_cons_succ, List.getElem?_cons_zero]; rfl
                  · kernel_rfl
                  intro K hK
                  go_simp
                  refine (HW.out (AA a) (CC a) w2.drew (HPI2.out.own a ha2).reads).mono ?_
                  rintro e w3 ⟨A3, c3, rfl, ho3, hb3⟩
                  have hpi3 : PI w g (g + 2) (g + 3) (upd S (g + a) s') R AA CC w3 := PI.below (wr := w2.drew) (HPI2.out.drewN 1) hb3
                  have gl : w3.cell? ⟨g + 1 + 1 + 1, a, none⟩ = some (.slice (AA a) (R a).length (CC a)) := hpi3.lst ha2
                  have gf : w3.frozen? ⟨g + 1 + 1 + 1, a, none⟩ = false := hpi3.bwl.free a
                  obtain ⟨_, _, g2, _⟩ := HCE.out w3 hpi3.bel
                  have HPI3 := Lib.hid hpi3
                  have ho4 : OwnP w3 g A3 c3 (prs s'.1 s'.2.1) := Own.mono ho3 HPI2.out.high
                  have HO3 := Lib.hid ho4
                  clear ho3 ho4 hb3 hpi3
                  refine hK.out _ _ ?_ (fun hHeld => ?_)
                  · exact fun _ => ⟨gl, g2, gf⟩
                  clear hK K
                  replace hHeld := hHeld (by decide)
                  try go_simp
                  refine wpAnyT_take (i := 12) (oi := ?_) (v := ?_) ?_ ?_ ?_ ?_ ?_ ?_ ?_ ?_ ?_
                  rotate_left 2
                  · simp only [List.getElem?_toArray, List.getElem?_cons_succ, List.getElem?_cons_zero]; rfl
                  · kernel_rfl
                  · kernel_rfl
                  · kernel_rfl
                  · kernel_rfl
                  · exact fun _ _ _ h => h
                  · exact Or.inl ⟨by kernel_rfl, by intro w hSw; (try dsimp only at hSw); go_simp; try with_reducible rfl⟩
                  · assumption
                  try go_simp
                  refine wpAnyT_one (i := 13) (o := ?_) ?_ ?_ ?_
                  rotate_left 1
                  · simp only [List.getElem?_toArray, List.getElem?_cons_succ, List.getElem?_cons_zero]; rfl
                  · kernel_rfl
                  intro K hK
                  go_simp
                  refine hK.out _ _ ?_ (fun hHeld => ?_)
                  · exact fun h => absurd rfl h
                  clear hK K
                  try go_simp
                  refine wpAnyT_done (by kernel_rfl) ?_ _
                  refine NoPanic.normal ?_
                  go_wp2_with fail
                  go_meet
                  case rel => exact ⟨_, _, _, _, _, rfl, PI.put HPI3.out ha2 HO3.out, HSI.out _ rfl⟩
              · as_aux_lemma =>
                  obtain rfl : r = 6 := by omega
                  have HCL := fun W hb h => sclear_t (base := g) (ids := [g + 1, g]) (S := S) (g + a) W hb h hmem
                  have hside := fun R3 hR => Side.step HSD.out (a := a) e0 (R3 := R3) hR
                  replace HCL := Lib.hid HCL
                  have HSI := Lib.hid hside
                  clear hside hinv hinvR hmem hr
                  go_wp2_with fail
                  refine (HCL.out _ HPI.out.high HPI.out.sts).mono ?_
                  rintro e w2 ⟨rfl, hs2, hb2, ht2⟩
                  have hpi2 : PI w g (g + 2) (g + 3) (upd S (g + a) e0) R AA CC w2 := PI.turn HPI.out ha2 hs2 (fun h => absurd rfl h) hb2 ht2
                  have fl : w2.cell? ⟨g + 1 + 1 + 1, a, none⟩ = some (.slice (AA a) (R a).length (CC a)) := hpi2.lst ha2
                  have ff : w2.frozen? ⟨g + 1 + 1 + 1, a, none⟩ = false := hpi2.bwl.free a
                  have HPI2 := Lib.hid hpi2
                  clear hs2 hb2 ht2 hpi2
                  go_wp2_with fail
                  go_meet
                  case rel => exact ⟨_, _, _, _, _, rfl, PI.put (A3 := none) (c3 := 0) (R3 := []) HPI2.out ha2 (Own.nil _ _ _ _), HSI.out _ rfl⟩
        case rest =>
          as_aux_lemma =>
            obtain ⟨W5, S2, R2, AA2, CC2, rfl, hpi, hside⟩ := hcut
            have p05 : W5.cell? ⟨g + 1 + 1, 0, none⟩ = some (.pointer (some ⟨g, 0, none⟩)) := hpi.ptr (a := 0) (by decide)
            have p15 : W5.cell? ⟨g + 1 + 1, 1, none⟩ = some (.pointer (some ⟨g + 1, 0, none⟩)) := hpi.ptr (a := 1) (by decide)
            have q05 : W5.cell? ⟨g + 1 + 1 + 1, 0, none⟩ = some (.slice (AA2 0) (R2 0).length (CC2 0)) := hpi.lst (a := 0) (by decide)
            have q15 : W5.cell? ⟨g + 1 + 1 + 1, 1, none⟩ = some (.slice (AA2 1) (R2 1).length (CC2 1)) := hpi.lst (a := 1) (by decide)
            have kk5 : W5.cell? ⟨b, o + k * 4 + 2, none⟩ = some (.int .i64 key) := (HCE.out _ hpi.bel).2.2.1
            have hd0 := hside 0 (by decide)
            have hd1 := hside 1 (by decide)
            have HS0 := fun W h hp => same_t (base := g) (ids := [g + 1, g]) (S := S2) g (AA2 0) (CC2 0) key (R2 0) W h (by simp) (hpi.ends 0 (by decide)) hd0 hp
            have HS1 := fun W h hp => same_t (base := g) (ids := [g + 1, g]) (S := S2) (g + 1) (AA2 1) (CC2 1) key (R2 1) W h (by simp) (hpi.ends 1 (by decide)) hd1 hp
            replace HS0 := Lib.hid HS0
            replace HS1 := Lib.hid HS1
            have HPJ := Lib.hid hpi
            have HSJ := Lib.hid hside
            clear hd0 hd1 hpi hside dp
            have hkr : IntKind.i64.wrap ((k : Int) + 1) = (k : Int) + 1 := IntWalk.i64_in _ ⟨by omega, by omega⟩
            go_wp2_with fail
            refine wp_region_noPanic ?_
            refine wp_region_held_drew (S := (fun w' => w'.cell? ⟨g + 1 + 1, 0, none⟩ = some (.pointer (some ⟨g, 0, none⟩)) ∧ w'.cell? ⟨g + 1 + 1, 1, none⟩ = some (.pointer (some ⟨g + 1, 0, none⟩)) ∧ w'.cell? ⟨g + 1 + 1 + 1, 0, none⟩ = some (.slice (AA2 0) (R2 0).length (CC2 0)) ∧ w'.cell? ⟨g + 1 + 1 + 1, 1, none⟩ = some (.slice (AA2 1) (R2 1).length (CC2 1)) ∧ w'.cell? ⟨b, o + k * 4 + 2, none⟩ = some (.int .i64 key))) (by kernel_rfl) ⟨p05, p15, q05, q15, kk5⟩ (fun hHeld => ?_)
            refine wpAnyH_take (i := 0) (oi := ?_) (v := ?_) ?_ ?_ ?_ ?_ ?_ ?_ ?_ ?_
            rotate_left 2
            · simp only [List.getElem?_toArray, List.getElem?_cons_zero]; rfl
            · kernel_rfl
            · kernel_rfl
            · kernel_rfl
            · exact fun _ _ _ h => h
            · exact Or.inl ⟨by kernel_rfl, by intro w hSw; (try dsimp only at hSw); go_simp; try with_reducible rfl⟩
            · assumption
            try go_simp
            refine wpAnyH_take (i := 1) (oi := ?_) (v := ?_) ?_ ?_ ?_ ?_ ?_ ?_ ?_ ?_
            rotate_left 2
            · simp only [List.getElem?_toArray, List.getElem?_cons_succ, List.getElem?_cons_zero]; rfl
            · kernel_rfl
            · kernel_rfl
            · kernel_rfl
            · exact fun _ _ _ h => h
            · exact Or.inl ⟨by kernel_rfl, by intro w hSw; (try dsimp only at hSw); go_simp; try with_reducible rfl⟩
            · assumption
            try go_simp
            refine wpAnyH_take (i := 2) (oi := ?_) (v := ?_) ?_ ?_ ?_ ?_ ?_ ?_ ?_ ?_
            rotate_left 2
            · simp only [List.getElem?_toArray, List.getElem?_cons_succ, List.getElem?_cons_zero]; rfl
            · kernel_rfl
            · kernel_rfl
            · kernel_rfl
            · exact fun _ _ _ h => h
            · exact Or.inl ⟨by kernel_rfl, by intro w hSw; (try dsimp only at hSw); go_simp; try with_reducible rfl⟩
            · assumption
            try go_simp
            refine wpAnyH_take (i := 3) (oi := ?_) (v := ?_) ?_ ?_ ?_ ?_ ?_ ?_ ?_ ?_
            rotate_left 2
            · simp only [List.getElem?_toArray, List.getElem?_cons_succ, List.getElem?_cons_zero]; rfl
            · kernel_rfl
            · kernel_rfl
            · kernel_rfl
            · exact fun _ _ _ h => h
            · exact Or.inl ⟨by kernel_rfl, by intro w hSw; (try dsimp only at hSw); go_simp; try with_reducible rfl⟩
            · assumption
            try go_simp
            refine wpAnyH_take (i := 4) (oi := ?_) (v := ?_) ?_ ?_ ?_ ?_ ?_ ?_ ?_ ?_
            rotate_left 2
            · simp only [List.getElem?_toArray, List.getElem?_cons_succ, List.getElem?_cons_zero]; rfl
            · kernel_rfl
            · kernel_rfl
            · kernel_rfl
            · exact fun _ _ _ h => h
            · exact Or.inl ⟨by kernel_rfl, by intro w hSw; (try dsimp only at hSw); go_simp; try with_reducible rfl⟩
            · assumption
            try go_simp
            refine wpAnyH_take (i := 5) (oi := ?_) (v := ?_) ?_ ?_ ?_ ?_ ?_ ?_ ?_ ?_
            rotate_left 2
            · simp only [List.getElem?_toArray, List.getElem?_cons_succ, List.getElem?_cons_zero]; rfl
            · kernel_rfl
            · kernel_rfl
            · kernel_rfl
            · exact fun _ _ _ h => h
            · exact Or.inl ⟨by kernel_rfl, by intro w hSw; (try dsimp only at hSw); go_simp; try with_reducible rfl⟩
            · assumption
            try go_simp
            refine wpAnyH_take (i := 6) (oi := ?_) (v := ?_) ?_ ?_ ?_ ?_ ?_ ?_ ?_ ?_
            rotate_left 2
            · simp only [List.getElem?_toArray, List.getElem?_cons_succ, List.getElem?_cons_zero]; rfl
            · kernel_rfl
            · kernel_rfl
            · kernel_rfl
            · exact fun _ _ _ h => h
            · exact Or.inl ⟨by kernel_rfl, by intro w hSw; (try dsimp only at hSw); go_simp; try with_reducible rfl⟩
            · assumption
            try go_simp
            refine wpAnyH_take (i := 7) (oi := ?_) (v := ?_) ?_ ?_ ?_ ?_ ?_ ?_ ?_ ?_
            rotate_left 2
            · simp only [List.getElem?_toArray, List.getElem?_cons_succ, List.getElem?_cons_zero]; rfl
            · kernel_rfl
            · kernel_rfl
            · kernel_rfl
            · exact fun _ _ _ h => h
            · exact Or.inl ⟨by kernel_rfl, by intro w hSw; (try dsimp only at hSw); go_simp; try with_reducible rfl⟩
            · assumption
            try go_simp
            refine wpAnyH_take (i := 8) (oi := ?_) (v := ?_) ?_ ?_ ?_ ?_ ?_ ?_ ?_ ?_
            rotate_left 2
            · simp only [List.getElem?_toArray, List.getElem?_cons_succ, List.getElem?_cons_zero]; rfl
            · kernel_rfl
            · kernel_rfl
            · kernel_rfl
            · exact fun _ _ _ h => h
            · exact Or.inl ⟨by kernel_rfl, by intro w hSw; (try dsimp only at hSw); go_simp; try with_reducible rfl⟩
            · assumption
            try go_simp
            refine wpAnyH_take (i := 9) (oi := ?_) (v := ?_) ?_ ?_ ?_ ?_ ?_ ?_ ?_ ?_
            rotate_left 2
            · simp only [List.getElem?_toArray, List.getElem?_cons_succ, List.getElem?_cons_zero]; rfl
            · kernel_rfl
            · kernel_rfl
            · kernel_rfl
            · exact fun _ _ _ h => h
            · exact Or.inl ⟨by kernel_rfl, by intro w hSw; (try dsimp only at hSw); go_simp; try with_reducible rfl⟩
            · assumption
            try go_simp
            refine wpAnyH_take (i := 10) (oi := ?_) (v := ?_) ?_ ?_ ?_ ?_ ?_ ?_ ?_ ?_
            rotate_left 2
            · simp only [List.getElem?_toArray, List.getElem?_cons_succ, List.getElem?_cons_zero]; rfl
            · kernel_rfl
            · kernel_rfl
            · kernel_rfl
            · exact fun _ _ _ h => h
            · exact Or.inl ⟨by kernel_rfl, by intro w hSw; (try dsimp only at hSw); go_simp; try with_reducible rfl⟩
            · assumption
            try go_simp
            refine wpAnyH_ready (rs := [11]) (by kernel_rfl) (by simp) ?_
            refine AllReadyH.cons (o := ?_) ?_ ?_ AllReadyH.nil
            rotate_left 1
            · simp only [List.getElem?_toArray, List.getElem?_cons_succ, List.getElem?_cons_zero]; rfl
            intro K hK
            go_simp
            refine (HS0.out W5.drew HPJ.out.sts (HPJ.out.own 0 (by decide)).reads).mono ?_
            rintro e w6 ⟨rfl, hb3⟩
            have hpi3 : PI w g (g + 2) (g + 3) S2 R2 AA2 CC2 w6 := PI.below (wr := W5.drew) (HPJ.out.drewN 1) hb3
            have p06 : w6.cell? ⟨g + 1 + 1, 0, none⟩ = some (.pointer (some ⟨g, 0, none⟩)) := hpi3.ptr (a := 0) (by decide)
            have p16 : w6.cell? ⟨g + 1 + 1, 1, none⟩ = some (.pointer (some ⟨g + 1, 0, none⟩)) := hpi3.ptr (a := 1) (by decide)
            have q06 : w6.cell? ⟨g + 1 + 1 + 1, 0, none⟩ = some (.slice (AA2 0) (R2 0).length (CC2 0)) := hpi3.lst (a := 0) (by decide)
            have q16 : w6.cell? ⟨g + 1 + 1 + 1, 1, none⟩ = some (.slice (AA2 1) (R2 1).length (CC2 1)) := hpi3.lst (a := 1) (by decide)
            have kk6 : w6.cell? ⟨b, o + k * 4 + 2, none⟩ = some (.int .i64 key) := (HCE.out _ hpi3.bel).2.2.1
            have HPJ6 := Lib.hid hpi3
            clear hpi3 hb3
            refine hK.out _ _ ?_ (fun hHeld => ?_)
            · exact ⟨p06, p16, q06, q16, kk6⟩
            clear hK K
            try go_simp
            refine wpAnyH_take (i := 12) (oi := ?_) (v := ?_) ?_ ?_ ?_ ?_ ?_ ?_ ?_ ?_
            rotate_left 2
            · simp only [List.getElem?_toArray, List.getElem?_cons_succ, List.getElem?_cons_zero]; rfl
            · kernel_rfl
            · kernel_rfl
            · kernel_rfl
            · exact fun _ _ _ h => h
            · exact Or.inl ⟨by kernel_rfl, by intro w hSw; (try dsimp only at hSw); go_simp; try with_reducible rfl⟩
            · assumption
            try go_simp
            refine wpAnyH_take (i := 13) (oi := ?_) (v := ?_) ?_ ?_ ?_ ?_ ?_ ?_ ?_ ?_
            rotate_left 2
            · simp only [List.getElem?_toArray, List.getElem?_cons_succ, List.getElem?_cons_zero]; rfl
            · kernel_rfl
            · kernel_rfl
            · kernel_rfl
            · exact fun _ _ _ h => h
            · exact Or.inl ⟨by kernel_rfl, by intro w hSw; (try dsimp only at hSw); go_simp; try with_reducible rfl⟩
            · assumption
            try go_simp
            refine wpAnyH_take (i := 14) (oi := ?_) (v := ?_) ?_ ?_ ?_ ?_ ?_ ?_ ?_ ?_
            rotate_left 2
            · simp only [List.getElem?_toArray, List.getElem?_cons_succ, List.getElem?_cons_zero]; rfl
            · kernel_rfl
            · kernel_rfl
            · kernel_rfl
            · exact fun _ _ _ h => h
            · exact Or.inl ⟨by kernel_rfl, by intro w hSw; (try dsimp only at hSw); go_simp; try with_reducible rfl⟩
            · assumption
            try go_simp
            refine wpAnyH_take (i := 15) (oi := ?_) (v := ?_) ?_ ?_ ?_ ?_ ?_ ?_ ?_ ?_
            rotate_left 2
            · simp only [List.getElem?_toArray, List.getElem?_cons_succ, List.getElem?_cons_zero]; rfl
            · kernel_rfl
            · kernel_rfl
            · kernel_rfl
            · exact fun _ _ _ h => h
            · exact Or.inl ⟨by kernel_rfl, by intro w hSw; (try dsimp only at hSw); go_simp; try with_reducible rfl⟩
            · assumption
            try go_simp
            refine wpAnyH_take (i := 16) (oi := ?_) (v := ?_) ?_ ?_ ?_ ?_ ?_ ?_ ?_ ?_
            rotate_left 2
            · simp only [List.getElem?_toArray, List.getElem?_cons_succ, List.getElem?_cons_zero]; rfl
            · kernel_rfl
            · kernel_rfl
            · kernel_rfl
            · exact fun _ _ _ h => h
            · exact Or.inl ⟨by kernel_rfl, by intro w hSw; (try dsimp only at hSw); go_simp; try with_reducible rfl⟩
            · assumption
            try go_simp
            refine wpAnyH_take (i := 17) (oi := ?_) (v := ?_) ?_ ?_ ?_ ?_ ?_ ?_ ?_ ?_
            rotate_left 2
            · simp only [List.getElem?_toArray, List.getElem?_cons_succ, List.getElem?_cons_zero]; rfl
            · kernel_rfl
            · kernel_rfl
            · kernel_rfl
            · exact fun _ _ _ h => h
            · exact Or.inl ⟨by kernel_rfl, by intro w hSw; (try dsimp only at hSw); go_simp; try with_reducible rfl⟩
            · assumption
            try go_simp
            refine wpAnyH_take (i := 18) (oi := ?_) (v := ?_) ?_ ?_ ?_ ?_ ?_ ?_ ?_ ?_
            rotate_left 2
            · simp only [List.getElem?_toArray, List.getElem?_cons_succ, List.getElem?_cons_zero]; rfl
            · kernel_rfl
            · kernel_rfl
            · kernel_rfl
            · exact fun _ _ _ h => h
            · exact Or.inl ⟨by kernel_rfl, by intro w hSw; (try dsimp only at hSw); go_simp; try with_reducible rfl⟩
            · assumption
            try go_simp
            refine wpAnyH_take (i := 19) (oi := ?_) (v := ?_) ?_ ?_ ?_ ?_ ?_ ?_ ?_ ?_
            rotate_left 2
            · simp only [List.getElem?_toArray, List.getElem?_cons_succ, List.getElem?_cons_zero]; rfl
            · kernel_rfl
            · kernel_rfl
            · kernel_rfl
            · exact fun _ _ _ h => h
            · exact Or.inl ⟨by kernel_rfl, by intro w hSw; (try dsimp only at hSw); go_simp; try with_reducible rfl⟩
            · assumption
            try go_simp
            refine wpAnyH_take (i := 20) (oi := ?_) (v := ?_) ?_ ?_ ?_ ?_ ?_ ?_ ?_ ?_
            rotate_left 2
            · simp only [List.getElem?_toArray, List.getElem?_cons_succ, List.getElem?_cons_zero]; rfl
            · kernel_rfl
            · kernel_rfl
            · kernel_rfl
            · exact fun _ _ _ h => h
            · exact Or.inl ⟨by kernel_rfl, by intro w hSw; (try dsimp only at hSw); go_simp; try with_reducible rfl⟩
            · assumption
            try go_simp
            refine wpAnyH_take (i := 21) (oi := ?_) (v := ?_) ?_ ?_ ?_ ?_ ?_ ?_ ?_ ?_
            rotate_left 2
            · simp only [List.getElem?_toArray, List.getElem?_cons_succ, List.getElem?_cons_zero]; rfl
            · kernel_rfl
            · kernel_rfl
            · kernel_rfl
            · exact fun _ _ _ h => h
            · exact Or.inl ⟨by kernel_rfl, by intro w hSw; (try dsimp only at hSw); go_simp; try with_reducible rfl⟩
            · assumption
            try go_simp
            refine wpAnyH_take (i := 22) (oi := ?_) (v := ?_) ?_ ?_ ?_ ?_ ?_ ?_ ?_ ?_
            rotate_left 2
            · simp only [List.getElem?_toArray, List.getElem?_cons_succ, List.getElem?_cons_zero]; rfl
            · kernel_rfl
            · kernel_rfl
            · kernel_rfl
            · exact fun _ _ _ h => h
            · exact Or.inl ⟨by kernel_rfl, by intro w hSw; (try dsimp only at hSw); go_simp; try with_reducible rfl⟩
            · assumption
            try go_simp
            refine wpAnyH_take (i := 23) (oi := ?_) (v := ?_) ?_ ?_ ?_ ?_ ?_ ?_ ?_ ?_
            rotate_left 2
            · simp only [List.getElem?_toArray, List.getElem?_cons_succ, List.getElem?_cons_zero]; rfl
            · kernel_rfl
            · kernel_rfl
            · kernel_rfl
            · exact fun _ _ _ h => h
            · exact Or.inl ⟨by kernel_rfl, by intro w hSw; (try dsimp only at hSw); go_simp; try with_reducible rfl⟩
            · assumption
            try go_simp
            refine wpAnyH_take (i := 24) (oi := ?_) (v := ?_) ?_ ?_ ?_ ?_ ?_ ?_ ?_ ?_
            rotate_left 2
            · simp only [List.getElem?_toArray, List.getElem?_cons_succ, List.getElem?_cons_zero]; rfl
            · kernel_rfl
            · kernel_rfl
            · kernel_rfl
            · exact fun _ _ _ h => h
            · exact Or.inl ⟨by kernel_rfl, by intro w hSw; (try dsimp only at hSw); go_simp; try with_reducible rfl⟩
            · assumption
            try go_simp
            refine wpAnyH_ready (rs := [25]) (by kernel_rfl) (by simp) ?_
            refine AllReadyH.cons (o := ?_) ?_ ?_ AllReadyH.nil
            rotate_left 1
            · simp only [List.getElem?_toArray, List.getElem?_cons_succ, List.getElem?_cons_zero]; rfl
            intro K hK
            go_simp
            refine (HS1.out _ HPJ6.out.sts (HPJ6.out.own 1 (by decide)).reads).mono ?_
            rintro e w7 ⟨rfl, hb3⟩
            have hpi3 : PI w g (g + 2) (g + 3) S2 R2 AA2 CC2 w7 := PI.below HPJ6.out hb3
            have p07 : w7.cell? ⟨g + 1 + 1, 0, none⟩ = some (.pointer (some ⟨g, 0, none⟩)) := hpi3.ptr (a := 0) (by decide)
            have p17 : w7.cell? ⟨g + 1 + 1, 1, none⟩ = some (.pointer (some ⟨g + 1, 0, none⟩)) := hpi3.ptr (a := 1) (by decide)
            have q07 : w7.cell? ⟨g + 1 + 1 + 1, 0, none⟩ = some (.slice (AA2 0) (R2 0).length (CC2 0)) := hpi3.lst (a := 0) (by decide)
            have q17 : w7.cell? ⟨g + 1 + 1 + 1, 1, none⟩ = some (.slice (AA2 1) (R2 1).length (CC2 1)) := hpi3.lst (a := 1) (by decide)
            have kk7 : w7.cell? ⟨b, o + k * 4 + 2, none⟩ = some (.int .i64 key) := (HCE.out _ hpi3.bel).2.2.1
            have HPJ7 := Lib.hid hpi3
            clear hpi3 hb3
            refine hK.out _ _ ?_ (fun hHeld => ?_)
            · exact ⟨p07, p17, q07, q17, kk7⟩
            clear hK K
            try go_simp
            refine wpAnyH_take (i := 26) (oi := ?_) (v := ?_) ?_ ?_ ?_ ?_ ?_ ?_ ?_ ?_
            rotate_left 2
            · simp only [List.getElem?_toArray, List.getElem?_cons_succ, List.getElem?_cons_zero]; rfl
            · kernel_rfl
            · kernel_rfl
            · kernel_rfl
            · exact fun _ _ _ h => h
            · exact Or.inl ⟨by kernel_rfl, by intro w hSw; (try dsimp only at hSw); go_simp; try with_reducible rfl⟩
            · assumption
            try go_simp
            refine wpAnyH_take (i := 27) (oi := ?_) (v := ?_) ?_ ?_ ?_ ?_ ?_ ?_ ?_ ?_
            rotate_left 2
            · simp only [List.getElem?_toArray, List.getElem?_cons_succ, List.getElem?_cons_zero]; rfl
            · kernel_rfl
            · kernel_rfl
            · kernel_rfl
            · exact fun _ _ _ h => h
            · exact Or.inl ⟨by kernel_rfl, by intro w hSw; (try dsimp only at hSw); go_simp; try with_reducible rfl⟩
            · assumption
            try go_simp
            refine wpAnyH_done (by kernel_rfl) ?_ _
            refine NoPanic.normal ?_
            go_wp2_with fail
            go_roundg (l.length - (k + 1))
            case measure => have := HLT.out; have := HK.out; omega
            case rel => exact ⟨k + 1, S2, R2, AA2, CC2, by have := HLT.out; omega, by simp, HPJ7.out, HSJ.out⟩
    · as_aux_lemma =>
        have p0 : wr.cell? ⟨g + 1 + 1, 0, none⟩ = some (.pointer (some ⟨g, 0, none⟩)) := hpi.ptr (a := 0) (by decide)
        have HPI := Lib.hid hpi
        have HSD := Lib.hid hside
        clear hpi hside
        by_cases h1 : k < l.length
        · have h2 : ¬ (k : Int) < 60 := by omega
          have h3 : (k : Int) < (l.length : Int) := by omega
          have h4 : (60 : Int) ≤ (k : Int) := by omega
          go_wp2_with fail
          refine (take_nil g _).mono ?_
          rintro e w3 ⟨rfl, hw⟩
          obtain rfl := hw.symm
          go_wp2_with fail
          go_ret
          exact ⟨rfl, HPI.out.bel⟩
        · have h3 : ¬ (k : Int) < (l.length : Int) := by omega
          go_wp2_with fail
          refine (take_nil g _).mono ?_
          rintro e w3 ⟨rfl, hw⟩
          obtain rfl := hw.symm
          go_wp2_with fail
          go_ret
          exact ⟨rfl, HPI.out.bel⟩
end Go.Proofs.Ytknimekfkkihpaa
