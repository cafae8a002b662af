/- SparsePlays walked. -/
import Derived.Test.YtfpehefcgfhdmaaSpP
import Derived.Test.YtfpehefcgfhdmaaOpenPairs
import Derived.Deep.DeepCutAuto
import Derived.Deep.CutBlock
namespace Go.Proofs.Ytfpehefcgfhdmaa
open Go.RowKit
open Pl

theorem open_sparsePlays_0 {H : Type} {enc : TypeId × Value → H} {w : World} {base : Nat} {spare : Nat → Bool} {held : Bool} {r : Reach} {b0 : Nat} {v : Value} {d : DataW H} {p : List MemPlace}
    (hv : Value.okWide Try.prog w r b0 49 v) (h : DataW.Trod enc Try.prog w base spare held 49 v d p) :
    ∃ (A : Option Addr) (c : Nat) (l : List PlayOp), v = .slice A l.length c ∧ l.length ≤ maxLen ∧ Ops w A l := by
  obtain ⟨A, c, l, h1, h2, _, h3, h4⟩ := open_rows (s := 4) Try.underlying49 (by kernel_rfl) (by decide) hv h opcell (fun _ => rfl) OpOk (fun n cs y hl hy => by
    obtain ⟨xs, m, _, _, _, hlen, hf⟩ := DataW.trod_struct Try.underlying55 hy
    match cs, hl with
    | [c0, c1, c2, c3], _ =>
      match xs, hlen with
      | [y0, y1, y2, y3], _ =>
        have t0 := hf 0 _ rfl
        have t1 := hf 1 _ rfl
        have t2 := hf 2 _ rfl
        have t3 := hf 3 _ rfl
        obtain ⟨z0, e0, _, w0⟩ := DataW.trod_int Try.underlying5 t0
        obtain ⟨z1, e1, _⟩ := DataW.trod_bool Try.underlying4 t1
        obtain ⟨z2, e2, _, w2⟩ := DataW.trod_int Try.underlying3 t2
        obtain ⟨z3, e3, _, w3⟩ := DataW.trod_int Try.underlying30 t3
        have b0 := Go.Proofs.Ytfpehefcgfhdmaa.WfBounds.u8 w0
        have b2 := Go.Proofs.Ytfpehefcgfhdmaa.WfBounds.i64 w2
        have b3 := Go.Proofs.Ytfpehefcgfhdmaa.WfBounds.u64 w3
        have f0 : c0 = .int .u8 z0 := by simpa [show Try.prog.cellsOf 5 = 1 by kernel_rfl] using e0
        have f1 : c1 = .bool z1 := by simpa [show Try.prog.cellsOf 4 = 1 by kernel_rfl] using e1
        have f2 : c2 = .int .i64 z2 := by simpa [show Try.prog.cellsOf 3 = 1 by kernel_rfl] using e2
        have f3 : c3 = .int .u64 z3 := by simpa [show Try.prog.cellsOf 30 = 1 by kernel_rfl] using e3
        refine ⟨(z0.toNat, z1, z2, z3.toNat), ?_, by simp only; omega, b2.1, b2.2, by simp only; omega⟩
        rw [f0, f1, f2, f3, opcell]
        simp only
        rw [show ((z0.toNat : Nat) : Int) = z0 by omega, show ((z3.toNat : Nat) : Int) = z3 by omega])
  exact ⟨A, c, l, h1, h2, h3, h4⟩
set_option maxHeartbeats 12800000 in
set_option maxRecDepth 100000 in
theorem sparsePlays_walk (w : World) (A : Option Addr) (c : Nat) (l : List PlayOp) (_m : l.length ≤ maxLen) (s : Ops w A l) :
    Calls Try.prog 7 #[.slice A l.length c] w fun e w' => e = .returned (.bool true) ∧ Below w.heap.size w w' := by
  obtain ⟨hok, hp⟩ := s
  have HA := alive_t
  have HP := Lib.hid hp
  have HOK := Lib.hid hok
  clear hp hok
  have hmk : ∀ W, (Instr.makeSlice 53 (.int .i64 2) (.int .i64 2)).run Try.prog W = .ok (.slice (some ⟨W.heap.size, 0, none⟩) 2 2) (W.alloc (.cells #[.slice none 0 0, .slice none 0 0] 22)) := fun _ => by kernel_rfl
  go_enter Try.func7, Try.ntmps7
  go_wp2_with fail
  refine (HA _).mono ?_
  rintro e w1 ⟨rfl, hb1⟩
  have HB1 := Lib.hid hb1
  clear hb1
  go_wp2_with fail
  have hsi : SI w w1.heap.size (w1.heap.size + 2) (w1.heap.size + 3) (fun _ => []) (fun _ => []) (fun _ => none) (fun _ => 0) (fun _ => none) (fun _ => 0) ((((w1.alloc (.cells #[.slice none 0 0, .int .u64 0] 51)).alloc (.cells #[.slice none 0 0, .int .u64 0] 51)).alloc (.cells #[.pointer (some ⟨w1.heap.size, 0, none⟩), .pointer (some ⟨w1.heap.size + 1, 0, none⟩)] 24)).alloc (.cells #[.slice none 0 0, .slice none 0 0] 22)) := by
    have b1 : Below w1.heap.size w1 ((((w1.alloc (.cells #[.slice none 0 0, .int .u64 0] 51)).alloc (.cells #[.slice none 0 0, .int .u64 0] 51)).alloc (.cells #[.pointer (some ⟨w1.heap.size, 0, none⟩), .pointer (some ⟨w1.heap.size + 1, 0, none⟩)] 24)).alloc (.cells #[.slice none 0 0, .slice none 0 0] 22)) := ((((Below.refl _ _).alloc (Nat.le_refl _) _).alloc (by simp) _).alloc (by simp; omega) _).alloc (by simp; omega) _
    refine ⟨fun a ha => ⟨?_, Own.nil _ _ _ _⟩, fun a _ => Own.nil _ _ _ _, fun a b _ _ _ x h => (by cases h), fun a b _ _ x h => (by cases h), ?_, ?_, nextB HB1.out b1, HB1.out.size, by have := HB1.out.size; omega⟩
    · rcases (by omega : a = 0 ∨ a = 1) with rfl | rfl
      · exact (((Blk.new w1 51 #[.slice none 0 0, .int .u64 0]).alloc _).alloc _).alloc _
      · have h := Blk.new (w1.alloc (.cells #[.slice none 0 0, .int .u64 0] 51)) 51 #[.slice none 0 0, .int .u64 0]
        simp only [World.size_alloc] at h
        exact (h.alloc _).alloc _
    · have h := Blk.new ((w1.alloc (.cells #[.slice none 0 0, .int .u64 0] 51)).alloc (.cells #[.slice none 0 0, .int .u64 0] 51)) 24 #[.pointer (some ⟨w1.heap.size, 0, none⟩), .pointer (some ⟨w1.heap.size + 1, 0, none⟩)]
      simp only [World.size_alloc] at h
      exact h.alloc _
    · have h := Blk.new (((w1.alloc (.cells #[.slice none 0 0, .int .u64 0] 51)).alloc (.cells #[.slice none 0 0, .int .u64 0] 51)).alloc (.cells #[.pointer (some ⟨w1.heap.size, 0, none⟩), .pointer (some ⟨w1.heap.size + 1, 0, none⟩)] 24)) 22 #[.slice none 0 0, .slice none 0 0]
      simp only [World.size_alloc] at h
      exact h
  generalize ((((w1.alloc (.cells #[.slice none 0 0, .int .u64 0] 51)).alloc (.cells #[.slice none 0 0, .int .u64 0] 51)).alloc (.cells #[.pointer (some ⟨w1.heap.size, 0, none⟩), .pointer (some ⟨w1.heap.size + 1, 0, none⟩)] 24)).alloc (.cells #[.slice none 0 0, .slice none 0 0] 22)) = w0 at *
  have HSI0 := Lib.hid hsi
  clear hsi HB1
  generalize w1.heap.size = g at *
  go_loopg [5] (l.length) (fun gk i wr => ∃ (k : Nat) (S : Nat → List Pr) (AL : Nat → Option Addr) (CL : Nat → Nat) (AW : Nat → Option Addr) (CW : Nat → Nat), k + gk = l.length ∧ i = .int .i64 k ∧ SI w g (g + 2) (g + 3) S S AL CL AW CW wr ∧ Few k S)
  case atStart => exact ⟨0, _, _, _, _, _, Nat.zero_add _, rfl, HSI0.out, Few.nil⟩
  case round =>
    obtain ⟨k, S, AL, CL, AW, CW, hk, rfl, hsi, hfew⟩ := hrel
    by_cases hlt : k < l.length ∧ k < 60
    · obtain ⟨hlt, hlt60⟩ := hlt
      obtain ⟨⟨kind, who, key, n⟩, hp⟩ : ∃ x, l[k]? = some x := ⟨l[k], by simp [hlt]⟩
      obtain ⟨b, o, rfl, hbl, c0, c1, c2, c3⟩ := ops_cells HP.out hp
      obtain ⟨o1, o2, o3, o4⟩ := HOK.out _ (List.mem_of_getElem? hp)
      simp only at c0 c1 c2 c3 o1 o2 o3 o4
      have hkk : (k : Int) < (l.length : Int) := by omega
      have hk6 : (k : Int) < 60 := by omega
      have hk0 : (0 : Int) ≤ (k : Int) := by omega
      have hcell : ∀ W, Below w.heap.size w W → W.cell? ⟨b, o + k * 4, none⟩ = some (.int .u8 (kind : Nat)) ∧ W.cell? ⟨b, o + k * 4 + 1, none⟩ = some (.bool who) ∧ W.cell? ⟨b, o + k * 4 + 2, none⟩ = some (.int .i64 key) ∧ W.cell? ⟨b, o + k * 4 + 3, none⟩ = some (.int .u64 (n : Nat)) := fun W hW =>
        ⟨(hW.cell (p := ⟨b, o + k * 4, none⟩) hbl).trans c0, (hW.cell (p := ⟨b, o + k * 4 + 1, none⟩) hbl).trans c1, (hW.cell (p := ⟨b, o + k * 4 + 2, none⟩) hbl).trans c2, (hW.cell (p := ⟨b, o + k * 4 + 3, none⟩) hbl).trans c3⟩
      have HCE := Lib.hid hcell
      obtain ⟨d0, d1, d2, d3⟩ := hcell wr hsi.bel
      have HSI := Lib.hid hsi
      have HFW := Lib.hid hfew
      have HK := Lib.hid hk
      have HLT := Lib.hid hlt
      have HL6 := Lib.hid hlt60
      clear hsi hfew hk hlt hlt60 hp c0 c1 c2 c3 hcell
      obtain ⟨a, hae⟩ : ∃ a : Nat, a = if who then 1 else 0 := ⟨_, rfl⟩
      have ha2 : a < 2 := by rw [hae]; split <;> omega
      go_upto_if 39 with (fail)
      go_cut [6] (fun s6 wc => wr = wc ∧ s6 = .int .i64 (a : Int))
      case first =>
        cases who
        all_goals
          go_wp2_with fail
          go_meet
          case rel => exact ⟨rfl, by rw [hae]; rfl⟩
      case rest =>
        obtain ⟨rfl, rfl⟩ := hcut
        clear hae
        obtain ⟨r, hr⟩ : ∃ r, r = kind % 7 := ⟨_, rfl⟩
        have hr7 : r < 7 := by omega
        have hrr : (kind : Int) % 7 = (r : Int) := by omega
        clear hr
        obtain ⟨bb, hbb, hbb2⟩ : ∃ bb : Nat, 1 - (a : Int) = (bb : Int) ∧ bb < 2 := ⟨1 - a, by omega, by omega⟩
        go_upto_block 2 with (fail)
        have ha0 : (0 : Int) ≤ (a : Int) := by omega
        have ha1 : (a : Int) < 2 := by omega
        have dp : wr.cell? ⟨g + 1 + 1, a, none⟩ = some (.pointer (some ⟨g + a, 0, none⟩)) := HSI.out.ptr ha2
        go_cut [7, 47] (fun _ _ wc => ∃ (W5 : World) (S : Nat → List Pr) (AL : Nat → Option Addr) (CL : Nat → Nat) (AW : Nat → Option Addr) (CW : Nat → Nat), W5 = wc ∧ SI w g (g + 2) (g + 3) S S AL CL AW CW W5 ∧ Few (k + 1) S)
        case first =>
          have hr : r = 0 ∨ r = 1 ∨ r = 2 ∨ r = 3 ∨ r = 4 ∨ r = 5 ∨ r = 6 := by omega
          have hfa := HFW.out.fine a ha2
          have hla := HFW.out.len ha2
          have hta := hfa.tot
          have hl60 := HL6.out
          by_cases hadd : r = 0 ∨ r = 1 ∨ r = 2 ∨ r = 3
          · have hf := HFW.out.add ha2 (by omega) key n
            have HADD := fun W A c h => add_t (g + a) A c (S a) key n W h hfa
            have HRA := fun W A' c' base h hb => addn_t A' c' base (S a) key n W h o4 (by omega) hta hb
            generalize radd (S a) key n 0 = RR at *
            replace HADD := Lib.hid HADD
            replace HRA := Lib.hid HRA
            have HF := Lib.hid hf
            clear hf hr hfa hla hta hl60 hr7
            rcases hadd with rfl | rfl | rfl | rfl
            all_goals
              as_aux_lemma =>
                go_wp2_with fail
                refine wp_region_noPanic ?_
                refine wp_region_held_drew (S := (fun w' => w'.cell? ⟨g + 1 + 1, a, none⟩ = some (.pointer (some ⟨g + a, 0, none⟩)) ∧ w'.cell? ⟨b, o + k * 4 + 2, none⟩ = some (.int .i64 key) ∧ w'.cell? ⟨b, o + k * 4 + 3, none⟩ = some (.int .u64 (n : Nat)))) (by kernel_rfl) ⟨dp, d2, d3⟩ (fun hHeld => ?_)
                refine wpAnyH_take (i := 0) (oi := ?_) (v := ?_) ?_ ?_ ?_ ?_ ?_ ?_ ?_ ?_
                rotate_left 2
                · simp only [List.getElem?_toArray, List.getElem?_cons_zero]; rfl
                · kernel_rfl
                · kernel_rfl
                · kernel_rfl
                · exact fun _ _ _ h => h
                · exact Or.inl ⟨by kernel_rfl, by intro w hSw; (try dsimp only at hSw); go_simp; try with_reducible rfl⟩
                · assumption
                try go_simp
                refine wpAnyH_take (i := 1) (oi := ?_) (v := ?_) ?_ ?_ ?_ ?_ ?_ ?_ ?_ ?_
                rotate_left 2
                · simp only [List.getElem?_toArray, List.getElem?_cons_succ, List.getElem?_cons_zero]; rfl
                · kernel_rfl
                · kernel_rfl
                · kernel_rfl
                · exact fun _ _ _ h => h
                · exact Or.inl ⟨by kernel_rfl, by intro w hSw; (try dsimp only at hSw); go_simp; try with_reducible rfl⟩
                · assumption
                try go_simp
                refine wpAnyH_take (i := 2) (oi := ?_) (v := ?_) ?_ ?_ ?_ ?_ ?_ ?_ ?_ ?_
                rotate_left 2
                · simp only [List.getElem?_toArray, List.getElem?_cons_succ, List.getElem?_cons_zero]; rfl
                · kernel_rfl
                · kernel_rfl
                · kernel_rfl
                · exact fun _ _ _ h => h
                · exact Or.inl ⟨by kernel_rfl, by intro w hSw; (try dsimp only at hSw); go_simp; try with_reducible rfl⟩
                · assumption
                try go_simp
                refine wpAnyH_take (i := 3) (oi := ?_) (v := ?_) ?_ ?_ ?_ ?_ ?_ ?_ ?_ ?_
                rotate_left 2
                · simp only [List.getElem?_toArray, List.getElem?_cons_succ, List.getElem?_cons_zero]; rfl
                · kernel_rfl
                · kernel_rfl
                · kernel_rfl
                · exact fun _ _ _ h => h
                · exact Or.inl ⟨by kernel_rfl, by intro w hSw; (try dsimp only at hSw); go_simp; try with_reducible rfl⟩
                · assumption
                try go_simp
                refine wpAnyH_take (i := 4) (oi := ?_) (v := ?_) ?_ ?_ ?_ ?_ ?_ ?_ ?_ ?_
                rotate_left 2
                · simp only [List.getElem?_toArray, List.getElem?_cons_succ, List.getElem?_cons_zero]; rfl
                · kernel_rfl
                · kernel_rfl
                · kernel_rfl
                · exact fun _ _ _ h => h
                · exact Or.inl ⟨by kernel_rfl, by intro w hSw; (try dsimp only at hSw); go_simp; try with_reducible rfl⟩
                · assumption
                try go_simp
                refine wpAnyH_take (i := 5) (oi := ?_) (v := ?_) ?_ ?_ ?_ ?_ ?_ ?_ ?_ ?_
                rotate_left 2
                · simp only [List.getElem?_toArray, List.getElem?_cons_succ, List.getElem?_cons_zero]; rfl
                · kernel_rfl
                · kernel_rfl
                · kernel_rfl
                · exact fun _ _ _ h => h
                · exact Or.inl ⟨by kernel_rfl, by intro w hSw; (try dsimp only at hSw); go_simp; try with_reducible rfl⟩
                · assumption
                try go_simp
                refine wpAnyH_take (i := 6) (oi := ?_) (v := ?_) ?_ ?_ ?_ ?_ ?_ ?_ ?_ ?_
                rotate_left 2
                · simp only [List.getElem?_toArray, List.getElem?_cons_succ, List.getElem?_cons_zero]; rfl
                · kernel_rfl
                · kernel_rfl
                · kernel_rfl
                · exact fun _ _ _ h => h
                · exact Or.inl ⟨by kernel_rfl, by intro w hSw; (try dsimp only at hSw); go_simp; try with_reducible rfl⟩
                · assumption
                try go_simp
                refine wpAnyH_take (i := 7) (oi := ?_) (v := ?_) ?_ ?_ ?_ ?_ ?_ ?_ ?_ ?_
                rotate_left 2
                · simp only [List.getElem?_toArray, List.getElem?_cons_succ, List.getElem?_cons_zero]; rfl
                · kernel_rfl
                · kernel_rfl
                · kernel_rfl
                · exact fun _ _ _ h => h
                · exact Or.inl ⟨by kernel_rfl, by intro w hSw; (try dsimp only at hSw); go_simp; try with_reducible rfl⟩
                · assumption
                try go_simp
                refine wpAnyH_take (i := 8) (oi := ?_) (v := ?_) ?_ ?_ ?_ ?_ ?_ ?_ ?_ ?_
                rotate_left 2
                · simp only [List.getElem?_toArray, List.getElem?_cons_succ, List.getElem?_cons_zero]; rfl
                · kernel_rfl
                · kernel_rfl
                · kernel_rfl
                · exact fun _ _ _ h => h
                · exact Or.inl ⟨by kernel_rfl, by intro w hSw; (try dsimp only at hSw); go_simp; try with_reducible rfl⟩
                · assumption
                try go_simp
                refine wpAnyH_take (i := 9) (oi := ?_) (v := ?_) ?_ ?_ ?_ ?_ ?_ ?_ ?_ ?_
                rotate_left 2
                · simp only [List.getElem?_toArray, List.getElem?_cons_succ, List.getElem?_cons_zero]; rfl
                · kernel_rfl
                · kernel_rfl
                · kernel_rfl
                · exact fun _ _ _ h => h
                · exact Or.inl ⟨by kernel_rfl, by intro w hSw; (try dsimp only at hSw); go_simp; try with_reducible rfl⟩
                · assumption
                try go_simp
                refine wpAnyH_take (i := 10) (oi := ?_) (v := ?_) ?_ ?_ ?_ ?_ ?_ ?_ ?_ ?_
                rotate_left 2
                · simp only [List.getElem?_toArray, List.getElem?_cons_succ, List.getElem?_cons_zero]; rfl
                · kernel_rfl
                · kernel_rfl
                · kernel_rfl
                · exact fun _ _ _ h => h
                · exact Or.inl ⟨by kernel_rfl, by intro w hSw; (try dsimp only at hSw); go_simp; try with_reducible rfl⟩
                · assumption
                try go_simp
                refine wpAnyH_take (i := 11) (oi := ?_) (v := ?_) ?_ ?_ ?_ ?_ ?_ ?_ ?_ ?_
                rotate_left 2
                · simp only [List.getElem?_toArray, List.getElem?_cons_succ, List.getElem?_cons_zero]; rfl
                · kernel_rfl
                · kernel_rfl
                · kernel_rfl
                · exact fun _ _ _ h => h
                · exact Or.inl ⟨by kernel_rfl, by intro w hSw; (try dsimp only at hSw); go_simp; try with_reducible rfl⟩
                · assumption
                try go_simp
                refine wpAnyH_take (i := 12) (oi := ?_) (v := ?_) ?_ ?_ ?_ ?_ ?_ ?_ ?_ ?_
                rotate_left 2
                · simp only [List.getElem?_toArray, List.getElem?_cons_succ, List.getElem?_cons_zero]; rfl
                · kernel_rfl
                · kernel_rfl
                · kernel_rfl
                · exact fun _ _ _ h => h
                · exact Or.inl ⟨by kernel_rfl, by intro w hSw; (try dsimp only at hSw); go_simp; try with_reducible rfl⟩
                · assumption
                try go_simp
                refine wpAnyH_take (i := 13) (oi := ?_) (v := ?_) ?_ ?_ ?_ ?_ ?_ ?_ ?_ ?_
                rotate_left 2
                · simp only [List.getElem?_toArray, List.getElem?_cons_succ, List.getElem?_cons_zero]; rfl
                · kernel_rfl
                · kernel_rfl
                · kernel_rfl
                · exact fun _ _ _ h => h
                · exact Or.inl ⟨by kernel_rfl, by intro w hSw; (try dsimp only at hSw); go_simp; try with_reducible rfl⟩
                · assumption
                try go_simp
                refine wpAnyH_ready (rs := [14]) (by kernel_rfl) (by simp) ?_
                refine AllReadyH.cons (o := ?_) ?_ ?_ AllReadyH.nil
                rotate_left 1
                · simp only [List.getElem?_toArray, List.getElem?_cons_succ, List.getElem?_cons_zero]; rfl
                intro K hK
                go_simp
                refine (HADD.out wr.drew _ _ ((HSI.out.drewN 1).lst a ha2)).mono ?_
                rintro e w2 ⟨rfl, hc2⟩
                obtain ⟨A2, c2, hac⟩ := hc2.acted
                have hsi2 : SI w g (g + 2) (g + 3) (upd S a RR.1) S (upd AL a A2) (upd CL a c2) AW CW w2 := SI.act (wr := wr.drew) (HSI.out.drewN 1) ha2 hac
                obtain ⟨_, _, f2, f3⟩ := HCE.out w2 hsi2.bel
                have fp : w2.cell? ⟨g + 1 + 1, a, none⟩ = some (.pointer (some ⟨g + a, 0, none⟩)) := hsi2.ptr ha2
                have fl : w2.cell? ⟨g + 1 + 1 + 1, a, none⟩ = some (.slice (AW a) (S a).length (CW a)) := hsi2.row ha2
                have HSI2 := Lib.hid hsi2
                clear hc2 hac hsi2
                refine hK.out _ _ ?_ (fun hHeld => ?_)
                · exact ⟨fp, f2, f3⟩
                clear hK K
                try go_simp
                refine wpAnyH_take (i := 15) (oi := ?_) (v := ?_) ?_ ?_ ?_ ?_ ?_ ?_ ?_ ?_
                rotate_left 2
                · simp only [List.getElem?_toArray, List.getElem?_cons_succ, List.getElem?_cons_zero]; rfl
                · kernel_rfl
                · kernel_rfl
                · kernel_rfl
                · exact fun _ _ _ h => h
                · exact Or.inl ⟨by kernel_rfl, by intro w hSw; (try dsimp only at hSw); go_simp; try with_reducible rfl⟩
                · assumption
                try go_simp
                refine wpAnyH_done (by kernel_rfl) ?_ _
                refine NoPanic.normal ?_
                go_wp2_with fail
                refine wp_region_noPanic ?_
                refine wp_region_held_drew (S := (fun w' => w'.cell? ⟨g + 1 + 1 + 1, a, none⟩ = some (.slice (AW a) (S a).length (CW a)) ∧ w'.cell? ⟨b, o + k * 4 + 2, none⟩ = some (.int .i64 key) ∧ w'.cell? ⟨b, o + k * 4 + 3, none⟩ = some (.int .u64 (n : Nat)))) (by kernel_rfl) ⟨fl, f2, f3⟩ (fun hHeld => ?_)
                refine wpAnyH_take (i := 0) (oi := ?_) (v := ?_) ?_ ?_ ?_ ?_ ?_ ?_ ?_ ?_
                rotate_left 2
                · simp only [List.getElem?_toArray, List.getElem?_cons_zero]; rfl
                · kernel_rfl
                · kernel_rfl
                · kernel_rfl
                · exact fun _ _ _ h => h
                · exact Or.inl ⟨by kernel_rfl, by intro w hSw; (try dsimp only at hSw); go_simp; try with_reducible rfl⟩
                · assumption
                try go_simp
                refine wpAnyH_take (i := 1) (oi := ?_) (v := ?_) ?_ ?_ ?_ ?_ ?_ ?_ ?_ ?_
                rotate_left 2
                · simp only [List.getElem?_toArray, List.getElem?_cons_succ, List.getElem?_cons_zero]; rfl
                · kernel_rfl
                · kernel_rfl
                · kernel_rfl
                · exact fun _ _ _ h => h
                · exact Or.inl ⟨by kernel_rfl, by intro w hSw; (try dsimp only at hSw); go_simp; try with_reducible rfl⟩
                · assumption
                try go_simp
                refine wpAnyH_take (i := 2) (oi := ?_) (v := ?_) ?_ ?_ ?_ ?_ ?_ ?_ ?_ ?_
                rotate_left 2
                · simp only [List.getElem?_toArray, List.getElem?_cons_succ, List.getElem?_cons_zero]; rfl
                · kernel_rfl
                · kernel_rfl
                · kernel_rfl
                · exact fun _ _ _ h => h
                · exact Or.inl ⟨by kernel_rfl, by intro w hSw; (try dsimp only at hSw); go_simp; try with_reducible rfl⟩
                · assumption
                try go_simp
                refine wpAnyH_take (i := 3) (oi := ?_) (v := ?_) ?_ ?_ ?_ ?_ ?_ ?_ ?_ ?_
                rotate_left 2
                · simp only [List.getElem?_toArray, List.getElem?_cons_succ, List.getElem?_cons_zero]; rfl
                · kernel_rfl
                · kernel_rfl
                · kernel_rfl
                · exact fun _ _ _ h => h
                · exact Or.inl ⟨by kernel_rfl, by intro w hSw; (try dsimp only at hSw); go_simp; try with_reducible rfl⟩
                · assumption
                try go_simp
                refine wpAnyH_take (i := 4) (oi := ?_) (v := ?_) ?_ ?_ ?_ ?_ ?_ ?_ ?_ ?_
                rotate_left 2
                · simp only [List.getElem?_toArray, List.getElem?_cons_succ, List.getElem?_cons_zero]; rfl
                · kernel_rfl
                · kernel_rfl
                · kernel_rfl
                · exact fun _ _ _ h => h
                · exact Or.inl ⟨by kernel_rfl, by intro w hSw; (try dsimp only at hSw); go_simp; try with_reducible rfl⟩
                · assumption
                try go_simp
                refine wpAnyH_take (i := 5) (oi := ?_) (v := ?_) ?_ ?_ ?_ ?_ ?_ ?_ ?_ ?_
                rotate_left 2
                · simp only [List.getElem?_toArray, List.getElem?_cons_succ, List.getElem?_cons_zero]; rfl
                · kernel_rfl
                · kernel_rfl
                · kernel_rfl
                · exact fun _ _ _ h => h
                · exact Or.inl ⟨by kernel_rfl, by intro w hSw; (try dsimp only at hSw); go_simp; try with_reducible rfl⟩
                · assumption
                try go_simp
                refine wpAnyH_take (i := 6) (oi := ?_) (v := ?_) ?_ ?_ ?_ ?_ ?_ ?_ ?_ ?_
                rotate_left 2
                · simp only [List.getElem?_toArray, List.getElem?_cons_succ, List.getElem?_cons_zero]; rfl
                · kernel_rfl
                · kernel_rfl
                · kernel_rfl
                · exact fun _ _ _ h => h
                · exact Or.inl ⟨by kernel_rfl, by intro w hSw; (try dsimp only at hSw); go_simp; try with_reducible rfl⟩
                · assumption
                try go_simp
                refine wpAnyH_take (i := 7) (oi := ?_) (v := ?_) ?_ ?_ ?_ ?_ ?_ ?_ ?_ ?_
                rotate_left 2
                · simp only [List.getElem?_toArray, List.getElem?_cons_succ, List.getElem?_cons_zero]; rfl
                · kernel_rfl
                · kernel_rfl
                · kernel_rfl
                · exact fun _ _ _ h => h
                · exact Or.inl ⟨by kernel_rfl, by intro w hSw; (try dsimp only at hSw); go_simp; try with_reducible rfl⟩
                · assumption
                try go_simp
                refine wpAnyH_take (i := 8) (oi := ?_) (v := ?_) ?_ ?_ ?_ ?_ ?_ ?_ ?_ ?_
                rotate_left 2
                · simp only [List.getElem?_toArray, List.getElem?_cons_succ, List.getElem?_cons_zero]; rfl
                · kernel_rfl
                · kernel_rfl
                · kernel_rfl
                · exact fun _ _ _ h => h
                · exact Or.inl ⟨by kernel_rfl, by intro w hSw; (try dsimp only at hSw); go_simp; try with_reducible rfl⟩
                · assumption
                try go_simp
                refine wpAnyH_take (i := 9) (oi := ?_) (v := ?_) ?_ ?_ ?_ ?_ ?_ ?_ ?_ ?_
                rotate_left 2
                · simp only [List.getElem?_toArray, List.getElem?_cons_succ, List.getElem?_cons_zero]; rfl
                · kernel_rfl
                · kernel_rfl
                · kernel_rfl
                · exact fun _ _ _ h => h
                · exact Or.inl ⟨by kernel_rfl, by intro w hSw; (try dsimp only at hSw); go_simp; try with_reducible rfl⟩
                · assumption
                try go_simp
                refine wpAnyH_take (i := 10) (oi := ?_) (v := ?_) ?_ ?_ ?_ ?_ ?_ ?_ ?_ ?_
                rotate_left 2
                · simp only [List.getElem?_toArray, List.getElem?_cons_succ, List.getElem?_cons_zero]; rfl
                · kernel_rfl
                · kernel_rfl
                · kernel_rfl
                · exact fun _ _ _ h => h
                · exact Or.inl ⟨by kernel_rfl, by intro w hSw; (try dsimp only at hSw); go_simp; try with_reducible rfl⟩
                · assumption
                try go_simp
                refine wpAnyH_take (i := 11) (oi := ?_) (v := ?_) ?_ ?_ ?_ ?_ ?_ ?_ ?_ ?_
                rotate_left 2
                · simp only [List.getElem?_toArray, List.getElem?_cons_succ, List.getElem?_cons_zero]; rfl
                · kernel_rfl
                · kernel_rfl
                · kernel_rfl
                · exact fun _ _ _ h => h
                · exact Or.inl ⟨by kernel_rfl, by intro w hSw; (try dsimp only at hSw); go_simp; try with_reducible rfl⟩
                · assumption
                try go_simp
                refine wpAnyH_take (i := 12) (oi := ?_) (v := ?_) ?_ ?_ ?_ ?_ ?_ ?_ ?_ ?_
                rotate_left 2
                · simp only [List.getElem?_toArray, List.getElem?_cons_succ, List.getElem?_cons_zero]; rfl
                · kernel_rfl
                · kernel_rfl
                · kernel_rfl
                · exact fun _ _ _ h => h
                · exact Or.inl ⟨by kernel_rfl, by intro w hSw; (try dsimp only at hSw); go_simp; try with_reducible rfl⟩
                · assumption
                try go_simp
                refine wpAnyH_take (i := 13) (oi := ?_) (v := ?_) ?_ ?_ ?_ ?_ ?_ ?_ ?_ ?_
                rotate_left 2
                · simp only [List.getElem?_toArray, List.getElem?_cons_succ, List.getElem?_cons_zero]; rfl
                · kernel_rfl
                · kernel_rfl
                · kernel_rfl
                · exact fun _ _ _ h => h
                · exact Or.inl ⟨by kernel_rfl, by intro w hSw; (try dsimp only at hSw); go_simp; try with_reducible rfl⟩
                · assumption
                try go_simp
                refine wpAnyH_ready (rs := [14]) (by kernel_rfl) (by simp) ?_
                refine AllReadyH.cons (o := ?_) ?_ ?_ AllReadyH.nil
                rotate_left 1
                · simp only [List.getElem?_toArray, List.getElem?_cons_succ, List.getElem?_cons_zero]; rfl
                intro K hK
                go_simp
                refine (HRA.out w2.drew (AW a) (CW a) w.heap.size ((HSI2.out.drewN 1).own a ha2) HSI2.out.bel.size).mono ?_
                rintro e w3 ⟨A3, c3, rfl, ho3, hb3, hn3⟩
                have hsi3 : SI w g (g + 2) (g + 3) (upd S a RR.1) S (upd AL a A2) (upd CL a c2) AW CW w3 := SI.below (wr := w2.drew) (HSI2.out.drewN 1) hb3
                have hap := SI.apart (wr := w2.drew) (HSI2.out.drewN 1) ha2 hn3
                have gf : w3.frozen? ⟨g + 1 + 1 + 1, a, none⟩ = false := hsi3.bwl.free a
                obtain ⟨_, _, g2, g3⟩ := HCE.out w3 hsi3.bel
                have gl : w3.cell? ⟨g + 1 + 1 + 1, a, none⟩ = some (.slice (AW a) (S a).length (CW a)) := hsi3.row ha2
                have HSI3 := Lib.hid hsi3
                have HO3 := Lib.hid ho3
                have HAP := Lib.hid hap
                clear ho3 hb3 hn3 hsi3 hap
                refine hK.out _ _ ?_ (fun hHeld => ?_)
                · exact ⟨gl, g2, g3⟩
                clear hK K
                try go_simp
                refine wpAnyH_take (i := 15) (oi := ?_) (v := ?_) ?_ ?_ ?_ ?_ ?_ ?_ ?_ ?_
                rotate_left 2
                · simp only [List.getElem?_toArray, List.getElem?_cons_succ, List.getElem?_cons_zero]; rfl
                · kernel_rfl
                · kernel_rfl
                · kernel_rfl
                · exact fun _ _ _ h => h
                · exact Or.inl ⟨by kernel_rfl, by intro w hSw; (try dsimp only at hSw); go_simp; try with_reducible rfl⟩
                · assumption
                try go_simp
                refine wpAnyH_take (i := 16) (oi := ?_) (v := ?_) ?_ ?_ ?_ ?_ ?_ ?_ ?_ ?_
                rotate_left 2
                · simp only [List.getElem?_toArray, List.getElem?_cons_succ, List.getElem?_cons_zero]; rfl
                · kernel_rfl
                · kernel_rfl
                · kernel_rfl
                · exact fun _ _ _ h => h
                · exact Or.inl ⟨by kernel_rfl, by intro w hSw; (try dsimp only at hSw); go_simp; try with_reducible rfl⟩
                · assumption
                try go_simp
                refine wpAnyH_take (i := 17) (oi := ?_) (v := ?_) ?_ ?_ ?_ ?_ ?_ ?_ ?_ ?_
                rotate_left 2
                · simp only [List.getElem?_toArray, List.getElem?_cons_succ, List.getElem?_cons_zero]; rfl
                · kernel_rfl
                · kernel_rfl
                · kernel_rfl
                · exact fun _ _ _ h => h
                · exact Or.inl ⟨by kernel_rfl, by intro w hSw; (try dsimp only at hSw); go_simp; try with_reducible rfl⟩
                · assumption
                try go_simp
                refine wpAnyH_take (i := 18) (oi := ?_) (v := ?_) ?_ ?_ ?_ ?_ ?_ ?_ ?_ ?_
                rotate_left 2
                · simp only [List.getElem?_toArray, List.getElem?_cons_succ, List.getElem?_cons_zero]; rfl
                · kernel_rfl
                · kernel_rfl
                · kernel_rfl
                · exact fun _ _ _ h => h
                · exact Or.inl ⟨by kernel_rfl, by intro w hSw; (try dsimp only at hSw); go_simp; try with_reducible rfl⟩
                · assumption
                try go_simp
                refine wpAnyH_take (i := 19) (oi := ?_) (v := ?_) ?_ ?_ ?_ ?_ ?_ ?_ ?_ ?_
                rotate_left 2
                · simp only [List.getElem?_toArray, List.getElem?_cons_succ, List.getElem?_cons_zero]; rfl
                · kernel_rfl
                · kernel_rfl
                · kernel_rfl
                · exact fun _ _ _ h => h
                · exact Or.inl ⟨by kernel_rfl, by intro w hSw; (try dsimp only at hSw); go_simp; try with_reducible rfl⟩
                · assumption
                try go_simp
                refine wpAnyH_done (by kernel_rfl) ?_ _
                refine NoPanic.normal ?_
                go_wp2_with fail
                go_meet
                case rel => exact ⟨_, _, _, _, _, _, rfl, SI.put HSI3.out ha2 HO3.out HAP.out, HF.out⟩
          · by_cases htk : r = 4 ∨ r = 5
            · rcases htk with rfl | rfl
              · as_aux_lemma =>
                  have hfb := HFW.out.fine bb hbb2
                  have hlb := HFW.out.len hbb2
                  have htb := hfb.tot
                  have hb0 : (0 : Int) ≤ (bb : Int) := by omega
                  have hb1 : (bb : Int) < 2 := by omega
                  have dpb : wr.cell? ⟨g + 1 + 1, bb, none⟩ = some (.pointer (some ⟨g + bb, 0, none⟩)) := HSI.out.ptr hbb2
                  have hf := HFW.out.take ha2 hbb2 (by omega)
                  have HTK := fun W A c A' c' h h' => take_t (g + a) (g + bb) A A' c c' (S a) (S bb) W h h' hfa hfb (by omega)
                  have HRT := fun W A1 c1 A2 c2 base h h2 hb => taken_0 A1 A2 c1 c2 base (S a) (S bb) W h h2 (by omega) (by omega) hta htb hb
                  generalize rtake (S a) (S bb) 0 = RR at *
                  replace HTK := Lib.hid HTK
                  replace HRT := Lib.hid HRT
                  have HF := Lib.hid hf
                  clear hf hr hfa hla hta hl60 hr7 hfb hlb htb
                  go_wp2_with fail
                  refine wp_region_noPanic ?_
                  refine wp_region_held_drew (S := (fun w' => w'.cell? ⟨g + 1 + 1, a, none⟩ = some (.pointer (some ⟨g + a, 0, none⟩)) ∧ w'.cell? ⟨g + 1 + 1, bb, none⟩ = some (.pointer (some ⟨g + bb, 0, none⟩)))) (by kernel_rfl) ⟨dp, dpb⟩ (fun hHeld => ?_)
                  refine wpAnyH_take (i := 0) (oi := ?_) (v := ?_) ?_ ?_ ?_ ?_ ?_ ?_ ?_ ?_
                  rotate_left 2
                  · simp only [List.getElem?_toArray, List.getElem?_cons_zero]; rfl
                  · kernel_rfl
                  · kernel_rfl
                  · kernel_rfl
                  · exact fun _ _ _ h => h
                  · exact Or.inl ⟨by kernel_rfl, by intro w hSw; (try dsimp only at hSw); go_simp; try with_reducible rfl⟩
                  · assumption
                  try go_simp
                  refine wpAnyH_take (i := 1) (oi := ?_) (v := ?_) ?_ ?_ ?_ ?_ ?_ ?_ ?_ ?_
                  rotate_left 2
                  · simp only [List.getElem?_toArray, List.getElem?_cons_succ, List.getElem?_cons_zero]; rfl
                  · kernel_rfl
                  · kernel_rfl
                  · kernel_rfl
                  · exact fun _ _ _ h => h
                  · exact Or.inl ⟨by kernel_rfl, by intro w hSw; (try dsimp only at hSw); go_simp; try with_reducible rfl⟩
                  · assumption
                  try go_simp
                  refine wpAnyH_take (i := 2) (oi := ?_) (v := ?_) ?_ ?_ ?_ ?_ ?_ ?_ ?_ ?_
                  rotate_left 2
                  · simp only [List.getElem?_toArray, List.getElem?_cons_succ, List.getElem?_cons_zero]; rfl
                  · kernel_rfl
                  · kernel_rfl
                  · kernel_rfl
                  · exact fun _ _ _ h => h
                  · exact Or.inl ⟨by kernel_rfl, by intro w hSw; (try dsimp only at hSw); go_simp; try with_reducible rfl⟩
                  · assumption
                  try go_simp
                  refine wpAnyH_take (i := 3) (oi := ?_) (v := ?_) ?_ ?_ ?_ ?_ ?_ ?_ ?_ ?_
                  rotate_left 2
                  · simp only [List.getElem?_toArray, List.getElem?_cons_succ, List.getElem?_cons_zero]; rfl
                  · kernel_rfl
                  · kernel_rfl
                  · kernel_rfl
                  · exact fun _ _ _ h => h
                  · exact Or.inl ⟨by kernel_rfl, by intro w hSw; (try dsimp only at hSw); go_simp; try with_reducible rfl⟩
                  · assumption
                  try go_simp
                  refine wpAnyH_take (i := 4) (oi := ?_) (v := ?_) ?_ ?_ ?_ ?_ ?_ ?_ ?_ ?_
                  rotate_left 2
                  · simp only [List.getElem?_toArray, List.getElem?_cons_succ, List.getElem?_cons_zero]; rfl
                  · kernel_rfl
                  · kernel_rfl
                  · kernel_rfl
                  · exact fun _ _ _ h => h
                  · exact Or.inl ⟨by kernel_rfl, by intro w hSw; (try dsimp only at hSw); go_simp; try with_reducible rfl⟩
                  · assumption
                  try go_simp
                  refine wpAnyH_take (i := 5) (oi := ?_) (v := ?_) ?_ ?_ ?_ ?_ ?_ ?_ ?_ ?_
                  rotate_left 2
                  · simp only [List.getElem?_toArray, List.getElem?_cons_succ, List.getElem?_cons_zero]; rfl
                  · kernel_rfl
                  · kernel_rfl
                  · kernel_rfl
                  · exact fun _ _ _ h => h
                  · exact Or.inl ⟨by kernel_rfl, by intro w hSw; (try dsimp only at hSw); go_simp; try with_reducible rfl⟩
                  · assumption
                  try go_simp
                  refine wpAnyH_take (i := 6) (oi := ?_) (v := ?_) ?_ ?_ ?_ ?_ ?_ ?_ ?_ ?_
                  rotate_left 2
                  · simp only [List.getElem?_toArray, List.getElem?_cons_succ, List.getElem?_cons_zero]; rfl
                  · kernel_rfl
                  · kernel_rfl
                  · kernel_rfl
                  · exact fun _ _ _ h => h
                  · exact Or.inl ⟨by kernel_rfl, by intro w hSw; (try dsimp only at hSw); go_simp; try with_reducible rfl⟩
                  · assumption
                  try go_simp
                  refine wpAnyH_take (i := 7) (oi := ?_) (v := ?_) ?_ ?_ ?_ ?_ ?_ ?_ ?_ ?_
                  rotate_left 2
                  · simp only [List.getElem?_toArray, List.getElem?_cons_succ, List.getElem?_cons_zero]; rfl
                  · kernel_rfl
                  · kernel_rfl
                  · kernel_rfl
                  · exact fun _ _ _ h => h
                  · exact Or.inl ⟨by kernel_rfl, by intro w hSw; (try dsimp only at hSw); go_simp; try with_reducible rfl⟩
                  · assumption
                  try go_simp
                  refine wpAnyH_ready (rs := [8]) (by kernel_rfl) (by simp) ?_
                  refine AllReadyH.cons (o := ?_) ?_ ?_ AllReadyH.nil
                  rotate_left 1
                  · simp only [List.getElem?_toArray, List.getElem?_cons_succ, List.getElem?_cons_zero]; rfl
                  intro K hK
                  go_simp
                  refine (HTK.out wr.drew _ _ _ _ ((HSI.out.drewN 1).lst a ha2) ((HSI.out.drewN 1).lst bb hbb2)).mono ?_
                  rintro e w2 ⟨rfl, hc2⟩
                  obtain ⟨A2, c2, hac⟩ := hc2.acted
                  have hsi2 : SI w g (g + 2) (g + 3) (upd S a RR.1) S (upd AL a A2) (upd CL a c2) AW CW w2 := SI.act (wr := wr.drew) (HSI.out.drewN 1) ha2 hac
                  have fp : w2.cell? ⟨g + 1 + 1, a, none⟩ = some (.pointer (some ⟨g + a, 0, none⟩)) := hsi2.ptr ha2
                  have fpb : w2.cell? ⟨g + 1 + 1, bb, none⟩ = some (.pointer (some ⟨g + bb, 0, none⟩)) := hsi2.ptr hbb2
                  have fl : w2.cell? ⟨g + 1 + 1 + 1, a, none⟩ = some (.slice (AW a) (S a).length (CW a)) := hsi2.row ha2
                  have flb : w2.cell? ⟨g + 1 + 1 + 1, bb, none⟩ = some (.slice (AW bb) (S bb).length (CW bb)) := hsi2.row hbb2
                  have HSI2 := Lib.hid hsi2
                  clear hc2 hac hsi2
                  refine hK.out _ _ ?_ (fun hHeld => ?_)
                  · first | exact ⟨fp, fpb⟩ | exact fp
                  clear hK K
                  try go_simp
                  refine wpAnyH_take (i := 9) (oi := ?_) (v := ?_) ?_ ?_ ?_ ?_ ?_ ?_ ?_ ?_
                  rotate_left 2
                  · simp only [List.getElem?_toArray, List.getElem?_cons_succ, List.getElem?_cons_zero]; rfl
                  · kernel_rfl
                  · kernel_rfl
                  · kernel_rfl
                  · exact fun _ _ _ h => h
                  · exact Or.inl ⟨by kernel_rfl, by intro w hSw; (try dsimp only at hSw); go_simp; try with_reducible rfl⟩
                  · assumption
                  try go_simp
                  refine wpAnyH_done (by kernel_rfl) ?_ _
                  refine NoPanic.normal ?_
                  go_wp2_with fail
                  refine wp_region_noPanic ?_
                  refine wp_region_held_drew (S := (fun w' => w'.cell? ⟨g + 1 + 1 + 1, a, none⟩ = some (.slice (AW a) (S a).length (CW a)) ∧ w'.cell? ⟨g + 1 + 1 + 1, bb, none⟩ = some (.slice (AW bb) (S bb).length (CW bb)))) (by kernel_rfl) ⟨fl, flb⟩ (fun hHeld => ?_)
                  refine wpAnyH_take (i := 0) (oi := ?_) (v := ?_) ?_ ?_ ?_ ?_ ?_ ?_ ?_ ?_
                  rotate_left 2
                  · simp only [List.getElem?_toArray, List.getElem?_cons_zero]; rfl
                  · kernel_rfl
                  · kernel_rfl
                  · kernel_rfl
                  · exact fun _ _ _ h => h
                  · exact Or.inl ⟨by kernel_rfl, by intro w hSw; (try dsimp only at hSw); go_simp; try with_reducible rfl⟩
                  · assumption
                  try go_simp
                  refine wpAnyH_take (i := 1) (oi := ?_) (v := ?_) ?_ ?_ ?_ ?_ ?_ ?_ ?_ ?_
                  rotate_left 2
                  · simp only [List.getElem?_toArray, List.getElem?_cons_succ, List.getElem?_cons_zero]; rfl
                  · kernel_rfl
                  · kernel_rfl
                  · kernel_rfl
                  · exact fun _ _ _ h => h
                  · exact Or.inl ⟨by kernel_rfl, by intro w hSw; (try dsimp only at hSw); go_simp; try with_reducible rfl⟩
                  · assumption
                  try go_simp
                  refine wpAnyH_take (i := 2) (oi := ?_) (v := ?_) ?_ ?_ ?_ ?_ ?_ ?_ ?_ ?_
                  rotate_left 2
                  · simp only [List.getElem?_toArray, List.getElem?_cons_succ, List.getElem?_cons_zero]; rfl
                  · kernel_rfl
                  · kernel_rfl
                  · kernel_rfl
                  · exact fun _ _ _ h => h
                  · exact Or.inl ⟨by kernel_rfl, by intro w hSw; (try dsimp only at hSw); go_simp; try with_reducible rfl⟩
                  · assumption
                  try go_simp
                  refine wpAnyH_take (i := 3) (oi := ?_) (v := ?_) ?_ ?_ ?_ ?_ ?_ ?_ ?_ ?_
                  rotate_left 2
                  · simp only [List.getElem?_toArray, List.getElem?_cons_succ, List.getElem?_cons_zero]; rfl
                  · kernel_rfl
                  · kernel_rfl
                  · kernel_rfl
                  · exact fun _ _ _ h => h
                  · exact Or.inl ⟨by kernel_rfl, by intro w hSw; (try dsimp only at hSw); go_simp; try with_reducible rfl⟩
                  · assumption
                  try go_simp
                  refine wpAnyH_take (i := 4) (oi := ?_) (v := ?_) ?_ ?_ ?_ ?_ ?_ ?_ ?_ ?_
                  rotate_left 2
                  · simp only [List.getElem?_toArray, List.getElem?_cons_succ, List.getElem?_cons_zero]; rfl
                  · kernel_rfl
                  · kernel_rfl
                  · kernel_rfl
                  · exact fun _ _ _ h => h
                  · exact Or.inl ⟨by kernel_rfl, by intro w hSw; (try dsimp only at hSw); go_simp; try with_reducible rfl⟩
                  · assumption
                  try go_simp
                  refine wpAnyH_take (i := 5) (oi := ?_) (v := ?_) ?_ ?_ ?_ ?_ ?_ ?_ ?_ ?_
                  rotate_left 2
                  · simp only [List.getElem?_toArray, List.getElem?_cons_succ, List.getElem?_cons_zero]; rfl
                  · kernel_rfl
                  · kernel_rfl
                  · kernel_rfl
                  · exact fun _ _ _ h => h
                  · exact Or.inl ⟨by kernel_rfl, by intro w hSw; (try dsimp only at hSw); go_simp; try with_reducible rfl⟩
                  · assumption
                  try go_simp
                  refine wpAnyH_take (i := 6) (oi := ?_) (v := ?_) ?_ ?_ ?_ ?_ ?_ ?_ ?_ ?_
                  rotate_left 2
                  · simp only [List.getElem?_toArray, List.getElem?_cons_succ, List.getElem?_cons_zero]; rfl
                  · kernel_rfl
                  · kernel_rfl
                  · kernel_rfl
                  · exact fun _ _ _ h => h
                  · exact Or.inl ⟨by kernel_rfl, by intro w hSw; (try dsimp only at hSw); go_simp; try with_reducible rfl⟩
                  · assumption
                  try go_simp
                  refine wpAnyH_take (i := 7) (oi := ?_) (v := ?_) ?_ ?_ ?_ ?_ ?_ ?_ ?_ ?_
                  rotate_left 2
                  · simp only [List.getElem?_toArray, List.getElem?_cons_succ, List.getElem?_cons_zero]; rfl
                  · kernel_rfl
                  · kernel_rfl
                  · kernel_rfl
                  · exact fun _ _ _ h => h
                  · exact Or.inl ⟨by kernel_rfl, by intro w hSw; (try dsimp only at hSw); go_simp; try with_reducible rfl⟩
                  · assumption
                  try go_simp
                  refine wpAnyH_ready (rs := [8]) (by kernel_rfl) (by simp) ?_
                  refine AllReadyH.cons (o := ?_) ?_ ?_ AllReadyH.nil
                  rotate_left 1
                  · simp only [List.getElem?_toArray, List.getElem?_cons_succ, List.getElem?_cons_zero]; rfl
                  intro K hK
                  go_simp
                  refine (HRT.out w2.drew (AW a) (CW a) (AW bb) (CW bb) w.heap.size ((HSI2.out.drewN 1).own a ha2) ((HSI2.out.drewN 1).own bb hbb2).reads HSI2.out.bel.size).mono ?_
                  rintro e w3 ⟨A3, c3, rfl, ho3, hb3, hn3⟩
                  have hsi3 : SI w g (g + 2) (g + 3) (upd S a RR.1) S (upd AL a A2) (upd CL a c2) AW CW w3 := SI.below (wr := w2.drew) (HSI2.out.drewN 1) hb3
                  have hap := SI.apart (wr := w2.drew) (HSI2.out.drewN 1) ha2 hn3
                  have gf : w3.frozen? ⟨g + 1 + 1 + 1, a, none⟩ = false := hsi3.bwl.free a
                  have gl : w3.cell? ⟨g + 1 + 1 + 1, a, none⟩ = some (.slice (AW a) (S a).length (CW a)) := hsi3.row ha2
                  have glb : w3.cell? ⟨g + 1 + 1 + 1, bb, none⟩ = some (.slice (AW bb) (S bb).length (CW bb)) := hsi3.row hbb2
                  have HSI3 := Lib.hid hsi3
                  have HO3 := Lib.hid ho3
                  have HAP := Lib.hid hap
                  clear ho3 hb3 hn3 hsi3 hap
                  refine hK.out _ _ ?_ (fun hHeld => ?_)
                  · first | exact ⟨gl, glb⟩ | exact gl
                  clear hK K
                  try go_simp
                  refine wpAnyH_take (i := 9) (oi := ?_) (v := ?_) ?_ ?_ ?_ ?_ ?_ ?_ ?_ ?_
                  rotate_left 2
                  · simp only [List.getElem?_toArray, List.getElem?_cons_succ, List.getElem?_cons_zero]; rfl
                  · kernel_rfl
                  · kernel_rfl
                  · kernel_rfl
                  · exact fun _ _ _ h => h
                  · exact Or.inl ⟨by kernel_rfl, by intro w hSw; (try dsimp only at hSw); go_simp; try with_reducible rfl⟩
                  · assumption
                  try go_simp
                  refine wpAnyH_take (i := 10) (oi := ?_) (v := ?_) ?_ ?_ ?_ ?_ ?_ ?_ ?_ ?_
                  rotate_left 2
                  · simp only [List.getElem?_toArray, List.getElem?_cons_succ, List.getElem?_cons_zero]; rfl
                  · kernel_rfl
                  · kernel_rfl
                  · kernel_rfl
                  · exact fun _ _ _ h => h
                  · exact Or.inl ⟨by kernel_rfl, by intro w hSw; (try dsimp only at hSw); go_simp; try with_reducible rfl⟩
                  · assumption
                  try go_simp
                  refine wpAnyH_take (i := 11) (oi := ?_) (v := ?_) ?_ ?_ ?_ ?_ ?_ ?_ ?_ ?_
                  rotate_left 2
                  · simp only [List.getElem?_toArray, List.getElem?_cons_succ, List.getElem?_cons_zero]; rfl
                  · kernel_rfl
                  · kernel_rfl
                  · kernel_rfl
                  · exact fun _ _ _ h => h
                  · exact Or.inl ⟨by kernel_rfl, by intro w hSw; (try dsimp only at hSw); go_simp; try with_reducible rfl⟩
                  · assumption
                  try go_simp
                  refine wpAnyH_take (i := 12) (oi := ?_) (v := ?_) ?_ ?_ ?_ ?_ ?_ ?_ ?_ ?_
                  rotate_left 2
                  · simp only [List.getElem?_toArray, List.getElem?_cons_succ, List.getElem?_cons_zero]; rfl
                  · kernel_rfl
                  · kernel_rfl
                  · kernel_rfl
                  · exact fun _ _ _ h => h
                  · exact Or.inl ⟨by kernel_rfl, by intro w hSw; (try dsimp only at hSw); go_simp; try with_reducible rfl⟩
                  · assumption
                  try go_simp
                  refine wpAnyH_take (i := 13) (oi := ?_) (v := ?_) ?_ ?_ ?_ ?_ ?_ ?_ ?_ ?_
                  rotate_left 2
                  · simp only [List.getElem?_toArray, List.getElem?_cons_succ, List.getElem?_cons_zero]; rfl
                  · kernel_rfl
                  · kernel_rfl
                  · kernel_rfl
                  · exact fun _ _ _ h => h
                  · exact Or.inl ⟨by kernel_rfl, by intro w hSw; (try dsimp only at hSw); go_simp; try with_reducible rfl⟩
                  · assumption
                  try go_simp
                  refine wpAnyH_done (by kernel_rfl) ?_ _
                  refine NoPanic.normal ?_
                  go_wp2_with fail
                  go_meet
                  case rel => exact ⟨_, _, _, _, _, _, rfl, SI.put HSI3.out ha2 HO3.out HAP.out, HF.out⟩
              · as_aux_lemma =>
                  have hfb := HFW.out.fine a ha2
                  have hlb := HFW.out.len ha2
                  have htb := hfb.tot
                  have hb0 : (0 : Int) ≤ (a : Int) := by omega
                  have hb1 : (a : Int) < 2 := by omega
                  have dpb : wr.cell? ⟨g + 1 + 1, a, none⟩ = some (.pointer (some ⟨g + a, 0, none⟩)) := HSI.out.ptr ha2
                  have hf := HFW.out.take ha2 ha2 (by omega)
                  have HTK := fun W A c A' c' h h' => take_t (g + a) (g + a) A A' c c' (S a) (S a) W h h' hfa hfb (by omega)
                  have HRT := fun W A1 c1 A2 c2 base h h2 hb => taken_0 A1 A2 c1 c2 base (S a) (S a) W h h2 (by omega) (by omega) hta htb hb
                  generalize rtake (S a) (S a) 0 = RR at *
                  replace HTK := Lib.hid HTK
                  replace HRT := Lib.hid HRT
                  have HF := Lib.hid hf
                  clear hf hr hfa hla hta hl60 hr7 hfb hlb htb
                  go_wp2_with fail
                  refine wp_region_noPanic ?_
                  refine wp_region_held_drew (S := (fun w' => w'.cell? ⟨g + 1 + 1, a, none⟩ = some (.pointer (some ⟨g + a, 0, none⟩)) ∧ w'.cell? ⟨g + 1 + 1, a, none⟩ = some (.pointer (some ⟨g + a, 0, none⟩)))) (by kernel_rfl) ⟨dp, dpb⟩ (fun hHeld => ?_)
                  refine wpAnyH_take (i := 0) (oi := ?_) (v := ?_) ?_ ?_ ?_ ?_ ?_ ?_ ?_ ?_
                  rotate_left 2
                  · simp only [List.getElem?_toArray, List.getElem?_cons_zero]; rfl
                  · kernel_rfl
                  · kernel_rfl
                  · kernel_rfl
                  · exact fun _ _ _ h => h
                  · exact Or.inl ⟨by kernel_rfl, by intro w hSw; (try dsimp only at hSw); go_simp; try with_reducible rfl⟩
                  · assumption
                  try go_simp
                  refine wpAnyH_take (i := 1) (oi := ?_) (v := ?_) ?_ ?_ ?_ ?_ ?_ ?_ ?_ ?_
                  rotate_left 2
                  · simp only [List.getElem?_toArray, List.getElem?_cons_succ, List.getElem?_cons_zero]; rfl
                  · kernel_rfl
                  · kernel_rfl
                  · kernel_rfl
                  · exact fun _ _ _ h => h
                  · exact Or.inl ⟨by kernel_rfl, by intro w hSw; (try dsimp only at hSw); go_simp; try with_reducible rfl⟩
                  · assumption
                  try go_simp
                  refine wpAnyH_take (i := 2) (oi := ?_) (v := ?_) ?_ ?_ ?_ ?_ ?_ ?_ ?_ ?_
                  rotate_left 2
                  · simp only [List.getElem?_toArray, List.getElem?_cons_succ, List.getElem?_cons_zero]; rfl
                  · kernel_rfl
                  · kernel_rfl
                  · kernel_rfl
                  · exact fun _ _ _ h => h
                  · exact Or.inl ⟨by kernel_rfl, by intro w hSw; (try dsimp only at hSw); go_simp; try with_reducible rfl⟩
                  · assumption
                  try go_simp
                  refine wpAnyH_take (i := 3) (oi := ?_) (v := ?_) ?_ ?_ ?_ ?_ ?_ ?_ ?_ ?_
                  rotate_left 2
                  · simp only [List.getElem?_toArray, List.getElem?_cons_succ, List.getElem?_cons_zero]; rfl
                  · kernel_rfl
                  · kernel_rfl
                  · kernel_rfl
                  · exact fun _ _ _ h => h
                  · exact Or.inl ⟨by kernel_rfl, by intro w hSw; (try dsimp only at hSw); go_simp; try with_reducible rfl⟩
                  · assumption
                  try go_simp
                  refine wpAnyH_take (i := 4) (oi := ?_) (v := ?_) ?_ ?_ ?_ ?_ ?_ ?_ ?_ ?_
                  rotate_left 2
                  · simp only [List.getElem?_toArray, List.getElem?_cons_succ, List.getElem?_cons_zero]; rfl
                  · kernel_rfl
                  · kernel_rfl
                  · kernel_rfl
                  · exact fun _ _ _ h => h
                  · exact Or.inl ⟨by kernel_rfl, by intro w hSw; (try dsimp only at hSw); go_simp; try with_reducible rfl⟩
                  · assumption
                  try go_simp
                  refine wpAnyH_take (i := 5) (oi := ?_) (v := ?_) ?_ ?_ ?_ ?_ ?_ ?_ ?_ ?_
                  rotate_left 2
                  · simp only [List.getElem?_toArray, List.getElem?_cons_succ, List.getElem?_cons_zero]; rfl
                  · kernel_rfl
                  · kernel_rfl
                  · kernel_rfl
                  · exact fun _ _ _ h => h
                  · exact Or.inl ⟨by kernel_rfl, by intro w hSw; (try dsimp only at hSw); go_simp; try with_reducible rfl⟩
                  · assumption
                  try go_simp
                  refine wpAnyH_take (i := 6) (oi := ?_) (v := ?_) ?_ ?_ ?_ ?_ ?_ ?_ ?_ ?_
                  rotate_left 2
                  · simp only [List.getElem?_toArray, List.getElem?_cons_succ, List.getElem?_cons_zero]; rfl
                  · kernel_rfl
                  · kernel_rfl
                  · kernel_rfl
                  · exact fun _ _ _ h => h
                  · exact Or.inl ⟨by kernel_rfl, by intro w hSw; (try dsimp only at hSw); go_simp; try with_reducible rfl⟩
                  · assumption
                  try go_simp
                  refine wpAnyH_take (i := 7) (oi := ?_) (v := ?_) ?_ ?_ ?_ ?_ ?_ ?_ ?_ ?_
                  rotate_left 2
                  · simp only [List.getElem?_toArray, List.getElem?_cons_succ, List.getElem?_cons_zero]; rfl
                  · kernel_rfl
                  · kernel_rfl
                  · kernel_rfl
                  · exact fun _ _ _ h => h
                  · exact Or.inl ⟨by kernel_rfl, by intro w hSw; (try dsimp only at hSw); go_simp; try with_reducible rfl⟩
                  · assumption
                  try go_simp
                  refine wpAnyH_ready (rs := [8]) (by kernel_rfl) (by simp) ?_
                  refine AllReadyH.cons (o := ?_) ?_ ?_ AllReadyH.nil
                  rotate_left 1
                  · simp only [List.getElem?_toArray, List.getElem?_cons_succ, List.getElem?_cons_zero]; rfl
                  intro K hK
                  go_simp
                  refine (HTK.out wr.drew _ _ _ _ ((HSI.out.drewN 1).lst a ha2) ((HSI.out.drewN 1).lst a ha2)).mono ?_
                  rintro e w2 ⟨rfl, hc2⟩
                  obtain ⟨A2, c2, hac⟩ := hc2.acted
                  have hsi2 : SI w g (g + 2) (g + 3) (upd S a RR.1) S (upd AL a A2) (upd CL a c2) AW CW w2 := SI.act (wr := wr.drew) (HSI.out.drewN 1) ha2 hac
                  have fp : w2.cell? ⟨g + 1 + 1, a, none⟩ = some (.pointer (some ⟨g + a, 0, none⟩)) := hsi2.ptr ha2
                  have fpb : w2.cell? ⟨g + 1 + 1, a, none⟩ = some (.pointer (some ⟨g + a, 0, none⟩)) := hsi2.ptr ha2
                  have fl : w2.cell? ⟨g + 1 + 1 + 1, a, none⟩ = some (.slice (AW a) (S a).length (CW a)) := hsi2.row ha2
                  have flb : w2.cell? ⟨g + 1 + 1 + 1, a, none⟩ = some (.slice (AW a) (S a).length (CW a)) := hsi2.row ha2
                  have HSI2 := Lib.hid hsi2
                  clear hc2 hac hsi2
                  refine hK.out _ _ ?_ (fun hHeld => ?_)
                  · first | exact ⟨fp, fpb⟩ | exact fp
                  clear hK K
                  try go_simp
                  refine wpAnyH_take (i := 9) (oi := ?_) (v := ?_) ?_ ?_ ?_ ?_ ?_ ?_ ?_ ?_
                  rotate_left 2
                  · simp only [List.getElem?_toArray, List.getElem?_cons_succ, List.getElem?_cons_zero]; rfl
                  · kernel_rfl
                  · kernel_rfl
                  · kernel_rfl
                  · exact fun _ _ _ h => h
                  · exact Or.inl ⟨by kernel_rfl, by intro w hSw; (try dsimp only at hSw); go_simp; try with_reducible rfl⟩
                  · assumption
                  try go_simp
                  refine wpAnyH_done (by kernel_rfl) ?_ _
                  refine NoPanic.normal ?_
                  go_wp2_with fail
                  refine wp_region_noPanic ?_
                  refine wp_region_held_drew (S := (fun w' => w'.cell? ⟨g + 1 + 1 + 1, a, none⟩ = some (.slice (AW a) (S a).length (CW a)) ∧ w'.cell? ⟨g + 1 + 1 + 1, a, none⟩ = some (.slice (AW a) (S a).length (CW a)))) (by kernel_rfl) ⟨fl, flb⟩ (fun hHeld => ?_)
                  refine wpAnyH_take (i := 0) (oi := ?_) (v := ?_) ?_ ?_ ?_ ?_ ?_ ?_ ?_ ?_
                  rotate_left 2
                  · simp only [List.getElem?_toArray, List.getElem?_cons_zero]; rfl
                  · kernel_rfl
                  · kernel_rfl
                  · kernel_rfl
                  · exact fun _ _ _ h => h
                  · exact Or.inl ⟨by kernel_rfl, by intro w hSw; (try dsimp only at hSw); go_simp; try with_reducible rfl⟩
                  · assumption
                  try go_simp
                  refine wpAnyH_take (i := 1) (oi := ?_) (v := ?_) ?_ ?_ ?_ ?_ ?_ ?_ ?_ ?_
                  rotate_left 2
                  · simp only [List.getElem?_toArray, List.getElem?_cons_succ, List.getElem?_cons_zero]; rfl
                  · kernel_rfl
                  · kernel_rfl
                  · kernel_rfl
                  · exact fun _ _ _ h => h
                  · exact Or.inl ⟨by kernel_rfl, by intro w hSw; (try dsimp only at hSw); go_simp; try with_reducible rfl⟩
                  · assumption
                  try go_simp
                  refine wpAnyH_take (i := 2) (oi := ?_) (v := ?_) ?_ ?_ ?_ ?_ ?_ ?_ ?_ ?_
                  rotate_left 2
                  · simp only [List.getElem?_toArray, List.getElem?_cons_succ, List.getElem?_cons_zero]; rfl
                  · kernel_rfl
                  · kernel_rfl
                  · kernel_rfl
                  · exact fun _ _ _ h => h
                  · exact Or.inl ⟨by kernel_rfl, by intro w hSw; (try dsimp only at hSw); go_simp; try with_reducible rfl⟩
                  · assumption
                  try go_simp
                  refine wpAnyH_take (i := 3) (oi := ?_) (v := ?_) ?_ ?_ ?_ ?_ ?_ ?_ ?_ ?_
                  rotate_left 2
                  · simp only [List.getElem?_toArray, List.getElem?_cons_succ, List.getElem?_cons_zero]; rfl
                  · kernel_rfl
                  · kernel_rfl
                  · kernel_rfl
                  · exact fun _ _ _ h => h
                  · exact Or.inl ⟨by kernel_rfl, by intro w hSw; (try dsimp only at hSw); go_simp; try with_reducible rfl⟩
                  · assumption
                  try go_simp
                  refine wpAnyH_take (i := 4) (oi := ?_) (v := ?_) ?_ ?_ ?_ ?_ ?_ ?_ ?_ ?_
                  rotate_left 2
                  · simp only [List.getElem?_toArray, List.getElem?_cons_succ, List.getElem?_cons_zero]; rfl
                  · kernel_rfl
                  · kernel_rfl
                  · kernel_rfl
                  · exact fun _ _ _ h => h
                  · exact Or.inl ⟨by kernel_rfl, by intro w hSw; (try dsimp only at hSw); go_simp; try with_reducible rfl⟩
                  · assumption
                  try go_simp
                  refine wpAnyH_take (i := 5) (oi := ?_) (v := ?_) ?_ ?_ ?_ ?_ ?_ ?_ ?_ ?_
                  rotate_left 2
                  · simp only [List.getElem?_toArray, List.getElem?_cons_succ, List.getElem?_cons_zero]; rfl
                  · kernel_rfl
                  · kernel_rfl
                  · kernel_rfl
                  · exact fun _ _ _ h => h
                  · exact Or.inl ⟨by kernel_rfl, by intro w hSw; (try dsimp only at hSw); go_simp; try with_reducible rfl⟩
                  · assumption
                  try go_simp
                  refine wpAnyH_take (i := 6) (oi := ?_) (v := ?_) ?_ ?_ ?_ ?_ ?_ ?_ ?_ ?_
                  rotate_left 2
                  · simp only [List.getElem?_toArray, List.getElem?_cons_succ, List.getElem?_cons_zero]; rfl
                  · kernel_rfl
                  · kernel_rfl
                  · kernel_rfl
                  · exact fun _ _ _ h => h
                  · exact Or.inl ⟨by kernel_rfl, by intro w hSw; (try dsimp only at hSw); go_simp; try with_reducible rfl⟩
                  · assumption
                  try go_simp
                  refine wpAnyH_take (i := 7) (oi := ?_) (v := ?_) ?_ ?_ ?_ ?_ ?_ ?_ ?_ ?_
                  rotate_left 2
                  · simp only [List.getElem?_toArray, List.getElem?_cons_succ, List.getElem?_cons_zero]; rfl
                  · kernel_rfl
                  · kernel_rfl
                  · kernel_rfl
                  · exact fun _ _ _ h => h
                  · exact Or.inl ⟨by kernel_rfl, by intro w hSw; (try dsimp only at hSw); go_simp; try with_reducible rfl⟩
                  · assumption
                  try go_simp
                  refine wpAnyH_ready (rs := [8]) (by kernel_rfl) (by simp) ?_
                  refine AllReadyH.cons (o := ?_) ?_ ?_ AllReadyH.nil
                  rotate_left 1
                  · simp only [List.getElem?_toArray, List.getElem?_cons_succ, List.getElem?_cons_zero]; rfl
                  intro K hK
                  go_simp
                  refine (HRT.out w2.drew (AW a) (CW a) (AW a) (CW a) w.heap.size ((HSI2.out.drewN 1).own a ha2) ((HSI2.out.drewN 1).own a ha2).reads HSI2.out.bel.size).mono ?_
                  rintro e w3 ⟨A3, c3, rfl, ho3, hb3, hn3⟩
                  have hsi3 : SI w g (g + 2) (g + 3) (upd S a RR.1) S (upd AL a A2) (upd CL a c2) AW CW w3 := SI.below (wr := w2.drew) (HSI2.out.drewN 1) hb3
                  have hap := SI.apart (wr := w2.drew) (HSI2.out.drewN 1) ha2 hn3
                  have gf : w3.frozen? ⟨g + 1 + 1 + 1, a, none⟩ = false := hsi3.bwl.free a
                  have gl : w3.cell? ⟨g + 1 + 1 + 1, a, none⟩ = some (.slice (AW a) (S a).length (CW a)) := hsi3.row ha2
                  have glb : w3.cell? ⟨g + 1 + 1 + 1, a, none⟩ = some (.slice (AW a) (S a).length (CW a)) := hsi3.row ha2
                  have HSI3 := Lib.hid hsi3
                  have HO3 := Lib.hid ho3
                  have HAP := Lib.hid hap
                  clear ho3 hb3 hn3 hsi3 hap
                  refine hK.out _ _ ?_ (fun hHeld => ?_)
                  · first | exact ⟨gl, glb⟩ | exact gl
                  clear hK K
                  try go_simp
                  refine wpAnyH_take (i := 9) (oi := ?_) (v := ?_) ?_ ?_ ?_ ?_ ?_ ?_ ?_ ?_
                  rotate_left 2
                  · simp only [List.getElem?_toArray, List.getElem?_cons_succ, List.getElem?_cons_zero]; rfl
                  · kernel_rfl
                  · kernel_rfl
                  · kernel_rfl
                  · exact fun _ _ _ h => h
                  · exact Or.inl ⟨by kernel_rfl, by intro w hSw; (try dsimp only at hSw); go_simp; try with_reducible rfl⟩
                  · assumption
                  try go_simp
                  refine wpAnyH_take (i := 10) (oi := ?_) (v := ?_) ?_ ?_ ?_ ?_ ?_ ?_ ?_ ?_
                  rotate_left 2
                  · simp only [List.getElem?_toArray, List.getElem?_cons_succ, List.getElem?_cons_zero]; rfl
                  · kernel_rfl
                  · kernel_rfl
                  · kernel_rfl
                  · exact fun _ _ _ h => h
                  · exact Or.inl ⟨by kernel_rfl, by intro w hSw; (try dsimp only at hSw); go_simp; try with_reducible rfl⟩
                  · assumption
                  try go_simp
                  refine wpAnyH_take (i := 11) (oi := ?_) (v := ?_) ?_ ?_ ?_ ?_ ?_ ?_ ?_ ?_
                  rotate_left 2
                  · simp only [List.getElem?_toArray, List.getElem?_cons_succ, List.getElem?_cons_zero]; rfl
                  · kernel_rfl
                  · kernel_rfl
                  · kernel_rfl
                  · exact fun _ _ _ h => h
                  · exact Or.inl ⟨by kernel_rfl, by intro w hSw; (try dsimp only at hSw); go_simp; try with_reducible rfl⟩
                  · assumption
                  try go_simp
                  refine wpAnyH_take (i := 12) (oi := ?_) (v := ?_) ?_ ?_ ?_ ?_ ?_ ?_ ?_ ?_
                  rotate_left 2
                  · simp only [List.getElem?_toArray, List.getElem?_cons_succ, List.getElem?_cons_zero]; rfl
                  · kernel_rfl
                  · kernel_rfl
                  · kernel_rfl
                  · exact fun _ _ _ h => h
                  · exact Or.inl ⟨by kernel_rfl, by intro w hSw; (try dsimp only at hSw); go_simp; try with_reducible rfl⟩
                  · assumption
                  try go_simp
                  refine wpAnyH_take (i := 13) (oi := ?_) (v := ?_) ?_ ?_ ?_ ?_ ?_ ?_ ?_ ?_
                  rotate_left 2
                  · simp only [List.getElem?_toArray, List.getElem?_cons_succ, List.getElem?_cons_zero]; rfl
                  · kernel_rfl
                  · kernel_rfl
                  · kernel_rfl
                  · exact fun _ _ _ h => h
                  · exact Or.inl ⟨by kernel_rfl, by intro w hSw; (try dsimp only at hSw); go_simp; try with_reducible rfl⟩
                  · assumption
                  try go_simp
                  refine wpAnyH_done (by kernel_rfl) ?_ _
                  refine NoPanic.normal ?_
                  go_wp2_with fail
                  go_meet
                  case rel => exact ⟨_, _, _, _, _, _, rfl, SI.put HSI3.out ha2 HO3.out HAP.out, HF.out⟩
            · as_aux_lemma =>
                obtain rfl : r = 6 := by omega
                have dl : wr.cell? ⟨g + 1 + 1 + 1, a, none⟩ = some (.slice (AW a) (S a).length (CW a)) := HSI.out.row ha2
                have hf := HFW.out.cut ha2 key
                have HCU := fun W A c h => cut_t (g + a) A c (S a) key W h hfa o2 o3
                have HRC := fun W A' c' base h hb => cutn_t base A' c' (S a) key W h hb (by omega) hta
                generalize cutL (S a) key = RR at *
                replace HCU := Lib.hid HCU
                replace HRC := Lib.hid HRC
                have HF := Lib.hid hf
                clear hf hr hfa hla hta hl60 hr7
                go_wp2_with fail
                refine wp_region_noPanic ?_
                refine wp_region_held_drew (S := (fun w' => w'.cell? ⟨g + 1 + 1 + 1, a, none⟩ = some (.slice (AW a) (S a).length (CW a)) ∧ w'.cell? ⟨b, o + k * 4 + 2, none⟩ = some (.int .i64 key))) (by kernel_rfl) ⟨dl, d2⟩ (fun hHeld => ?_)
                refine wpAnyH_take (i := 0) (oi := ?_) (v := ?_) ?_ ?_ ?_ ?_ ?_ ?_ ?_ ?_
                rotate_left 2
                · simp only [List.getElem?_toArray, List.getElem?_cons_zero]; rfl
                · kernel_rfl
                · kernel_rfl
                · kernel_rfl
                · exact fun _ _ _ h => h
                · exact Or.inl ⟨by kernel_rfl, by intro w hSw; (try dsimp only at hSw); go_simp; try with_reducible rfl⟩
                · assumption
                try go_simp
                refine wpAnyH_take (i := 1) (oi := ?_) (v := ?_) ?_ ?_ ?_ ?_ ?_ ?_ ?_ ?_
                rotate_left 2
                · simp only [List.getElem?_toArray, List.getElem?_cons_succ, List.getElem?_cons_zero]; rfl
                · kernel_rfl
                · kernel_rfl
                · kernel_rfl
                · exact fun _ _ _ h => h
                · exact Or.inl ⟨by kernel_rfl, by intro w hSw; (try dsimp only at hSw); go_simp; try with_reducible rfl⟩
                · assumption
                try go_simp
                refine wpAnyH_take (i := 2) (oi := ?_) (v := ?_) ?_ ?_ ?_ ?_ ?_ ?_ ?_ ?_
                rotate_left 2
                · simp only [List.getElem?_toArray, List.getElem?_cons_succ, List.getElem?_cons_zero]; rfl
                · kernel_rfl
                · kernel_rfl
                · kernel_rfl
                · exact fun _ _ _ h => h
                · exact Or.inl ⟨by kernel_rfl, by intro w hSw; (try dsimp only at hSw); go_simp; try with_reducible rfl⟩
                · assumption
                try go_simp
                refine wpAnyH_take (i := 3) (oi := ?_) (v := ?_) ?_ ?_ ?_ ?_ ?_ ?_ ?_ ?_
                rotate_left 2
                · simp only [List.getElem?_toArray, List.getElem?_cons_succ, List.getElem?_cons_zero]; rfl
                · kernel_rfl
                · kernel_rfl
                · kernel_rfl
                · exact fun _ _ _ h => h
                · exact Or.inl ⟨by kernel_rfl, by intro w hSw; (try dsimp only at hSw); go_simp; try with_reducible rfl⟩
                · assumption
                try go_simp
                refine wpAnyH_take (i := 4) (oi := ?_) (v := ?_) ?_ ?_ ?_ ?_ ?_ ?_ ?_ ?_
                rotate_left 2
                · simp only [List.getElem?_toArray, List.getElem?_cons_succ, List.getElem?_cons_zero]; rfl
                · kernel_rfl
                · kernel_rfl
                · kernel_rfl
                · exact fun _ _ _ h => h
                · exact Or.inl ⟨by kernel_rfl, by intro w hSw; (try dsimp only at hSw); go_simp; try with_reducible rfl⟩
                · assumption
                try go_simp
                refine wpAnyH_take (i := 5) (oi := ?_) (v := ?_) ?_ ?_ ?_ ?_ ?_ ?_ ?_ ?_
                rotate_left 2
                · simp only [List.getElem?_toArray, List.getElem?_cons_succ, List.getElem?_cons_zero]; rfl
                · kernel_rfl
                · kernel_rfl
                · kernel_rfl
                · exact fun _ _ _ h => h
                · exact Or.inl ⟨by kernel_rfl, by intro w hSw; (try dsimp only at hSw); go_simp; try with_reducible rfl⟩
                · assumption
                try go_simp
                refine wpAnyH_take (i := 6) (oi := ?_) (v := ?_) ?_ ?_ ?_ ?_ ?_ ?_ ?_ ?_
                rotate_left 2
                · simp only [List.getElem?_toArray, List.getElem?_cons_succ, List.getElem?_cons_zero]; rfl
                · kernel_rfl
                · kernel_rfl
                · kernel_rfl
                · exact fun _ _ _ h => h
                · exact Or.inl ⟨by kernel_rfl, by intro w hSw; (try dsimp only at hSw); go_simp; try with_reducible rfl⟩
                · assumption
                try go_simp
                refine wpAnyH_take (i := 7) (oi := ?_) (v := ?_) ?_ ?_ ?_ ?_ ?_ ?_ ?_ ?_
                rotate_left 2
                · simp only [List.getElem?_toArray, List.getElem?_cons_succ, List.getElem?_cons_zero]; rfl
                · kernel_rfl
                · kernel_rfl
                · kernel_rfl
                · exact fun _ _ _ h => h
                · exact Or.inl ⟨by kernel_rfl, by intro w hSw; (try dsimp only at hSw); go_simp; try with_reducible rfl⟩
                · assumption
                try go_simp
                refine wpAnyH_take (i := 8) (oi := ?_) (v := ?_) ?_ ?_ ?_ ?_ ?_ ?_ ?_ ?_
                rotate_left 2
                · simp only [List.getElem?_toArray, List.getElem?_cons_succ, List.getElem?_cons_zero]; rfl
                · kernel_rfl
                · kernel_rfl
                · kernel_rfl
                · exact fun _ _ _ h => h
                · exact Or.inl ⟨by kernel_rfl, by intro w hSw; (try dsimp only at hSw); go_simp; try with_reducible rfl⟩
                · assumption
                try go_simp
                refine wpAnyH_ready (rs := [9]) (by kernel_rfl) (by simp) ?_
                refine AllReadyH.cons (o := ?_) ?_ ?_ AllReadyH.nil
                rotate_left 1
                · simp only [List.getElem?_toArray, List.getElem?_cons_succ, List.getElem?_cons_zero]; rfl
                intro K hK
                go_simp
                refine (HRC.out wr.drew (AW a) (CW a) w.heap.size ((HSI.out.drewN 1).own a ha2) HSI.out.bel.size).mono ?_
                rintro e w3 ⟨A3, c3, rfl, ho3, hb3, hn3⟩
                have hsi3 : SI w g (g + 2) (g + 3) S S AL CL AW CW w3 := SI.below (wr := wr.drew) (HSI.out.drewN 1) hb3
                have hap := SI.apart (wr := wr.drew) (HSI.out.drewN 1) ha2 hn3
                have gf : w3.frozen? ⟨g + 1 + 1 + 1, a, none⟩ = false := hsi3.bwl.free a
                have gl : w3.cell? ⟨g + 1 + 1 + 1, a, none⟩ = some (.slice (AW a) (S a).length (CW a)) := hsi3.row ha2
                obtain ⟨_, _, g2, _⟩ := HCE.out w3 hsi3.bel
                have hsi4 : SI w g (g + 2) (g + 3) S (upd S a RR.1) AL CL (upd AW a A3) (upd CW a c3) (w3.setCell ⟨g + 1 + 1 + 1, a, none⟩ (.slice A3 RR.1.length c3)) := SI.put hsi3 ha2 ho3 hap
                have hp4 : (w3.setCell ⟨g + 1 + 1 + 1, a, none⟩ (.slice A3 RR.1.length c3)).cell? ⟨g + 1 + 1, a, none⟩ = some (.pointer (some ⟨g + a, 0, none⟩)) := hsi4.ptr ha2
                obtain ⟨_, _, hk4, _⟩ := HCE.out _ hsi4.bel
                obtain ⟨W4, hW4⟩ : ∃ W4, W4 = w3.setCell ⟨g + 1 + 1 + 1, a, none⟩ (.slice A3 RR.1.length c3) := ⟨_, rfl⟩
                rw [← hW4] at hsi4 hp4 hk4
                have HW4 := Lib.hid hW4
                have HSI4 := Lib.hid hsi4
                clear ho3 hb3 hn3 hsi3 hap hsi4 hW4
                refine hK.out _ _ ?_ (fun hHeld => ?_)
                · exact ⟨gl, g2⟩
                clear hK K
                try go_simp
                refine wpAnyH_take (i := 10) (oi := ?_) (v := ?_) ?_ ?_ ?_ ?_ ?_ ?_ ?_ ?_
                rotate_left 2
                · simp only [List.getElem?_toArray, List.getElem?_cons_succ, List.getElem?_cons_zero]; rfl
                · kernel_rfl
                · kernel_rfl
                · kernel_rfl
                · exact fun _ _ _ h => h
                · exact Or.inl ⟨by kernel_rfl, by intro w hSw; (try dsimp only at hSw); go_simp; try with_reducible rfl⟩
                · assumption
                try go_simp
                refine wpAnyH_take (i := 11) (oi := ?_) (v := ?_) ?_ ?_ ?_ ?_ ?_ ?_ ?_ ?_
                rotate_left 2
                · simp only [List.getElem?_toArray, List.getElem?_cons_succ, List.getElem?_cons_zero]; rfl
                · kernel_rfl
                · kernel_rfl
                · kernel_rfl
                · exact fun _ _ _ h => h
                · exact Or.inl ⟨by kernel_rfl, by intro w hSw; (try dsimp only at hSw); go_simp; try with_reducible rfl⟩
                · assumption
                try go_simp
                refine wpAnyH_take (i := 12) (oi := ?_) (v := ?_) ?_ ?_ ?_ ?_ ?_ ?_ ?_ ?_
                rotate_left 2
                · simp only [List.getElem?_toArray, List.getElem?_cons_succ, List.getElem?_cons_zero]; rfl
                · kernel_rfl
                · kernel_rfl
                · kernel_rfl
                · exact fun _ _ _ h => h
                · exact Or.inl ⟨by kernel_rfl, by intro w hSw; (try dsimp only at hSw); go_simp; try with_reducible rfl⟩
                · assumption
                try go_simp
                refine wpAnyH_take (i := 13) (oi := ?_) (v := ?_) ?_ ?_ ?_ ?_ ?_ ?_ ?_ ?_
                rotate_left 2
                · simp only [List.getElem?_toArray, List.getElem?_cons_succ, List.getElem?_cons_zero]; rfl
                · kernel_rfl
                · kernel_rfl
                · kernel_rfl
                · exact fun _ _ _ h => h
                · exact Or.inl ⟨by kernel_rfl, by intro w hSw; (try dsimp only at hSw); go_simp; try with_reducible rfl⟩
                · assumption
                try go_simp
                refine wpAnyH_take (i := 14) (oi := ?_) (v := ?_) ?_ ?_ ?_ ?_ ?_ ?_ ?_ ?_
                rotate_left 2
                · simp only [List.getElem?_toArray, List.getElem?_cons_succ, List.getElem?_cons_zero]; rfl
                · kernel_rfl
                · kernel_rfl
                · kernel_rfl
                · exact fun _ _ _ h => h
                · exact Or.inl ⟨by kernel_rfl, by intro w hSw; (try dsimp only at hSw); go_simp; try with_reducible rfl⟩
                · assumption
                try go_simp
                refine wpAnyH_done (by kernel_rfl) ?_ _
                refine NoPanic.normal ?_
                go_upto_region 15 with (fail)
                rw [← HW4.out]
                refine wp_region_noPanic ?_
                refine wp_region_held_drew (S := (fun w' => w'.cell? ⟨g + 1 + 1, a, none⟩ = some (.pointer (some ⟨g + a, 0, none⟩)) ∧ w'.cell? ⟨b, o + k * 4 + 2, none⟩ = some (.int .i64 key))) (by kernel_rfl) ⟨hp4, hk4⟩ (fun hHeld => ?_)
                refine wpAnyH_take (i := 0) (oi := ?_) (v := ?_) ?_ ?_ ?_ ?_ ?_ ?_ ?_ ?_
                rotate_left 2
                · simp only [List.getElem?_toArray, List.getElem?_cons_zero]; rfl
                · kernel_rfl
                · kernel_rfl
                · kernel_rfl
                · exact fun _ _ _ h => h
                · exact Or.inl ⟨by kernel_rfl, by intro w hSw; (try dsimp only at hSw); go_simp; try with_reducible rfl⟩
                · assumption
                try go_simp
                refine wpAnyH_take (i := 1) (oi := ?_) (v := ?_) ?_ ?_ ?_ ?_ ?_ ?_ ?_ ?_
                rotate_left 2
                · simp only [List.getElem?_toArray, List.getElem?_cons_succ, List.getElem?_cons_zero]; rfl
                · kernel_rfl
                · kernel_rfl
                · kernel_rfl
                · exact fun _ _ _ h => h
                · exact Or.inl ⟨by kernel_rfl, by intro w hSw; (try dsimp only at hSw); go_simp; try with_reducible rfl⟩
                · assumption
                try go_simp
                refine wpAnyH_take (i := 2) (oi := ?_) (v := ?_) ?_ ?_ ?_ ?_ ?_ ?_ ?_ ?_
                rotate_left 2
                · simp only [List.getElem?_toArray, List.getElem?_cons_succ, List.getElem?_cons_zero]; rfl
                · kernel_rfl
                · kernel_rfl
                · kernel_rfl
                · exact fun _ _ _ h => h
                · exact Or.inl ⟨by kernel_rfl, by intro w hSw; (try dsimp only at hSw); go_simp; try with_reducible rfl⟩
                · assumption
                try go_simp
                refine wpAnyH_take (i := 3) (oi := ?_) (v := ?_) ?_ ?_ ?_ ?_ ?_ ?_ ?_ ?_
                rotate_left 2
                · simp only [List.getElem?_toArray, List.getElem?_cons_succ, List.getElem?_cons_zero]; rfl
                · kernel_rfl
                · kernel_rfl
                · kernel_rfl
                · exact fun _ _ _ h => h
                · exact Or.inl ⟨by kernel_rfl, by intro w hSw; (try dsimp only at hSw); go_simp; try with_reducible rfl⟩
                · assumption
                try go_simp
                refine wpAnyH_take (i := 4) (oi := ?_) (v := ?_) ?_ ?_ ?_ ?_ ?_ ?_ ?_ ?_
                rotate_left 2
                · simp only [List.getElem?_toArray, List.getElem?_cons_succ, List.getElem?_cons_zero]; rfl
                · kernel_rfl
                · kernel_rfl
                · kernel_rfl
                · exact fun _ _ _ h => h
                · exact Or.inl ⟨by kernel_rfl, by intro w hSw; (try dsimp only at hSw); go_simp; try with_reducible rfl⟩
                · assumption
                try go_simp
                refine wpAnyH_take (i := 5) (oi := ?_) (v := ?_) ?_ ?_ ?_ ?_ ?_ ?_ ?_ ?_
                rotate_left 2
                · simp only [List.getElem?_toArray, List.getElem?_cons_succ, List.getElem?_cons_zero]; rfl
                · kernel_rfl
                · kernel_rfl
                · kernel_rfl
                · exact fun _ _ _ h => h
                · exact Or.inl ⟨by kernel_rfl, by intro w hSw; (try dsimp only at hSw); go_simp; try with_reducible rfl⟩
                · assumption
                try go_simp
                refine wpAnyH_take (i := 6) (oi := ?_) (v := ?_) ?_ ?_ ?_ ?_ ?_ ?_ ?_ ?_
                rotate_left 2
                · simp only [List.getElem?_toArray, List.getElem?_cons_succ, List.getElem?_cons_zero]; rfl
                · kernel_rfl
                · kernel_rfl
                · kernel_rfl
                · exact fun _ _ _ h => h
                · exact Or.inl ⟨by kernel_rfl, by intro w hSw; (try dsimp only at hSw); go_simp; try with_reducible rfl⟩
                · assumption
                try go_simp
                refine wpAnyH_take (i := 7) (oi := ?_) (v := ?_) ?_ ?_ ?_ ?_ ?_ ?_ ?_ ?_
                rotate_left 2
                · simp only [List.getElem?_toArray, List.getElem?_cons_succ, List.getElem?_cons_zero]; rfl
                · kernel_rfl
                · kernel_rfl
                · kernel_rfl
                · exact fun _ _ _ h => h
                · exact Or.inl ⟨by kernel_rfl, by intro w hSw; (try dsimp only at hSw); go_simp; try with_reducible rfl⟩
                · assumption
                try go_simp
                refine wpAnyH_take (i := 8) (oi := ?_) (v := ?_) ?_ ?_ ?_ ?_ ?_ ?_ ?_ ?_
                rotate_left 2
                · simp only [List.getElem?_toArray, List.getElem?_cons_succ, List.getElem?_cons_zero]; rfl
                · kernel_rfl
                · kernel_rfl
                · kernel_rfl
                · exact fun _ _ _ h => h
                · exact Or.inl ⟨by kernel_rfl, by intro w hSw; (try dsimp only at hSw); go_simp; try with_reducible rfl⟩
                · assumption
                try go_simp
                refine wpAnyH_take (i := 10) (oi := ?_) (v := ?_) ?_ ?_ ?_ ?_ ?_ ?_ ?_ ?_
                rotate_left 2
                · simp only [List.getElem?_toArray, List.getElem?_cons_succ, List.getElem?_cons_zero]; rfl
                · kernel_rfl
                · kernel_rfl
                · kernel_rfl
                · exact fun _ _ _ h => h
                · exact Or.inl ⟨by kernel_rfl, by intro w hSw; (try dsimp only at hSw); go_simp; try with_reducible rfl⟩
                · assumption
                try go_simp
                refine wpAnyH_ready (rs := [9]) (by kernel_rfl) (by simp) ?_
                refine AllReadyH.cons (o := ?_) ?_ ?_ AllReadyH.nil
                rotate_left 1
                · simp only [List.getElem?_toArray, List.getElem?_cons_succ, List.getElem?_cons_zero]; rfl
                intro K hK
                go_simp
                refine (HCU.out W4.drew _ _ ((HSI4.out.drewN 1).lst a ha2)).mono ?_
                rintro e w5 ⟨rfl, hc5⟩
                obtain ⟨A5, c5, hac⟩ := hc5.acted
                have hsi5 : SI w g (g + 2) (g + 3) (upd S a RR.1) (upd S a RR.1) (upd AL a A5) (upd CL a c5) (upd AW a A3) (upd CW a c3) w5 := SI.act (wr := W4.drew) (HSI4.out.drewN 1) ha2 hac
                obtain ⟨_, _, f5, _⟩ := HCE.out w5 hsi5.bel
                have fp5 : w5.cell? ⟨g + 1 + 1, a, none⟩ = some (.pointer (some ⟨g + a, 0, none⟩)) := hsi5.ptr ha2
                have HSI5 := Lib.hid hsi5
                clear hc5 hac hsi5
                refine hK.out _ _ ?_ (fun hHeld => ?_)
                · exact ⟨fp5, f5⟩
                clear hK K
                try go_simp
                refine wpAnyH_take (i := 11) (oi := ?_) (v := ?_) ?_ ?_ ?_ ?_ ?_ ?_ ?_ ?_
                rotate_left 2
                · simp only [List.getElem?_toArray, List.getElem?_cons_succ, List.getElem?_cons_zero]; rfl
                · kernel_rfl
                · kernel_rfl
                · kernel_rfl
                · exact fun _ _ _ h => h
                · exact Or.inl ⟨by kernel_rfl, by intro w hSw; (try dsimp only at hSw); go_simp; try with_reducible rfl⟩
                · assumption
                try go_simp
                refine wpAnyH_done (by kernel_rfl) ?_ _
                refine NoPanic.normal ?_
                go_wp2_with fail
                go_meet
                case rel => exact ⟨_, _, _, _, _, _, rfl, HSI5.out, HF.out⟩
        case rest =>
          obtain ⟨W5, S2, AL2, CL2, AW2, CW2, rfl, hsi, hfew⟩ := hcut
          have HSJ := Lib.hid hsi
          have HFJ := Lib.hid hfew
          have hl60 := HL6.out
          have hkr : IntKind.i64.wrap ((k : Int) + 1) = (k : Int) + 1 := IntWalk.i64_in _ ⟨by omega, by omega⟩
          clear hsi hfew dp
          go_wp2_with fail
          go_loopg [16] (2) (fun gj i wc => ∃ (j : Nat), j + gj = 2 ∧ i = .int .i64 j ∧ SI w g (g + 2) (g + 3) S2 S2 AL2 CL2 AW2 CW2 wc)
          case atStart => exact ⟨0, rfl, rfl, HSJ.out⟩
          case round =>
            obtain ⟨j, hj, rfl, hsi⟩ := hrel
            by_cases hj2 : j < 2
            · as_aux_lemma =>
                have hfj := HFJ.out.fine j hj2
                have hlj := HFJ.out.len hj2
                have htj := hfj.tot
                have hj0 : (0 : Int) ≤ (j : Int) := by omega
                have hj1 : (j : Int) < 2 := by omega
                have HPA := fun W A c h => pairs_t (g + j) A c (S2 j) W h hfj
                have HTO := fun W A c h => total_t (g + j) A c (S2 j) W h
                have HLE := fun W A c h => len_t (g + j) A c (S2 j) W h
                have HBE := fun W A c h => below_t (g + j) A c (S2 j) key W h hfj
                have HUP := fun W A c h => upto_t (g + j) A c (S2 j) key W h hfj
                have HS13 := fun A1 A2 c1 c2 B1 B2 W h1 h2 => same13_t A1 A2 c1 c2 B1 B2 (S2 j) W h1 h2 (by unfold maxLen; omega)
                have HT13 := fun A1 c1 B1 W h1 => total13_t A1 c1 B1 (S2 j) W h1 (by unfold maxLen; omega) (by omega)
                have HRF := fun A1 c1 W h1 => rbelow_t A1 c1 (S2 j) key key false W h1 (by omega) htj rfl
                have HRT := fun A1 c1 W h1 => rbelow_t A1 c1 (S2 j) key (key + 1) true W h1 (by omega) htj rfl
                have hll : ((S2 j).length : Int) ≤ 61 := by omega
                replace HPA := Lib.hid HPA
                replace HTO := Lib.hid HTO
                replace HLE := Lib.hid HLE
                replace HBE := Lib.hid HBE
                replace HUP := Lib.hid HUP
                replace HS13 := Lib.hid HS13
                replace HT13 := Lib.hid HT13
                replace HRF := Lib.hid HRF
                replace HRT := Lib.hid HRT
                have p : wr.cell? ⟨g + 1 + 1, j, none⟩ = some (.pointer (some ⟨g + j, 0, none⟩)) := hsi.ptr hj2
                have q : wr.cell? ⟨g + 1 + 1 + 1, j, none⟩ = some (.slice (AW2 j) (S2 j).length (CW2 j)) := hsi.row hj2
                obtain ⟨_, _, k0, _⟩ := HCE.out wr hsi.bel
                have HSX := Lib.hid hsi
                have HJ := Lib.hid hj
                clear hfj hlj htj hsi hj HSJ
                go_wp2_with fail
                refine wp_region_noPanic ?_
                refine wp_region_held_drew (S := (fun w' => w'.cell? ⟨g + 1 + 1, j, none⟩ = some (.pointer (some ⟨g + j, 0, none⟩)) ∧ w'.cell? ⟨g + 1 + 1 + 1, j, none⟩ = some (.slice (AW2 j) (S2 j).length (CW2 j)) ∧ w'.cell? ⟨b, o + k * 4 + 2, none⟩ = some (.int .i64 key))) (by kernel_rfl) ⟨p, q, k0⟩ (fun hHeld => ?_)
                refine wpAnyH_take (i := 0) (oi := ?_) (v := ?_) ?_ ?_ ?_ ?_ ?_ ?_ ?_ ?_
                rotate_left 2
                · simp only [List.getElem?_toArray, List.getElem?_cons_zero]; rfl
                · kernel_rfl
                · kernel_rfl
                · kernel_rfl
                · exact fun _ _ _ h => h
                · exact Or.inl ⟨by kernel_rfl, by intro w hSw; (try dsimp only at hSw); go_simp; try with_reducible rfl⟩
                · assumption
                try go_simp
                refine wpAnyH_take (i := 1) (oi := ?_) (v := ?_) ?_ ?_ ?_ ?_ ?_ ?_ ?_ ?_
                rotate_left 2
                · simp only [List.getElem?_toArray, List.getElem?_cons_succ, List.getElem?_cons_zero]; rfl
                · kernel_rfl
                · kernel_rfl
                · kernel_rfl
                · exact fun _ _ _ h => h
                · exact Or.inl ⟨by kernel_rfl, by intro w hSw; (try dsimp only at hSw); go_simp; try with_reducible rfl⟩
                · assumption
                try go_simp
                refine wpAnyH_take (i := 2) (oi := ?_) (v := ?_) ?_ ?_ ?_ ?_ ?_ ?_ ?_ ?_
                rotate_left 2
                · simp only [List.getElem?_toArray, List.getElem?_cons_succ, List.getElem?_cons_zero]; rfl
                · kernel_rfl
                · kernel_rfl
                · kernel_rfl
                · exact fun _ _ _ h => h
                · exact Or.inl ⟨by kernel_rfl, by intro w hSw; (try dsimp only at hSw); go_simp; try with_reducible rfl⟩
                · assumption
                try go_simp
                refine wpAnyH_take (i := 3) (oi := ?_) (v := ?_) ?_ ?_ ?_ ?_ ?_ ?_ ?_ ?_
                rotate_left 2
                · simp only [List.getElem?_toArray, List.getElem?_cons_succ, List.getElem?_cons_zero]; rfl
                · kernel_rfl
                · kernel_rfl
                · kernel_rfl
                · exact fun _ _ _ h => h
                · exact Or.inl ⟨by kernel_rfl, by intro w hSw; (try dsimp only at hSw); go_simp; try with_reducible rfl⟩
                · assumption
                try go_simp
                refine wpAnyH_take (i := 5) (oi := ?_) (v := ?_) ?_ ?_ ?_ ?_ ?_ ?_ ?_ ?_
                rotate_left 2
                · simp only [List.getElem?_toArray, List.getElem?_cons_succ, List.getElem?_cons_zero]; rfl
                · kernel_rfl
                · kernel_rfl
                · kernel_rfl
                · exact fun _ _ _ h => h
                · exact Or.inl ⟨by kernel_rfl, by intro w hSw; (try dsimp only at hSw); go_simp; try with_reducible rfl⟩
                · assumption
                try go_simp
                refine wpAnyH_take (i := 6) (oi := ?_) (v := ?_) ?_ ?_ ?_ ?_ ?_ ?_ ?_ ?_
                rotate_left 2
                · simp only [List.getElem?_toArray, List.getElem?_cons_succ, List.getElem?_cons_zero]; rfl
                · kernel_rfl
                · kernel_rfl
                · kernel_rfl
                · exact fun _ _ _ h => h
                · exact Or.inl ⟨by kernel_rfl, by intro w hSw; (try dsimp only at hSw); go_simp; try with_reducible rfl⟩
                · assumption
                try go_simp
                refine wpAnyH_take (i := 7) (oi := ?_) (v := ?_) ?_ ?_ ?_ ?_ ?_ ?_ ?_ ?_
                rotate_left 2
                · simp only [List.getElem?_toArray, List.getElem?_cons_succ, List.getElem?_cons_zero]; rfl
                · kernel_rfl
                · kernel_rfl
                · kernel_rfl
                · exact fun _ _ _ h => h
                · exact Or.inl ⟨by kernel_rfl, by intro w hSw; (try dsimp only at hSw); go_simp; try with_reducible rfl⟩
                · assumption
                try go_simp
                refine wpAnyH_take (i := 8) (oi := ?_) (v := ?_) ?_ ?_ ?_ ?_ ?_ ?_ ?_ ?_
                rotate_left 2
                · simp only [List.getElem?_toArray, List.getElem?_cons_succ, List.getElem?_cons_zero]; rfl
                · kernel_rfl
                · kernel_rfl
                · kernel_rfl
                · exact fun _ _ _ h => h
                · exact Or.inl ⟨by kernel_rfl, by intro w hSw; (try dsimp only at hSw); go_simp; try with_reducible rfl⟩
                · assumption
                try go_simp
                refine wpAnyH_ready (rs := [4]) (by kernel_rfl) (by simp) ?_
                refine AllReadyH.cons (o := ?_) ?_ ?_ AllReadyH.nil
                rotate_left 1
                · simp only [List.getElem?_toArray, List.getElem?_cons_succ, List.getElem?_cons_zero]; rfl
                intro K hK
                go_simp
                refine (HPA.out wr.drew _ _ ((HSX.out.drewN 1).lst j hj2)).mono ?_
                rintro e w6 ⟨A6, c6, rfl, ho6, hb6⟩
                have hsi6 : SI w g (g + 2) (g + 3) S2 S2 AL2 CL2 AW2 CW2 w6 := SI.below (wr := wr.drew) (HSX.out.drewN 1) hb6
                have HR6 := Lib.hid ho6.reads
                have p6 : w6.cell? ⟨g + 1 + 1, j, none⟩ = some (.pointer (some ⟨g + j, 0, none⟩)) := hsi6.ptr hj2
                have q6 : w6.cell? ⟨g + 1 + 1 + 1, j, none⟩ = some (.slice (AW2 j) (S2 j).length (CW2 j)) := hsi6.row hj2
                obtain ⟨_, _, k6, _⟩ := HCE.out w6 hsi6.bel
                have HS6 := Lib.hid hsi6
                clear ho6 hb6 hsi6
                refine hK.out _ _ ?_ (fun hHeld => ?_)
                · exact ⟨p6, q6, k6⟩
                clear hK K
                try go_simp
                refine wpAnyH_ready (rs := [9]) (by kernel_rfl) (by simp) ?_
                refine AllReadyH.cons (o := ?_) ?_ ?_ AllReadyH.nil
                rotate_left 1
                · simp only [List.getElem?_toArray, List.getElem?_cons_succ, List.getElem?_cons_zero]; rfl
                intro K hK
                go_simp
                refine (HS13.out A6 _ c6 _ _ _ _ HR6.out (HS6.out.own j hj2).reads).mono ?_
                rintro e w7 ⟨rfl, n7, rfl⟩
                refine hK.out _ _ ?_ (fun hHeld => ?_)
                · exact ⟨p6, q6, k6⟩
                clear hK K
                try go_simp
                refine wpAnyH_take (i := 10) (oi := ?_) (v := ?_) ?_ ?_ ?_ ?_ ?_ ?_ ?_ ?_
                rotate_left 2
                · simp only [List.getElem?_toArray, List.getElem?_cons_succ, List.getElem?_cons_zero]; rfl
                · kernel_rfl
                · kernel_rfl
                · kernel_rfl
                · exact fun _ _ _ h => h
                · exact Or.inl ⟨by kernel_rfl, by intro w hSw; (try dsimp only at hSw); go_simp; try with_reducible rfl⟩
                · assumption
                try go_simp
                refine wpAnyH_take (i := 11) (oi := ?_) (v := ?_) ?_ ?_ ?_ ?_ ?_ ?_ ?_ ?_
                rotate_left 2
                · simp only [List.getElem?_toArray, List.getElem?_cons_succ, List.getElem?_cons_zero]; rfl
                · kernel_rfl
                · kernel_rfl
                · kernel_rfl
                · exact fun _ _ _ h => h
                · exact Or.inl ⟨by kernel_rfl, by intro w hSw; (try dsimp only at hSw); go_simp; try with_reducible rfl⟩
                · assumption
                try go_simp
                refine wpAnyH_take (i := 12) (oi := ?_) (v := ?_) ?_ ?_ ?_ ?_ ?_ ?_ ?_ ?_
                rotate_left 2
                · simp only [List.getElem?_toArray, List.getElem?_cons_succ, List.getElem?_cons_zero]; rfl
                · kernel_rfl
                · kernel_rfl
                · kernel_rfl
                · exact fun _ _ _ h => h
                · exact Or.inl ⟨by kernel_rfl, by intro w hSw; (try dsimp only at hSw); go_simp; try with_reducible rfl⟩
                · assumption
                try go_simp
                refine wpAnyH_take (i := 13) (oi := ?_) (v := ?_) ?_ ?_ ?_ ?_ ?_ ?_ ?_ ?_
                rotate_left 2
                · simp only [List.getElem?_toArray, List.getElem?_cons_succ, List.getElem?_cons_zero]; rfl
                · kernel_rfl
                · kernel_rfl
                · kernel_rfl
                · exact fun _ _ _ h => h
                · exact Or.inl ⟨by kernel_rfl, by intro w hSw; (try dsimp only at hSw); go_simp; try with_reducible rfl⟩
                · assumption
                try go_simp
                refine wpAnyH_take (i := 14) (oi := ?_) (v := ?_) ?_ ?_ ?_ ?_ ?_ ?_ ?_ ?_
                rotate_left 2
                · simp only [List.getElem?_toArray, List.getElem?_cons_succ, List.getElem?_cons_zero]; rfl
                · kernel_rfl
                · kernel_rfl
                · kernel_rfl
                · exact fun _ _ _ h => h
                · exact Or.inl ⟨by kernel_rfl, by intro w hSw; (try dsimp only at hSw); go_simp; try with_reducible rfl⟩
                · assumption
                try go_simp
                refine wpAnyH_take (i := 15) (oi := ?_) (v := ?_) ?_ ?_ ?_ ?_ ?_ ?_ ?_ ?_
                rotate_left 2
                · simp only [List.getElem?_toArray, List.getElem?_cons_succ, List.getElem?_cons_zero]; rfl
                · kernel_rfl
                · kernel_rfl
                · kernel_rfl
                · exact fun _ _ _ h => h
                · exact Or.inl ⟨by kernel_rfl, by intro w hSw; (try dsimp only at hSw); go_simp; try with_reducible rfl⟩
                · assumption
                try go_simp
                refine wpAnyH_take (i := 17) (oi := ?_) (v := ?_) ?_ ?_ ?_ ?_ ?_ ?_ ?_ ?_
                rotate_left 2
                · simp only [List.getElem?_toArray, List.getElem?_cons_succ, List.getElem?_cons_zero]; rfl
                · kernel_rfl
                · kernel_rfl
                · kernel_rfl
                · exact fun _ _ _ h => h
                · exact Or.inl ⟨by kernel_rfl, by intro w hSw; (try dsimp only at hSw); go_simp; try with_reducible rfl⟩
                · assumption
                try go_simp
                refine wpAnyH_take (i := 18) (oi := ?_) (v := ?_) ?_ ?_ ?_ ?_ ?_ ?_ ?_ ?_
                rotate_left 2
                · simp only [List.getElem?_toArray, List.getElem?_cons_succ, List.getElem?_cons_zero]; rfl
                · kernel_rfl
                · kernel_rfl
                · kernel_rfl
                · exact fun _ _ _ h => h
                · exact Or.inl ⟨by kernel_rfl, by intro w hSw; (try dsimp only at hSw); go_simp; try with_reducible rfl⟩
                · assumption
                try go_simp
                refine wpAnyH_take (i := 19) (oi := ?_) (v := ?_) ?_ ?_ ?_ ?_ ?_ ?_ ?_ ?_
                rotate_left 2
                · simp only [List.getElem?_toArray, List.getElem?_cons_succ, List.getElem?_cons_zero]; rfl
                · kernel_rfl
                · kernel_rfl
                · kernel_rfl
                · exact fun _ _ _ h => h
                · exact Or.inl ⟨by kernel_rfl, by intro w hSw; (try dsimp only at hSw); go_simp; try with_reducible rfl⟩
                · assumption
                try go_simp
                refine wpAnyH_take (i := 20) (oi := ?_) (v := ?_) ?_ ?_ ?_ ?_ ?_ ?_ ?_ ?_
                rotate_left 2
                · simp only [List.getElem?_toArray, List.getElem?_cons_succ, List.getElem?_cons_zero]; rfl
                · kernel_rfl
                · kernel_rfl
                · kernel_rfl
                · exact fun _ _ _ h => h
                · exact Or.inl ⟨by kernel_rfl, by intro w hSw; (try dsimp only at hSw); go_simp; try with_reducible rfl⟩
                · assumption
                try go_simp
                refine wpAnyH_ready (rs := [16]) (by kernel_rfl) (by simp) ?_
                refine AllReadyH.cons (o := ?_) ?_ ?_ AllReadyH.nil
                rotate_left 1
                · simp only [List.getElem?_toArray, List.getElem?_cons_succ, List.getElem?_cons_zero]; rfl
                intro K hK
                go_simp
                refine (HTO.out _ _ _ ((HS6.out.drewN n7).lst j hj2)).mono ?_
                rintro e w8 ⟨rfl, hw⟩
                obtain rfl := hw
                refine hK.out _ _ ?_ (fun hHeld => ?_)
                · exact ⟨p6, q6, k6⟩
                clear hK K
                try go_simp
                refine wpAnyH_ready (rs := [21]) (by kernel_rfl) (by simp) ?_
                refine AllReadyH.cons (o := ?_) ?_ ?_ AllReadyH.nil
                rotate_left 1
                · simp only [List.getElem?_toArray, List.getElem?_cons_succ, List.getElem?_cons_zero]; rfl
                intro K hK
                go_simp
                refine (HT13.out _ _ w6.heap.size _ ((HS6.out.drewN n7).own j hj2).reads).mono ?_
                rintro e w8 ⟨rfl, hw⟩
                obtain rfl := hw.symm
                refine hK.out _ _ ?_ (fun hHeld => ?_)
                · exact ⟨p6, q6, k6⟩
                clear hK K
                try go_simp
                refine wpAnyH_take (i := 22) (oi := ?_) (v := ?_) ?_ ?_ ?_ ?_ ?_ ?_ ?_ ?_
                rotate_left 2
                · simp only [List.getElem?_toArray, List.getElem?_cons_succ, List.getElem?_cons_zero]; rfl
                · kernel_rfl
                · kernel_rfl
                · kernel_rfl
                · exact fun _ _ _ h => h
                · exact Or.inl ⟨by kernel_rfl, by intro w hSw; (try dsimp only at hSw); go_simp; try with_reducible rfl⟩
                · assumption
                try go_simp
                refine wpAnyH_take (i := 23) (oi := ?_) (v := ?_) ?_ ?_ ?_ ?_ ?_ ?_ ?_ ?_
                rotate_left 2
                · simp only [List.getElem?_toArray, List.getElem?_cons_succ, List.getElem?_cons_zero]; rfl
                · kernel_rfl
                · kernel_rfl
                · kernel_rfl
                · exact fun _ _ _ h => h
                · exact Or.inl ⟨by kernel_rfl, by intro w hSw; (try dsimp only at hSw); go_simp; try with_reducible rfl⟩
                · assumption
                try go_simp
                refine wpAnyH_take (i := 24) (oi := ?_) (v := ?_) ?_ ?_ ?_ ?_ ?_ ?_ ?_ ?_
                rotate_left 2
                · simp only [List.getElem?_toArray, List.getElem?_cons_succ, List.getElem?_cons_zero]; rfl
                · kernel_rfl
                · kernel_rfl
                · kernel_rfl
                · exact fun _ _ _ h => h
                · exact Or.inl ⟨by kernel_rfl, by intro w hSw; (try dsimp only at hSw); go_simp; try with_reducible rfl⟩
                · assumption
                try go_simp
                refine wpAnyH_take (i := 25) (oi := ?_) (v := ?_) ?_ ?_ ?_ ?_ ?_ ?_ ?_ ?_
                rotate_left 2
                · simp only [List.getElem?_toArray, List.getElem?_cons_succ, List.getElem?_cons_zero]; rfl
                · kernel_rfl
                · kernel_rfl
                · kernel_rfl
                · exact fun _ _ _ h => h
                · exact Or.inl ⟨by kernel_rfl, by intro w hSw; (try dsimp only at hSw); go_simp; try with_reducible rfl⟩
                · assumption
                try go_simp
                refine wpAnyH_take (i := 26) (oi := ?_) (v := ?_) ?_ ?_ ?_ ?_ ?_ ?_ ?_ ?_
                rotate_left 2
                · simp only [List.getElem?_toArray, List.getElem?_cons_succ, List.getElem?_cons_zero]; rfl
                · kernel_rfl
                · kernel_rfl
                · kernel_rfl
                · exact fun _ _ _ h => h
                · exact Or.inl ⟨by kernel_rfl, by intro w hSw; (try dsimp only at hSw); go_simp; try with_reducible rfl⟩
                · assumption
                try go_simp
                refine wpAnyH_take (i := 27) (oi := ?_) (v := ?_) ?_ ?_ ?_ ?_ ?_ ?_ ?_ ?_
                rotate_left 2
                · simp only [List.getElem?_toArray, List.getElem?_cons_succ, List.getElem?_cons_zero]; rfl
                · kernel_rfl
                · kernel_rfl
                · kernel_rfl
                · exact fun _ _ _ h => h
                · exact Or.inl ⟨by kernel_rfl, by intro w hSw; (try dsimp only at hSw); go_simp; try with_reducible rfl⟩
                · assumption
                try go_simp
                refine wpAnyH_take (i := 28) (oi := ?_) (v := ?_) ?_ ?_ ?_ ?_ ?_ ?_ ?_ ?_
                rotate_left 2
                · simp only [List.getElem?_toArray, List.getElem?_cons_succ, List.getElem?_cons_zero]; rfl
                · kernel_rfl
                · kernel_rfl
                · kernel_rfl
                · exact fun _ _ _ h => h
                · exact Or.inl ⟨by kernel_rfl, by intro w hSw; (try dsimp only at hSw); go_simp; try with_reducible rfl⟩
                · assumption
                try go_simp
                refine wpAnyH_take (i := 30) (oi := ?_) (v := ?_) ?_ ?_ ?_ ?_ ?_ ?_ ?_ ?_
                rotate_left 2
                · simp only [List.getElem?_toArray, List.getElem?_cons_succ, List.getElem?_cons_zero]; rfl
                · kernel_rfl
                · kernel_rfl
                · kernel_rfl
                · exact fun _ _ _ h => h
                · exact Or.inl ⟨by kernel_rfl, by intro w hSw; (try dsimp only at hSw); go_simp; try with_reducible rfl⟩
                · assumption
                try go_simp
                refine wpAnyH_take (i := 31) (oi := ?_) (v := ?_) ?_ ?_ ?_ ?_ ?_ ?_ ?_ ?_
                rotate_left 2
                · simp only [List.getElem?_toArray, List.getElem?_cons_succ, List.getElem?_cons_zero]; rfl
                · kernel_rfl
                · kernel_rfl
                · kernel_rfl
                · exact fun _ _ _ h => h
                · exact Or.inl ⟨by kernel_rfl, by intro w hSw; (try dsimp only at hSw); go_simp; try with_reducible rfl⟩
                · assumption
                try go_simp
                refine wpAnyH_take (i := 32) (oi := ?_) (v := ?_) ?_ ?_ ?_ ?_ ?_ ?_ ?_ ?_
                rotate_left 2
                · simp only [List.getElem?_toArray, List.getElem?_cons_succ, List.getElem?_cons_zero]; rfl
                · kernel_rfl
                · kernel_rfl
                · kernel_rfl
                · exact fun _ _ _ h => h
                · exact Or.inl ⟨by kernel_rfl, by intro w hSw; (try dsimp only at hSw); go_simp; try with_reducible rfl⟩
                · assumption
                try go_simp
                refine wpAnyH_take (i := 33) (oi := ?_) (v := ?_) ?_ ?_ ?_ ?_ ?_ ?_ ?_ ?_
                rotate_left 2
                · simp only [List.getElem?_toArray, List.getElem?_cons_succ, List.getElem?_cons_zero]; rfl
                · kernel_rfl
                · kernel_rfl
                · kernel_rfl
                · exact fun _ _ _ h => h
                · exact Or.inl ⟨by kernel_rfl, by intro w hSw; (try dsimp only at hSw); go_simp; try with_reducible rfl⟩
                · assumption
                try go_simp
                refine wpAnyH_take (i := 34) (oi := ?_) (v := ?_) ?_ ?_ ?_ ?_ ?_ ?_ ?_ ?_
                rotate_left 2
                · simp only [List.getElem?_toArray, List.getElem?_cons_succ, List.getElem?_cons_zero]; rfl
                · kernel_rfl
                · kernel_rfl
                · kernel_rfl
                · exact fun _ _ _ h => h
                · exact Or.inl ⟨by kernel_rfl, by intro w hSw; (try dsimp only at hSw); go_simp; try with_reducible rfl⟩
                · assumption
                try go_simp
                refine wpAnyH_ready (rs := [29]) (by kernel_rfl) (by simp) ?_
                refine AllReadyH.cons (o := ?_) ?_ ?_ AllReadyH.nil
                rotate_left 1
                · simp only [List.getElem?_toArray, List.getElem?_cons_succ, List.getElem?_cons_zero]; rfl
                intro K hK
                go_simp
                refine (HLE.out _ _ _ ((HS6.out.drewN n7).lst j hj2)).mono ?_
                rintro e w8 ⟨rfl, hw⟩
                obtain rfl := hw
                refine hK.out _ _ ?_ (fun hHeld => ?_)
                · exact ⟨p6, q6, k6⟩
                clear hK K
                try go_simp
                refine wpAnyH_take (i := 35) (oi := ?_) (v := ?_) ?_ ?_ ?_ ?_ ?_ ?_ ?_ ?_
                rotate_left 2
                · simp only [List.getElem?_toArray, List.getElem?_cons_succ, List.getElem?_cons_zero]; rfl
                · kernel_rfl
                · kernel_rfl
                · kernel_rfl
                · exact fun _ _ _ h => h
                · exact Or.inl ⟨by kernel_rfl, by intro w hSw; (try dsimp only at hSw); go_simp; try with_reducible rfl⟩
                · assumption
                try go_simp
                refine wpAnyH_take (i := 36) (oi := ?_) (v := ?_) ?_ ?_ ?_ ?_ ?_ ?_ ?_ ?_
                rotate_left 2
                · simp only [List.getElem?_toArray, List.getElem?_cons_succ, List.getElem?_cons_zero]; rfl
                · kernel_rfl
                · kernel_rfl
                · kernel_rfl
                · exact fun _ _ _ h => h
                · exact Or.inl ⟨by kernel_rfl, by intro w hSw; (try dsimp only at hSw); go_simp; try with_reducible rfl⟩
                · assumption
                try go_simp
                refine wpAnyH_take (i := 37) (oi := ?_) (v := ?_) ?_ ?_ ?_ ?_ ?_ ?_ ?_ ?_
                rotate_left 2
                · simp only [List.getElem?_toArray, List.getElem?_cons_succ, List.getElem?_cons_zero]; rfl
                · kernel_rfl
                · kernel_rfl
                · kernel_rfl
                · exact fun _ _ _ h => h
                · exact Or.inl ⟨by kernel_rfl, by intro w hSw; (try dsimp only at hSw); go_simp; try with_reducible rfl⟩
                · assumption
                try go_simp
                refine wpAnyH_take (i := 38) (oi := ?_) (v := ?_) ?_ ?_ ?_ ?_ ?_ ?_ ?_ ?_
                rotate_left 2
                · simp only [List.getElem?_toArray, List.getElem?_cons_succ, List.getElem?_cons_zero]; rfl
                · kernel_rfl
                · kernel_rfl
                · kernel_rfl
                · exact fun _ _ _ h => h
                · exact Or.inl ⟨by kernel_rfl, by intro w hSw; (try dsimp only at hSw); go_simp; try with_reducible rfl⟩
                · assumption
                try go_simp
                refine wpAnyH_take (i := 39) (oi := ?_) (v := ?_) ?_ ?_ ?_ ?_ ?_ ?_ ?_ ?_
                rotate_left 2
                · simp only [List.getElem?_toArray, List.getElem?_cons_succ, List.getElem?_cons_zero]; rfl
                · kernel_rfl
                · kernel_rfl
                · kernel_rfl
                · exact fun _ _ _ h => h
                · exact Or.inl ⟨by kernel_rfl, by intro w hSw; (try dsimp only at hSw); go_simp; try with_reducible rfl⟩
                · assumption
                try go_simp
                refine wpAnyH_take (i := 40) (oi := ?_) (v := ?_) ?_ ?_ ?_ ?_ ?_ ?_ ?_ ?_
                rotate_left 2
                · simp only [List.getElem?_toArray, List.getElem?_cons_succ, List.getElem?_cons_zero]; rfl
                · kernel_rfl
                · kernel_rfl
                · kernel_rfl
                · exact fun _ _ _ h => h
                · exact Or.inl ⟨by kernel_rfl, by intro w hSw; (try dsimp only at hSw); go_simp; try with_reducible rfl⟩
                · assumption
                try go_simp
                refine wpAnyH_take (i := 41) (oi := ?_) (v := ?_) ?_ ?_ ?_ ?_ ?_ ?_ ?_ ?_
                rotate_left 2
                · simp only [List.getElem?_toArray, List.getElem?_cons_succ, List.getElem?_cons_zero]; rfl
                · kernel_rfl
                · kernel_rfl
                · kernel_rfl
                · exact fun _ _ _ h => h
                · exact Or.inl ⟨by kernel_rfl, by intro w hSw; (try dsimp only at hSw); go_simp; try with_reducible rfl⟩
                · assumption
                try go_simp
                refine wpAnyH_take (i := 42) (oi := ?_) (v := ?_) ?_ ?_ ?_ ?_ ?_ ?_ ?_ ?_
                rotate_left 2
                · simp only [List.getElem?_toArray, List.getElem?_cons_succ, List.getElem?_cons_zero]; rfl
                · kernel_rfl
                · kernel_rfl
                · kernel_rfl
                · exact fun _ _ _ h => h
                · exact Or.inl ⟨by kernel_rfl, by intro w hSw; (try dsimp only at hSw); go_simp; try with_reducible rfl⟩
                · assumption
                try go_simp
                refine wpAnyH_take (i := 43) (oi := ?_) (v := ?_) ?_ ?_ ?_ ?_ ?_ ?_ ?_ ?_
                rotate_left 2
                · simp only [List.getElem?_toArray, List.getElem?_cons_succ, List.getElem?_cons_zero]; rfl
                · kernel_rfl
                · kernel_rfl
                · kernel_rfl
                · exact fun _ _ _ h => h
                · exact Or.inl ⟨by kernel_rfl, by intro w hSw; (try dsimp only at hSw); go_simp; try with_reducible rfl⟩
                · assumption
                try go_simp
                refine wpAnyH_take (i := 44) (oi := ?_) (v := ?_) ?_ ?_ ?_ ?_ ?_ ?_ ?_ ?_
                rotate_left 2
                · simp only [List.getElem?_toArray, List.getElem?_cons_succ, List.getElem?_cons_zero]; rfl
                · kernel_rfl
                · kernel_rfl
                · kernel_rfl
                · exact fun _ _ _ h => h
                · exact Or.inl ⟨by kernel_rfl, by intro w hSw; (try dsimp only at hSw); go_simp; try with_reducible rfl⟩
                · assumption
                try go_simp
                refine wpAnyH_take (i := 45) (oi := ?_) (v := ?_) ?_ ?_ ?_ ?_ ?_ ?_ ?_ ?_
                rotate_left 2
                · simp only [List.getElem?_toArray, List.getElem?_cons_succ, List.getElem?_cons_zero]; rfl
                · kernel_rfl
                · kernel_rfl
                · kernel_rfl
                · exact fun _ _ _ h => h
                · exact Or.inl ⟨by kernel_rfl, by intro w hSw; (try dsimp only at hSw); go_simp; try with_reducible rfl⟩
                · assumption
                try go_simp
                refine wpAnyH_take (i := 46) (oi := ?_) (v := ?_) ?_ ?_ ?_ ?_ ?_ ?_ ?_ ?_
                rotate_left 2
                · simp only [List.getElem?_toArray, List.getElem?_cons_succ, List.getElem?_cons_zero]; rfl
                · kernel_rfl
                · kernel_rfl
                · kernel_rfl
                · exact fun _ _ _ h => h
                · exact Or.inl ⟨by kernel_rfl, by intro w hSw; (try dsimp only at hSw); go_simp; try with_reducible rfl⟩
                · assumption
                try go_simp
                refine wpAnyH_take (i := 48) (oi := ?_) (v := ?_) ?_ ?_ ?_ ?_ ?_ ?_ ?_ ?_
                rotate_left 2
                · simp only [List.getElem?_toArray, List.getElem?_cons_succ, List.getElem?_cons_zero]; rfl
                · kernel_rfl
                · kernel_rfl
                · kernel_rfl
                · exact fun _ _ _ h => h
                · exact Or.inl ⟨by kernel_rfl, by intro w hSw; (try dsimp only at hSw); go_simp; try with_reducible rfl⟩
                · assumption
                try go_simp
                refine wpAnyH_take (i := 49) (oi := ?_) (v := ?_) ?_ ?_ ?_ ?_ ?_ ?_ ?_ ?_
                rotate_left 2
                · simp only [List.getElem?_toArray, List.getElem?_cons_succ, List.getElem?_cons_zero]; rfl
                · kernel_rfl
                · kernel_rfl
                · kernel_rfl
                · exact fun _ _ _ h => h
                · exact Or.inl ⟨by kernel_rfl, by intro w hSw; (try dsimp only at hSw); go_simp; try with_reducible rfl⟩
                · assumption
                try go_simp
                refine wpAnyH_take (i := 50) (oi := ?_) (v := ?_) ?_ ?_ ?_ ?_ ?_ ?_ ?_ ?_
                rotate_left 2
                · simp only [List.getElem?_toArray, List.getElem?_cons_succ, List.getElem?_cons_zero]; rfl
                · kernel_rfl
                · kernel_rfl
                · kernel_rfl
                · exact fun _ _ _ h => h
                · exact Or.inl ⟨by kernel_rfl, by intro w hSw; (try dsimp only at hSw); go_simp; try with_reducible rfl⟩
                · assumption
                try go_simp
                refine wpAnyH_take (i := 51) (oi := ?_) (v := ?_) ?_ ?_ ?_ ?_ ?_ ?_ ?_ ?_
                rotate_left 2
                · simp only [List.getElem?_toArray, List.getElem?_cons_succ, List.getElem?_cons_zero]; rfl
                · kernel_rfl
                · kernel_rfl
                · kernel_rfl
                · exact fun _ _ _ h => h
                · exact Or.inl ⟨by kernel_rfl, by intro w hSw; (try dsimp only at hSw); go_simp; try with_reducible rfl⟩
                · assumption
                try go_simp
                refine wpAnyH_take (i := 52) (oi := ?_) (v := ?_) ?_ ?_ ?_ ?_ ?_ ?_ ?_ ?_
                rotate_left 2
                · simp only [List.getElem?_toArray, List.getElem?_cons_succ, List.getElem?_cons_zero]; rfl
                · kernel_rfl
                · kernel_rfl
                · kernel_rfl
                · exact fun _ _ _ h => h
                · exact Or.inl ⟨by kernel_rfl, by intro w hSw; (try dsimp only at hSw); go_simp; try with_reducible rfl⟩
                · assumption
                try go_simp
                refine wpAnyH_take (i := 53) (oi := ?_) (v := ?_) ?_ ?_ ?_ ?_ ?_ ?_ ?_ ?_
                rotate_left 2
                · simp only [List.getElem?_toArray, List.getElem?_cons_succ, List.getElem?_cons_zero]; rfl
                · kernel_rfl
                · kernel_rfl
                · kernel_rfl
                · exact fun _ _ _ h => h
                · exact Or.inl ⟨by kernel_rfl, by intro w hSw; (try dsimp only at hSw); go_simp; try with_reducible rfl⟩
                · assumption
                try go_simp
                refine wpAnyH_take (i := 54) (oi := ?_) (v := ?_) ?_ ?_ ?_ ?_ ?_ ?_ ?_ ?_
                rotate_left 2
                · simp only [List.getElem?_toArray, List.getElem?_cons_succ, List.getElem?_cons_zero]; rfl
                · kernel_rfl
                · kernel_rfl
                · kernel_rfl
                · exact fun _ _ _ h => h
                · exact Or.inl ⟨by kernel_rfl, by intro w hSw; (try dsimp only at hSw); go_simp; try with_reducible rfl⟩
                · assumption
                try go_simp
                refine wpAnyH_take (i := 55) (oi := ?_) (v := ?_) ?_ ?_ ?_ ?_ ?_ ?_ ?_ ?_
                rotate_left 2
                · simp only [List.getElem?_toArray, List.getElem?_cons_succ, List.getElem?_cons_zero]; rfl
                · kernel_rfl
                · kernel_rfl
                · kernel_rfl
                · exact fun _ _ _ h => h
                · exact Or.inl ⟨by kernel_rfl, by intro w hSw; (try dsimp only at hSw); go_simp; try with_reducible rfl⟩
                · assumption
                try go_simp
                refine wpAnyH_take (i := 56) (oi := ?_) (v := ?_) ?_ ?_ ?_ ?_ ?_ ?_ ?_ ?_
                rotate_left 2
                · simp only [List.getElem?_toArray, List.getElem?_cons_succ, List.getElem?_cons_zero]; rfl
                · kernel_rfl
                · kernel_rfl
                · kernel_rfl
                · exact fun _ _ _ h => h
                · exact Or.inl ⟨by kernel_rfl, by intro w hSw; (try dsimp only at hSw); go_simp; try with_reducible rfl⟩
                · assumption
                try go_simp
                refine wpAnyH_ready (rs := [47]) (by kernel_rfl) (by simp) ?_
                refine AllReadyH.cons (o := ?_) ?_ ?_ AllReadyH.nil
                rotate_left 1
                · simp only [List.getElem?_toArray, List.getElem?_cons_succ, List.getElem?_cons_zero]; rfl
                intro K hK
                go_simp
                refine (HBE.out _ _ _ ((HS6.out.drewN n7).lst j hj2)).mono ?_
                rintro e w9 ⟨rfl, hb9⟩
                have hsi9 := (HS6.out.drewN n7).below hb9
                have p9 : w9.cell? ⟨g + 1 + 1, j, none⟩ = some (.pointer (some ⟨g + j, 0, none⟩)) := hsi9.ptr hj2
                have q9 : w9.cell? ⟨g + 1 + 1 + 1, j, none⟩ = some (.slice (AW2 j) (S2 j).length (CW2 j)) := hsi9.row hj2
                obtain ⟨_, _, k9, _⟩ := HCE.out w9 hsi9.bel
                have HS9 := Lib.hid hsi9
                clear hb9 hsi9
                refine hK.out _ _ ?_ (fun hHeld => ?_)
                · exact ⟨p9, q9, k9⟩
                clear hK K
                try go_simp
                refine wpAnyH_ready (rs := [57]) (by kernel_rfl) (by simp) ?_
                refine AllReadyH.cons (o := ?_) ?_ ?_ AllReadyH.nil
                rotate_left 1
                · simp only [List.getElem?_toArray, List.getElem?_cons_succ, List.getElem?_cons_zero]; rfl
                intro K hK
                go_simp
                refine (HRF.out _ _ _ (HS9.out.own j hj2).reads).mono ?_
                rintro e w8 ⟨rfl, hw⟩
                obtain rfl := hw
                refine hK.out _ _ ?_ (fun hHeld => ?_)
                · exact ⟨p9, q9, k9⟩
                clear hK K
                try go_simp
                refine wpAnyH_take (i := 58) (oi := ?_) (v := ?_) ?_ ?_ ?_ ?_ ?_ ?_ ?_ ?_
                rotate_left 2
                · simp only [List.getElem?_toArray, List.getElem?_cons_succ, List.getElem?_cons_zero]; rfl
                · kernel_rfl
                · kernel_rfl
                · kernel_rfl
                · exact fun _ _ _ h => h
                · exact Or.inl ⟨by kernel_rfl, by intro w hSw; (try dsimp only at hSw); go_simp; try with_reducible rfl⟩
                · assumption
                try go_simp
                refine wpAnyH_take (i := 59) (oi := ?_) (v := ?_) ?_ ?_ ?_ ?_ ?_ ?_ ?_ ?_
                rotate_left 2
                · simp only [List.getElem?_toArray, List.getElem?_cons_succ, List.getElem?_cons_zero]; rfl
                · kernel_rfl
                · kernel_rfl
                · kernel_rfl
                · exact fun _ _ _ h => h
                · exact Or.inl ⟨by kernel_rfl, by intro w hSw; (try dsimp only at hSw); go_simp; try with_reducible rfl⟩
                · assumption
                try go_simp
                refine wpAnyH_take (i := 60) (oi := ?_) (v := ?_) ?_ ?_ ?_ ?_ ?_ ?_ ?_ ?_
                rotate_left 2
                · simp only [List.getElem?_toArray, List.getElem?_cons_succ, List.getElem?_cons_zero]; rfl
                · kernel_rfl
                · kernel_rfl
                · kernel_rfl
                · exact fun _ _ _ h => h
                · exact Or.inl ⟨by kernel_rfl, by intro w hSw; (try dsimp only at hSw); go_simp; try with_reducible rfl⟩
                · assumption
                try go_simp
                refine wpAnyH_take (i := 61) (oi := ?_) (v := ?_) ?_ ?_ ?_ ?_ ?_ ?_ ?_ ?_
                rotate_left 2
                · simp only [List.getElem?_toArray, List.getElem?_cons_succ, List.getElem?_cons_zero]; rfl
                · kernel_rfl
                · kernel_rfl
                · kernel_rfl
                · exact fun _ _ _ h => h
                · exact Or.inl ⟨by kernel_rfl, by intro w hSw; (try dsimp only at hSw); go_simp; try with_reducible rfl⟩
                · assumption
                try go_simp
                refine wpAnyH_take (i := 62) (oi := ?_) (v := ?_) ?_ ?_ ?_ ?_ ?_ ?_ ?_ ?_
                rotate_left 2
                · simp only [List.getElem?_toArray, List.getElem?_cons_succ, List.getElem?_cons_zero]; rfl
                · kernel_rfl
                · kernel_rfl
                · kernel_rfl
                · exact fun _ _ _ h => h
                · exact Or.inl ⟨by kernel_rfl, by intro w hSw; (try dsimp only at hSw); go_simp; try with_reducible rfl⟩
                · assumption
                try go_simp
                refine wpAnyH_take (i := 63) (oi := ?_) (v := ?_) ?_ ?_ ?_ ?_ ?_ ?_ ?_ ?_
                rotate_left 2
                · simp only [List.getElem?_toArray, List.getElem?_cons_succ, List.getElem?_cons_zero]; rfl
                · kernel_rfl
                · kernel_rfl
                · kernel_rfl
                · exact fun _ _ _ h => h
                · exact Or.inl ⟨by kernel_rfl, by intro w hSw; (try dsimp only at hSw); go_simp; try with_reducible rfl⟩
                · assumption
                try go_simp
                refine wpAnyH_take (i := 64) (oi := ?_) (v := ?_) ?_ ?_ ?_ ?_ ?_ ?_ ?_ ?_
                rotate_left 2
                · simp only [List.getElem?_toArray, List.getElem?_cons_succ, List.getElem?_cons_zero]; rfl
                · kernel_rfl
                · kernel_rfl
                · kernel_rfl
                · exact fun _ _ _ h => h
                · exact Or.inl ⟨by kernel_rfl, by intro w hSw; (try dsimp only at hSw); go_simp; try with_reducible rfl⟩
                · assumption
                try go_simp
                refine wpAnyH_take (i := 65) (oi := ?_) (v := ?_) ?_ ?_ ?_ ?_ ?_ ?_ ?_ ?_
                rotate_left 2
                · simp only [List.getElem?_toArray, List.getElem?_cons_succ, List.getElem?_cons_zero]; rfl
                · kernel_rfl
                · kernel_rfl
                · kernel_rfl
                · exact fun _ _ _ h => h
                · exact Or.inl ⟨by kernel_rfl, by intro w hSw; (try dsimp only at hSw); go_simp; try with_reducible rfl⟩
                · assumption
                try go_simp
                refine wpAnyH_take (i := 66) (oi := ?_) (v := ?_) ?_ ?_ ?_ ?_ ?_ ?_ ?_ ?_
                rotate_left 2
                · simp only [List.getElem?_toArray, List.getElem?_cons_succ, List.getElem?_cons_zero]; rfl
                · kernel_rfl
                · kernel_rfl
                · kernel_rfl
                · exact fun _ _ _ h => h
                · exact Or.inl ⟨by kernel_rfl, by intro w hSw; (try dsimp only at hSw); go_simp; try with_reducible rfl⟩
                · assumption
                try go_simp
                refine wpAnyH_take (i := 67) (oi := ?_) (v := ?_) ?_ ?_ ?_ ?_ ?_ ?_ ?_ ?_
                rotate_left 2
                · simp only [List.getElem?_toArray, List.getElem?_cons_succ, List.getElem?_cons_zero]; rfl
                · kernel_rfl
                · kernel_rfl
                · kernel_rfl
                · exact fun _ _ _ h => h
                · exact Or.inl ⟨by kernel_rfl, by intro w hSw; (try dsimp only at hSw); go_simp; try with_reducible rfl⟩
                · assumption
                try go_simp
                refine wpAnyH_take (i := 68) (oi := ?_) (v := ?_) ?_ ?_ ?_ ?_ ?_ ?_ ?_ ?_
                rotate_left 2
                · simp only [List.getElem?_toArray, List.getElem?_cons_succ, List.getElem?_cons_zero]; rfl
                · kernel_rfl
                · kernel_rfl
                · kernel_rfl
                · exact fun _ _ _ h => h
                · exact Or.inl ⟨by kernel_rfl, by intro w hSw; (try dsimp only at hSw); go_simp; try with_reducible rfl⟩
                · assumption
                try go_simp
                refine wpAnyH_take (i := 69) (oi := ?_) (v := ?_) ?_ ?_ ?_ ?_ ?_ ?_ ?_ ?_
                rotate_left 2
                · simp only [List.getElem?_toArray, List.getElem?_cons_succ, List.getElem?_cons_zero]; rfl
                · kernel_rfl
                · kernel_rfl
                · kernel_rfl
                · exact fun _ _ _ h => h
                · exact Or.inl ⟨by kernel_rfl, by intro w hSw; (try dsimp only at hSw); go_simp; try with_reducible rfl⟩
                · assumption
                try go_simp
                refine wpAnyH_take (i := 71) (oi := ?_) (v := ?_) ?_ ?_ ?_ ?_ ?_ ?_ ?_ ?_
                rotate_left 2
                · simp only [List.getElem?_toArray, List.getElem?_cons_succ, List.getElem?_cons_zero]; rfl
                · kernel_rfl
                · kernel_rfl
                · kernel_rfl
                · exact fun _ _ _ h => h
                · exact Or.inl ⟨by kernel_rfl, by intro w hSw; (try dsimp only at hSw); go_simp; try with_reducible rfl⟩
                · assumption
                try go_simp
                refine wpAnyH_take (i := 72) (oi := ?_) (v := ?_) ?_ ?_ ?_ ?_ ?_ ?_ ?_ ?_
                rotate_left 2
                · simp only [List.getElem?_toArray, List.getElem?_cons_succ, List.getElem?_cons_zero]; rfl
                · kernel_rfl
                · kernel_rfl
                · kernel_rfl
                · exact fun _ _ _ h => h
                · exact Or.inl ⟨by kernel_rfl, by intro w hSw; (try dsimp only at hSw); go_simp; try with_reducible rfl⟩
                · assumption
                try go_simp
                refine wpAnyH_take (i := 73) (oi := ?_) (v := ?_) ?_ ?_ ?_ ?_ ?_ ?_ ?_ ?_
                rotate_left 2
                · simp only [List.getElem?_toArray, List.getElem?_cons_succ, List.getElem?_cons_zero]; rfl
                · kernel_rfl
                · kernel_rfl
                · kernel_rfl
                · exact fun _ _ _ h => h
                · exact Or.inl ⟨by kernel_rfl, by intro w hSw; (try dsimp only at hSw); go_simp; try with_reducible rfl⟩
                · assumption
                try go_simp
                refine wpAnyH_take (i := 74) (oi := ?_) (v := ?_) ?_ ?_ ?_ ?_ ?_ ?_ ?_ ?_
                rotate_left 2
                · simp only [List.getElem?_toArray, List.getElem?_cons_succ, List.getElem?_cons_zero]; rfl
                · kernel_rfl
                · kernel_rfl
                · kernel_rfl
                · exact fun _ _ _ h => h
                · exact Or.inl ⟨by kernel_rfl, by intro w hSw; (try dsimp only at hSw); go_simp; try with_reducible rfl⟩
                · assumption
                try go_simp
                refine wpAnyH_take (i := 75) (oi := ?_) (v := ?_) ?_ ?_ ?_ ?_ ?_ ?_ ?_ ?_
                rotate_left 2
                · simp only [List.getElem?_toArray, List.getElem?_cons_succ, List.getElem?_cons_zero]; rfl
                · kernel_rfl
                · kernel_rfl
                · kernel_rfl
                · exact fun _ _ _ h => h
                · exact Or.inl ⟨by kernel_rfl, by intro w hSw; (try dsimp only at hSw); go_simp; try with_reducible rfl⟩
                · assumption
                try go_simp
                refine wpAnyH_take (i := 76) (oi := ?_) (v := ?_) ?_ ?_ ?_ ?_ ?_ ?_ ?_ ?_
                rotate_left 2
                · simp only [List.getElem?_toArray, List.getElem?_cons_succ, List.getElem?_cons_zero]; rfl
                · kernel_rfl
                · kernel_rfl
                · kernel_rfl
                · exact fun _ _ _ h => h
                · exact Or.inl ⟨by kernel_rfl, by intro w hSw; (try dsimp only at hSw); go_simp; try with_reducible rfl⟩
                · assumption
                try go_simp
                refine wpAnyH_take (i := 77) (oi := ?_) (v := ?_) ?_ ?_ ?_ ?_ ?_ ?_ ?_ ?_
                rotate_left 2
                · simp only [List.getElem?_toArray, List.getElem?_cons_succ, List.getElem?_cons_zero]; rfl
                · kernel_rfl
                · kernel_rfl
                · kernel_rfl
                · exact fun _ _ _ h => h
                · exact Or.inl ⟨by kernel_rfl, by intro w hSw; (try dsimp only at hSw); go_simp; try with_reducible rfl⟩
                · assumption
                try go_simp
                refine wpAnyH_take (i := 78) (oi := ?_) (v := ?_) ?_ ?_ ?_ ?_ ?_ ?_ ?_ ?_
                rotate_left 2
                · simp only [List.getElem?_toArray, List.getElem?_cons_succ, List.getElem?_cons_zero]; rfl
                · kernel_rfl
                · kernel_rfl
                · kernel_rfl
                · exact fun _ _ _ h => h
                · exact Or.inl ⟨by kernel_rfl, by intro w hSw; (try dsimp only at hSw); go_simp; try with_reducible rfl⟩
                · assumption
                try go_simp
                refine wpAnyH_take (i := 79) (oi := ?_) (v := ?_) ?_ ?_ ?_ ?_ ?_ ?_ ?_ ?_
                rotate_left 2
                · simp only [List.getElem?_toArray, List.getElem?_cons_succ, List.getElem?_cons_zero]; rfl
                · kernel_rfl
                · kernel_rfl
                · kernel_rfl
                · exact fun _ _ _ h => h
                · exact Or.inl ⟨by kernel_rfl, by intro w hSw; (try dsimp only at hSw); go_simp; try with_reducible rfl⟩
                · assumption
                try go_simp
                refine wpAnyH_ready (rs := [70]) (by kernel_rfl) (by simp) ?_
                refine AllReadyH.cons (o := ?_) ?_ ?_ AllReadyH.nil
                rotate_left 1
                · simp only [List.getElem?_toArray, List.getElem?_cons_succ, List.getElem?_cons_zero]; rfl
                intro K hK
                go_simp
                refine (HUP.out _ _ _ (HS9.out.lst j hj2)).mono ?_
                rintro e w10 ⟨rfl, hb10⟩
                have hsi10 := HS9.out.below hb10
                have p10 : w10.cell? ⟨g + 1 + 1, j, none⟩ = some (.pointer (some ⟨g + j, 0, none⟩)) := hsi10.ptr hj2
                have q10 : w10.cell? ⟨g + 1 + 1 + 1, j, none⟩ = some (.slice (AW2 j) (S2 j).length (CW2 j)) := hsi10.row hj2
                obtain ⟨_, _, k10, _⟩ := HCE.out w10 hsi10.bel
                have HS10 := Lib.hid hsi10
                clear hb10 hsi10
                refine hK.out _ _ ?_ (fun hHeld => ?_)
                · exact ⟨p10, q10, k10⟩
                clear hK K
                try go_simp
                refine wpAnyH_ready (rs := [80]) (by kernel_rfl) (by simp) ?_
                refine AllReadyH.cons (o := ?_) ?_ ?_ AllReadyH.nil
                rotate_left 1
                · simp only [List.getElem?_toArray, List.getElem?_cons_succ, List.getElem?_cons_zero]; rfl
                intro K hK
                go_simp
                refine (HRT.out _ _ _ (HS10.out.own j hj2).reads).mono ?_
                rintro e w8 ⟨rfl, hw⟩
                obtain rfl := hw
                refine hK.out _ _ ?_ (fun hHeld => ?_)
                · exact ⟨p10, q10, k10⟩
                clear hK K
                try go_simp
                refine wpAnyH_take (i := 81) (oi := ?_) (v := ?_) ?_ ?_ ?_ ?_ ?_ ?_ ?_ ?_
                rotate_left 2
                · simp only [List.getElem?_toArray, List.getElem?_cons_succ, List.getElem?_cons_zero]; rfl
                · kernel_rfl
                · kernel_rfl
                · kernel_rfl
                · exact fun _ _ _ h => h
                · exact Or.inl ⟨by kernel_rfl, by intro w hSw; (try dsimp only at hSw); go_simp; try with_reducible rfl⟩
                · assumption
                try go_simp
                refine wpAnyH_take (i := 82) (oi := ?_) (v := ?_) ?_ ?_ ?_ ?_ ?_ ?_ ?_ ?_
                rotate_left 2
                · simp only [List.getElem?_toArray, List.getElem?_cons_succ, List.getElem?_cons_zero]; rfl
                · kernel_rfl
                · kernel_rfl
                · kernel_rfl
                · exact fun _ _ _ h => h
                · exact Or.inl ⟨by kernel_rfl, by intro w hSw; (try dsimp only at hSw); go_simp; try with_reducible rfl⟩
                · assumption
                try go_simp
                refine wpAnyH_done (by kernel_rfl) ?_ _
                refine NoPanic.normal ?_
                go_wp2_with fail
                go_roundg (2 - (j + 1))
                case measure => have := HJ.out; omega
                case rel => exact ⟨j + 1, by omega, by simp, HS10.out⟩
            · as_aux_lemma =>
                have h3 : ¬ (j : Int) < 2 := by omega
                have HSX := Lib.hid hsi
                clear hsi
                go_wp2_with fail
                go_roundg (l.length - (k + 1))
                case measure => have := HLT.out; have := HK.out; omega
                case rel => exact ⟨k + 1, S2, AL2, CL2, AW2, CW2, by have := HLT.out; omega, by simp, HSX.out, HFJ.out⟩
    · as_aux_lemma =>
        have p0 : wr.cell? ⟨g + 1 + 1, 0, none⟩ = some (.pointer (some ⟨g, 0, none⟩)) := hsi.ptr (a := 0) (by decide)
        have HSI := Lib.hid hsi
        clear hsi hfew
        by_cases h1 : k < l.length
        · have h2 : ¬ (k : Int) < 60 := by omega
          have h3 : (k : Int) < (l.length : Int) := by omega
          have h4 : (60 : Int) ≤ (k : Int) := by omega
          go_wp2_with fail
          refine (take_nil g _).mono ?_
          rintro e w3 ⟨rfl, hw⟩
          obtain rfl := hw
          go_wp2_with fail
          go_ret
          exact ⟨rfl, HSI.out.bel⟩
        · have h3 : ¬ (k : Int) < (l.length : Int) := by omega
          go_wp2_with fail
          refine (take_nil g _).mono ?_
          rintro e w3 ⟨rfl, hw⟩
          obtain rfl := hw
          go_wp2_with fail
          go_ret
          exact ⟨rfl, HSI.out.bel⟩
end Go.Proofs.Ytfpehefcgfhdmaa
