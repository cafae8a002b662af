/- CollapsePlays walked. -/
import Derived.Test.YtmpmjgoipfgfoaaCoQ
import Derived.Test.YtmpmjgoipfgfoaaOpenPairs
import Derived.Deep.RegionHeld3
import Derived.Deep.DeepCutAuto
import Derived.Deep.CutBlock
import Derived.Deep.LoopGhost
import Derived.Outline
namespace Go.Proofs.Ytmpmjgoipfgfoaa
open Go.RowKit
open Pl

theorem open_collapsePlays_1 {H : Type} {enc : TypeId × Value → H} {w : World} {base : Nat} {spare : Nat → Bool} {held : Bool} {r : Reach} {b0 : Nat} {v : Value} {d : DataW H} {p : List MemPlace}
    (hv : Value.okWide Try.prog w r b0 47 v) (h : DataW.Trod enc Try.prog w base spare held 47 v d p) :
    ∃ (A : Option Addr) (c : Nat) (l : List PlayOp), v = .slice A l.length c ∧ l.length ≤ maxLen ∧ Ops w A l := by
  obtain ⟨A, c, l, h1, h2, _, h3, h4⟩ := open_rows (s := 4) Try.underlying47 (by kernel_rfl) (by decide) hv h opcell (fun _ => rfl) OpOk (fun n cs y hl hy => by
    obtain ⟨xs, m, _, _, _, hlen, hf⟩ := DataW.trod_struct Try.underlying52 hy
    match cs, hl with
    | [c0, c1, c2, c3], _ =>
      match xs, hlen with
      | [y0, y1, y2, y3], _ =>
        have t0 := hf 0 _ rfl
        have t1 := hf 1 _ rfl
        have t2 := hf 2 _ rfl
        have t3 := hf 3 _ rfl
        obtain ⟨z0, e0, _, w0⟩ := DataW.trod_int Try.underlying5 t0
        obtain ⟨z1, e1, _⟩ := DataW.trod_bool Try.underlying4 t1
        obtain ⟨z2, e2, _, w2⟩ := DataW.trod_int Try.underlying3 t2
        obtain ⟨z3, e3, _, w3⟩ := DataW.trod_int Try.underlying24 t3
        have b0 := Go.Proofs.Ytmpmjgoipfgfoaa.WfBounds.u8 w0
        have b2 := Go.Proofs.Ytmpmjgoipfgfoaa.WfBounds.i64 w2
        have b3 := Go.Proofs.Ytmpmjgoipfgfoaa.WfBounds.u64 w3
        have f0 : c0 = .int .u8 z0 := by simpa [show Try.prog.cellsOf 5 = 1 by kernel_rfl] using e0
        have f1 : c1 = .bool z1 := by simpa [show Try.prog.cellsOf 4 = 1 by kernel_rfl] using e1
        have f2 : c2 = .int .i64 z2 := by simpa [show Try.prog.cellsOf 3 = 1 by kernel_rfl] using e2
        have f3 : c3 = .int .u64 z3 := by simpa [show Try.prog.cellsOf 24 = 1 by kernel_rfl] using e3
        refine ⟨(z0.toNat, z1, z2, z3.toNat), ?_, by simp only; omega, b2.1, b2.2, by simp only; omega⟩
        rw [f0, f1, f2, f3, opcell]
        simp only
        rw [show ((z0.toNat : Nat) : Int) = z0 by omega, show ((z3.toNat : Nat) : Int) = z3 by omega])
  exact ⟨A, c, l, h1, h2, h3, h4⟩
set_option maxHeartbeats 12800000 in
set_option maxRecDepth 100000 in
theorem collapsePlays_walk (w : World) (m : Int) (m0 : 0 ≤ m) (_m1 : m ≤ 65535) (A : Option Addr) (c : Nat) (l : List PlayOp) (_m : l.length ≤ maxLen) (s : Ops w A l) :
    Calls Try.prog 7 #[.int .u16 m, .slice A l.length c] w fun e w' => e = .returned (.bool true) ∧ Below w.heap.size w w' := by
  obtain ⟨m, rfl⟩ : ∃ k : Nat, m = (k : Int) := ⟨m.toNat, by omega⟩
  obtain ⟨hok, hp⟩ := s
  have HA := alive_t
  have HP := Lib.hid hp
  have HOK := Lib.hid hok
  obtain ⟨mq, hmq⟩ : ∃ mq : Nat, mq = m % 40 := ⟨_, rfl⟩
  have hmq2 : (m : Int) % 40 = (mq : Int) := by omega
  have hmq3 : (mq : Int) < 40 := by omega
  obtain ⟨b, hbe⟩ : ∃ b : Nat, b = 2 + mq := ⟨_, rfl⟩
  have hb2 : 2 + (mq : Int) = (b : Int) := by omega
  have hb1 : (2 : Int) ≤ (b : Int) := by omega
  have hb41 : (b : Int) ≤ 41 := by omega
  clear hp hok hmq hbe
  have hmk : ∀ W, (Instr.makeSlice 50 (.int .i64 2) (.int .i64 2)).run Try.prog W = .ok (.slice (some ⟨W.heap.size, 0, none⟩) 2 2) (W.alloc (.cells #[.slice none 0 0, .slice none 0 0] 23)) := fun _ => by kernel_rfl
  go_enter Try.func7, Try.ntmps7
  go_wp2_with fail
  refine (HA _).mono ?_
  rintro e w1 ⟨rfl, hb1'⟩
  have HB1 := Lib.hid hb1'
  clear hb1'
  go_wp2_with fail
  refine (new_e (b : Int) w1 hb1 (by omega)).mono ?_
  rintro e w2 ⟨g0, gl0, rfl, hg0, hgl0, hs0, hbb2⟩
  have HS0 := Lib.hid (And.intro hs0 (And.intro hg0 hgl0))
  have HB2 := Lib.hid (nextB HB1.out hbb2)
  clear hg0 hgl0 hs0 hbb2
  go_wp2_with fail
  refine (new_e (b : Int) w2 hb1 (by omega)).mono ?_
  rintro e w3 ⟨g1, gl1, rfl, hg1, hgl1, hs1, hbb3⟩
  have HS1 := Lib.hid (And.intro hs1 (And.intro hg1 hgl1))
  have HS01 := Lib.hid (HS0.out.1.below hbb3)
  have HB3 := Lib.hid (nextB HB2.out hbb3)
  clear hg1 hgl1 hs1 hbb3
  go_wp2_with fail
  refine (new_e ((b : Int) + 1) w3 (by omega) (by omega)).mono ?_
  rintro e w4 ⟨g3, gl3, rfl, hg3, hgl3, hs3, hbb4⟩
  have HS3 := Lib.hid (And.intro hs3 (And.intro hg3 hgl3))
  have HS02 := Lib.hid (And.intro (HS01.out.below hbb4) (HS1.out.1.below hbb4))
  have HB4 := Lib.hid (nextB HB3.out hbb4)
  clear hg3 hgl3 hs3 hbb4
  go_wp2_with fail
  refine (sbudget_t g0 gl0 none 0 (b : Int) [] w4 HS02.out.1).mono ?_
  rintro e w5 ⟨rfl, rfl⟩
  go_wp2_with fail
  have hci : CI w (b : Int) w4.heap.size (w4.heap.size + 1) g0 g1 gl0 gl1 g3 gl3 (fun _ => []) (fun _ => []) (fun _ => none) (fun _ => 0) (fun _ => none) (fun _ => 0) ((w4.alloc (.cells #[.pointer (some ⟨g0, 0, none⟩), .pointer (some ⟨g1, 0, none⟩)] 26)).alloc (.cells #[.slice none 0 0, .slice none 0 0] 23)) := by
    have b1 : Below w4.heap.size w4 ((w4.alloc (.cells #[.pointer (some ⟨g0, 0, none⟩), .pointer (some ⟨g1, 0, none⟩)] 26)).alloc (.cells #[.slice none 0 0, .slice none 0 0] 23)) := ((Below.refl _ _).alloc (Nat.le_refl _) _).alloc (by simp) _
    have k0 := And.intro HS0.out.1.blk.lt HS0.out.1.lst.1.lt
    have k1 := And.intro HS1.out.1.blk.lt HS1.out.1.lst.1.lt
    have k4 := HS0.out.2
    have k5 := HS1.out.2
    have k6 := HS3.out.2
    have s1 := HB1.out.size
    have s2 := HB2.out.size
    have s3 := HB3.out.size
    refine ⟨⟨fun a ha => ?_, fun a d ha hd e => ?_, fun a ha => ?_, nextB HB4.out b1⟩, fun a _ => Own.nil _ _ _ _, fun a d _ _ x h => (by cases h), ?_, ?_, by have := HB4.out.size; omega, HS3.out.1.below b1, fun a ha => ?_⟩
    · rcases (by omega : a = 0 ∨ a = 1) with rfl | rfl
      · exact HS02.out.1.below b1
      · exact HS02.out.2.below b1
    · refine ⟨?_, ?_, fun x h => (by cases h)⟩
      · rcases (by omega : a = 0 ∧ d = 1 ∨ a = 1 ∧ d = 0) with ⟨rfl, rfl⟩ | ⟨rfl, rfl⟩ <;> simp [two] <;> omega
      · rcases (by omega : a = 0 ∧ d = 1 ∨ a = 1 ∧ d = 0) with ⟨rfl, rfl⟩ | ⟨rfl, rfl⟩ <;> simp [two] <;> omega
    · rcases (by omega : a = 0 ∨ a = 1) with rfl | rfl <;> simp [two] <;> omega
    · exact (Blk.new w4 26 #[.pointer (some ⟨g0, 0, none⟩), .pointer (some ⟨g1, 0, none⟩)]).alloc _
    · have h := Blk.new (w4.alloc (.cells #[.pointer (some ⟨g0, 0, none⟩), .pointer (some ⟨g1, 0, none⟩)] 26)) 23 #[.slice none 0 0, .slice none 0 0]
      simp only [World.size_alloc] at h
      exact h
    · rcases (by omega : a = 0 ∨ a = 1) with rfl | rfl <;> simp [two] <;> omega
  generalize ((w4.alloc (.cells #[.pointer (some ⟨g0, 0, none⟩), .pointer (some ⟨g1, 0, none⟩)] 26)).alloc (.cells #[.slice none 0 0, .slice none 0 0] 23)) = w0 at *
  have HCI0 := Lib.hid hci
  clear hci HB1 HB2 HB3 HB4 HS0 HS1 HS01 HS02 HS3
  generalize w4.heap.size = q at *
  go_loopg [14] (l.length) (fun gk i wr => ∃ (k : Nat) (S : Nat → List Pr) (AL : Nat → Option Addr) (CL : Nat → Nat) (AW : Nat → Option Addr) (CW : Nat → Nat), k + gk = l.length ∧ i = .int .i64 k ∧ CI w (b : Int) q (q + 1) g0 g1 gl0 gl1 g3 gl3 S S AL CL AW CW wr ∧ Few k S)
  case atStart => exact ⟨0, _, _, _, _, _, Nat.zero_add _, rfl, HCI0.out, Few.nil⟩
  case round =>
    obtain ⟨k, S, AL, CL, AW, CW, hk, rfl, hci, hfew⟩ := hrel
    by_cases hlt : k < l.length ∧ k < 60
    · obtain ⟨hlt, hlt60⟩ := hlt
      obtain ⟨⟨kind, who, key, n⟩, hp⟩ : ∃ x, l[k]? = some x := ⟨l[k], by simp [hlt]⟩
      obtain ⟨bb, o, rfl, hbl, c0, c1, c2, c3⟩ := ops_cells HP.out hp
      obtain ⟨o1, o2, o3, o4⟩ := HOK.out _ (List.mem_of_getElem? hp)
      simp only at c0 c1 c2 c3 o1 o2 o3 o4
      have hkk : (k : Int) < (l.length : Int) := by omega
      have hk6 : (k : Int) < 60 := by omega
      have hk0 : (0 : Int) ≤ (k : Int) := by omega
      have hcell : ∀ W, Below w.heap.size w W → W.cell? ⟨bb, o + k * 4, none⟩ = some (.int .u8 (kind : Nat)) ∧ W.cell? ⟨bb, o + k * 4 + 1, none⟩ = some (.bool who) ∧ W.cell? ⟨bb, o + k * 4 + 2, none⟩ = some (.int .i64 key) ∧ W.cell? ⟨bb, o + k * 4 + 3, none⟩ = some (.int .u64 (n : Nat)) := fun W hW =>
        ⟨(hW.cell (p := ⟨bb, o + k * 4, none⟩) hbl).trans c0, (hW.cell (p := ⟨bb, o + k * 4 + 1, none⟩) hbl).trans c1, (hW.cell (p := ⟨bb, o + k * 4 + 2, none⟩) hbl).trans c2, (hW.cell (p := ⟨bb, o + k * 4 + 3, none⟩) hbl).trans c3⟩
      have HCE := Lib.hid hcell
      obtain ⟨d0, d1, d2, d3⟩ := hcell wr hci.bel
      have HCI := Lib.hid hci
      have HFW := Lib.hid hfew
      have HK := Lib.hid hk
      have HLT := Lib.hid hlt
      have HL6 := Lib.hid hlt60
      clear hci hfew hk hlt hlt60 hp c0 c1 c2 c3 hcell
      obtain ⟨a, hae⟩ : ∃ a : Nat, a = if who then 1 else 0 := ⟨_, rfl⟩
      have ha2 : a < 2 := by rw [hae]; split <;> omega
      go_upto_if 79 with (fail)
      go_cut [15] (fun s6 wc => wr = wc ∧ s6 = .int .i64 (a : Int))
      case first =>
        cases who
        all_goals
          go_wp2_with fail
          go_meet
          case rel => exact ⟨rfl, by rw [hae]; rfl⟩
      case rest =>
        obtain ⟨rfl, rfl⟩ := hcut
        clear hae
        obtain ⟨r, hr⟩ : ∃ r, r = kind % 6 := ⟨_, rfl⟩
        have hr7 : r < 6 := by omega
        have hrr : (kind : Int) % 6 = (r : Int) := by omega
        clear hr
        obtain ⟨b', hbb, hbb2⟩ : ∃ b' : Nat, 1 - (a : Int) = (b' : Int) ∧ b' < 2 := ⟨1 - a, by omega, by omega⟩
        go_upto_if 88 with (fail)
        have ha0 : (0 : Int) ≤ (a : Int) := by omega
        have ha1 : (a : Int) < 2 := by omega
        have dp : wr.cell? ⟨q, a, none⟩ = some (.pointer (some ⟨two g0 g1 a, 0, none⟩)) := HCI.out.ptr ha2
        go_cut [16, 87, 88] (fun _ _ _ wc => ∃ (W5 : World) (S : Nat → List Pr) (AL : Nat → Option Addr) (CL : Nat → Nat) (AW : Nat → Option Addr) (CW : Nat → Nat), W5 = wc ∧ CI w (b : Int) q (q + 1) g0 g1 gl0 gl1 g3 gl3 S S AL CL AW CW W5 ∧ Few (k + 1) S)
        case first =>
          have hfa := HFW.out.fine a ha2
          have hla := HFW.out.len ha2
          have hta := hfa.tot
          have hl60 := HL6.out
          by_cases hadd : r < 4
          · as_aux_lemma =>
              have x4 : decide ((r : Int) < 4) = true := by simp; omega
              have x4b : decide (r < 4) = true := by simp; omega
              have hf := HFW.out.add ha2 (by omega) key n
              have HADD := fun W A c h => sadd_t (two g0 g1 a) (two gl0 gl1 a) A c (b : Int) (S a) key n W h hfa (by omega) hb1 (by omega)
              have HRA := fun W A' c' base h hb => addn_t A' c' base (S a) key n W h o4 (by omega) hta hb
              generalize radd (S a) key n 0 = RR at *
              replace HADD := Lib.hid HADD
              replace HRA := Lib.hid HRA
              have HF := Lib.hid hf
              clear hf hfa hla hta hl60 hr7 hadd
              rw [x4]
              go_wp2_with fail
              refine wp_region_noPanic ?_
              refine wp_region_held_drew (S := (fun w' => w'.cell? ⟨q, a, none⟩ = some (.pointer (some ⟨two g0 g1 a, 0, none⟩)) ∧ w'.cell? ⟨bb, o + k * 4 + 2, none⟩ = some (.int .i64 key) ∧ w'.cell? ⟨bb, o + k * 4 + 3, none⟩ = some (.int .u64 (n : Nat)))) (by kernel_rfl) ⟨dp, d2, d3⟩ (fun hHeld => ?_)
              refine wpAnyH_take (i := 0) (oi := ?_) (v := ?_) ?_ ?_ ?_ ?_ ?_ ?_ ?_ ?_
              rotate_left 2
              · simp only [List.getElem?_toArray, List.getElem?_cons_zero]; rfl
              · kernel_rfl
              · kernel_rfl
              · kernel_rfl
              · exact fun _ _ _ h => h
              · exact Or.inl ⟨by kernel_rfl, by intro w hSw; (try dsimp only at hSw); go_simp; try with_reducible rfl⟩
              · assumption
              try go_simp
              refine wpAnyH_take (i := 1) (oi := ?_) (v := ?_) ?_ ?_ ?_ ?_ ?_ ?_ ?_ ?_
              rotate_left 2
              · simp only [List.getElem?_toArray, List.getElem?_cons_succ, List.getElem?_cons_zero]; rfl
              · kernel_rfl
              · kernel_rfl
              · kernel_rfl
              · exact fun _ _ _ h => h
              · exact Or.inl ⟨by kernel_rfl, by intro w hSw; (try dsimp only at hSw); go_simp; try with_reducible rfl⟩
              · assumption
              try go_simp
              refine wpAnyH_take (i := 2) (oi := ?_) (v := ?_) ?_ ?_ ?_ ?_ ?_ ?_ ?_ ?_
              rotate_left 2
              · simp only [List.getElem?_toArray, List.getElem?_cons_succ, List.getElem?_cons_zero]; rfl
              · kernel_rfl
              · kernel_rfl
              · kernel_rfl
              · exact fun _ _ _ h => h
              · exact Or.inl ⟨by kernel_rfl, by intro w hSw; (try dsimp only at hSw); go_simp; try with_reducible rfl⟩
              · assumption
              try go_simp
              refine wpAnyH_take (i := 3) (oi := ?_) (v := ?_) ?_ ?_ ?_ ?_ ?_ ?_ ?_ ?_
              rotate_left 2
              · simp only [List.getElem?_toArray, List.getElem?_cons_succ, List.getElem?_cons_zero]; rfl
              · kernel_rfl
              · kernel_rfl
              · kernel_rfl
              · exact fun _ _ _ h => h
              · exact Or.inl ⟨by kernel_rfl, by intro w hSw; (try dsimp only at hSw); go_simp; try with_reducible rfl⟩
              · assumption
              try go_simp
              refine wpAnyH_take (i := 4) (oi := ?_) (v := ?_) ?_ ?_ ?_ ?_ ?_ ?_ ?_ ?_
              rotate_left 2
              · simp only [List.getElem?_toArray, List.getElem?_cons_succ, List.getElem?_cons_zero]; rfl
              · kernel_rfl
              · kernel_rfl
              · kernel_rfl
              · exact fun _ _ _ h => h
              · exact Or.inl ⟨by kernel_rfl, by intro w hSw; (try dsimp only at hSw); go_simp; try with_reducible rfl⟩
              · assumption
              try go_simp
              refine wpAnyH_take (i := 5) (oi := ?_) (v := ?_) ?_ ?_ ?_ ?_ ?_ ?_ ?_ ?_
              rotate_left 2
              · simp only [List.getElem?_toArray, List.getElem?_cons_succ, List.getElem?_cons_zero]; rfl
              · kernel_rfl
              · kernel_rfl
              · kernel_rfl
              · exact fun _ _ _ h => h
              · exact Or.inl ⟨by kernel_rfl, by intro w hSw; (try dsimp only at hSw); go_simp; try with_reducible rfl⟩
              · assumption
              try go_simp
              refine wpAnyH_take (i := 6) (oi := ?_) (v := ?_) ?_ ?_ ?_ ?_ ?_ ?_ ?_ ?_
              rotate_left 2
              · simp only [List.getElem?_toArray, List.getElem?_cons_succ, List.getElem?_cons_zero]; rfl
              · kernel_rfl
              · kernel_rfl
              · kernel_rfl
              · exact fun _ _ _ h => h
              · exact Or.inl ⟨by kernel_rfl, by intro w hSw; (try dsimp only at hSw); go_simp; try with_reducible rfl⟩
              · assumption
              try go_simp
              refine wpAnyH_take (i := 7) (oi := ?_) (v := ?_) ?_ ?_ ?_ ?_ ?_ ?_ ?_ ?_
              rotate_left 2
              · simp only [List.getElem?_toArray, List.getElem?_cons_succ, List.getElem?_cons_zero]; rfl
              · kernel_rfl
              · kernel_rfl
              · kernel_rfl
              · exact fun _ _ _ h => h
              · exact Or.inl ⟨by kernel_rfl, by intro w hSw; (try dsimp only at hSw); go_simp; try with_reducible rfl⟩
              · assumption
              try go_simp
              refine wpAnyH_take (i := 8) (oi := ?_) (v := ?_) ?_ ?_ ?_ ?_ ?_ ?_ ?_ ?_
              rotate_left 2
              · simp only [List.getElem?_toArray, List.getElem?_cons_succ, List.getElem?_cons_zero]; rfl
              · kernel_rfl
              · kernel_rfl
              · kernel_rfl
              · exact fun _ _ _ h => h
              · exact Or.inl ⟨by kernel_rfl, by intro w hSw; (try dsimp only at hSw); go_simp; try with_reducible rfl⟩
              · assumption
              try go_simp
              refine wpAnyH_take (i := 9) (oi := ?_) (v := ?_) ?_ ?_ ?_ ?_ ?_ ?_ ?_ ?_
              rotate_left 2
              · simp only [List.getElem?_toArray, List.getElem?_cons_succ, List.getElem?_cons_zero]; rfl
              · kernel_rfl
              · kernel_rfl
              · kernel_rfl
              · exact fun _ _ _ h => h
              · exact Or.inl ⟨by kernel_rfl, by intro w hSw; (try dsimp only at hSw); go_simp; try with_reducible rfl⟩
              · assumption
              try go_simp
              refine wpAnyH_take (i := 10) (oi := ?_) (v := ?_) ?_ ?_ ?_ ?_ ?_ ?_ ?_ ?_
              rotate_left 2
              · simp only [List.getElem?_toArray, List.getElem?_cons_succ, List.getElem?_cons_zero]; rfl
              · kernel_rfl
              · kernel_rfl
              · kernel_rfl
              · exact fun _ _ _ h => h
              · exact Or.inl ⟨by kernel_rfl, by intro w hSw; (try dsimp only at hSw); go_simp; try with_reducible rfl⟩
              · assumption
              try go_simp
              refine wpAnyH_take (i := 11) (oi := ?_) (v := ?_) ?_ ?_ ?_ ?_ ?_ ?_ ?_ ?_
              rotate_left 2
              · simp only [List.getElem?_toArray, List.getElem?_cons_succ, List.getElem?_cons_zero]; rfl
              · kernel_rfl
              · kernel_rfl
              · kernel_rfl
              · exact fun _ _ _ h => h
              · exact Or.inl ⟨by kernel_rfl, by intro w hSw; (try dsimp only at hSw); go_simp; try with_reducible rfl⟩
              · assumption
              try go_simp
              refine wpAnyH_take (i := 12) (oi := ?_) (v := ?_) ?_ ?_ ?_ ?_ ?_ ?_ ?_ ?_
              rotate_left 2
              · simp only [List.getElem?_toArray, List.getElem?_cons_succ, List.getElem?_cons_zero]; rfl
              · kernel_rfl
              · kernel_rfl
              · kernel_rfl
              · exact fun _ _ _ h => h
              · exact Or.inl ⟨by kernel_rfl, by intro w hSw; (try dsimp only at hSw); go_simp; try with_reducible rfl⟩
              · assumption
              try go_simp
              refine wpAnyH_take (i := 13) (oi := ?_) (v := ?_) ?_ ?_ ?_ ?_ ?_ ?_ ?_ ?_
              rotate_left 2
              · simp only [List.getElem?_toArray, List.getElem?_cons_succ, List.getElem?_cons_zero]; rfl
              · kernel_rfl
              · kernel_rfl
              · kernel_rfl
              · exact fun _ _ _ h => h
              · exact Or.inl ⟨by kernel_rfl, by intro w hSw; (try dsimp only at hSw); go_simp; try with_reducible rfl⟩
              · assumption
              try go_simp
              refine wpAnyH_ready (rs := [14]) (by kernel_rfl) (by simp) ?_
              refine AllReadyH.cons (o := ?_) ?_ ?_ AllReadyH.nil
              rotate_left 1
              · simp only [List.getElem?_toArray, List.getElem?_cons_succ, List.getElem?_cons_zero]; rfl
              intro K hK
              go_simp
              refine (HADD.out wr.drew _ _ ((HCI.out.drewN 1).ms.sto a ha2)).mono ?_
              rintro e w2 ⟨rfl, A2, c2, hac⟩
              have hci2 : CI w (b : Int) q (q + 1) g0 g1 gl0 gl1 g3 gl3 (upd S a RR.1) S (upd AL a A2) (upd CL a c2) AW CW w2 := CI.act (wr := wr.drew) (HCI.out.drewN 1) ha2 hac
              obtain ⟨_, _, f2, f3⟩ := HCE.out w2 hci2.bel
              have fp : w2.cell? ⟨q, a, none⟩ = some (.pointer (some ⟨two g0 g1 a, 0, none⟩)) := hci2.ptr ha2
              have fl : w2.cell? ⟨q + 1, a, none⟩ = some (.slice (AW a) (S a).length (CW a)) := hci2.row ha2
              have HCI2 := Lib.hid hci2
              clear hac hci2
              refine hK.out _ _ ?_ (fun hHeld => ?_)
              · exact ⟨fp, f2, f3⟩
              clear hK K
              try go_simp
              refine wpAnyH_take (i := 15) (oi := ?_) (v := ?_) ?_ ?_ ?_ ?_ ?_ ?_ ?_ ?_
              rotate_left 2
              · simp only [List.getElem?_toArray, List.getElem?_cons_succ, List.getElem?_cons_zero]; rfl
              · kernel_rfl
              · kernel_rfl
              · kernel_rfl
              · exact fun _ _ _ h => h
              · exact Or.inl ⟨by kernel_rfl, by intro w hSw; (try dsimp only at hSw); go_simp; try with_reducible rfl⟩
              · assumption
              try go_simp
              refine wpAnyH_done (by kernel_rfl) ?_ _
              refine NoPanic.normal ?_
              go_wp2_with fail
              refine wp_region_noPanic ?_
              refine wp_region_held_drew (S := (fun w' => w'.cell? ⟨q + 1, a, none⟩ = some (.slice (AW a) (S a).length (CW a)) ∧ w'.cell? ⟨bb, o + k * 4 + 2, none⟩ = some (.int .i64 key) ∧ w'.cell? ⟨bb, o + k * 4 + 3, none⟩ = some (.int .u64 (n : Nat)))) (by kernel_rfl) ⟨fl, f2, f3⟩ (fun hHeld => ?_)
              refine wpAnyH_take (i := 0) (oi := ?_) (v := ?_) ?_ ?_ ?_ ?_ ?_ ?_ ?_ ?_
              rotate_left 2
              · simp only [List.getElem?_toArray, List.getElem?_cons_zero]; rfl
              · kernel_rfl
              · kernel_rfl
              · kernel_rfl
              · exact fun _ _ _ h => h
              · exact Or.inl ⟨by kernel_rfl, by intro w hSw; (try dsimp only at hSw); go_simp; try with_reducible rfl⟩
              · assumption
              try go_simp
              refine wpAnyH_take (i := 1) (oi := ?_) (v := ?_) ?_ ?_ ?_ ?_ ?_ ?_ ?_ ?_
              rotate_left 2
              · simp only [List.getElem?_toArray, List.getElem?_cons_succ, List.getElem?_cons_zero]; rfl
              · kernel_rfl
              · kernel_rfl
              · kernel_rfl
              · exact fun _ _ _ h => h
              · exact Or.inl ⟨by kernel_rfl, by intro w hSw; (try dsimp only at hSw); go_simp; try with_reducible rfl⟩
              · assumption
              try go_simp
              refine wpAnyH_take (i := 2) (oi := ?_) (v := ?_) ?_ ?_ ?_ ?_ ?_ ?_ ?_ ?_
              rotate_left 2
              · simp only [List.getElem?_toArray, List.getElem?_cons_succ, List.getElem?_cons_zero]; rfl
              · kernel_rfl
              · kernel_rfl
              · kernel_rfl
              · exact fun _ _ _ h => h
              · exact Or.inl ⟨by kernel_rfl, by intro w hSw; (try dsimp only at hSw); go_simp; try with_reducible rfl⟩
              · assumption
              try go_simp
              refine wpAnyH_take (i := 3) (oi := ?_) (v := ?_) ?_ ?_ ?_ ?_ ?_ ?_ ?_ ?_
              rotate_left 2
              · simp only [List.getElem?_toArray, List.getElem?_cons_succ, List.getElem?_cons_zero]; rfl
              · kernel_rfl
              · kernel_rfl
              · kernel_rfl
              · exact fun _ _ _ h => h
              · exact Or.inl ⟨by kernel_rfl, by intro w hSw; (try dsimp only at hSw); go_simp; try with_reducible rfl⟩
              · assumption
              try go_simp
              refine wpAnyH_take (i := 4) (oi := ?_) (v := ?_) ?_ ?_ ?_ ?_ ?_ ?_ ?_ ?_
              rotate_left 2
              · simp only [List.getElem?_toArray, List.getElem?_cons_succ, List.getElem?_cons_zero]; rfl
              · kernel_rfl
              · kernel_rfl
              · kernel_rfl
              · exact fun _ _ _ h => h
              · exact Or.inl ⟨by kernel_rfl, by intro w hSw; (try dsimp only at hSw); go_simp; try with_reducible rfl⟩
              · assumption
              try go_simp
              refine wpAnyH_take (i := 5) (oi := ?_) (v := ?_) ?_ ?_ ?_ ?_ ?_ ?_ ?_ ?_
              rotate_left 2
              · simp only [List.getElem?_toArray, List.getElem?_cons_succ, List.getElem?_cons_zero]; rfl
              · kernel_rfl
              · kernel_rfl
              · kernel_rfl
              · exact fun _ _ _ h => h
              · exact Or.inl ⟨by kernel_rfl, by intro w hSw; (try dsimp only at hSw); go_simp; try with_reducible rfl⟩
              · assumption
              try go_simp
              refine wpAnyH_take (i := 6) (oi := ?_) (v := ?_) ?_ ?_ ?_ ?_ ?_ ?_ ?_ ?_
              rotate_left 2
              · simp only [List.getElem?_toArray, List.getElem?_cons_succ, List.getElem?_cons_zero]; rfl
              · kernel_rfl
              · kernel_rfl
              · kernel_rfl
              · exact fun _ _ _ h => h
              · exact Or.inl ⟨by kernel_rfl, by intro w hSw; (try dsimp only at hSw); go_simp; try with_reducible rfl⟩
              · assumption
              try go_simp
              refine wpAnyH_take (i := 7) (oi := ?_) (v := ?_) ?_ ?_ ?_ ?_ ?_ ?_ ?_ ?_
              rotate_left 2
              · simp only [List.getElem?_toArray, List.getElem?_cons_succ, List.getElem?_cons_zero]; rfl
              · kernel_rfl
              · kernel_rfl
              · kernel_rfl
              · exact fun _ _ _ h => h
              · exact Or.inl ⟨by kernel_rfl, by intro w hSw; (try dsimp only at hSw); go_simp; try with_reducible rfl⟩
              · assumption
              try go_simp
              refine wpAnyH_take (i := 8) (oi := ?_) (v := ?_) ?_ ?_ ?_ ?_ ?_ ?_ ?_ ?_
              rotate_left 2
              · simp only [List.getElem?_toArray, List.getElem?_cons_succ, List.getElem?_cons_zero]; rfl
              · kernel_rfl
              · kernel_rfl
              · kernel_rfl
              · exact fun _ _ _ h => h
              · exact Or.inl ⟨by kernel_rfl, by intro w hSw; (try dsimp only at hSw); go_simp; try with_reducible rfl⟩
              · assumption
              try go_simp
              refine wpAnyH_take (i := 9) (oi := ?_) (v := ?_) ?_ ?_ ?_ ?_ ?_ ?_ ?_ ?_
              rotate_left 2
              · simp only [List.getElem?_toArray, List.getElem?_cons_succ, List.getElem?_cons_zero]; rfl
              · kernel_rfl
              · kernel_rfl
              · kernel_rfl
              · exact fun _ _ _ h => h
              · exact Or.inl ⟨by kernel_rfl, by intro w hSw; (try dsimp only at hSw); go_simp; try with_reducible rfl⟩
              · assumption
              try go_simp
              refine wpAnyH_take (i := 10) (oi := ?_) (v := ?_) ?_ ?_ ?_ ?_ ?_ ?_ ?_ ?_
              rotate_left 2
              · simp only [List.getElem?_toArray, List.getElem?_cons_succ, List.getElem?_cons_zero]; rfl
              · kernel_rfl
              · kernel_rfl
              · kernel_rfl
              · exact fun _ _ _ h => h
              · exact Or.inl ⟨by kernel_rfl, by intro w hSw; (try dsimp only at hSw); go_simp; try with_reducible rfl⟩
              · assumption
              try go_simp
              refine wpAnyH_take (i := 11) (oi := ?_) (v := ?_) ?_ ?_ ?_ ?_ ?_ ?_ ?_ ?_
              rotate_left 2
              · simp only [List.getElem?_toArray, List.getElem?_cons_succ, List.getElem?_cons_zero]; rfl
              · kernel_rfl
              · kernel_rfl
              · kernel_rfl
              · exact fun _ _ _ h => h
              · exact Or.inl ⟨by kernel_rfl, by intro w hSw; (try dsimp only at hSw); go_simp; try with_reducible rfl⟩
              · assumption
              try go_simp
              refine wpAnyH_take (i := 12) (oi := ?_) (v := ?_) ?_ ?_ ?_ ?_ ?_ ?_ ?_ ?_
              rotate_left 2
              · simp only [List.getElem?_toArray, List.getElem?_cons_succ, List.getElem?_cons_zero]; rfl
              · kernel_rfl
              · kernel_rfl
              · kernel_rfl
              · exact fun _ _ _ h => h
              · exact Or.inl ⟨by kernel_rfl, by intro w hSw; (try dsimp only at hSw); go_simp; try with_reducible rfl⟩
              · assumption
              try go_simp
              refine wpAnyH_take (i := 13) (oi := ?_) (v := ?_) ?_ ?_ ?_ ?_ ?_ ?_ ?_ ?_
              rotate_left 2
              · simp only [List.getElem?_toArray, List.getElem?_cons_succ, List.getElem?_cons_zero]; rfl
              · kernel_rfl
              · kernel_rfl
              · kernel_rfl
              · exact fun _ _ _ h => h
              · exact Or.inl ⟨by kernel_rfl, by intro w hSw; (try dsimp only at hSw); go_simp; try with_reducible rfl⟩
              · assumption
              try go_simp
              refine wpAnyH_ready (rs := [14]) (by kernel_rfl) (by simp) ?_
              refine AllReadyH.cons (o := ?_) ?_ ?_ AllReadyH.nil
              rotate_left 1
              · simp only [List.getElem?_toArray, List.getElem?_cons_succ, List.getElem?_cons_zero]; rfl
              intro K hK
              go_simp
              refine (HRA.out w2.drew (AW a) (CW a) w.heap.size ((HCI2.out.drewN 1).own a ha2) HCI2.out.bel.size).mono ?_
              rintro e w3 ⟨A3, c3, rfl, ho3, hb3, hn3⟩
              have hci3 : CI w (b : Int) q (q + 1) g0 g1 gl0 gl1 g3 gl3 (upd S a RR.1) S (upd AL a A2) (upd CL a c2) AW CW w3 := CI.below (wr := w2.drew) (HCI2.out.drewN 1) hb3
              have hap := CI.apart (wr := w2.drew) (HCI2.out.drewN 1) ha2 hn3
              have gf : w3.frozen? ⟨q + 1, a, none⟩ = false := hci3.bwl.free a
              obtain ⟨_, _, g2, g3'⟩ := HCE.out w3 hci3.bel
              have gl : w3.cell? ⟨q + 1, a, none⟩ = some (.slice (AW a) (S a).length (CW a)) := hci3.row ha2
              have HCI3 := Lib.hid hci3
              have HO3 := Lib.hid ho3
              have HAP := Lib.hid hap
              clear ho3 hb3 hn3 hci3 hap
              refine hK.out _ _ ?_ (fun hHeld => ?_)
              · exact ⟨gl, g2, g3'⟩
              clear hK K
              try go_simp
              refine wpAnyH_take (i := 15) (oi := ?_) (v := ?_) ?_ ?_ ?_ ?_ ?_ ?_ ?_ ?_
              rotate_left 2
              · simp only [List.getElem?_toArray, List.getElem?_cons_succ, List.getElem?_cons_zero]; rfl
              · kernel_rfl
              · kernel_rfl
              · kernel_rfl
              · exact fun _ _ _ h => h
              · exact Or.inl ⟨by kernel_rfl, by intro w hSw; (try dsimp only at hSw); go_simp; try with_reducible rfl⟩
              · assumption
              try go_simp
              refine wpAnyH_take (i := 16) (oi := ?_) (v := ?_) ?_ ?_ ?_ ?_ ?_ ?_ ?_ ?_
              rotate_left 2
              · simp only [List.getElem?_toArray, List.getElem?_cons_succ, List.getElem?_cons_zero]; rfl
              · kernel_rfl
              · kernel_rfl
              · kernel_rfl
              · exact fun _ _ _ h => h
              · exact Or.inl ⟨by kernel_rfl, by intro w hSw; (try dsimp only at hSw); go_simp; try with_reducible rfl⟩
              · assumption
              try go_simp
              refine wpAnyH_take (i := 17) (oi := ?_) (v := ?_) ?_ ?_ ?_ ?_ ?_ ?_ ?_ ?_
              rotate_left 2
              · simp only [List.getElem?_toArray, List.getElem?_cons_succ, List.getElem?_cons_zero]; rfl
              · kernel_rfl
              · kernel_rfl
              · kernel_rfl
              · exact fun _ _ _ h => h
              · exact Or.inl ⟨by kernel_rfl, by intro w hSw; (try dsimp only at hSw); go_simp; try with_reducible rfl⟩
              · assumption
              try go_simp
              refine wpAnyH_take (i := 18) (oi := ?_) (v := ?_) ?_ ?_ ?_ ?_ ?_ ?_ ?_ ?_
              rotate_left 2
              · simp only [List.getElem?_toArray, List.getElem?_cons_succ, List.getElem?_cons_zero]; rfl
              · kernel_rfl
              · kernel_rfl
              · kernel_rfl
              · exact fun _ _ _ h => h
              · exact Or.inl ⟨by kernel_rfl, by intro w hSw; (try dsimp only at hSw); go_simp; try with_reducible rfl⟩
              · assumption
              try go_simp
              refine wpAnyH_take (i := 19) (oi := ?_) (v := ?_) ?_ ?_ ?_ ?_ ?_ ?_ ?_ ?_
              rotate_left 2
              · simp only [List.getElem?_toArray, List.getElem?_cons_succ, List.getElem?_cons_zero]; rfl
              · kernel_rfl
              · kernel_rfl
              · kernel_rfl
              · exact fun _ _ _ h => h
              · exact Or.inl ⟨by kernel_rfl, by intro w hSw; (try dsimp only at hSw); go_simp; try with_reducible rfl⟩
              · assumption
              try go_simp
              refine wpAnyH_done (by kernel_rfl) ?_ _
              refine NoPanic.normal ?_
              go_wp2_with fail
              go_meet
              case rel => exact ⟨_, _, _, _, _, _, rfl, CI.put HCI3.out ha2 HO3.out HAP.out, HF.out⟩
          · by_cases h5 : r = 5
            · as_aux_lemma =>
                have x5 : ((r : Int) == 5) = true := by simp; omega
                have x5b : (r == 5) = true := by simp; omega
                have x4 : decide ((r : Int) < 4) = false := by simp; omega
                have x4b : decide (r < 4) = false := by simp; omega
                have hfb := HFW.out.fine a ha2
                have hlb := HFW.out.len ha2
                have htb := hfb.tot
                have hb0' : (0 : Int) ≤ (a : Int) := by omega
                have hb1' : (a : Int) < 2 := by omega
                have dpb : wr.cell? ⟨q, a, none⟩ = some (.pointer (some ⟨two g0 g1 a, 0, none⟩)) := HCI.out.ptr ha2
                have hf := HFW.out.take ha2 ha2 (by omega)
                have HTK := fun W A c A' c' h h' => stake_t (two g0 g1 a) (two gl0 gl1 a) (two g0 g1 a) (two gl0 gl1 a) A A' c c' (b : Int) (S a) (S a) W h h' hfa hfb (by omega) hb1 (by omega)
                have HRT := fun W A1 c1 A2 c2 base h h2 hb => taken_0 A1 A2 c1 c2 base (S a) (S a) W h h2 (by omega) (by omega) hta htb hb
                generalize rtake (S a) (S a) 0 = RR at *
                replace HTK := Lib.hid HTK
                replace HRT := Lib.hid HRT
                have HF := Lib.hid hf
                clear hf hfa hla hta hl60 hr7 hfb hlb htb hadd h5
                rw [x4]
                go_wp2_with fail
                refine wp_region_noPanic ?_
                refine wp_region_held_drew (S := (fun w' => w'.cell? ⟨q, a, none⟩ = some (.pointer (some ⟨two g0 g1 a, 0, none⟩)) ∧ w'.cell? ⟨q, a, none⟩ = some (.pointer (some ⟨two g0 g1 a, 0, none⟩)))) (by kernel_rfl) ⟨dp, dpb⟩ (fun hHeld => ?_)
                refine wpAnyH_take (i := 0) (oi := ?_) (v := ?_) ?_ ?_ ?_ ?_ ?_ ?_ ?_ ?_
                rotate_left 2
                · simp only [List.getElem?_toArray, List.getElem?_cons_zero]; rfl
                · kernel_rfl
                · kernel_rfl
                · kernel_rfl
                · exact fun _ _ _ h => h
                · exact Or.inl ⟨by kernel_rfl, by intro w hSw; (try dsimp only at hSw); go_simp; try with_reducible rfl⟩
                · assumption
                try go_simp
                refine wpAnyH_take (i := 1) (oi := ?_) (v := ?_) ?_ ?_ ?_ ?_ ?_ ?_ ?_ ?_
                rotate_left 2
                · simp only [List.getElem?_toArray, List.getElem?_cons_succ, List.getElem?_cons_zero]; rfl
                · kernel_rfl
                · kernel_rfl
                · kernel_rfl
                · exact fun _ _ _ h => h
                · exact Or.inl ⟨by kernel_rfl, by intro w hSw; (try dsimp only at hSw); go_simp; try with_reducible rfl⟩
                · assumption
                try go_simp
                refine wpAnyH_take (i := 2) (oi := ?_) (v := ?_) ?_ ?_ ?_ ?_ ?_ ?_ ?_ ?_
                rotate_left 2
                · simp only [List.getElem?_toArray, List.getElem?_cons_succ, List.getElem?_cons_zero]; rfl
                · kernel_rfl
                · kernel_rfl
                · kernel_rfl
                · exact fun _ _ _ h => h
                · exact Or.inl ⟨by kernel_rfl, by intro w hSw; (try dsimp only at hSw); go_simp; try with_reducible rfl⟩
                · assumption
                try go_simp
                refine wpAnyH_take (i := 3) (oi := ?_) (v := ?_) ?_ ?_ ?_ ?_ ?_ ?_ ?_ ?_
                rotate_left 2
                · simp only [List.getElem?_toArray, List.getElem?_cons_succ, List.getElem?_cons_zero]; rfl
                · kernel_rfl
                · kernel_rfl
                · kernel_rfl
                · exact fun _ _ _ h => h
                · exact Or.inl ⟨by kernel_rfl, by intro w hSw; (try dsimp only at hSw); go_simp; try with_reducible rfl⟩
                · assumption
                try go_simp
                refine wpAnyH_take (i := 4) (oi := ?_) (v := ?_) ?_ ?_ ?_ ?_ ?_ ?_ ?_ ?_
                rotate_left 2
                · simp only [List.getElem?_toArray, List.getElem?_cons_succ, List.getElem?_cons_zero]; rfl
                · kernel_rfl
                · kernel_rfl
                · kernel_rfl
                · exact fun _ _ _ h => h
                · exact Or.inl ⟨by kernel_rfl, by intro w hSw; (try dsimp only at hSw); go_simp; try with_reducible rfl⟩
                · assumption
                try go_simp
                refine wpAnyH_take (i := 5) (oi := ?_) (v := ?_) ?_ ?_ ?_ ?_ ?_ ?_ ?_ ?_
                rotate_left 2
                · simp only [List.getElem?_toArray, List.getElem?_cons_succ, List.getElem?_cons_zero]; rfl
                · kernel_rfl
                · kernel_rfl
                · kernel_rfl
                · exact fun _ _ _ h => h
                · exact Or.inl ⟨by kernel_rfl, by intro w hSw; (try dsimp only at hSw); go_simp; try with_reducible rfl⟩
                · assumption
                try go_simp
                refine wpAnyH_take (i := 6) (oi := ?_) (v := ?_) ?_ ?_ ?_ ?_ ?_ ?_ ?_ ?_
                rotate_left 2
                · simp only [List.getElem?_toArray, List.getElem?_cons_succ, List.getElem?_cons_zero]; rfl
                · kernel_rfl
                · kernel_rfl
                · kernel_rfl
                · exact fun _ _ _ h => h
                · exact Or.inl ⟨by kernel_rfl, by intro w hSw; (try dsimp only at hSw); go_simp; try with_reducible rfl⟩
                · assumption
                try go_simp
                refine wpAnyH_take (i := 7) (oi := ?_) (v := ?_) ?_ ?_ ?_ ?_ ?_ ?_ ?_ ?_
                rotate_left 2
                · simp only [List.getElem?_toArray, List.getElem?_cons_succ, List.getElem?_cons_zero]; rfl
                · kernel_rfl
                · kernel_rfl
                · kernel_rfl
                · exact fun _ _ _ h => h
                · exact Or.inl ⟨by kernel_rfl, by intro w hSw; (try dsimp only at hSw); go_simp; try with_reducible rfl⟩
                · assumption
                try go_simp
                refine wpAnyH_ready (rs := [8]) (by kernel_rfl) (by simp) ?_
                refine AllReadyH.cons (o := ?_) ?_ ?_ AllReadyH.nil
                rotate_left 1
                · simp only [List.getElem?_toArray, List.getElem?_cons_succ, List.getElem?_cons_zero]; rfl
                intro K hK
                go_simp
                refine (HTK.out wr.drew _ _ _ _ ((HCI.out.drewN 1).ms.sto a ha2) ((HCI.out.drewN 1).ms.sto a ha2)).mono ?_
                rintro e w2 ⟨rfl, A2, c2, hac⟩
                have hci2 : CI w (b : Int) q (q + 1) g0 g1 gl0 gl1 g3 gl3 (upd S a RR.1) S (upd AL a A2) (upd CL a c2) AW CW w2 := CI.act (wr := wr.drew) (HCI.out.drewN 1) ha2 hac
                have fp : w2.cell? ⟨q, a, none⟩ = some (.pointer (some ⟨two g0 g1 a, 0, none⟩)) := hci2.ptr ha2
                have fpb : w2.cell? ⟨q, a, none⟩ = some (.pointer (some ⟨two g0 g1 a, 0, none⟩)) := hci2.ptr ha2
                have fl : w2.cell? ⟨q + 1, a, none⟩ = some (.slice (AW a) (S a).length (CW a)) := hci2.row ha2
                have flb : w2.cell? ⟨q + 1, a, none⟩ = some (.slice (AW a) (S a).length (CW a)) := hci2.row ha2
                have HCI2 := Lib.hid hci2
                clear hac hci2
                refine hK.out _ _ ?_ (fun hHeld => ?_)
                · first | exact ⟨fp, fpb⟩ | exact fp
                clear hK K
                try go_simp
                refine wpAnyH_take (i := 9) (oi := ?_) (v := ?_) ?_ ?_ ?_ ?_ ?_ ?_ ?_ ?_
                rotate_left 2
                · simp only [List.getElem?_toArray, List.getElem?_cons_succ, List.getElem?_cons_zero]; rfl
                · kernel_rfl
                · kernel_rfl
                · kernel_rfl
                · exact fun _ _ _ h => h
                · exact Or.inl ⟨by kernel_rfl, by intro w hSw; (try dsimp only at hSw); go_simp; try with_reducible rfl⟩
                · assumption
                try go_simp
                refine wpAnyH_done (by kernel_rfl) ?_ _
                refine NoPanic.normal ?_
                go_wp2_with fail
                refine wp_region_noPanic ?_
                refine wp_region_held_drew (S := (fun w' => w'.cell? ⟨q + 1, a, none⟩ = some (.slice (AW a) (S a).length (CW a)) ∧ w'.cell? ⟨q + 1, a, none⟩ = some (.slice (AW a) (S a).length (CW a)))) (by kernel_rfl) ⟨fl, flb⟩ (fun hHeld => ?_)
                refine wpAnyH_take (i := 0) (oi := ?_) (v := ?_) ?_ ?_ ?_ ?_ ?_ ?_ ?_ ?_
                rotate_left 2
                · simp only [List.getElem?_toArray, List.getElem?_cons_zero]; rfl
                · kernel_rfl
                · kernel_rfl
                · kernel_rfl
                · exact fun _ _ _ h => h
                · exact Or.inl ⟨by kernel_rfl, by intro w hSw; (try dsimp only at hSw); go_simp; try with_reducible rfl⟩
                · assumption
                try go_simp
                refine wpAnyH_take (i := 1) (oi := ?_) (v := ?_) ?_ ?_ ?_ ?_ ?_ ?_ ?_ ?_
                rotate_left 2
                · simp only [List.getElem?_toArray, List.getElem?_cons_succ, List.getElem?_cons_zero]; rfl
                · kernel_rfl
                · kernel_rfl
                · kernel_rfl
                · exact fun _ _ _ h => h
                · exact Or.inl ⟨by kernel_rfl, by intro w hSw; (try dsimp only at hSw); go_simp; try with_reducible rfl⟩
                · assumption
                try go_simp
                refine wpAnyH_take (i := 2) (oi := ?_) (v := ?_) ?_ ?_ ?_ ?_ ?_ ?_ ?_ ?_
                rotate_left 2
                · simp only [List.getElem?_toArray, List.getElem?_cons_succ, List.getElem?_cons_zero]; rfl
                · kernel_rfl
                · kernel_rfl
                · kernel_rfl
                · exact fun _ _ _ h => h
                · exact Or.inl ⟨by kernel_rfl, by intro w hSw; (try dsimp only at hSw); go_simp; try with_reducible rfl⟩
                · assumption
                try go_simp
                refine wpAnyH_take (i := 3) (oi := ?_) (v := ?_) ?_ ?_ ?_ ?_ ?_ ?_ ?_ ?_
                rotate_left 2
                · simp only [List.getElem?_toArray, List.getElem?_cons_succ, List.getElem?_cons_zero]; rfl
                · kernel_rfl
                · kernel_rfl
                · kernel_rfl
                · exact fun _ _ _ h => h
                · exact Or.inl ⟨by kernel_rfl, by intro w hSw; (try dsimp only at hSw); go_simp; try with_reducible rfl⟩
                · assumption
                try go_simp
                refine wpAnyH_take (i := 4) (oi := ?_) (v := ?_) ?_ ?_ ?_ ?_ ?_ ?_ ?_ ?_
                rotate_left 2
                · simp only [List.getElem?_toArray, List.getElem?_cons_succ, List.getElem?_cons_zero]; rfl
                · kernel_rfl
                · kernel_rfl
                · kernel_rfl
                · exact fun _ _ _ h => h
                · exact Or.inl ⟨by kernel_rfl, by intro w hSw; (try dsimp only at hSw); go_simp; try with_reducible rfl⟩
                · assumption
                try go_simp
                refine wpAnyH_take (i := 5) (oi := ?_) (v := ?_) ?_ ?_ ?_ ?_ ?_ ?_ ?_ ?_
                rotate_left 2
                · simp only [List.getElem?_toArray, List.getElem?_cons_succ, List.getElem?_cons_zero]; rfl
                · kernel_rfl
                · kernel_rfl
                · kernel_rfl
                · exact fun _ _ _ h => h
                · exact Or.inl ⟨by kernel_rfl, by intro w hSw; (try dsimp only at hSw); go_simp; try with_reducible rfl⟩
                · assumption
                try go_simp
                refine wpAnyH_take (i := 6) (oi := ?_) (v := ?_) ?_ ?_ ?_ ?_ ?_ ?_ ?_ ?_
                rotate_left 2
                · simp only [List.getElem?_toArray, List.getElem?_cons_succ, List.getElem?_cons_zero]; rfl
                · kernel_rfl
                · kernel_rfl
                · kernel_rfl
                · exact fun _ _ _ h => h
                · exact Or.inl ⟨by kernel_rfl, by intro w hSw; (try dsimp only at hSw); go_simp; try with_reducible rfl⟩
                · assumption
                try go_simp
                refine wpAnyH_take (i := 7) (oi := ?_) (v := ?_) ?_ ?_ ?_ ?_ ?_ ?_ ?_ ?_
                rotate_left 2
                · simp only [List.getElem?_toArray, List.getElem?_cons_succ, List.getElem?_cons_zero]; rfl
                · kernel_rfl
                · kernel_rfl
                · kernel_rfl
                · exact fun _ _ _ h => h
                · exact Or.inl ⟨by kernel_rfl, by intro w hSw; (try dsimp only at hSw); go_simp; try with_reducible rfl⟩
                · assumption
                try go_simp
                refine wpAnyH_ready (rs := [8]) (by kernel_rfl) (by simp) ?_
                refine AllReadyH.cons (o := ?_) ?_ ?_ AllReadyH.nil
                rotate_left 1
                · simp only [List.getElem?_toArray, List.getElem?_cons_succ, List.getElem?_cons_zero]; rfl
                intro K hK
                go_simp
                refine (HRT.out w2.drew (AW a) (CW a) (AW a) (CW a) w.heap.size ((HCI2.out.drewN 1).own a ha2) ((HCI2.out.drewN 1).own a ha2).reads HCI2.out.bel.size).mono ?_
                rintro e w3 ⟨A3, c3, rfl, ho3, hb3, hn3⟩
                have hci3 : CI w (b : Int) q (q + 1) g0 g1 gl0 gl1 g3 gl3 (upd S a RR.1) S (upd AL a A2) (upd CL a c2) AW CW w3 := CI.below (wr := w2.drew) (HCI2.out.drewN 1) hb3
                have hap := CI.apart (wr := w2.drew) (HCI2.out.drewN 1) ha2 hn3
                have gf : w3.frozen? ⟨q + 1, a, none⟩ = false := hci3.bwl.free a
                have gl : w3.cell? ⟨q + 1, a, none⟩ = some (.slice (AW a) (S a).length (CW a)) := hci3.row ha2
                have glb : w3.cell? ⟨q + 1, a, none⟩ = some (.slice (AW a) (S a).length (CW a)) := hci3.row ha2
                have HCI3 := Lib.hid hci3
                have HO3 := Lib.hid ho3
                have HAP := Lib.hid hap
                clear ho3 hb3 hn3 hci3 hap
                refine hK.out _ _ ?_ (fun hHeld => ?_)
                · first | exact ⟨gl, glb⟩ | exact gl
                clear hK K
                try go_simp
                refine wpAnyH_take (i := 9) (oi := ?_) (v := ?_) ?_ ?_ ?_ ?_ ?_ ?_ ?_ ?_
                rotate_left 2
                · simp only [List.getElem?_toArray, List.getElem?_cons_succ, List.getElem?_cons_zero]; rfl
                · kernel_rfl
                · kernel_rfl
                · kernel_rfl
                · exact fun _ _ _ h => h
                · exact Or.inl ⟨by kernel_rfl, by intro w hSw; (try dsimp only at hSw); go_simp; try with_reducible rfl⟩
                · assumption
                try go_simp
                refine wpAnyH_take (i := 10) (oi := ?_) (v := ?_) ?_ ?_ ?_ ?_ ?_ ?_ ?_ ?_
                rotate_left 2
                · simp only [List.getElem?_toArray, List.getElem?_cons_succ, List.getElem?_cons_zero]; rfl
                · kernel_rfl
                · kernel_rfl
                · kernel_rfl
                · exact fun _ _ _ h => h
                · exact Or.inl ⟨by kernel_rfl, by intro w hSw; (try dsimp only at hSw); go_simp; try with_reducible rfl⟩
                · assumption
                try go_simp
                refine wpAnyH_take (i := 11) (oi := ?_) (v := ?_) ?_ ?_ ?_ ?_ ?_ ?_ ?_ ?_
                rotate_left 2
                · simp only [List.getElem?_toArray, List.getElem?_cons_succ, List.getElem?_cons_zero]; rfl
                · kernel_rfl
                · kernel_rfl
                · kernel_rfl
                · exact fun _ _ _ h => h
                · exact Or.inl ⟨by kernel_rfl, by intro w hSw; (try dsimp only at hSw); go_simp; try with_reducible rfl⟩
                · assumption
                try go_simp
                refine wpAnyH_take (i := 12) (oi := ?_) (v := ?_) ?_ ?_ ?_ ?_ ?_ ?_ ?_ ?_
                rotate_left 2
                · simp only [List.getElem?_toArray, List.getElem?_cons_succ, List.getElem?_cons_zero]; rfl
                · kernel_rfl
                · kernel_rfl
                · kernel_rfl
                · exact fun _ _ _ h => h
                · exact Or.inl ⟨by kernel_rfl, by intro w hSw; (try dsimp only at hSw); go_simp; try with_reducible rfl⟩
                · assumption
                try go_simp
                refine wpAnyH_take (i := 13) (oi := ?_) (v := ?_) ?_ ?_ ?_ ?_ ?_ ?_ ?_ ?_
                rotate_left 2
                · simp only [List.getElem?_toArray, List.getElem?_cons_succ, List.getElem?_cons_zero]; rfl
                · kernel_rfl
                · kernel_rfl
                · kernel_rfl
                · exact fun _ _ _ h => h
                · exact Or.inl ⟨by kernel_rfl, by intro w hSw; (try dsimp only at hSw); go_simp; try with_reducible rfl⟩
                · assumption
                try go_simp
                refine wpAnyH_done (by kernel_rfl) ?_ _
                refine NoPanic.normal ?_
                go_wp2_with fail
                go_meet
                case rel => exact ⟨_, _, _, _, _, _, rfl, CI.put HCI3.out ha2 HO3.out HAP.out, HF.out⟩
            · as_aux_lemma =>
                have x5 : ((r : Int) == 5) = false := by simp; omega
                have x5b : (r == 5) = false := by simp; omega
                have x4 : decide ((r : Int) < 4) = false := by simp; omega
                have x4b : decide (r < 4) = false := by simp; omega
                have hfb := HFW.out.fine b' hbb2
                have hlb := HFW.out.len hbb2
                have htb := hfb.tot
                have hb0' : (0 : Int) ≤ (b' : Int) := by omega
                have hb1' : (b' : Int) < 2 := by omega
                have dpb : wr.cell? ⟨q, b', none⟩ = some (.pointer (some ⟨two g0 g1 b', 0, none⟩)) := HCI.out.ptr hbb2
                have hf := HFW.out.take ha2 hbb2 (by omega)
                have HTK := fun W A c A' c' h h' => stake_t (two g0 g1 a) (two gl0 gl1 a) (two g0 g1 b') (two gl0 gl1 b') A A' c c' (b : Int) (S a) (S b') W h h' hfa hfb (by omega) hb1 (by omega)
                have HRT := fun W A1 c1 A2 c2 base h h2 hb => taken_0 A1 A2 c1 c2 base (S a) (S b') W h h2 (by omega) (by omega) hta htb hb
                generalize rtake (S a) (S b') 0 = RR at *
                replace HTK := Lib.hid HTK
                replace HRT := Lib.hid HRT
                have HF := Lib.hid hf
                clear hf hfa hla hta hl60 hr7 hfb hlb htb hadd h5
                rw [x4]
                go_wp2_with fail
                refine wp_region_noPanic ?_
                refine wp_region_held_drew (S := (fun w' => w'.cell? ⟨q, a, none⟩ = some (.pointer (some ⟨two g0 g1 a, 0, none⟩)) ∧ w'.cell? ⟨q, b', none⟩ = some (.pointer (some ⟨two g0 g1 b', 0, none⟩)))) (by kernel_rfl) ⟨dp, dpb⟩ (fun hHeld => ?_)
                refine wpAnyH_take (i := 0) (oi := ?_) (v := ?_) ?_ ?_ ?_ ?_ ?_ ?_ ?_ ?_
                rotate_left 2
                · simp only [List.getElem?_toArray, List.getElem?_cons_zero]; rfl
                · kernel_rfl
                · kernel_rfl
                · kernel_rfl
                · exact fun _ _ _ h => h
                · exact Or.inl ⟨by kernel_rfl, by intro w hSw; (try dsimp only at hSw); go_simp; try with_reducible rfl⟩
                · assumption
                try go_simp
                refine wpAnyH_take (i := 1) (oi := ?_) (v := ?_) ?_ ?_ ?_ ?_ ?_ ?_ ?_ ?_
                rotate_left 2
                · simp only [List.getElem?_toArray, List.getElem?_cons_succ, List.getElem?_cons_zero]; rfl
                · kernel_rfl
                · kernel_rfl
                · kernel_rfl
                · exact fun _ _ _ h => h
                · exact Or.inl ⟨by kernel_rfl, by intro w hSw; (try dsimp only at hSw); go_simp; try with_reducible rfl⟩
                · assumption
                try go_simp
                refine wpAnyH_take (i := 2) (oi := ?_) (v := ?_) ?_ ?_ ?_ ?_ ?_ ?_ ?_ ?_
                rotate_left 2
                · simp only [List.getElem?_toArray, List.getElem?_cons_succ, List.getElem?_cons_zero]; rfl
                · kernel_rfl
                · kernel_rfl
                · kernel_rfl
                · exact fun _ _ _ h => h
                · exact Or.inl ⟨by kernel_rfl, by intro w hSw; (try dsimp only at hSw); go_simp; try with_reducible rfl⟩
                · assumption
                try go_simp
                refine wpAnyH_take (i := 3) (oi := ?_) (v := ?_) ?_ ?_ ?_ ?_ ?_ ?_ ?_ ?_
                rotate_left 2
                · simp only [List.getElem?_toArray, List.getElem?_cons_succ, List.getElem?_cons_zero]; rfl
                · kernel_rfl
                · kernel_rfl
                · kernel_rfl
                · exact fun _ _ _ h => h
                · exact Or.inl ⟨by kernel_rfl, by intro w hSw; (try dsimp only at hSw); go_simp; try with_reducible rfl⟩
                · assumption
                try go_simp
                refine wpAnyH_take (i := 4) (oi := ?_) (v := ?_) ?_ ?_ ?_ ?_ ?_ ?_ ?_ ?_
                rotate_left 2
                · simp only [List.getElem?_toArray, List.getElem?_cons_succ, List.getElem?_cons_zero]; rfl
                · kernel_rfl
                · kernel_rfl
                · kernel_rfl
                · exact fun _ _ _ h => h
                · exact Or.inl ⟨by kernel_rfl, by intro w hSw; (try dsimp only at hSw); go_simp; try with_reducible rfl⟩
                · assumption
                try go_simp
                refine wpAnyH_take (i := 5) (oi := ?_) (v := ?_) ?_ ?_ ?_ ?_ ?_ ?_ ?_ ?_
                rotate_left 2
                · simp only [List.getElem?_toArray, List.getElem?_cons_succ, List.getElem?_cons_zero]; rfl
                · kernel_rfl
                · kernel_rfl
                · kernel_rfl
                · exact fun _ _ _ h => h
                · exact Or.inl ⟨by kernel_rfl, by intro w hSw; (try dsimp only at hSw); go_simp; try with_reducible rfl⟩
                · assumption
                try go_simp
                refine wpAnyH_take (i := 6) (oi := ?_) (v := ?_) ?_ ?_ ?_ ?_ ?_ ?_ ?_ ?_
                rotate_left 2
                · simp only [List.getElem?_toArray, List.getElem?_cons_succ, List.getElem?_cons_zero]; rfl
                · kernel_rfl
                · kernel_rfl
                · kernel_rfl
                · exact fun _ _ _ h => h
                · exact Or.inl ⟨by kernel_rfl, by intro w hSw; (try dsimp only at hSw); go_simp; try with_reducible rfl⟩
                · assumption
                try go_simp
                refine wpAnyH_take (i := 7) (oi := ?_) (v := ?_) ?_ ?_ ?_ ?_ ?_ ?_ ?_ ?_
                rotate_left 2
                · simp only [List.getElem?_toArray, List.getElem?_cons_succ, List.getElem?_cons_zero]; rfl
                · kernel_rfl
                · kernel_rfl
                · kernel_rfl
                · exact fun _ _ _ h => h
                · exact Or.inl ⟨by kernel_rfl, by intro w hSw; (try dsimp only at hSw); go_simp; try with_reducible rfl⟩
                · assumption
                try go_simp
                refine wpAnyH_ready (rs := [8]) (by kernel_rfl) (by simp) ?_
                refine AllReadyH.cons (o := ?_) ?_ ?_ AllReadyH.nil
                rotate_left 1
                · simp only [List.getElem?_toArray, List.getElem?_cons_succ, List.getElem?_cons_zero]; rfl
                intro K hK
                go_simp
                refine (HTK.out wr.drew _ _ _ _ ((HCI.out.drewN 1).ms.sto a ha2) ((HCI.out.drewN 1).ms.sto b' hbb2)).mono ?_
                rintro e w2 ⟨rfl, A2, c2, hac⟩
                have hci2 : CI w (b : Int) q (q + 1) g0 g1 gl0 gl1 g3 gl3 (upd S a RR.1) S (upd AL a A2) (upd CL a c2) AW CW w2 := CI.act (wr := wr.drew) (HCI.out.drewN 1) ha2 hac
                have fp : w2.cell? ⟨q, a, none⟩ = some (.pointer (some ⟨two g0 g1 a, 0, none⟩)) := hci2.ptr ha2
                have fpb : w2.cell? ⟨q, b', none⟩ = some (.pointer (some ⟨two g0 g1 b', 0, none⟩)) := hci2.ptr hbb2
                have fl : w2.cell? ⟨q + 1, a, none⟩ = some (.slice (AW a) (S a).length (CW a)) := hci2.row ha2
                have flb : w2.cell? ⟨q + 1, b', none⟩ = some (.slice (AW b') (S b').length (CW b')) := hci2.row hbb2
                have HCI2 := Lib.hid hci2
                clear hac hci2
                refine hK.out _ _ ?_ (fun hHeld => ?_)
                · first | exact ⟨fp, fpb⟩ | exact fp
                clear hK K
                try go_simp
                refine wpAnyH_take (i := 9) (oi := ?_) (v := ?_) ?_ ?_ ?_ ?_ ?_ ?_ ?_ ?_
                rotate_left 2
                · simp only [List.getElem?_toArray, List.getElem?_cons_succ, List.getElem?_cons_zero]; rfl
                · kernel_rfl
                · kernel_rfl
                · kernel_rfl
                · exact fun _ _ _ h => h
                · exact Or.inl ⟨by kernel_rfl, by intro w hSw; (try dsimp only at hSw); go_simp; try with_reducible rfl⟩
                · assumption
                try go_simp
                refine wpAnyH_done (by kernel_rfl) ?_ _
                refine NoPanic.normal ?_
                go_wp2_with fail
                refine wp_region_noPanic ?_
                refine wp_region_held_drew (S := (fun w' => w'.cell? ⟨q + 1, a, none⟩ = some (.slice (AW a) (S a).length (CW a)) ∧ w'.cell? ⟨q + 1, b', none⟩ = some (.slice (AW b') (S b').length (CW b')))) (by kernel_rfl) ⟨fl, flb⟩ (fun hHeld => ?_)
                refine wpAnyH_take (i := 0) (oi := ?_) (v := ?_) ?_ ?_ ?_ ?_ ?_ ?_ ?_ ?_
                rotate_left 2
                · simp only [List.getElem?_toArray, List.getElem?_cons_zero]; rfl
                · kernel_rfl
                · kernel_rfl
                · kernel_rfl
                · exact fun _ _ _ h => h
                · exact Or.inl ⟨by kernel_rfl, by intro w hSw; (try dsimp only at hSw); go_simp; try with_reducible rfl⟩
                · assumption
                try go_simp
                refine wpAnyH_take (i := 1) (oi := ?_) (v := ?_) ?_ ?_ ?_ ?_ ?_ ?_ ?_ ?_
                rotate_left 2
                · simp only [List.getElem?_toArray, List.getElem?_cons_succ, List.getElem?_cons_zero]; rfl
                · kernel_rfl
                · kernel_rfl
                · kernel_rfl
                · exact fun _ _ _ h => h
                · exact Or.inl ⟨by kernel_rfl, by intro w hSw; (try dsimp only at hSw); go_simp; try with_reducible rfl⟩
                · assumption
                try go_simp
                refine wpAnyH_take (i := 2) (oi := ?_) (v := ?_) ?_ ?_ ?_ ?_ ?_ ?_ ?_ ?_
                rotate_left 2
                · simp only [List.getElem?_toArray, List.getElem?_cons_succ, List.getElem?_cons_zero]; rfl
                · kernel_rfl
                · kernel_rfl
                · kernel_rfl
                · exact fun _ _ _ h => h
                · exact Or.inl ⟨by kernel_rfl, by intro w hSw; (try dsimp only at hSw); go_simp; try with_reducible rfl⟩
                · assumption
                try go_simp
                refine wpAnyH_take (i := 3) (oi := ?_) (v := ?_) ?_ ?_ ?_ ?_ ?_ ?_ ?_ ?_
                rotate_left 2
                · simp only [List.getElem?_toArray, List.getElem?_cons_succ, List.getElem?_cons_zero]; rfl
                · kernel_rfl
                · kernel_rfl
                · kernel_rfl
                · exact fun _ _ _ h => h
                · exact Or.inl ⟨by kernel_rfl, by intro w hSw; (try dsimp only at hSw); go_simp; try with_reducible rfl⟩
                · assumption
                try go_simp
                refine wpAnyH_take (i := 4) (oi := ?_) (v := ?_) ?_ ?_ ?_ ?_ ?_ ?_ ?_ ?_
                rotate_left 2
                · simp only [List.getElem?_toArray, List.getElem?_cons_succ, List.getElem?_cons_zero]; rfl
                · kernel_rfl
                · kernel_rfl
                · kernel_rfl
                · exact fun _ _ _ h => h
                · exact Or.inl ⟨by kernel_rfl, by intro w hSw; (try dsimp only at hSw); go_simp; try with_reducible rfl⟩
                · assumption
                try go_simp
                refine wpAnyH_take (i := 5) (oi := ?_) (v := ?_) ?_ ?_ ?_ ?_ ?_ ?_ ?_ ?_
                rotate_left 2
                · simp only [List.getElem?_toArray, List.getElem?_cons_succ, List.getElem?_cons_zero]; rfl
                · kernel_rfl
                · kernel_rfl
                · kernel_rfl
                · exact fun _ _ _ h => h
                · exact Or.inl ⟨by kernel_rfl, by intro w hSw; (try dsimp only at hSw); go_simp; try with_reducible rfl⟩
                · assumption
                try go_simp
                refine wpAnyH_take (i := 6) (oi := ?_) (v := ?_) ?_ ?_ ?_ ?_ ?_ ?_ ?_ ?_
                rotate_left 2
                · simp only [List.getElem?_toArray, List.getElem?_cons_succ, List.getElem?_cons_zero]; rfl
                · kernel_rfl
                · kernel_rfl
                · kernel_rfl
                · exact fun _ _ _ h => h
                · exact Or.inl ⟨by kernel_rfl, by intro w hSw; (try dsimp only at hSw); go_simp; try with_reducible rfl⟩
                · assumption
                try go_simp
                refine wpAnyH_take (i := 7) (oi := ?_) (v := ?_) ?_ ?_ ?_ ?_ ?_ ?_ ?_ ?_
                rotate_left 2
                · simp only [List.getElem?_toArray, List.getElem?_cons_succ, List.getElem?_cons_zero]; rfl
                · kernel_rfl
                · kernel_rfl
                · kernel_rfl
                · exact fun _ _ _ h => h
                · exact Or.inl ⟨by kernel_rfl, by intro w hSw; (try dsimp only at hSw); go_simp; try with_reducible rfl⟩
                · assumption
                try go_simp
                refine wpAnyH_ready (rs := [8]) (by kernel_rfl) (by simp) ?_
                refine AllReadyH.cons (o := ?_) ?_ ?_ AllReadyH.nil
                rotate_left 1
                · simp only [List.getElem?_toArray, List.getElem?_cons_succ, List.getElem?_cons_zero]; rfl
                intro K hK
                go_simp
                refine (HRT.out w2.drew (AW a) (CW a) (AW b') (CW b') w.heap.size ((HCI2.out.drewN 1).own a ha2) ((HCI2.out.drewN 1).own b' hbb2).reads HCI2.out.bel.size).mono ?_
                rintro e w3 ⟨A3, c3, rfl, ho3, hb3, hn3⟩
                have hci3 : CI w (b : Int) q (q + 1) g0 g1 gl0 gl1 g3 gl3 (upd S a RR.1) S (upd AL a A2) (upd CL a c2) AW CW w3 := CI.below (wr := w2.drew) (HCI2.out.drewN 1) hb3
                have hap := CI.apart (wr := w2.drew) (HCI2.out.drewN 1) ha2 hn3
                have gf : w3.frozen? ⟨q + 1, a, none⟩ = false := hci3.bwl.free a
                have gl : w3.cell? ⟨q + 1, a, none⟩ = some (.slice (AW a) (S a).length (CW a)) := hci3.row ha2
                have glb : w3.cell? ⟨q + 1, b', none⟩ = some (.slice (AW b') (S b').length (CW b')) := hci3.row hbb2
                have HCI3 := Lib.hid hci3
                have HO3 := Lib.hid ho3
                have HAP := Lib.hid hap
                clear ho3 hb3 hn3 hci3 hap
                refine hK.out _ _ ?_ (fun hHeld => ?_)
                · first | exact ⟨gl, glb⟩ | exact gl
                clear hK K
                try go_simp
                refine wpAnyH_take (i := 9) (oi := ?_) (v := ?_) ?_ ?_ ?_ ?_ ?_ ?_ ?_ ?_
                rotate_left 2
                · simp only [List.getElem?_toArray, List.getElem?_cons_succ, List.getElem?_cons_zero]; rfl
                · kernel_rfl
                · kernel_rfl
                · kernel_rfl
                · exact fun _ _ _ h => h
                · exact Or.inl ⟨by kernel_rfl, by intro w hSw; (try dsimp only at hSw); go_simp; try with_reducible rfl⟩
                · assumption
                try go_simp
                refine wpAnyH_take (i := 10) (oi := ?_) (v := ?_) ?_ ?_ ?_ ?_ ?_ ?_ ?_ ?_
                rotate_left 2
                · simp only [List.getElem?_toArray, List.getElem?_cons_succ, List.getElem?_cons_zero]; rfl
                · kernel_rfl
                · kernel_rfl
                · kernel_rfl
                · exact fun _ _ _ h => h
                · exact Or.inl ⟨by kernel_rfl, by intro w hSw; (try dsimp only at hSw); go_simp; try with_reducible rfl⟩
                · assumption
                try go_simp
                refine wpAnyH_take (i := 11) (oi := ?_) (v := ?_) ?_ ?_ ?_ ?_ ?_ ?_ ?_ ?_
                rotate_left 2
                · simp only [List.getElem?_toArray, List.getElem?_cons_succ, List.getElem?_cons_zero]; rfl
                · kernel_rfl
                · kernel_rfl
                · kernel_rfl
                · exact fun _ _ _ h => h
                · exact Or.inl ⟨by kernel_rfl, by intro w hSw; (try dsimp only at hSw); go_simp; try with_reducible rfl⟩
                · assumption
                try go_simp
                refine wpAnyH_take (i := 12) (oi := ?_) (v := ?_) ?_ ?_ ?_ ?_ ?_ ?_ ?_ ?_
                rotate_left 2
                · simp only [List.getElem?_toArray, List.getElem?_cons_succ, List.getElem?_cons_zero]; rfl
                · kernel_rfl
                · kernel_rfl
                · kernel_rfl
                · exact fun _ _ _ h => h
                · exact Or.inl ⟨by kernel_rfl, by intro w hSw; (try dsimp only at hSw); go_simp; try with_reducible rfl⟩
                · assumption
                try go_simp
                refine wpAnyH_take (i := 13) (oi := ?_) (v := ?_) ?_ ?_ ?_ ?_ ?_ ?_ ?_ ?_
                rotate_left 2
                · simp only [List.getElem?_toArray, List.getElem?_cons_succ, List.getElem?_cons_zero]; rfl
                · kernel_rfl
                · kernel_rfl
                · kernel_rfl
                · exact fun _ _ _ h => h
                · exact Or.inl ⟨by kernel_rfl, by intro w hSw; (try dsimp only at hSw); go_simp; try with_reducible rfl⟩
                · assumption
                try go_simp
                refine wpAnyH_done (by kernel_rfl) ?_ _
                refine NoPanic.normal ?_
                go_wp2_with fail
                go_meet
                case rel => exact ⟨_, _, _, _, _, _, rfl, CI.put HCI3.out ha2 HO3.out HAP.out, HF.out⟩
        case rest =>
          obtain ⟨W5, S2, AL2, CL2, AW2, CW2, rfl, hci, hfew⟩ := hcut
          have HFJ := Lib.hid hfew
          have hl60 := HL6.out
          have hf0 := hfew.fine 0 (by decide)
          have hf1 := hfew.fine 1 (by decide)
          have HSM0 := fun W A c A2 c2 h h2 hb => same_t g0 gl0 A c (b : Int) (S2 0) A2 c2 w.heap.size key W h h2 hb hf0
          have HSM1 := fun W A c A2 c2 h h2 hb => same_t g1 gl1 A c (b : Int) (S2 1) A2 c2 w.heap.size key W h h2 hb hf1
          replace HSM0 := Lib.hid HSM0
          replace HSM1 := Lib.hid HSM1
          have q0 : W5.cell? ⟨q + 1, 0, none⟩ = some (.slice (AW2 0) (S2 0).length (CW2 0)) := hci.row (by decide)
          have q1 : W5.cell? ⟨q + 1, 1, none⟩ = some (.slice (AW2 1) (S2 1).length (CW2 1)) := hci.row (by decide)
          obtain ⟨_, _, k0, _⟩ := HCE.out W5 hci.bel
          have HSX := Lib.hid hci
          clear hci hfew dp hf0 hf1
          go_wp2_with fail
          refine wp_region_noPanic ?_
          refine wp_region_held_drew (S := (fun w' => w'.cell? ⟨q + 1, 0, none⟩ = some (.slice (AW2 0) (S2 0).length (CW2 0)) ∧ w'.cell? ⟨q + 1, 1, none⟩ = some (.slice (AW2 1) (S2 1).length (CW2 1)) ∧ w'.cell? ⟨bb, o + k * 4 + 2, none⟩ = some (.int .i64 key))) (by kernel_rfl) ⟨q0, q1, k0⟩ (fun hHeld => ?_)
          refine wpAnyH_take (i := 0) (oi := ?_) (v := ?_) ?_ ?_ ?_ ?_ ?_ ?_ ?_ ?_
          rotate_left 2
          · simp only [List.getElem?_toArray, List.getElem?_cons_zero]; rfl
          · kernel_rfl
          · kernel_rfl
          · kernel_rfl
          · exact fun _ _ _ h => h
          · exact Or.inl ⟨by kernel_rfl, by intro w hSw; (try dsimp only at hSw); go_simp; try with_reducible rfl⟩
          · assumption
          try go_simp
          refine wpAnyH_take (i := 1) (oi := ?_) (v := ?_) ?_ ?_ ?_ ?_ ?_ ?_ ?_ ?_
          rotate_left 2
          · simp only [List.getElem?_toArray, List.getElem?_cons_succ, List.getElem?_cons_zero]; rfl
          · kernel_rfl
          · kernel_rfl
          · kernel_rfl
          · exact fun _ _ _ h => h
          · exact Or.inl ⟨by kernel_rfl, by intro w hSw; (try dsimp only at hSw); go_simp; try with_reducible rfl⟩
          · assumption
          try go_simp
          refine wpAnyH_take (i := 2) (oi := ?_) (v := ?_) ?_ ?_ ?_ ?_ ?_ ?_ ?_ ?_
          rotate_left 2
          · simp only [List.getElem?_toArray, List.getElem?_cons_succ, List.getElem?_cons_zero]; rfl
          · kernel_rfl
          · kernel_rfl
          · kernel_rfl
          · exact fun _ _ _ h => h
          · exact Or.inl ⟨by kernel_rfl, by intro w hSw; (try dsimp only at hSw); go_simp; try with_reducible rfl⟩
          · assumption
          try go_simp
          refine wpAnyH_take (i := 3) (oi := ?_) (v := ?_) ?_ ?_ ?_ ?_ ?_ ?_ ?_ ?_
          rotate_left 2
          · simp only [List.getElem?_toArray, List.getElem?_cons_succ, List.getElem?_cons_zero]; rfl
          · kernel_rfl
          · kernel_rfl
          · kernel_rfl
          · exact fun _ _ _ h => h
          · exact Or.inl ⟨by kernel_rfl, by intro w hSw; (try dsimp only at hSw); go_simp; try with_reducible rfl⟩
          · assumption
          try go_simp
          refine wpAnyH_take (i := 4) (oi := ?_) (v := ?_) ?_ ?_ ?_ ?_ ?_ ?_ ?_ ?_
          rotate_left 2
          · simp only [List.getElem?_toArray, List.getElem?_cons_succ, List.getElem?_cons_zero]; rfl
          · kernel_rfl
          · kernel_rfl
          · kernel_rfl
          · exact fun _ _ _ h => h
          · exact Or.inl ⟨by kernel_rfl, by intro w hSw; (try dsimp only at hSw); go_simp; try with_reducible rfl⟩
          · assumption
          try go_simp
          refine wpAnyH_take (i := 5) (oi := ?_) (v := ?_) ?_ ?_ ?_ ?_ ?_ ?_ ?_ ?_
          rotate_left 2
          · simp only [List.getElem?_toArray, List.getElem?_cons_succ, List.getElem?_cons_zero]; rfl
          · kernel_rfl
          · kernel_rfl
          · kernel_rfl
          · exact fun _ _ _ h => h
          · exact Or.inl ⟨by kernel_rfl, by intro w hSw; (try dsimp only at hSw); go_simp; try with_reducible rfl⟩
          · assumption
          try go_simp
          refine wpAnyH_take (i := 6) (oi := ?_) (v := ?_) ?_ ?_ ?_ ?_ ?_ ?_ ?_ ?_
          rotate_left 2
          · simp only [List.getElem?_toArray, List.getElem?_cons_succ, List.getElem?_cons_zero]; rfl
          · kernel_rfl
          · kernel_rfl
          · kernel_rfl
          · exact fun _ _ _ h => h
          · exact Or.inl ⟨by kernel_rfl, by intro w hSw; (try dsimp only at hSw); go_simp; try with_reducible rfl⟩
          · assumption
          try go_simp
          refine wpAnyH_take (i := 7) (oi := ?_) (v := ?_) ?_ ?_ ?_ ?_ ?_ ?_ ?_ ?_
          rotate_left 2
          · simp only [List.getElem?_toArray, List.getElem?_cons_succ, List.getElem?_cons_zero]; rfl
          · kernel_rfl
          · kernel_rfl
          · kernel_rfl
          · exact fun _ _ _ h => h
          · exact Or.inl ⟨by kernel_rfl, by intro w hSw; (try dsimp only at hSw); go_simp; try with_reducible rfl⟩
          · assumption
          try go_simp
          refine wpAnyH_take (i := 8) (oi := ?_) (v := ?_) ?_ ?_ ?_ ?_ ?_ ?_ ?_ ?_
          rotate_left 2
          · simp only [List.getElem?_toArray, List.getElem?_cons_succ, List.getElem?_cons_zero]; rfl
          · kernel_rfl
          · kernel_rfl
          · kernel_rfl
          · exact fun _ _ _ h => h
          · exact Or.inl ⟨by kernel_rfl, by intro w hSw; (try dsimp only at hSw); go_simp; try with_reducible rfl⟩
          · assumption
          try go_simp
          refine wpAnyH_take (i := 9) (oi := ?_) (v := ?_) ?_ ?_ ?_ ?_ ?_ ?_ ?_ ?_
          rotate_left 2
          · simp only [List.getElem?_toArray, List.getElem?_cons_succ, List.getElem?_cons_zero]; rfl
          · kernel_rfl
          · kernel_rfl
          · kernel_rfl
          · exact fun _ _ _ h => h
          · exact Or.inl ⟨by kernel_rfl, by intro w hSw; (try dsimp only at hSw); go_simp; try with_reducible rfl⟩
          · assumption
          try go_simp
          refine wpAnyH_ready (rs := [10]) (by kernel_rfl) (by simp) ?_
          refine AllReadyH.cons (o := ?_) ?_ ?_ AllReadyH.nil
          rotate_left 1
          · simp only [List.getElem?_toArray, List.getElem?_cons_succ, List.getElem?_cons_zero]; rfl
          intro K hK
          go_simp
          refine (HSM0.out W5.drew _ _ _ _ ((HSX.out.drewN 1).ms.sto 0 (by decide)) ((HSX.out.drewN 1).own 0 (by decide)) (HSX.out.drewN 1).bel.size).mono ?_
          rintro e w6 ⟨rfl, hb6⟩
          have hc6 := CI.below (wr := W5.drew) (HSX.out.drewN 1) hb6
          have r06 : w6.cell? ⟨q + 1, 0, none⟩ = some (.slice (AW2 0) (S2 0).length (CW2 0)) := hc6.row (by decide)
          have r16 : w6.cell? ⟨q + 1, 1, none⟩ = some (.slice (AW2 1) (S2 1).length (CW2 1)) := hc6.row (by decide)
          obtain ⟨_, _, k6, _⟩ := HCE.out w6 hc6.bel
          have HSX6 := Lib.hid hc6
          clear hb6 hc6
          refine hK.out _ _ ?_ (fun hHeld => ?_)
          · exact ⟨r06, r16, k6⟩
          clear hK K
          try go_simp
          refine wpAnyH_take (i := 11) (oi := ?_) (v := ?_) ?_ ?_ ?_ ?_ ?_ ?_ ?_ ?_
          rotate_left 2
          · simp only [List.getElem?_toArray, List.getElem?_cons_succ, List.getElem?_cons_zero]; rfl
          · kernel_rfl
          · kernel_rfl
          · kernel_rfl
          · exact fun _ _ _ h => h
          · exact Or.inl ⟨by kernel_rfl, by intro w hSw; (try dsimp only at hSw); go_simp; try with_reducible rfl⟩
          · assumption
          try go_simp
          refine wpAnyH_take (i := 12) (oi := ?_) (v := ?_) ?_ ?_ ?_ ?_ ?_ ?_ ?_ ?_
          rotate_left 2
          · simp only [List.getElem?_toArray, List.getElem?_cons_succ, List.getElem?_cons_zero]; rfl
          · kernel_rfl
          · kernel_rfl
          · kernel_rfl
          · exact fun _ _ _ h => h
          · exact Or.inl ⟨by kernel_rfl, by intro w hSw; (try dsimp only at hSw); go_simp; try with_reducible rfl⟩
          · assumption
          try go_simp
          refine wpAnyH_take (i := 13) (oi := ?_) (v := ?_) ?_ ?_ ?_ ?_ ?_ ?_ ?_ ?_
          rotate_left 2
          · simp only [List.getElem?_toArray, List.getElem?_cons_succ, List.getElem?_cons_zero]; rfl
          · kernel_rfl
          · kernel_rfl
          · kernel_rfl
          · exact fun _ _ _ h => h
          · exact Or.inl ⟨by kernel_rfl, by intro w hSw; (try dsimp only at hSw); go_simp; try with_reducible rfl⟩
          · assumption
          try go_simp
          refine wpAnyH_take (i := 14) (oi := ?_) (v := ?_) ?_ ?_ ?_ ?_ ?_ ?_ ?_ ?_
          rotate_left 2
          · simp only [List.getElem?_toArray, List.getElem?_cons_succ, List.getElem?_cons_zero]; rfl
          · kernel_rfl
          · kernel_rfl
          · kernel_rfl
          · exact fun _ _ _ h => h
          · exact Or.inl ⟨by kernel_rfl, by intro w hSw; (try dsimp only at hSw); go_simp; try with_reducible rfl⟩
          · assumption
          try go_simp
          refine wpAnyH_take (i := 15) (oi := ?_) (v := ?_) ?_ ?_ ?_ ?_ ?_ ?_ ?_ ?_
          rotate_left 2
          · simp only [List.getElem?_toArray, List.getElem?_cons_succ, List.getElem?_cons_zero]; rfl
          · kernel_rfl
          · kernel_rfl
          · kernel_rfl
          · exact fun _ _ _ h => h
          · exact Or.inl ⟨by kernel_rfl, by intro w hSw; (try dsimp only at hSw); go_simp; try with_reducible rfl⟩
          · assumption
          try go_simp
          refine wpAnyH_take (i := 16) (oi := ?_) (v := ?_) ?_ ?_ ?_ ?_ ?_ ?_ ?_ ?_
          rotate_left 2
          · simp only [List.getElem?_toArray, List.getElem?_cons_succ, List.getElem?_cons_zero]; rfl
          · kernel_rfl
          · kernel_rfl
          · kernel_rfl
          · exact fun _ _ _ h => h
          · exact Or.inl ⟨by kernel_rfl, by intro w hSw; (try dsimp only at hSw); go_simp; try with_reducible rfl⟩
          · assumption
          try go_simp
          refine wpAnyH_take (i := 17) (oi := ?_) (v := ?_) ?_ ?_ ?_ ?_ ?_ ?_ ?_ ?_
          rotate_left 2
          · simp only [List.getElem?_toArray, List.getElem?_cons_succ, List.getElem?_cons_zero]; rfl
          · kernel_rfl
          · kernel_rfl
          · kernel_rfl
          · exact fun _ _ _ h => h
          · exact Or.inl ⟨by kernel_rfl, by intro w hSw; (try dsimp only at hSw); go_simp; try with_reducible rfl⟩
          · assumption
          try go_simp
          refine wpAnyH_take (i := 18) (oi := ?_) (v := ?_) ?_ ?_ ?_ ?_ ?_ ?_ ?_ ?_
          rotate_left 2
          · simp only [List.getElem?_toArray, List.getElem?_cons_succ, List.getElem?_cons_zero]; rfl
          · kernel_rfl
          · kernel_rfl
          · kernel_rfl
          · exact fun _ _ _ h => h
          · exact Or.inl ⟨by kernel_rfl, by intro w hSw; (try dsimp only at hSw); go_simp; try with_reducible rfl⟩
          · assumption
          try go_simp
          refine wpAnyH_take (i := 19) (oi := ?_) (v := ?_) ?_ ?_ ?_ ?_ ?_ ?_ ?_ ?_
          rotate_left 2
          · simp only [List.getElem?_toArray, List.getElem?_cons_succ, List.getElem?_cons_zero]; rfl
          · kernel_rfl
          · kernel_rfl
          · kernel_rfl
          · exact fun _ _ _ h => h
          · exact Or.inl ⟨by kernel_rfl, by intro w hSw; (try dsimp only at hSw); go_simp; try with_reducible rfl⟩
          · assumption
          try go_simp
          refine wpAnyH_take (i := 20) (oi := ?_) (v := ?_) ?_ ?_ ?_ ?_ ?_ ?_ ?_ ?_
          rotate_left 2
          · simp only [List.getElem?_toArray, List.getElem?_cons_succ, List.getElem?_cons_zero]; rfl
          · kernel_rfl
          · kernel_rfl
          · kernel_rfl
          · exact fun _ _ _ h => h
          · exact Or.inl ⟨by kernel_rfl, by intro w hSw; (try dsimp only at hSw); go_simp; try with_reducible rfl⟩
          · assumption
          try go_simp
          refine wpAnyH_take (i := 21) (oi := ?_) (v := ?_) ?_ ?_ ?_ ?_ ?_ ?_ ?_ ?_
          rotate_left 2
          · simp only [List.getElem?_toArray, List.getElem?_cons_succ, List.getElem?_cons_zero]; rfl
          · kernel_rfl
          · kernel_rfl
          · kernel_rfl
          · exact fun _ _ _ h => h
          · exact Or.inl ⟨by kernel_rfl, by intro w hSw; (try dsimp only at hSw); go_simp; try with_reducible rfl⟩
          · assumption
          try go_simp
          refine wpAnyH_take (i := 22) (oi := ?_) (v := ?_) ?_ ?_ ?_ ?_ ?_ ?_ ?_ ?_
          rotate_left 2
          · simp only [List.getElem?_toArray, List.getElem?_cons_succ, List.getElem?_cons_zero]; rfl
          · kernel_rfl
          · kernel_rfl
          · kernel_rfl
          · exact fun _ _ _ h => h
          · exact Or.inl ⟨by kernel_rfl, by intro w hSw; (try dsimp only at hSw); go_simp; try with_reducible rfl⟩
          · assumption
          try go_simp
          refine wpAnyH_ready (rs := [23]) (by kernel_rfl) (by simp) ?_
          refine AllReadyH.cons (o := ?_) ?_ ?_ AllReadyH.nil
          rotate_left 1
          · simp only [List.getElem?_toArray, List.getElem?_cons_succ, List.getElem?_cons_zero]; rfl
          intro K hK
          go_simp
          refine (HSM1.out w6 _ _ _ _ (HSX6.out.ms.sto 1 (by decide)) (HSX6.out.own 1 (by decide)) HSX6.out.bel.size).mono ?_
          rintro e w7 ⟨rfl, hb7⟩
          have hc7 := CI.below (wr := w6) HSX6.out hb7
          have r07 : w7.cell? ⟨q + 1, 0, none⟩ = some (.slice (AW2 0) (S2 0).length (CW2 0)) := hc7.row (by decide)
          have r17 : w7.cell? ⟨q + 1, 1, none⟩ = some (.slice (AW2 1) (S2 1).length (CW2 1)) := hc7.row (by decide)
          obtain ⟨_, _, k7, _⟩ := HCE.out w7 hc7.bel
          have HSX7 := Lib.hid hc7
          clear hb7 hc7
          refine hK.out _ _ ?_ (fun hHeld => ?_)
          · exact ⟨r07, r17, k7⟩
          clear hK K
          try go_simp
          refine wpAnyH_take (i := 24) (oi := ?_) (v := ?_) ?_ ?_ ?_ ?_ ?_ ?_ ?_ ?_
          rotate_left 2
          · simp only [List.getElem?_toArray, List.getElem?_cons_succ, List.getElem?_cons_zero]; rfl
          · kernel_rfl
          · kernel_rfl
          · kernel_rfl
          · exact fun _ _ _ h => h
          · exact Or.inl ⟨by kernel_rfl, by intro w hSw; (try dsimp only at hSw); go_simp; try with_reducible rfl⟩
          · assumption
          try go_simp
          refine wpAnyH_take (i := 25) (oi := ?_) (v := ?_) ?_ ?_ ?_ ?_ ?_ ?_ ?_ ?_
          rotate_left 2
          · simp only [List.getElem?_toArray, List.getElem?_cons_succ, List.getElem?_cons_zero]; rfl
          · kernel_rfl
          · kernel_rfl
          · kernel_rfl
          · exact fun _ _ _ h => h
          · exact Or.inl ⟨by kernel_rfl, by intro w hSw; (try dsimp only at hSw); go_simp; try with_reducible rfl⟩
          · assumption
          try go_simp
          refine wpAnyH_done (by kernel_rfl) ?_ _
          refine NoPanic.normal ?_
          go_wp2_with fail
          go_roundg (l.length - (k + 1))
          case measure => have := HLT.out; have := HK.out; omega
          case rel => exact ⟨k + 1, S2, AL2, CL2, AW2, CW2, by have := HLT.out; omega, by simp, HSX7.out, HFJ.out⟩
    · as_aux_lemma =>
        have HCI := Lib.hid hci
        have HFIN := Lib.hid (fun W (hW : Below w.heap.size w W) (hs : Sto W g0 gl0 (AL 0) (CL 0) (b : Int) (S 0)) (ho : Sto W g3 gl3 none 0 ((b : Int) + 1) []) => stake_kind g0 gl0 g3 gl3 (AL 0) none (CL 0) 0 (b : Int) ((b : Int) + 1) (S 0) [] W hs ho (by omega))
        clear hci hfew
        by_cases h1 : k < l.length
        · have h2 : ¬ (k : Int) < 60 := by omega
          have h3 : (k : Int) < (l.length : Int) := by omega
          have h4 : (60 : Int) ≤ (k : Int) := by omega
          go_wp2_with fail
          refine (stake_nil g0 wr).mono ?_
          rintro e w3 ⟨rfl, hw3⟩
          have hc3 := HCI.out.below hw3
          have HC3 := Lib.hid hc3
          clear hw3 hc3
          go_wp2_with fail
          refine (HFIN.out w3 HC3.out.bel (HC3.out.ms.sto 0 (by decide)) HC3.out.oth).mono ?_
          rintro e w4' ⟨rfl, hw4⟩
          have HB4 := Lib.hid (nextB HC3.out.bel hw4)
          clear hw4
          go_wp2_with fail
          go_ret
          exact ⟨rfl, HB4.out⟩
        · have h3 : ¬ (k : Int) < (l.length : Int) := by omega
          go_wp2_with fail
          refine (stake_nil g0 wr).mono ?_
          rintro e w3 ⟨rfl, hw3⟩
          have hc3 := HCI.out.below hw3
          have HC3 := Lib.hid hc3
          clear hw3 hc3
          go_wp2_with fail
          refine (HFIN.out w3 HC3.out.bel (HC3.out.ms.sto 0 (by decide)) HC3.out.oth).mono ?_
          rintro e w4' ⟨rfl, hw4⟩
          have HB4 := Lib.hid (nextB HC3.out.bel hw4)
          clear hw4
          go_wp2_with fail
          go_ret
          exact ⟨rfl, HB4.out⟩
end Go.Proofs.Ytmpmjgoipfgfoaa
