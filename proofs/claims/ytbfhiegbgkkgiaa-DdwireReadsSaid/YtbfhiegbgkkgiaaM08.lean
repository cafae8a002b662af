/- Stores with a budget: Load walked. -/
import Derived.Test.YtbfhiegbgkkgiaaM07
import Derived.Deep.RegionHeld3
import Derived.LoopN
import Derived.Outline
import Derived.Test.YtbfhiegbgkkgiaaM01
import Derived.Test.YtbfhiegbgkkgiaaChecked
import Derived.Lib.Slices
import Derived.Lib.Small
import Derived.Lib.Walk
import Derived.Lib.BitFns
import Derived.Deep.Light
namespace Go.Proofs.Ytbfhiegbgkkgiaa
open Go.RowKit
open Pl
theorem srt_adj : ∀ (l : List Pr), (∀ j p q, l[j]? = some p → l[j + 1]? = some q → p.1 < q.1) → Srt l
  | [], _ => Srt.nil
  | [p], _ => srt_cons.2 ⟨(fun q hq => by cases hq), Srt.nil⟩
  | p :: q :: l, h => by
    have h1 := srt_adj (q :: l) (fun j x y hx hy => h (j + 1) x y (by simpa using hx) (by simpa using hy))
    have h2 := h 0 p q rfl rfl
    refine srt_cons.2 ⟨fun r hr => ?_, h1⟩
    rcases List.mem_cons.1 hr with rfl | hr
    · exact h2
    · have := (srt_cons.1 h1).1 r hr; omega
theorem srt_next {l : List Pr} (h : Srt l) {j : Nat} {p q : Pr} (hp : l[j]? = some p) (hq : l[j + 1]? = some q) : p.1 < q.1 := by
  obtain ⟨h1, e1⟩ := List.getElem?_eq_some_iff.1 hp
  obtain ⟨h2, e2⟩ := List.getElem?_eq_some_iff.1 hq
  have := List.pairwise_iff_getElem.1 h j (j + 1) h1 h2 (by omega)
  rw [e1, e2] at this
  exact this
theorem adj_more {l : List Pr} {j i : Nat} {p q : Pr} (hi : i = j + 1) (hq : l[j]? = some q) (hp : l[i]? = some p) (hadj : ∀ j p q, i ≤ j → l[j]? = some p → l[j + 1]? = some q → p.1 < q.1) (hlt : q.1 < p.1) : ∀ j' p' q', j ≤ j' → l[j']? = some p' → l[j' + 1]? = some q' → p'.1 < q'.1 := fun j' p' q' hj' h1 h2 => by
  subst hi
  rcases Nat.lt_or_ge j j' with h | h
  · exact hadj j' p' q' h h1 h2
  · obtain rfl : j' = j := by omega
    have e1 : q = p' := Option.some.inj (hq.symm.trans h1)
    have e2 : p = q' := Option.some.inj (hp.symm.trans h2)
    rw [← e1, ← e2]
    exact hlt
theorem put_end {L : List Pr} {k : Int} {n : Nat} (h : ∀ q ∈ L, q.1 < k) : put L k n = L ++ [(k, n)] := by
  induction L with
  | nil => rfl
  | cons p L ih => rw [put_cons_lt (h p (by simp)), ih (fun q hq => h q (by simp [hq]))]; rfl
theorem ofL_srt : ∀ (l L : List Pr), Srt (L ++ l) → Pos l → KeysIn l → tot (L ++ l) ≤ 4611686018427387904 → ofL l L = (L ++ l, 0)
  | [], L, _, _, _, _ => by rw [List.append_nil]; rfl
  | p :: l, L, hs, hp, hk, ht => by
    obtain ⟨_, a2, a3⟩ := List.pairwise_append.1 hs
    have h0 := (pos_cons.1 hp).1
    have h1 := hk p (by simp)
    rw [tot_append, tot_cons] at ht
    have e : radd L p.1 p.2 0 = (L ++ [p], 0) := by
      rw [radd0, if_neg (by omega), if_neg (by omega), if_neg (by omega), put_end (fun q hq => a3 q hq p (by simp))]
    have h2 := ofL_srt l (L ++ [p]) (by rw [List.append_assoc]; exact hs) (pos_cons.1 hp).2 (fun q hq => hk q (by simp [hq])) (by rw [tot_append, tot_append, tot_cons, tot_nil]; omega)
    rw [List.append_assoc] at h2
    unfold ofL
    rw [e, if_pos rfl]
    exact h2
theorem ofL_fine {l : List Pr} (h : Fine l) : ofL l [] = (l, 0) := ofL_srt l [] h.srt h.pos h.keys h.tot
set_option maxRecDepth 100000 in
theorem lcmp_gt (p q : Pr) (w : World) (h : q.1 < p.1) :
    Calls Try.prog 63 #[.agg #[.int .i64 p.1, .int .u64 (p.2 : Nat)], .agg #[.int .i64 q.1, .int .u64 (q.2 : Nat)]] w fun e w' => e = .returned (.int .i64 1) ∧ Below w.heap.size w w' := by
  obtain ⟨x, n⟩ := p
  obtain ⟨y, k⟩ := q
  dsimp only at *
  have e1 : decide (y < x) = true := by simpa using h
  clear h
  go_enter Try.func63, Try.ntmps63
  go_wp2_with fail
  go_ret
  exact ⟨rfl, ((Below.refl _ _).alloc (Nat.le_refl _) _).alloc (by simp) _⟩
set_option maxRecDepth 100000 in
theorem lcmp_le (p q : Pr) (w : World) (h : ¬ q.1 < p.1) :
    Calls Try.prog 63 #[.agg #[.int .i64 p.1, .int .u64 (p.2 : Nat)], .agg #[.int .i64 q.1, .int .u64 (q.2 : Nat)]] w fun e w' => e = .returned (.int .i64 (-1)) ∧ Below w.heap.size w w' := by
  obtain ⟨x, n⟩ := p
  obtain ⟨y, k⟩ := q
  dsimp only at *
  have e1 : decide (y < x) = false := by simpa using h
  clear h
  go_enter Try.func63, Try.ntmps63
  go_wp2_with fail
  go_ret
  exact ⟨rfl, ((Below.refl _ _).alloc (Nat.le_refl _) _).alloc (by simp) _⟩
noncomputable def srtB (l : List Pr) : Bool := @decide (Srt l) (Classical.propDecidable _)
theorem srtB_true {l : List Pr} : srtB l = true ↔ Srt l := by unfold srtB; exact @decide_eq_true_iff _ (Classical.propDecidable _)
set_option maxRecDepth 100000 in
set_option maxHeartbeats 3200000 in
theorem sorted_t (A : Option Addr) (c : Nat) (l : List Pr) (w : World) (h : Prs w w.heap.size A l) (hl : l.length ≤ 100000) :
    Calls Try.prog 62 #[.slice A l.length c, .func (Fn.func 63) #[] #[]] w fun e w' => e = .returned (.bool (srtB l)) ∧ Below w.heap.size w w' := by
  by_cases h0 : l = []
  · subst h0
    have e0 : srtB [] = true := srtB_true.2 Srt.nil
    rw [e0]
    clear h hl e0
    go_enter Try.func62, Try.ntmps62
    go_wp2_with fail
    refine wp_loop_rounds 1 ?_
    rw [rounds_succ]
    go_wp2_with fail
    go_ret
    exact ⟨rfl, Below.refl _ _⟩
  · obtain ⟨n, hn⟩ : ∃ n, l.length = n + 1 := ⟨l.length - 1, by have := List.length_pos_iff.2 h0; omega⟩
    obtain ⟨N, hN⟩ : ∃ N, N = l.length := ⟨_, rfl⟩
    obtain ⟨B, hB⟩ : ∃ B, B = srtB l := ⟨_, rfl⟩
    rw [← hB, ← hN]
    have HB := Lib.hid hB
    have HN := Lib.hid hN
    have HN1 := Lib.hid (show N = n + 1 by omega)
    have HP := Lib.hid h
    have hnl : (N : Int) ≤ 100000 := by omega
    have hN1 : (1 : Int) ≤ (N : Int) := by omega
    have hn1 : (N : Int) - 1 = (n : Int) := by omega
    clear h hl hB hn h0 hN
    go_enter Try.func62, Try.ntmps62
    go_wp2_with fail
    clear hn1
    go_loopw [5] (fun v wr => ∃ k : Nat, k ≤ n ∧ v = .int .i64 (k : Int) ∧ (∀ j p q, k ≤ j → l[j]? = some p → l[j + 1]? = some q → p.1 < q.1) ∧ Below w.heap.size w wr) (fun v _ => (intOf v).toNat)
    case atStart => exact ⟨n, Nat.le_refl _, rfl, fun j p q hj _ hq => by have := (List.getElem?_eq_some_iff.1 hq).1; have := HN.out; have := HN1.out; omega, Below.refl _ _⟩
    case round =>
      obtain ⟨i, hk, rfl, hadj, hbel⟩ := hrel
      obtain ⟨wo, rfl⟩ : ∃ wo : World, wo = wr := ⟨_, rfl⟩
      by_cases hz : i = 0
      · subst hz
        have hs : Srt l := srt_adj l (fun j p q hp hq => hadj j p q (Nat.zero_le _) hp hq)
        have HT := Lib.hid (HB.out.trans (srtB_true.2 hs))
        have HBE := Lib.hid hbel
        clear hs hadj hbel hk
        go_wp2_with fail
        go_ret
        exact ⟨by rw [HT.out]; rfl, HBE.out⟩
      · obtain ⟨j, hj⟩ : ∃ j, i = j + 1 := ⟨i - 1, by omega⟩
        have hlen := HN.out
        have hlen1 := HN1.out
        have hj0 : (0 : Int) ≤ (j : Int) := by omega
        have hi1 : (0 : Int) < (i : Int) := by omega
        have hj2 : (j : Int) < (N : Int) := by omega
        have hi3 : (i : Int) < (N : Int) := by omega
        have hi5 : decide (0 < i) = true := by simp; omega
        have hw : IntKind.i64.wrap ((i : Int) - 1) = (j : Int) := by rw [IntWalk.i64_in _ ⟨by omega, by omega⟩]; omega
        obtain ⟨p, hp⟩ : ∃ p, l[i]? = some p := ⟨_, List.getElem?_eq_getElem (by omega)⟩
        obtain ⟨q, hq⟩ : ∃ q, l[j]? = some q := ⟨_, List.getElem?_eq_getElem (by omega)⟩
        obtain ⟨b, o, rfl, hb, hc⟩ := HP.out.at_ (by omega)
        obtain ⟨p1, p2⟩ := hc _ p hp
        obtain ⟨q1, q2⟩ := hc _ q hq
        have hcell : ∀ W, Below w.heap.size w W → W.cell? ⟨b, o + i * 2, none⟩ = some (.int .i64 p.1) ∧ W.cell? ⟨b, o + i * 2 + 1, none⟩ = some (.int .u64 (p.2 : Nat)) ∧ W.cell? ⟨b, o + j * 2, none⟩ = some (.int .i64 q.1) ∧ W.cell? ⟨b, o + j * 2 + 1, none⟩ = some (.int .u64 (q.2 : Nat)) := fun W hW =>
          ⟨(hW.cell (p := ⟨b, o + i * 2, none⟩) hb).trans p1, (hW.cell (p := ⟨b, o + i * 2 + 1, none⟩) hb).trans p2, (hW.cell (p := ⟨b, o + j * 2, none⟩) hb).trans q1, (hW.cell (p := ⟨b, o + j * 2 + 1, none⟩) hb).trans q2⟩
        have HCE := Lib.hid hcell
        obtain ⟨d1, d2, d3, d4⟩ := hcell wo hbel
        have HBE := Lib.hid hbel
        have HK := Lib.hid hk
        have HJ := Lib.hid hj
        have HAD := Lib.hid (adj_more hj hq hp hadj)
        have HNO : Hid (¬ q.1 < p.1 → B = false) := Lib.hid (fun hlt => by
          rw [HB.out]
          cases hh : srtB l with
          | false => rfl
          | true => exact absurd (srt_next (srtB_true.1 hh) hq (by rw [← hj]; exact hp)) hlt)
        have HGT := Lib.hid (fun W h => lcmp_gt p q W h)
        have HLE := Lib.hid (fun W h => lcmp_le p q W h)
        clear hcell p1 p2 q1 q2 hc hp hq hbel hk hadj hlen hlen1 hj hz
        obtain ⟨x, nx⟩ := p
        obtain ⟨y, ny⟩ := q
        dsimp only at d1 d2 d3 d4 HAD HNO HGT HLE HCE
        go_wp2_with fail
        by_cases hgt : y < x
        · have HX := Lib.hid (HAD.out hgt)
          refine wp_region_noPanic ?_
          refine wp_region_held_drew (S := (fun W => W.cell? ⟨b, o + i * 2, none⟩ = some (.int .i64 x) ∧ W.cell? ⟨b, o + i * 2 + 1, none⟩ = some (.int .u64 (nx : Nat)) ∧ W.cell? ⟨b, o + j * 2, none⟩ = some (.int .i64 y) ∧ W.cell? ⟨b, o + j * 2 + 1, none⟩ = some (.int .u64 (ny : Nat)))) (by kernel_rfl) ⟨d1, d2, d3, d4⟩ (fun hHeld => ?_)
          refine wpAnyH_take (i := 0) (oi := ?_) (v := ?_) ?_ ?_ ?_ ?_ ?_ ?_ ?_ ?_
          rotate_left 2
          · simp only [List.getElem?_toArray, List.getElem?_cons_zero]; rfl
          · kernel_rfl
          · kernel_rfl
          · kernel_rfl
          · exact fun _ _ _ h => h
          · exact Or.inl ⟨by kernel_rfl, by intro w hSw; (try dsimp only at hSw); go_simp; try with_reducible rfl⟩
          · assumption
          try go_simp
          refine wpAnyH_take (i := 1) (oi := ?_) (v := ?_) ?_ ?_ ?_ ?_ ?_ ?_ ?_ ?_
          rotate_left 2
          · simp only [List.getElem?_toArray, List.getElem?_cons_succ, List.getElem?_cons_zero]; rfl
          · kernel_rfl
          · kernel_rfl
          · kernel_rfl
          · exact fun _ _ _ h => h
          · exact Or.inl ⟨by kernel_rfl, by intro w hSw; (try dsimp only at hSw); go_simp; try with_reducible rfl⟩
          · assumption
          try go_simp
          refine wpAnyH_take (i := 2) (oi := ?_) (v := ?_) ?_ ?_ ?_ ?_ ?_ ?_ ?_ ?_
          rotate_left 2
          · simp only [List.getElem?_toArray, List.getElem?_cons_succ, List.getElem?_cons_zero]; rfl
          · kernel_rfl
          · kernel_rfl
          · kernel_rfl
          · exact fun _ _ _ h => h
          · exact Or.inl ⟨by kernel_rfl, by intro w hSw; (try dsimp only at hSw); go_simp; try with_reducible rfl⟩
          · assumption
          try go_simp
          refine wpAnyH_take (i := 3) (oi := ?_) (v := ?_) ?_ ?_ ?_ ?_ ?_ ?_ ?_ ?_
          rotate_left 2
          · simp only [List.getElem?_toArray, List.getElem?_cons_succ, List.getElem?_cons_zero]; rfl
          · kernel_rfl
          · kernel_rfl
          · kernel_rfl
          · exact fun _ _ _ h => h
          · exact Or.inl ⟨by kernel_rfl, by intro w hSw; (try dsimp only at hSw); go_simp; try with_reducible rfl⟩
          · assumption
          try go_simp
          refine wpAnyH_take (i := 4) (oi := ?_) (v := ?_) ?_ ?_ ?_ ?_ ?_ ?_ ?_ ?_
          rotate_left 2
          · simp only [List.getElem?_toArray, List.getElem?_cons_succ, List.getElem?_cons_zero]; rfl
          · kernel_rfl
          · kernel_rfl
          · kernel_rfl
          · exact fun _ _ _ h => h
          · exact Or.inl ⟨by kernel_rfl, by intro w hSw; (try dsimp only at hSw); go_simp; try with_reducible rfl⟩
          · assumption
          try go_simp
          refine wpAnyH_take (i := 5) (oi := ?_) (v := ?_) ?_ ?_ ?_ ?_ ?_ ?_ ?_ ?_
          rotate_left 2
          · simp only [List.getElem?_toArray, List.getElem?_cons_succ, List.getElem?_cons_zero]; rfl
          · kernel_rfl
          · kernel_rfl
          · kernel_rfl
          · exact fun _ _ _ h => h
          · exact Or.inl ⟨by kernel_rfl, by intro w hSw; (try dsimp only at hSw); go_simp; try with_reducible rfl⟩
          · assumption
          try go_simp
          refine wpAnyH_take (i := 6) (oi := ?_) (v := ?_) ?_ ?_ ?_ ?_ ?_ ?_ ?_ ?_
          rotate_left 2
          · simp only [List.getElem?_toArray, List.getElem?_cons_succ, List.getElem?_cons_zero]; rfl
          · kernel_rfl
          · kernel_rfl
          · kernel_rfl
          · exact fun _ _ _ h => h
          · exact Or.inl ⟨by kernel_rfl, by intro w hSw; (try dsimp only at hSw); go_simp; try with_reducible rfl⟩
          · assumption
          try go_simp
          refine wpAnyH_take (i := 7) (oi := ?_) (v := ?_) ?_ ?_ ?_ ?_ ?_ ?_ ?_ ?_
          rotate_left 2
          · simp only [List.getElem?_toArray, List.getElem?_cons_succ, List.getElem?_cons_zero]; rfl
          · kernel_rfl
          · kernel_rfl
          · kernel_rfl
          · exact fun _ _ _ h => h
          · exact Or.inl ⟨by kernel_rfl, by intro w hSw; (try dsimp only at hSw); go_simp; try with_reducible rfl⟩
          · assumption
          try go_simp
          refine wpAnyH_take (i := 8) (oi := ?_) (v := ?_) ?_ ?_ ?_ ?_ ?_ ?_ ?_ ?_
          rotate_left 2
          · simp only [List.getElem?_toArray, List.getElem?_cons_succ, List.getElem?_cons_zero]; rfl
          · kernel_rfl
          · kernel_rfl
          · kernel_rfl
          · exact fun _ _ _ h => h
          · exact Or.inl ⟨by kernel_rfl, by intro w hSw; (try dsimp only at hSw); go_simp; try with_reducible rfl⟩
          · assumption
          try go_simp
          refine wpAnyH_take (i := 9) (oi := ?_) (v := ?_) ?_ ?_ ?_ ?_ ?_ ?_ ?_ ?_
          rotate_left 2
          · simp only [List.getElem?_toArray, List.getElem?_cons_succ, List.getElem?_cons_zero]; rfl
          · kernel_rfl
          · kernel_rfl
          · kernel_rfl
          · exact fun _ _ _ h => h
          · exact Or.inl ⟨by kernel_rfl, by intro w hSw; (try dsimp only at hSw); go_simp; try with_reducible rfl⟩
          · assumption
          try go_simp
          refine wpAnyH_ready (rs := [10]) (by kernel_rfl) (by simp) ?_
          refine AllReadyH.cons (o := ?_) ?_ ?_ AllReadyH.nil
          rotate_left 1
          · simp only [List.getElem?_toArray, List.getElem?_cons_succ, List.getElem?_cons_zero]; rfl
          intro K hK
          go_simp
          refine (HGT.out _ hgt).mono ?_
          rintro e w2 ⟨rfl, hb2⟩
          have hb2' : Below w.heap.size w w2 := HBE.out.trans (show Below w.heap.size wo w2 from ⟨hb2.os, hb2.tape, hb2.output, hb2.size, fun i hi => hb2.block i (Nat.lt_of_lt_of_le hi HBE.out.size)⟩)
          have HB2 := Lib.hid hb2'
          obtain ⟨e1, e2, e3, e4⟩ := HCE.out w2 hb2'
          clear hb2 hb2'
          refine hK.out _ _ ?_ (fun hHeld => ?_)
          · exact ⟨e1, e2, e3, e4⟩
          clear hK K
          try go_simp
          refine wpAnyH_take (i := 11) (oi := ?_) (v := ?_) ?_ ?_ ?_ ?_ ?_ ?_ ?_ ?_
          rotate_left 2
          · simp only [List.getElem?_toArray, List.getElem?_cons_succ, List.getElem?_cons_zero]; rfl
          · kernel_rfl
          · kernel_rfl
          · kernel_rfl
          · exact fun _ _ _ h => h
          · exact Or.inl ⟨by kernel_rfl, by intro w hSw; (try dsimp only at hSw); go_simp; try with_reducible rfl⟩
          · assumption
          try go_simp
          refine wpAnyH_done (by kernel_rfl) ?_ _
          refine NoPanic.normal ?_
          go_wp2_with fail
          go_roundw
          case rel => exact ⟨j, by have := HK.out; have := HJ.out; omega, by first | rfl | rw [hw], HX.out, HB2.out⟩
          case measure => have := HJ.out; simp [intOf]; omega
        · have HX := Lib.hid (HNO.out (by omega))
          refine wp_region_noPanic ?_
          refine wp_region_held_drew (S := (fun W => W.cell? ⟨b, o + i * 2, none⟩ = some (.int .i64 x) ∧ W.cell? ⟨b, o + i * 2 + 1, none⟩ = some (.int .u64 (nx : Nat)) ∧ W.cell? ⟨b, o + j * 2, none⟩ = some (.int .i64 y) ∧ W.cell? ⟨b, o + j * 2 + 1, none⟩ = some (.int .u64 (ny : Nat)))) (by kernel_rfl) ⟨d1, d2, d3, d4⟩ (fun hHeld => ?_)
          refine wpAnyH_take (i := 0) (oi := ?_) (v := ?_) ?_ ?_ ?_ ?_ ?_ ?_ ?_ ?_
          rotate_left 2
          · simp only [List.getElem?_toArray, List.getElem?_cons_zero]; rfl
          · kernel_rfl
          · kernel_rfl
          · kernel_rfl
          · exact fun _ _ _ h => h
          · exact Or.inl ⟨by kernel_rfl, by intro w hSw; (try dsimp only at hSw); go_simp; try with_reducible rfl⟩
          · assumption
          try go_simp
          refine wpAnyH_take (i := 1) (oi := ?_) (v := ?_) ?_ ?_ ?_ ?_ ?_ ?_ ?_ ?_
          rotate_left 2
          · simp only [List.getElem?_toArray, List.getElem?_cons_succ, List.getElem?_cons_zero]; rfl
          · kernel_rfl
          · kernel_rfl
          · kernel_rfl
          · exact fun _ _ _ h => h
          · exact Or.inl ⟨by kernel_rfl, by intro w hSw; (try dsimp only at hSw); go_simp; try with_reducible rfl⟩
          · assumption
          try go_simp
          refine wpAnyH_take (i := 2) (oi := ?_) (v := ?_) ?_ ?_ ?_ ?_ ?_ ?_ ?_ ?_
          rotate_left 2
          · simp only [List.getElem?_toArray, List.getElem?_cons_succ, List.getElem?_cons_zero]; rfl
          · kernel_rfl
          · kernel_rfl
          · kernel_rfl
          · exact fun _ _ _ h => h
          · exact Or.inl ⟨by kernel_rfl, by intro w hSw; (try dsimp only at hSw); go_simp; try with_reducible rfl⟩
          · assumption
          try go_simp
          refine wpAnyH_take (i := 3) (oi := ?_) (v := ?_) ?_ ?_ ?_ ?_ ?_ ?_ ?_ ?_
          rotate_left 2
          · simp only [List.getElem?_toArray, List.getElem?_cons_succ, List.getElem?_cons_zero]; rfl
          · kernel_rfl
          · kernel_rfl
          · kernel_rfl
          · exact fun _ _ _ h => h
          · exact Or.inl ⟨by kernel_rfl, by intro w hSw; (try dsimp only at hSw); go_simp; try with_reducible rfl⟩
          · assumption
          try go_simp
          refine wpAnyH_take (i := 4) (oi := ?_) (v := ?_) ?_ ?_ ?_ ?_ ?_ ?_ ?_ ?_
          rotate_left 2
          · simp only [List.getElem?_toArray, List.getElem?_cons_succ, List.getElem?_cons_zero]; rfl
          · kernel_rfl
          · kernel_rfl
          · kernel_rfl
          · exact fun _ _ _ h => h
          · exact Or.inl ⟨by kernel_rfl, by intro w hSw; (try dsimp only at hSw); go_simp; try with_reducible rfl⟩
          · assumption
          try go_simp
          refine wpAnyH_take (i := 5) (oi := ?_) (v := ?_) ?_ ?_ ?_ ?_ ?_ ?_ ?_ ?_
          rotate_left 2
          · simp only [List.getElem?_toArray, List.getElem?_cons_succ, List.getElem?_cons_zero]; rfl
          · kernel_rfl
          · kernel_rfl
          · kernel_rfl
          · exact fun _ _ _ h => h
          · exact Or.inl ⟨by kernel_rfl, by intro w hSw; (try dsimp only at hSw); go_simp; try with_reducible rfl⟩
          · assumption
          try go_simp
          refine wpAnyH_take (i := 6) (oi := ?_) (v := ?_) ?_ ?_ ?_ ?_ ?_ ?_ ?_ ?_
          rotate_left 2
          · simp only [List.getElem?_toArray, List.getElem?_cons_succ, List.getElem?_cons_zero]; rfl
          · kernel_rfl
          · kernel_rfl
          · kernel_rfl
          · exact fun _ _ _ h => h
          · exact Or.inl ⟨by kernel_rfl, by intro w hSw; (try dsimp only at hSw); go_simp; try with_reducible rfl⟩
          · assumption
          try go_simp
          refine wpAnyH_take (i := 7) (oi := ?_) (v := ?_) ?_ ?_ ?_ ?_ ?_ ?_ ?_ ?_
          rotate_left 2
          · simp only [List.getElem?_toArray, List.getElem?_cons_succ, List.getElem?_cons_zero]; rfl
          · kernel_rfl
          · kernel_rfl
          · kernel_rfl
          · exact fun _ _ _ h => h
          · exact Or.inl ⟨by kernel_rfl, by intro w hSw; (try dsimp only at hSw); go_simp; try with_reducible rfl⟩
          · assumption
          try go_simp
          refine wpAnyH_take (i := 8) (oi := ?_) (v := ?_) ?_ ?_ ?_ ?_ ?_ ?_ ?_ ?_
          rotate_left 2
          · simp only [List.getElem?_toArray, List.getElem?_cons_succ, List.getElem?_cons_zero]; rfl
          · kernel_rfl
          · kernel_rfl
          · kernel_rfl
          · exact fun _ _ _ h => h
          · exact Or.inl ⟨by kernel_rfl, by intro w hSw; (try dsimp only at hSw); go_simp; try with_reducible rfl⟩
          · assumption
          try go_simp
          refine wpAnyH_take (i := 9) (oi := ?_) (v := ?_) ?_ ?_ ?_ ?_ ?_ ?_ ?_ ?_
          rotate_left 2
          · simp only [List.getElem?_toArray, List.getElem?_cons_succ, List.getElem?_cons_zero]; rfl
          · kernel_rfl
          · kernel_rfl
          · kernel_rfl
          · exact fun _ _ _ h => h
          · exact Or.inl ⟨by kernel_rfl, by intro w hSw; (try dsimp only at hSw); go_simp; try with_reducible rfl⟩
          · assumption
          try go_simp
          refine wpAnyH_ready (rs := [10]) (by kernel_rfl) (by simp) ?_
          refine AllReadyH.cons (o := ?_) ?_ ?_ AllReadyH.nil
          rotate_left 1
          · simp only [List.getElem?_toArray, List.getElem?_cons_succ, List.getElem?_cons_zero]; rfl
          intro K hK
          go_simp
          refine (HLE.out _ (by omega)).mono ?_
          rintro e w2 ⟨rfl, hb2⟩
          have hb2' : Below w.heap.size w w2 := HBE.out.trans (show Below w.heap.size wo w2 from ⟨hb2.os, hb2.tape, hb2.output, hb2.size, fun i hi => hb2.block i (Nat.lt_of_lt_of_le hi HBE.out.size)⟩)
          have HB2 := Lib.hid hb2'
          obtain ⟨e1, e2, e3, e4⟩ := HCE.out w2 hb2'
          clear hb2 hb2'
          refine hK.out _ _ ?_ (fun hHeld => ?_)
          · exact ⟨e1, e2, e3, e4⟩
          clear hK K
          try go_simp
          refine wpAnyH_take (i := 11) (oi := ?_) (v := ?_) ?_ ?_ ?_ ?_ ?_ ?_ ?_ ?_
          rotate_left 2
          · simp only [List.getElem?_toArray, List.getElem?_cons_succ, List.getElem?_cons_zero]; rfl
          · kernel_rfl
          · kernel_rfl
          · kernel_rfl
          · exact fun _ _ _ h => h
          · exact Or.inl ⟨by kernel_rfl, by intro w hSw; (try dsimp only at hSw); go_simp; try with_reducible rfl⟩
          · assumption
          try go_simp
          refine wpAnyH_done (by kernel_rfl) ?_ _
          refine NoPanic.normal ?_
          go_wp2_with fail
          go_ret
          exact ⟨by rw [HX.out]; rfl, HB2.out⟩
set_option maxRecDepth 100000 in
set_option maxHeartbeats 3200000 in
theorem load_t (A : Option Addr) (c : Nat) (m : Int) (l : List Pr) (f : Nat) (w : World) (h : Prs w w.heap.size A l) (hf : Fine l) (hm0 : 2 ≤ m) (hm1 : m ≤ 4096) (hl : (l.length : Int) ≤ m) (h50 : l.length ≤ 50000) (hff : f = 0 ∨ (l.length : Int) = m ∧ ∃ p R, l = p :: R ∧ f < p.2) :
    Calls Try.prog 46 #[.int .i64 m, .slice A l.length c, .int .u64 (f : Int)] w fun e w' => ∃ g gl A' c', e = .returned (.tuple #[.pointer (some ⟨g, 0, none⟩), .int .i64 0]) ∧ w.heap.size ≤ g ∧ w.heap.size ≤ gl ∧ Blk w' g 98 #[.int .i64 m, .pointer (some ⟨gl, 0, none⟩), .int .u64 (f : Nat)] ∧ Lst w' gl A' c' l ∧ Below w.heap.size w w' := by
  have HNEW := Lib.hid (cnew_t m w hm0 hm1)
  have HSO := Lib.hid (fun W (h : Prs W W.heap.size A l) => sorted_t A c l W h hf.len)
  rw [srtB_true.2 hf.srt] at HSO
  have HOF := Lib.hid (fun W (h : Prs W W.heap.size A l) => of_t A c l W h h50)
  rw [ofL_fine hf] at HOF
  have HP := Lib.hid h
  have x1 : decide (m < (l.length : Int)) = false := by simp; omega
  have hc : (decide ((0 : Int) < (f : Int)) = false ∧ decide (0 < f) = false) ∨ (decide ((0 : Int) < (f : Int)) = true ∧ decide (0 < f) = true ∧ decide ((l.length : Int) < m) = false ∧ (0 : Int) < (l.length : Int) ∧ ∃ b o n, A = some ⟨b, o, none⟩ ∧ b < w.heap.size ∧ w.cell? ⟨b, o + 1, none⟩ = some (.int .u64 (n : Nat)) ∧ decide ((n : Int) ≤ (f : Int)) = false ∧ decide (n ≤ f) = false) := by
    rcases hff with h0 | ⟨h1, p, R, e, h2⟩
    · exact .inl ⟨by simp; omega, by simp; omega⟩
    · by_cases h0 : f = 0
      · exact .inl ⟨by simp; omega, by simp; omega⟩
      · obtain ⟨b, o, e2, hb, hc⟩ := h.at_ (by omega)
        have := (hc 0 p (by rw [e]; rfl)).2
        exact .inr ⟨by simp; omega, by simp; omega, by simp; omega, by omega, b, o, p.2, e2, hb, by simpa using this, by simp; omega, by simp; omega⟩
  clear h hf hm0 hm1 hl h50 hff
  rcases hc with ⟨z1, z2⟩ | ⟨z1, z2, z3, z5, b, o, n, rfl, hb, d1, z6, z7⟩
  · go_enter Try.func46, Try.ntmps46
    go_wp2_with fail
    refine HNEW.out.mono ?_
    rintro e w1 ⟨rfl, s1, b1⟩
    have S1 := Lib.hid s1.blk
    have B1 := Lib.hid b1
    clear s1 b1
    go_wp2_with fail
    refine (HSO.out w1 (HP.out.at_below B1.out)).mono ?_
    rintro e w2 ⟨rfl, b2⟩
    have S2 := Lib.hid (S1.out.below b2 S1.out.lt)
    have B2 := Lib.hid (nextB B1.out b2)
    clear b2
    go_wp2_with fail
    refine (HOF.out w2 (HP.out.at_below B2.out)).mono ?_
    rintro e w3 (⟨_, ⟨gl, A3, c3, rfl, hgl, hl3⟩, b3⟩ | ⟨h0, _⟩)
    case inr => exact absurd rfl h0
    have s3 := S2.out.below b3 S2.out.lt
    have HL3 := Lib.hid hl3
    have HGL := Lib.hid (Nat.le_trans B2.out.size hgl)
    have B3 := Lib.hid (nextB B2.out b3)
    have k1 : w3.cell? ⟨w.heap.size + 1, 1, none⟩ = some (.pointer (some ⟨w.heap.size, 0, none⟩)) := by rw [s3.cell]; rfl
    have k2 : w3.cell? ⟨w.heap.size + 1, 2, none⟩ = some (.int .u64 0) := by rw [s3.cell, cutL_nil]; rfl
    have kf1 := s3.free 1
    have kf2 := s3.free 2
    have hne : w.heap.size + 1 ≠ gl := fun e => Blk.ne s3 hl3.1 (by decide) e
    have S3 := Lib.hid s3
    have HNE := Lib.hid hne
    clear b3 hl3 hgl s3 hne
    go_wp2_with fail
    go_ret2
    refine ⟨w.heap.size + 1, gl, A3, c3, rfl, by omega, HGL.out, ?_, ⟨(HL3.out.1.far (p := ⟨w.heap.size + 1, 1, none⟩) (fun e => HNE.out e.symm) _).far (p := ⟨w.heap.size + 1, 2, none⟩) (fun e => HNE.out e.symm) _, ?_⟩, (B3.out.setCell (by simp) _).setCell (by simp) _⟩
    · have h := (S3.out.put 1 (.pointer (some ⟨gl, 0, none⟩))).put 2 (.int .u64 (f : Int))
      simpa using h
    · have hn : blockOf A3 ≠ some (w.heap.size + 1) := Own.ne_blk (show Own w3 gl 62 2 A3 l.length c3 (pcs l) from HL3.out.2) S3.out (by decide)
      exact Own.setOther (Own.setOther HL3.out.2 (p := ⟨w.heap.size + 1, 1, none⟩) hn _) (p := ⟨w.heap.size + 1, 2, none⟩) hn _
  · go_enter Try.func46, Try.ntmps46
    go_wp2_with fail
    refine HNEW.out.mono ?_
    rintro e w1 ⟨rfl, s1, b1⟩
    have S1 := Lib.hid s1.blk
    have B1 := Lib.hid b1
    clear s1 b1
    go_wp2_with fail
    refine (HSO.out w1 (HP.out.at_below B1.out)).mono ?_
    rintro e w2 ⟨rfl, b2⟩
    have S2 := Lib.hid (S1.out.below b2 S1.out.lt)
    have B2 := Lib.hid (nextB B1.out b2)
    have d2 : w2.cell? ⟨b, o + 1, none⟩ = some (.int .u64 (n : Nat)) := (B2.out.cell (p := ⟨b, o + 1, none⟩) hb).trans d1
    clear b2 d1
    go_wp2_with fail
    refine (HOF.out w2 (HP.out.at_below B2.out)).mono ?_
    rintro e w3 (⟨_, ⟨gl, A3, c3, rfl, hgl, hl3⟩, b3⟩ | ⟨h0, _⟩)
    case inr => exact absurd rfl h0
    have s3 := S2.out.below b3 S2.out.lt
    have HL3 := Lib.hid hl3
    have HGL := Lib.hid (Nat.le_trans B2.out.size hgl)
    have B3 := Lib.hid (nextB B2.out b3)
    have k1 : w3.cell? ⟨w.heap.size + 1, 1, none⟩ = some (.pointer (some ⟨w.heap.size, 0, none⟩)) := by rw [s3.cell]; rfl
    have k2 : w3.cell? ⟨w.heap.size + 1, 2, none⟩ = some (.int .u64 0) := by rw [s3.cell, cutL_nil]; rfl
    have kf1 := s3.free 1
    have kf2 := s3.free 2
    have hne : w.heap.size + 1 ≠ gl := fun e => Blk.ne s3 hl3.1 (by decide) e
    have S3 := Lib.hid s3
    have HNE := Lib.hid hne
    clear b3 hl3 hgl s3 hne d2
    go_wp2_with fail
    go_ret2
    refine ⟨w.heap.size + 1, gl, A3, c3, rfl, by omega, HGL.out, ?_, ⟨(HL3.out.1.far (p := ⟨w.heap.size + 1, 1, none⟩) (fun e => HNE.out e.symm) _).far (p := ⟨w.heap.size + 1, 2, none⟩) (fun e => HNE.out e.symm) _, ?_⟩, (B3.out.setCell (by simp) _).setCell (by simp) _⟩
    · have h := (S3.out.put 1 (.pointer (some ⟨gl, 0, none⟩))).put 2 (.int .u64 (f : Int))
      simpa using h
    · have hn : blockOf A3 ≠ some (w.heap.size + 1) := Own.ne_blk (show Own w3 gl 62 2 A3 l.length c3 (pcs l) from HL3.out.2) S3.out (by decide)
      exact Own.setOther (Own.setOther HL3.out.2 (p := ⟨w.heap.size + 1, 1, none⟩) hn _) (p := ⟨w.heap.size + 1, 2, none⟩) hn _
end Go.Proofs.Ytbfhiegbgkkgiaa
/- Stores with a budget, read from pairs that no store keeps so: walked. -/

namespace Go.Proofs.Ytbfhiegbgkkgiaa
open Go.RowKit
open Pl
def LoadBad (m : Int) (l : List Pr) (f : Nat) : Prop := (ofL l []).2 ≠ 0 ∨ 0 < f ∧ ((l.length : Int) < m ∨ ∃ p R, l = p :: R ∧ p.2 ≤ f)
set_option maxHeartbeats 3200000 in
theorem load_no (A : Option Addr) (c : Nat) (m : Int) (l : List Pr) (f : Nat) (w : World) (h : Prs w w.heap.size A l) (hs : Srt l) (hm0 : 2 ≤ m) (hm1 : m ≤ 4096) (hl : (l.length : Int) ≤ m) (hbad : LoadBad m l f) :
    Calls Try.prog 46 #[.int .i64 m, .slice A l.length c, .int .u64 (f : Int)] w fun e w' => e = .returned (.tuple #[.pointer none, .int .i64 1]) ∧ Below w.heap.size w w' := by
  have HNEW := Lib.hid (cnew_t m w hm0 hm1)
  have HSO := Lib.hid (fun W (h : Prs W W.heap.size A l) => sorted_t A c l W h (by omega))
  rw [srtB_true.2 hs] at HSO
  have HOF := Lib.hid (fun W (h : Prs W W.heap.size A l) => of_t A c l W h (by omega))
  have HP := Lib.hid h
  have x1 : decide (m < (l.length : Int)) = false := by simp; omega
  have hc : (decide ((0 : Int) < (f : Int)) = true ∧ decide (0 < f) = true ∧ decide ((l.length : Int) < m) = true) ∨
      (decide ((0 : Int) < (f : Int)) = true ∧ decide (0 < f) = true ∧ decide ((l.length : Int) < m) = false ∧ (0 : Int) < (l.length : Int) ∧ ∃ b o n, A = some ⟨b, o, none⟩ ∧ b < w.heap.size ∧ w.cell? ⟨b, o + 1, none⟩ = some (.int .u64 (n : Nat)) ∧ decide ((n : Int) ≤ (f : Int)) = true ∧ decide (n ≤ f) = true) ∨
      (ofL l []).2 ≠ 0 ∧ ((decide ((0 : Int) < (f : Int)) = false ∧ decide (0 < f) = false) ∨ (decide ((0 : Int) < (f : Int)) = true ∧ decide (0 < f) = true ∧ decide ((l.length : Int) < m) = false ∧ (0 : Int) < (l.length : Int) ∧ ∃ b o n, A = some ⟨b, o, none⟩ ∧ b < w.heap.size ∧ w.cell? ⟨b, o + 1, none⟩ = some (.int .u64 (n : Nat)) ∧ decide ((n : Int) ≤ (f : Int)) = false ∧ decide (n ≤ f) = false)) := by
    by_cases h0 : f = 0
    · refine .inr (.inr ⟨?_, .inl ⟨by simp; omega, by simp; omega⟩⟩)
      rcases hbad with h1 | ⟨h1, _⟩
      · exact h1
      · omega
    by_cases h1 : (l.length : Int) < m
    · exact .inl ⟨by simp; omega, by simp; omega, by simp; omega⟩
    obtain ⟨p, R, e⟩ : ∃ p R, l = p :: R := by
      cases l with
      | nil => simp at h1; omega
      | cons p R => exact ⟨p, R, rfl⟩
    have hlp : 0 < l.length := by rw [e]; simp
    obtain ⟨b, o, e2, hb, hc⟩ := h.at_ hlp
    have hq := (hc 0 p (by rw [e]; rfl)).2
    by_cases h2 : p.2 ≤ f
    · exact .inr (.inl ⟨by simp; omega, by simp; omega, by simp; omega, by omega, b, o, p.2, e2, hb, by simpa using hq, by simp; omega, by simp; omega⟩)
    · refine .inr (.inr ⟨?_, .inr ⟨by simp; omega, by simp; omega, by simp; omega, by omega, b, o, p.2, e2, hb, by simpa using hq, by simp; omega, by simp; omega⟩⟩)
      rcases hbad with h3 | ⟨_, h3 | ⟨p', R', e', h3⟩⟩
      · exact h3
      · exact absurd h3 h1
      · rw [e] at e'
        obtain ⟨rfl, rfl⟩ := List.cons.inj e'
        exact absurd h3 h2
  clear h hs hm0 hm1 hl hbad
  rcases hc with ⟨z1, z2, z3⟩ | ⟨z1, z2, z3, z5, b, o, n, rfl, hb, d1, z6, z7⟩ | ⟨hof, ⟨z1, z2⟩ | ⟨z1, z2, z3, z5, b, o, n, rfl, hb, d1, z6, z7⟩⟩
  · go_enter Try.func46, Try.ntmps46
    go_wp2_with fail
    refine HNEW.out.mono ?_
    rintro e w1 ⟨rfl, s1, b1⟩
    have B1 := Lib.hid b1
    clear s1 b1
    go_wp2_with fail
    refine (HSO.out w1 (HP.out.at_below B1.out)).mono ?_
    rintro e w2 ⟨rfl, b2⟩
    have B2 := Lib.hid (nextB B1.out b2)
    clear b2
    go_wp2_with fail
    go_ret2
    exact ⟨rfl, B2.out⟩
  · go_enter Try.func46, Try.ntmps46
    go_wp2_with fail
    refine HNEW.out.mono ?_
    rintro e w1 ⟨rfl, s1, b1⟩
    have B1 := Lib.hid b1
    clear s1 b1
    go_wp2_with fail
    refine (HSO.out w1 (HP.out.at_below B1.out)).mono ?_
    rintro e w2 ⟨rfl, b2⟩
    have B2 := Lib.hid (nextB B1.out b2)
    have d2 : w2.cell? ⟨b, o + 1, none⟩ = some (.int .u64 (n : Nat)) := (B2.out.cell (p := ⟨b, o + 1, none⟩) hb).trans d1
    clear b2 d1
    go_wp2_with fail
    go_ret2
    exact ⟨rfl, B2.out⟩
  · go_enter Try.func46, Try.ntmps46
    go_wp2_with fail
    refine HNEW.out.mono ?_
    rintro e w1 ⟨rfl, s1, b1⟩
    have B1 := Lib.hid b1
    clear s1 b1
    go_wp2_with fail
    refine (HSO.out w1 (HP.out.at_below B1.out)).mono ?_
    rintro e w2 ⟨rfl, b2⟩
    have B2 := Lib.hid (nextB B1.out b2)
    clear b2
    go_wp2_with fail
    refine (HOF.out w2 (HP.out.at_below B2.out)).mono ?_
    rintro e w3 (⟨h0, _⟩ | ⟨h0, rfl, b3⟩)
    case inl => exact absurd h0 hof
    have B3 := Lib.hid (nextB B2.out b3)
    have hbeq : ((ofL l []).2 == 0) = false := by simpa using h0
    clear b3 hof h0
    generalize (ofL l []).2 = E at *
    go_wp2_with fail
    go_ret2
    exact ⟨rfl, B3.out⟩
  · go_enter Try.func46, Try.ntmps46
    go_wp2_with fail
    refine HNEW.out.mono ?_
    rintro e w1 ⟨rfl, s1, b1⟩
    have B1 := Lib.hid b1
    clear s1 b1
    go_wp2_with fail
    refine (HSO.out w1 (HP.out.at_below B1.out)).mono ?_
    rintro e w2 ⟨rfl, b2⟩
    have B2 := Lib.hid (nextB B1.out b2)
    have d2 : w2.cell? ⟨b, o + 1, none⟩ = some (.int .u64 (n : Nat)) := (B2.out.cell (p := ⟨b, o + 1, none⟩) hb).trans d1
    clear b2 d1
    go_wp2_with fail
    refine (HOF.out w2 (HP.out.at_below B2.out)).mono ?_
    rintro e w3 (⟨h0, _⟩ | ⟨h0, rfl, b3⟩)
    case inl => exact absurd h0 hof
    have B3 := Lib.hid (nextB B2.out b3)
    have hbeq : ((ofL l []).2 == 0) = false := by simpa using h0
    clear b3 hof h0 d2
    generalize (ofL l []).2 = E at *
    go_wp2_with fail
    go_ret2
    exact ⟨rfl, B3.out⟩
end Go.Proofs.Ytbfhiegbgkkgiaa
/- Ranges of whole numbers, plain: each begins behind the one before it; they are few. -/

namespace Go.Proofs.Ytbfhiegbgkkgiaa
namespace Sc
abbrev Span := Nat × Nat × Nat
def midOf (a low : Nat) : Nat := min (low + low * a / 10000) 9223372036854775807
def highOf (a mid : Nat) : Nat := min (mid * 10000 / (10000 - a)) 9223372036854775807
def spanOf (a low : Nat) : Span := (low, midOf a low, highOf a (midOf a low))
def spansF (a : Nat) : Nat → Nat → List Span
  | 0, _ => []
  | f + 1, low => if (spanOf a low).2.2 = 9223372036854775807 then [spanOf a low] else spanOf a low :: spansF a f ((spanOf a low).2.2 + 1)
def spans (a : Nat) : List Span := spansF a 4410 1
theorem mid_le {a low : Nat} (h : low ≤ 9223372036854775807) : low ≤ midOf a low ∧ midOf a low ≤ 9223372036854775807 := by unfold midOf; omega
theorem high_le {a mid : Nat} (ha : a ≤ 5000) (h : mid ≤ 9223372036854775807) : mid ≤ highOf a mid ∧ highOf a mid ≤ 9223372036854775807 := by
  unfold highOf
  have h1 : mid ≤ mid * 10000 / (10000 - a) := by
    rw [Nat.le_div_iff_mul_le (by omega)]
    exact Nat.mul_le_mul_left _ (by omega)
  omega
theorem span_grows {a low : Nat} (ha0 : 100 ≤ a) (ha : a ≤ 5000) (h : low ≤ 9223372036854775807) (hh : (spanOf a low).2.2 ≠ 9223372036854775807) :
    low < (spanOf a low).2.2 + 1 ∧ (spanOf a low).2.2 + 1 ≤ 9223372036854775807 ∧ 101 * low ≤ 100 * ((spanOf a low).2.2 + 1) := by
  obtain ⟨m1, m2⟩ := mid_le (a := a) h
  obtain ⟨h1, h2⟩ := high_le ha m2
  have hs : (spanOf a low).2.2 = highOf a (midOf a low) := rfl
  rw [hs] at hh ⊢
  have hlt : midOf a low < 9223372036854775807 := by omega
  have hm : midOf a low = low + low * a / 10000 := by
    unfold midOf at hlt ⊢
    omega
  have h3 : low * 100 / 10000 ≤ low * a / 10000 := Nat.div_le_div_right (Nat.mul_le_mul_left _ ha0)
  omega
/-- Where a loop over the ranges stands: those that are done, where the next one begins, and how many more there may be. -/
structure At (a : Nat) (T : List Span) (low f : Nat) : Prop where
  all : spans a = T ++ spansF a f low
  len : T.length + f = 4410
  low1 : 1 ≤ low
  low2 : low ≤ 9223372036854775807
  grow : 101 ^ T.length ≤ low * 100 ^ T.length
theorem At.start (a : Nat) : At a [] 1 4410 := ⟨by unfold spans; rw [List.nil_append], by simp, Nat.le_refl _, by decide, by simp⟩
theorem few (K : Nat) (hK : K = 70 * 63) : 9223372036854775807 * 100 ^ K < 101 ^ K := by
  have h0 : 2 * 100 ^ 70 ≤ 101 ^ 70 := by decide +kernel
  have h1 : (2 * 100 ^ 70) ^ 63 ≤ (101 ^ 70) ^ 63 := Nat.pow_le_pow_left h0 63
  rw [Nat.mul_pow, ← Nat.pow_mul, ← Nat.pow_mul, ← hK] at h1
  have h2 : 9223372036854775807 < 2 ^ 63 := by decide
  have h3 : 0 < 100 ^ K := Nat.pow_pos (by decide)
  exact Nat.lt_of_lt_of_le (Nat.mul_lt_mul_of_pos_right h2 h3) h1
theorem At.pos {a : Nat} {T : List Span} {low f : Nat} (h : At a T low f) : 0 < f := by
  rcases Nat.eq_zero_or_pos f with h0 | h0
  · exfalso
    have h1 := h.len
    have h2 : T.length = 70 * 63 := by omega
    have h3 := h.grow
    have h4 : low * 100 ^ T.length ≤ 9223372036854775807 * 100 ^ T.length := Nat.mul_le_mul_right _ h.low2
    exact absurd (Nat.lt_of_le_of_lt (Nat.le_trans h3 h4) (few _ h2)) (Nat.lt_irrefl _)
  · exact h0
theorem At.step {a : Nat} {T : List Span} {low f : Nat} (h : At a T low f) (ha0 : 100 ≤ a) (ha : a ≤ 5000) :
    ((spanOf a low).2.2 = 9223372036854775807 → spans a = T ++ [spanOf a low]) ∧ ((spanOf a low).2.2 ≠ 9223372036854775807 → At a (T ++ [spanOf a low]) ((spanOf a low).2.2 + 1) (f - 1)) := by
  obtain ⟨g, rfl⟩ : ∃ g, f = g + 1 := ⟨f - 1, by have := h.pos; omega⟩
  have hall := h.all
  unfold spansF at hall
  refine ⟨fun he => by rw [hall, if_pos he], fun he => ?_⟩
  rw [if_neg he] at hall
  obtain ⟨g1, g2, g3⟩ := span_grows ha0 ha h.low2 he
  refine ⟨by rw [hall, List.append_assoc]; rfl, by have := h.len; rw [List.length_append, List.length_singleton]; omega, by omega, g2, ?_⟩
  rw [List.length_append, List.length_singleton, Nat.pow_succ, Nat.pow_succ]
  have h1 : 101 ^ T.length * 101 ≤ low * 100 ^ T.length * 101 := Nat.mul_le_mul_right _ h.grow
  have h2 : 101 * low * 100 ^ T.length ≤ 100 * ((spanOf a low).2.2 + 1) * 100 ^ T.length := Nat.mul_le_mul_right _ g3
  calc 101 ^ T.length * 101 ≤ low * 100 ^ T.length * 101 := h1
    _ = 101 * low * 100 ^ T.length := by rw [Nat.mul_right_comm, Nat.mul_comm low 101]
    _ ≤ 100 * ((spanOf a low).2.2 + 1) * 100 ^ T.length := h2
    _ = ((spanOf a low).2.2 + 1) * (100 ^ T.length * 100) := by rw [Nat.mul_comm 100 ((spanOf a low).2.2 + 1), Nat.mul_assoc, Nat.mul_comm 100]
theorem spans_len {a : Nat} {T : List Span} {low f : Nat} (h : At a T low f) : T.length < 4410 := by have := h.pos; have := h.len; omega
end Sc
end Go.Proofs.Ytbfhiegbgkkgiaa
/- bits.Len64: its own text walked, after the shelf's worked text. -/

namespace Go.Proofs.Ytbfhiegbgkkgiaa
open Go.RowKit

set_option maxRecDepth 100000 in
theorem len8tab_size : (Lib.len8tab.size : Int) = 256 := by
  have : Lib.len8tab.size = 256 := by decide
  omega
theorem wrap_add (k a b : Nat) (hk : k ≤ 56) (ha : a ≤ 8) (hb : b = k + a) : wrap64 ((k : Int) + wrap64 (a : Int)) = (b : Int) := by
  unfold wrap64
  omega
theorem wrap_wrap (a : Nat) (ha : a ≤ 8) : wrap64 (wrap64 (a : Int)) = (a : Int) := by
  unfold wrap64
  omega
theorem wrap_one (a : Nat) (ha : a ≤ 8) : wrap64 (a : Int) = (a : Int) := by
  unfold wrap64
  omega
theorem len8_get (y : Int) (h : y.toNat < Lib.len8tab.size) : ((Lib.len8tab[y.toNat]'h).toNat : Int) = Lib.len8 y := by
  unfold Lib.len8
  rw [getElem?_pos Lib.len8tab y.toNat h]
  rfl

set_option maxHeartbeats 4000000 in
set_option maxRecDepth 1000000 in
theorem len64_t (x : Int) (w : World) (h0 : 0 ≤ x) (h1 : x ≤ 18446744073709551615) :
    Calls Try.prog 97 #[.int .u64 x] w fun e w' => e = .returned (.int .i64 (Lib.bitLen x.toNat)) ∧ w' = w := by
  go_enter Try.func97, Try.ntmps97
  go_wp2
  all_goals first
    | (go_ret; refine ⟨congrArg Ending.returned (congrArg (Value.int IntKind.i64) ?_), rfl⟩; go_light)
    | (exfalso
       go_light
       have hs := len8tab_size
       omega)
  all_goals first
    | (rw [len8_get (x / 4294967296 / 65536 / 256) _, Lib.len8_of (x / 4294967296 / 65536 / 256) (by omega) (by omega)]
       have e : (x / 4294967296 / 65536 / 256).toNat = x.toNat / 72057594037927936 := by omega
       have l := Lib.bitLen_le8' (x / 4294967296 / 65536 / 256) (by omega) (by omega)
       have s := Lib.bitLen_shift56 x.toNat (by omega) (by omega)
       rw [e] at l ⊢
       exact wrap_add 56 _ _ (by decide) l s)
    | (rw [len8_get (x / 4294967296 / 65536) _, Lib.len8_of (x / 4294967296 / 65536) (by omega) (by omega)]
       have e : (x / 4294967296 / 65536).toNat = x.toNat / 281474976710656 := by omega
       have l := Lib.bitLen_le8' (x / 4294967296 / 65536) (by omega) (by omega)
       have s := Lib.bitLen_shift48 x.toNat (by omega) (by omega)
       rw [e] at l ⊢
       exact wrap_add 48 _ _ (by decide) l s)
    | (rw [len8_get (x / 4294967296 / 256) _, Lib.len8_of (x / 4294967296 / 256) (by omega) (by omega)]
       have e : (x / 4294967296 / 256).toNat = x.toNat / 1099511627776 := by omega
       have l := Lib.bitLen_le8' (x / 4294967296 / 256) (by omega) (by omega)
       have s := Lib.bitLen_shift40 x.toNat (by omega) (by omega)
       rw [e] at l ⊢
       exact wrap_add 40 _ _ (by decide) l s)
    | (rw [len8_get (x / 4294967296) _, Lib.len8_of (x / 4294967296) (by omega) (by omega)]
       have e : (x / 4294967296).toNat = x.toNat / 4294967296 := by omega
       have l := Lib.bitLen_le8' (x / 4294967296) (by omega) (by omega)
       have s := Lib.bitLen_shift32 x.toNat (by omega) (by omega)
       rw [e] at l ⊢
       exact wrap_add 32 _ _ (by decide) l s)
    | (rw [len8_get (x / 65536 / 256) _, Lib.len8_of (x / 65536 / 256) (by omega) (by omega)]
       have e : (x / 65536 / 256).toNat = x.toNat / 16777216 := by omega
       have l := Lib.bitLen_le8' (x / 65536 / 256) (by omega) (by omega)
       have s := Lib.bitLen_shift24 x.toNat (by omega) (by omega)
       rw [e] at l ⊢
       exact wrap_add 24 _ _ (by decide) l s)
    | (rw [len8_get (x / 65536) _, Lib.len8_of (x / 65536) (by omega) (by omega)]
       have e : (x / 65536).toNat = x.toNat / 65536 := by omega
       have l := Lib.bitLen_le8' (x / 65536) (by omega) (by omega)
       have s := Lib.bitLen_shift16 x.toNat (by omega) (by omega)
       rw [e] at l ⊢
       exact wrap_add 16 _ _ (by decide) l s)
    | (rw [len8_get (x / 256) _, Lib.len8_of (x / 256) (by omega) (by omega)]
       have e : (x / 256).toNat = x.toNat / 256 := by omega
       have l := Lib.bitLen_le8' (x / 256) (by omega) (by omega)
       have s := Lib.bitLen_shift8 x.toNat (by omega) (by omega)
       rw [e] at l ⊢
       exact wrap_add 8 _ _ (by decide) l s)
    | (rw [len8_get (x) _, Lib.len8_of (x) (by omega) (by omega)]
       have e : (x).toNat = x.toNat := by omega
       have l := Lib.bitLen_le8' (x) (by omega) (by omega)
       rw [e] at l ⊢
       first | exact wrap_wrap _ l | exact wrap_add 0 _ _ (by decide) l (by omega) | exact wrap_one _ l)
end Go.Proofs.Ytbfhiegbgkkgiaa
