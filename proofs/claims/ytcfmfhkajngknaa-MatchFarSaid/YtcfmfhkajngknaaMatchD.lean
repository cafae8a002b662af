/- Match: best's loop. -/
import Derived.Test.YtcfmfhkajngknaaMatchC
namespace Go.Proofs.Ytcfmfhkajngknaa
open Go.RowKit
open Mt
set_option maxHeartbeats 3200000 in
theorem best_go (g : Nat) (A : Option Addr) (c : Nat) (l : List UInt8) (Bm base : Nat) (a : Nat) (w : World) (h : Blk w g 41 #[.slice A l.length c, .map (some Bm)]) (hb : Bts w w.heap.size A l) (hM : MapIs w Bm base l a) (hm : l.length ≤ 16777216) (ha : a + 3 ≤ l.length) (hcl : l.length ≤ c) :
    Calls Try.prog 14 #[.pointer (some ⟨g, 0, none⟩), .int .i64 (a : Int)] w fun e w' => e = .returned (tokV l[a].toNat (scan l a (ps l a l[a] l[a + 1] l[a + 2]).reverse (0, 0))) ∧ Below w.heap.size w w' := by
  obtain ⟨v, hlook, hoi⟩ := hM.look (by unfold maxLen; omega) l[a] l[a + 1] l[a + 2]
  obtain ⟨A2, c2, hv⟩ := own_shape hoi.1
  subst hv
  have hpl : (psI l a l[a] l[a + 1] l[a + 2]).length = (ps l a l[a] l[a + 1] l[a + 2]).length := by simp [psI]
  have hll : (ps l a l[a] l[a + 1] l[a + 2]).length ≤ 16777216 := by have := ps_len l a l[a] l[a + 1] l[a + 2]; omega
  have hpa : ∀ p ∈ ps l a l[a] l[a + 1] l[a + 2], p < a := fun p hp => (ps_mem.1 hp).1
  have hrd : ∀ (j p : Nat), (ps l a l[a] l[a + 1] l[a + 2])[j]? = some p → ∃ b2 o2, A2 = some ⟨b2, o2, none⟩ ∧ b2 < w.heap.size ∧ w.cell? ⟨b2, o2 + j, none⟩ = some (.int .i64 (p : Int)) := fun j p hj => by
    obtain ⟨b2, o2, e2, hb2, hc2⟩ := (Own.reads (show Own w base 3 1 A2 _ c2 _ from hoi.1)).2 (by
      rw [hpl]
      have := (List.getElem?_eq_some_iff.1 hj).1
      omega)
    exact ⟨b2, o2, e2, hb2, hc2 j _ (by simp [psI, hj])⟩
  rw [hpl] at hlook
  have hBl : Bm < w.heap.size := by
    obtain ⟨D, ⟨es, clock, hmb, _⟩, _⟩ := hM
    exact (Array.getElem?_eq_some_iff.1 hmb).1
  have HPS := Lib.hid (fun (i k : Nat) W h hb hik hkl => psame_t g A c l (.map (some Bm)) i k W h hb hm hik hkl)
  have HH := Lib.hid h
  have HB := Lib.hid hb
  obtain ⟨b, o, rfl, hbl, hcell⟩ := hb.at_ (by omega)
  have c0 : w.cell? ⟨g, 0, none⟩ = some (.slice (some ⟨b, o, none⟩) l.length c) := by rw [h.cell]; rfl
  have c1 : w.cell? ⟨g, 1, none⟩ = some (.map (some Bm)) := by rw [h.cell]; rfl
  have d0 := hcell a (by omega)
  have d1 := hcell (a + 1) (by omega)
  have d2 := hcell (a + 2) (by omega)
  rw [← Nat.add_assoc] at d1 d2
  obtain ⟨p3, hp3⟩ : ∃ p3 : Nat, (p3 : Int) = (a : Int) + 3 := ⟨a + 3, by omega⟩
  have e1 : IntKind.i64.wrap ((a : Int) + 3) = (p3 : Int) := by rw [hp3]; exact IntWalk.i64_in _ ⟨by omega, by omega⟩
  have h1 : ¬ (l.length : Int) < (p3 : Int) := by omega
  have h7 : (a : Int) ≤ (p3 : Int) := by omega
  have h8 : (p3 : Int) ≤ (c : Int) := by omega
  have h9 : p3 - a = 3 := by omega
  have h10 : ¬ c = a := by omega
  have h11 : a ≤ p3 := by omega
  have h12 : p3 ≤ c := by omega
  clear hp3
  have hai : (a : Int) < (l.length : Int) := by omega
  have hgl := h.lt
  have harr : ∀ W : World, (Instr.arrayAt TK (.slice (some ⟨b, o + a, none⟩) 3 (c - a))).run Try.prog W = .ok (.pointer (some ⟨b, o + a, none⟩)) W := fun W => run_arrayAt W TK _ 3 _ 3 (c - a) Try.underlying47 (Nat.le_refl _)
  generalize l[a] = x at *
  generalize l[a + 1] = y at *
  generalize l[a + 2] = z at *
  obtain ⟨L, hL⟩ : ∃ L, L = ps l a x y z := ⟨_, rfl⟩
  rw [← hL] at hlook hrd hll hpa ⊢
  have HRD := Lib.hid hrd
  have HPA := Lib.hid hpa
  obtain ⟨R, hR⟩ : ∃ R, R = scan l a L.reverse (0, 0) := ⟨_, rfl⟩
  rw [← hR]
  have HR := Lib.hid hR
  clear h hb hcell hM hoi hpl hrd hpa hL hR
  go_enter Try.func14, Try.ntmps14
  go_wp2_with fail
  have hB2 : Below w.heap.size w ((w.alloc (.cells #[.int .u8 0, .int .i64 0, .int .i64 0] 28)).alloc (.cells #[.int .u8 (x.toNat : Int), .int .i64 0, .int .i64 0] 28)) := ((Below.refl _ _).alloc (Nat.le_refl _) _).alloc (by simp) _
  have f0 := (hB2.cell (p := ⟨g, 0, none⟩) hgl).trans c0
  have f1 := (hB2.cell (p := ⟨g, 1, none⟩) hgl).trans c1
  have f2 := (hB2.cell (p := ⟨b, o + a, none⟩) hbl).trans d0
  have f3 := (hB2.cell (p := ⟨b, o + a + 1, none⟩) hbl).trans d1
  have f4 := (hB2.cell (p := ⟨b, o + a + 2, none⟩) hbl).trans d2
  refine wp_region_noPanic ?_
  refine wp_region_held_drew (S := (fun w' => w'.cell? ⟨g, 0, none⟩ = some (.slice (some ⟨b, o, none⟩) l.length c) ∧ w'.cell? ⟨g, 1, none⟩ = some (.map (some Bm)) ∧ w'.cell? ⟨b, o + a, none⟩ = some (.int .u8 (x.toNat : Int)) ∧ w'.cell? ⟨b, o + a + 1, none⟩ = some (.int .u8 (y.toNat : Int)) ∧ w'.cell? ⟨b, o + a + 2, none⟩ = some (.int .u8 (z.toNat : Int)) ∧ (Instr.lookup TM (.map (some Bm)) (.agg #[.int .u8 (x.toNat : Int), .int .u8 (y.toNat : Int), .int .u8 (z.toNat : Int)]) false).run Try.prog w' = .ok (.slice A2 L.length c2) w')) (by kernel_rfl) ⟨f0, f1, f2, f3, f4, hlook _ (hB2.block Bm hBl)⟩ (fun hHeld => ?_)
  refine wpAnyH_take (i := 0) (oi := ?_) (v := ?_) ?_ ?_ ?_ ?_ ?_ ?_ ?_ ?_
  rotate_left 2
  · simp only [List.getElem?_toArray, List.getElem?_cons_zero]; rfl
  · kernel_rfl
  · kernel_rfl
  · kernel_rfl
  · exact fun _ _ _ h => h
  · exact Or.inl ⟨by kernel_rfl, by intro w hSw; (try dsimp only at hSw); go_simp; try with_reducible rfl⟩
  · assumption
  try go_simp
  refine wpAnyH_take (i := 1) (oi := ?_) (v := ?_) ?_ ?_ ?_ ?_ ?_ ?_ ?_ ?_
  rotate_left 2
  · simp only [List.getElem?_toArray, List.getElem?_cons_succ, List.getElem?_cons_zero]; rfl
  · kernel_rfl
  · kernel_rfl
  · kernel_rfl
  · exact fun _ _ _ h => h
  · exact Or.inl ⟨by kernel_rfl, by intro w hSw; (try dsimp only at hSw); go_simp; try with_reducible rfl⟩
  · assumption
  try go_simp
  refine wpAnyH_take (i := 2) (oi := ?_) (v := ?_) ?_ ?_ ?_ ?_ ?_ ?_ ?_ ?_
  rotate_left 2
  · simp only [List.getElem?_toArray, List.getElem?_cons_succ, List.getElem?_cons_zero]; rfl
  · kernel_rfl
  · kernel_rfl
  · kernel_rfl
  · exact fun _ _ _ h => h
  · exact Or.inl ⟨by kernel_rfl, by intro w hSw; (try dsimp only at hSw); go_simp; try with_reducible rfl⟩
  · assumption
  try go_simp
  refine wpAnyH_take (i := 3) (oi := ?_) (v := ?_) ?_ ?_ ?_ ?_ ?_ ?_ ?_ ?_
  rotate_left 2
  · simp only [List.getElem?_toArray, List.getElem?_cons_succ, List.getElem?_cons_zero]; rfl
  · kernel_rfl
  · kernel_rfl
  · kernel_rfl
  · exact fun _ _ _ h => h
  · exact Or.inl ⟨by kernel_rfl, by intro w hSw; (try dsimp only at hSw); go_simp; try with_reducible rfl⟩
  · assumption
  try go_simp
  refine wpAnyH_take (i := 4) (oi := ?_) (v := ?_) ?_ ?_ ?_ ?_ ?_ ?_ ?_ ?_
  rotate_left 2
  · simp only [List.getElem?_toArray, List.getElem?_cons_succ, List.getElem?_cons_zero]; rfl
  · kernel_rfl
  · kernel_rfl
  · kernel_rfl
  · exact fun _ _ _ h => h
  · exact Or.inl ⟨by kernel_rfl, by intro w hSw; (try dsimp only at hSw); go_simp; try with_reducible rfl⟩
  · assumption
  try go_simp
  refine wpAnyH_take (i := 5) (oi := ?_) (v := ?_) ?_ ?_ ?_ ?_ ?_ ?_ ?_ ?_
  rotate_left 2
  · simp only [List.getElem?_toArray, List.getElem?_cons_succ, List.getElem?_cons_zero]; rfl
  · kernel_rfl
  · kernel_rfl
  · kernel_rfl
  · exact fun _ _ _ h => h
  · exact Or.inl ⟨by kernel_rfl, by intro w hSw; (try dsimp only at hSw); go_simp; try with_reducible rfl⟩
  · assumption
  try go_simp
  refine wpAnyH_take (i := 6) (oi := ?_) (v := ?_) ?_ ?_ ?_ ?_ ?_ ?_ ?_ ?_
  rotate_left 2
  · simp only [List.getElem?_toArray, List.getElem?_cons_succ, List.getElem?_cons_zero]; rfl
  · kernel_rfl
  · kernel_rfl
  · kernel_rfl
  · exact fun _ _ _ h => h
  · exact Or.inl ⟨by kernel_rfl, by intro w hSw; (try dsimp only at hSw); go_simp; try with_reducible rfl⟩
  · assumption
  try go_simp
  refine wpAnyH_take (i := 7) (oi := ?_) (v := ?_) ?_ ?_ ?_ ?_ ?_ ?_ ?_ ?_
  rotate_left 2
  · simp only [List.getElem?_toArray, List.getElem?_cons_succ, List.getElem?_cons_zero]; rfl
  · kernel_rfl
  · kernel_rfl
  · kernel_rfl
  · exact fun _ _ _ h => h
  · exact Or.inl ⟨by kernel_rfl, by intro w hSw; (try dsimp only at hSw); go_simp; try with_reducible rfl⟩
  · assumption
  try go_simp
  refine wpAnyH_take (i := 8) (oi := ?_) (v := ?_) ?_ ?_ ?_ ?_ ?_ ?_ ?_ ?_
  rotate_left 2
  · simp only [List.getElem?_toArray, List.getElem?_cons_succ, List.getElem?_cons_zero]; rfl
  · kernel_rfl
  · kernel_rfl
  · kernel_rfl
  · exact fun _ _ _ h => h
  · exact Or.inl ⟨by kernel_rfl, by intro w hSw; (try dsimp only at hSw); go_simp; try with_reducible rfl⟩
  · assumption
  try go_simp
  refine wpAnyH_take (i := 9) (oi := ?_) (v := ?_) ?_ ?_ ?_ ?_ ?_ ?_ ?_ ?_
  rotate_left 2
  · simp only [List.getElem?_toArray, List.getElem?_cons_succ, List.getElem?_cons_zero]; rfl
  · kernel_rfl
  · kernel_rfl
  · kernel_rfl
  · exact fun _ _ _ h => h
  · exact Or.inl ⟨by kernel_rfl, by intro w hSw; (try dsimp only at hSw); go_simp; try with_reducible rfl⟩
  · assumption
  try go_simp
  refine wpAnyH_take (i := 10) (oi := ?_) (v := ?_) ?_ ?_ ?_ ?_ ?_ ?_ ?_ ?_
  rotate_left 2
  · simp only [List.getElem?_toArray, List.getElem?_cons_succ, List.getElem?_cons_zero]; rfl
  · kernel_rfl
  · kernel_rfl
  · kernel_rfl
  · exact fun _ _ _ h => h
  · exact Or.inl ⟨by kernel_rfl, by intro w hSw; (try dsimp only at hSw); go_simp; try with_reducible rfl⟩
  · assumption
  try go_simp
  refine wpAnyH_take (i := 11) (oi := ?_) (v := ?_) ?_ ?_ ?_ ?_ ?_ ?_ ?_ ?_
  rotate_left 2
  · simp only [List.getElem?_toArray, List.getElem?_cons_succ, List.getElem?_cons_zero]; rfl
  · kernel_rfl
  · kernel_rfl
  · kernel_rfl
  · exact fun _ _ _ h => h
  · exact Or.inl ⟨by kernel_rfl, by intro w hSw; (try dsimp only at hSw); go_simp; try with_reducible rfl⟩
  · assumption
  try go_simp
  refine wpAnyH_take (i := 12) (oi := ?_) (v := ?_) ?_ ?_ ?_ ?_ ?_ ?_ ?_ ?_
  rotate_left 2
  · simp only [List.getElem?_toArray, List.getElem?_cons_succ, List.getElem?_cons_zero]; rfl
  · kernel_rfl
  · kernel_rfl
  · kernel_rfl
  · exact fun _ _ _ h => h
  · exact Or.inl ⟨by kernel_rfl, by intro w hSw; (try dsimp only at hSw); go_simp; try with_reducible rfl⟩
  · assumption
  try go_simp
  refine wpAnyH_take (i := 13) (oi := ?_) (v := ?_) ?_ ?_ ?_ ?_ ?_ ?_ ?_ ?_
  rotate_left 2
  · simp only [List.getElem?_toArray, List.getElem?_cons_succ, List.getElem?_cons_zero]; rfl
  · kernel_rfl
  · kernel_rfl
  · kernel_rfl
  · exact fun _ _ _ h => h
  · exact Or.inl ⟨by kernel_rfl, by intro w hSw; (try dsimp only at hSw); go_simp; try with_reducible rfl⟩
  · assumption
  try go_simp
  refine wpAnyH_take (i := 14) (oi := ?_) (v := ?_) ?_ ?_ ?_ ?_ ?_ ?_ ?_ ?_
  rotate_left 2
  · simp only [List.getElem?_toArray, List.getElem?_cons_succ, List.getElem?_cons_zero]; rfl
  · kernel_rfl
  · kernel_rfl
  · kernel_rfl
  · exact fun _ _ _ h => h
  · exact Or.inl ⟨by kernel_rfl, by intro w hSw; (try dsimp only at hSw); go_simp; try with_reducible rfl⟩
  · assumption
  try go_simp
  refine wpAnyH_take (i := 15) (oi := ?_) (v := ?_) ?_ ?_ ?_ ?_ ?_ ?_ ?_ ?_
  rotate_left 2
  · simp only [List.getElem?_toArray, List.getElem?_cons_succ, List.getElem?_cons_zero]; rfl
  · kernel_rfl
  · kernel_rfl
  · kernel_rfl
  · exact fun _ _ _ h => h
  · exact Or.inl ⟨by kernel_rfl, by intro w hSw; (try dsimp only at hSw); go_simp; try with_reducible rfl⟩
  · assumption
  try go_simp
  refine wpAnyH_done (by kernel_rfl) ?_ _
  refine NoPanic.normal ?_
  go_wp2_with fail
  have hT : Blk (((w.alloc (.cells #[.int .u8 0, .int .i64 0, .int .i64 0] 28)).alloc (.cells #[.int .u8 (x.toNat : Int), .int .i64 0, .int .i64 0] 28)).drew) (w.heap.size + 1) 28 (tokC x.toNat (0, 0)) := by
    have := Blk.new (w.alloc (.cells #[.int .u8 0, .int .i64 0, .int .i64 0] 28)) 28 #[.int .u8 (x.toNat : Int), .int .i64 0, .int .i64 0]
    rw [World.size_alloc] at this
    exact this.drew
  have hZ : Blk (((w.alloc (.cells #[.int .u8 0, .int .i64 0, .int .i64 0] 28)).alloc (.cells #[.int .u8 (x.toNat : Int), .int .i64 0, .int .i64 0] 28)).drew) w.heap.size 28 #[.int .u8 0, .int .i64 0, .int .i64 0] := ((Blk.new w 28 _).alloc _).drew
  have hB3 : Below w.heap.size w (((w.alloc (.cells #[.int .u8 0, .int .i64 0, .int .i64 0] 28)).alloc (.cells #[.int .u8 (x.toNat : Int), .int .i64 0, .int .i64 0] 28)).drew) := hB2.drew
  have HT := Lib.hid hT
  have HZ := Lib.hid hZ
  have HB3 := Lib.hid hB3
  have HRL : Hid (R = scan l a (L.take L.length).reverse (0, 0)) := Lib.hid (by rw [HR.out, List.take_length])
  clear hT hZ hB3 hB2 f0 f1 f2 f3 f4 c0 c1 d0 d1 d2 hlook hHeld harr HR
  go_loopw [7] (fun v wr => ∃ (m : Nat) (t : Nat × Nat), m ≤ L.length ∧ v = .int .i64 ((m : Int) - 1) ∧ R = scan l a (L.take m).reverse t ∧ Below w.heap.size w wr ∧ Blk wr (w.heap.size + 1) 28 (tokC x.toNat t) ∧ Blk wr w.heap.size 28 #[.int .u8 0, .int .i64 0, .int .i64 0]) (fun v _ => (intOf v + 1).toNat)
  case atStart => exact ⟨L.length, (0, 0), Nat.le_refl _, rfl, HRL.out, HB3.out, HT.out, HZ.out⟩
  case round =>
    obtain ⟨m, t, hm1, rfl, hsc, hbel, hblk, hzer⟩ := hrel
    have t0 : wr.cell? ⟨w.heap.size + 1, 0, none⟩ = some (.int .u8 (tb x.toNat t : Nat)) := by rw [hblk.cell]; rfl
    have t1 : wr.cell? ⟨w.heap.size + 1, 1, none⟩ = some (.int .i64 (t.1 : Int)) := by rw [hblk.cell]; rfl
    have t2 : wr.cell? ⟨w.heap.size + 1, 2, none⟩ = some (.int .i64 (t.2 : Int)) := by rw [hblk.cell]; rfl
    have z0 : wr.cell? ⟨w.heap.size, 0, none⟩ = some (.int .u8 0) := by rw [hzer.cell]; rfl
    have z1 : wr.cell? ⟨w.heap.size, 1, none⟩ = some (.int .i64 0) := by rw [hzer.cell]; rfl
    have z2 : wr.cell? ⟨w.heap.size, 2, none⟩ = some (.int .i64 0) := by rw [hzer.cell]; rfl
    have fz := hzer.free
    have ft := hblk.free
    have HBL := Lib.hid hbel
    have HBK := Lib.hid hblk
    have HZR := Lib.hid hzer
    have HSC := Lib.hid hsc
    clear hbel hblk hzer hsc
    rcases m with _ | j
    · obtain ⟨iv, hiv⟩ : ∃ iv : Int, iv = ((0 : Nat) : Int) - 1 := ⟨_, rfl⟩
      rw [← hiv]
      have hd : decide (0 ≤ iv) = false := by rw [hiv]; rfl
      clear hiv
      go_wp2_with fail
      refine bodyPost_ret (v := tokV x.toNat t) (results_cell_row Try.results14 _ _ w.heap.size 28 (tokC x.toNat t) (0, 0) _ rfl ?_ Try.underlying28 (by rfl) (by kernel_rfl)) ?_ ?_
      · exact ((HZR.out.put 0 _).put 1 _).put 2 _
      · rfl
      · exact ⟨by rw [HSC.out]; rfl, ((HBL.out.setCell (Nat.le_refl _) _).setCell (Nat.le_refl _) _).setCell (Nat.le_refl _) _⟩
    · rw [show ((j + 1 : Nat) : Int) - 1 = (j : Int) by omega]
      obtain ⟨p, hp⟩ : ∃ p, L[j]? = some p := ⟨L[j], by simp⟩
      obtain ⟨b2, o2, hA2, hb2, hc2⟩ := HRD.out j p hp
      subst hA2
      have hpa := HPA.out p (List.mem_of_getElem? hp)
      have hsc : R = scan l a (p :: (L.take j).reverse) t := by
        rw [HSC.out, List.take_add_one, hp]
        simp
      have r1 : wr.cell? ⟨b2, o2 + j, none⟩ = some (.int .i64 (p : Int)) := (HBL.out.cell (p := ⟨b2, o2 + j, none⟩) hb2).trans hc2
      have hd : decide (0 ≤ (j : Int)) = true := by simp
      have j0 : (0 : Int) ≤ (j : Int) := by omega
      have j1 : (j : Int) < (L.length : Int) := by omega
      have p1 : (p : Int) < (a : Int) := by omega
      obtain ⟨q, hq⟩ : ∃ q : Nat, (q : Int) = (a : Int) - (p : Int) := ⟨a - p, by omega⟩
      have hqn : a - p = q := by omega
      have e2 : IntKind.i64.wrap ((a : Int) - (p : Int)) = (q : Int) := by rw [hq]; exact IntWalk.i64_in _ ⟨by omega, by omega⟩
      have HJ := Lib.hid hm1
      have HQ := Lib.hid hq
      unfold scan at hsc
      rw [hqn] at hsc
      clear HSC hm1 hp hc2 hq hqn
      by_cases h32 : 32768 < q
      · rw [if_pos h32] at hsc
        have h32d : decide (q ≤ 32768) = false := by simp; omega
        have h32i : ¬ (q : Int) ≤ 32768 := by omega
        have HSC := Lib.hid hsc
        clear hsc
        go_wp2_with fail
        refine bodyPost_ret (v := tokV x.toNat t) (results_cell_row Try.results14 _ _ w.heap.size 28 (tokC x.toNat t) (0, 0) _ rfl ?_ Try.underlying28 (by rfl) (by kernel_rfl)) ?_ ?_
        · exact ((HZR.out.put 0 _).put 1 _).put 2 _
        · rfl
        · exact ⟨by rw [HSC.out], ((HBL.out.setCell (Nat.le_refl _) _).setCell (Nat.le_refl _) _).setCell (Nat.le_refl _) _⟩
      · rw [if_neg h32] at hsc
        have h32d : decide (q ≤ 32768) = true := by simp; omega
        have h32i : (q : Int) ≤ 32768 := by omega
        have h258 := sm_le l 258 p a
        have HSM : Calls Try.prog 18 #[.pointer (some ⟨g, 0, none⟩), .int .i64 (p : Int), .int .i64 (a : Int)] wr fun e w' => e = .returned (.int .i64 (sm l p a 258 : Nat)) ∧ ∃ n, w' = wr.drewN n := HPS.out p a wr (HH.out.below HBL.out hgl) (HB.out.at_below HBL.out) hpa (by omega)
        generalize sm l p a 258 = n at *
        have HS := Lib.hid HSM
        by_cases hlt : t.1 < n
        · rw [if_pos hlt] at hsc
          have hn0 : 0 < n := by omega
          by_cases h8 : n = 258
          · rw [if_pos h8] at hsc
            have e8 : ((n : Int) == 258) = true := by simp; omega
            have HSC := Lib.hid hsc
            clear HSM hsc h32 h8
            go_wp2_with fail
            refine HS.out.mono ?_
            rintro e w2 ⟨rfl, nq, rfl⟩
            go_wp2_with fail
            refine bodyPost_ret (v := tokV x.toNat (n, q)) (results_cell_row Try.results14 _ _ w.heap.size 28 (tokC x.toNat (n, q)) (0, 0) _ rfl ?_ Try.underlying28 (by rfl) (by kernel_rfl)) ?_ ?_
            · exact (by rw [← tokC_new x.toNat (0, 0) n q hn0]; exact (((((HZR.out.drewN nq).far (p := ⟨w.heap.size + 1, 0, none⟩) (by simp) _).far (p := ⟨w.heap.size + 1, 1, none⟩) (by simp) _).far (p := ⟨w.heap.size + 1, 2, none⟩) (by simp) _).put 0 _ |>.put 1 _).put 2 _)
            · rfl
            · exact ⟨by rw [HSC.out], ((((((below_drewN HBL.out nq).setCell (by simp) _).setCell (by simp) _).setCell (by simp) _).setCell (Nat.le_refl _) _).setCell (Nat.le_refl _) _).setCell (Nat.le_refl _) _⟩
          · rw [if_neg h8] at hsc
            have e8 : ((n : Int) == 258) = false := by simp; omega
            have HSC := Lib.hid hsc
            clear HSM hsc h32 h8
            go_wp2_with fail
            refine HS.out.mono ?_
            rintro e w2 ⟨rfl, nq, rfl⟩
            go_wp2_with fail
            go_roundw
            case rel => exact ⟨j, (n, q), by have := HJ.out; omega, rfl, HSC.out, (((below_drewN HBL.out nq).setCell (by simp) _).setCell (by simp) _).setCell (by simp) _, by rw [← tokC_new x.toNat t n q hn0]; exact (((HBK.out.drewN nq).put 0 _).put 1 _).put 2 _, (((HZR.out.drewN nq).far (by simp) _).far (by simp) _).far (by simp) _⟩
            case measure => simp [intOf]
        · rw [if_neg hlt] at hsc
          by_cases h8 : t.1 = 258
          · rw [if_pos h8] at hsc
            have e8 : ((t.1 : Int) == 258) = true := by simp; omega
            have HSC := Lib.hid hsc
            clear HSM hsc h32 h8
            go_wp2_with fail
            refine HS.out.mono ?_
            rintro e w2 ⟨rfl, nq, rfl⟩
            go_wp2_with fail
            refine bodyPost_ret (v := tokV x.toNat t) (results_cell_row Try.results14 _ _ w.heap.size 28 (tokC x.toNat t) (0, 0) _ rfl ?_ Try.underlying28 (by rfl) (by kernel_rfl)) ?_ ?_
            · exact (((HZR.out.drewN nq).put 0 _).put 1 _).put 2 _
            · rfl
            · exact ⟨by rw [HSC.out], (((below_drewN HBL.out nq).setCell (Nat.le_refl _) _).setCell (Nat.le_refl _) _).setCell (Nat.le_refl _) _⟩
          · rw [if_neg h8] at hsc
            have e8 : ((t.1 : Int) == 258) = false := by simp; omega
            have HSC := Lib.hid hsc
            clear HSM hsc h32 h8
            go_wp2_with fail
            refine HS.out.mono ?_
            rintro e w2 ⟨rfl, nq, rfl⟩
            go_wp2_with fail
            go_roundw
            case rel => exact ⟨j, t, by have := HJ.out; omega, rfl, HSC.out, below_drewN HBL.out nq, HBK.out.drewN nq, HZR.out.drewN nq⟩
            case measure => simp [intOf]
end Go.Proofs.Ytcfmfhkajngknaa
