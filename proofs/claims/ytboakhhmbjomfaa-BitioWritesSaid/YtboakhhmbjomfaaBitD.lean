/- Bitio: the writer's other functions, and Clone, walked. -/
import Derived.Test.YtboakhhmbjomfaaBitC
import Derived.Lib.LazyBuf
namespace Go.Proofs.Ytboakhhmbjomfaa
open Go.RowKit
open Bt
theorem walign_raw (g : Nat) (A : Option Addr) (n c : Nat) (m : Int) (w : World) (h : Blk w g 27 #[.slice A n c, .int .i64 m]) (hn : n ≤ 1000000000) :
    Calls Try.prog 21 #[.pointer (some ⟨g, 0, none⟩)] w fun e w' => e = .returned (.tuple #[]) ∧ w' = w.setCell ⟨g, 1, none⟩ (.int .i64 (8 * (n : Int))) := by
  have c0 : w.cell? ⟨g, 0, none⟩ = some (.slice A n c) := by rw [h.cell]; rfl
  have c1 : w.cell? ⟨g, 1, none⟩ = some (.int .i64 m) := by rw [h.cell]; rfl
  have fr := h.free
  have hni : (n : Int) ≤ 1000000000 := by omega
  clear h
  go_enter Try.func21, Try.ntmps21
  go_wp2_with fail
  exact bodyPost_end (v := .tuple #[]) (results_none Try.results21 _ _ _) rfl ⟨rfl, rfl⟩
theorem walign_t (g : Nat) (A : Option Addr) (c : Nat) (L : List Bool) (w : World) (h : Wri w g A c L) (hL : L.length ≤ 1000000000) :
    Calls Try.prog 21 #[.pointer (some ⟨g, 0, none⟩)] w fun e w' => e = .returned (.tuple #[]) ∧ Wrote g A (alignL L) w w' := by
  obtain ⟨hb, ho⟩ := h
  have hpl := pack_length L
  refine (walign_raw g A (pack L).length c _ w hb (by omega)).mono ?_
  rintro e w' ⟨rfl, rfl⟩
  refine ⟨rfl, A, c, ⟨?_, ?_⟩, (Only.refl _ w).set (p := ⟨g, 1, none⟩) (.inl (.inl rfl)) _, .inl rfl⟩
  · have h1 := hb.put 1 (.int .i64 (8 * ((pack L).length : Int)))
    rw [pack_align, alignL_length, ← hpl]
    simpa using h1
  · unfold OwnB at ho ⊢
    rw [pack_align]
    exact ho.setOther (p := ⟨g, 1, none⟩) (Own.ne_blk ho hb (by decide)) _
theorem len_t (g : Nat) (A : Option Addr) (c : Nat) (L : List Bool) (w : World) (h : Wri w g A c L) :
    Calls Try.prog 16 #[.pointer (some ⟨g, 0, none⟩)] w fun e w' => e = .returned (.int .i64 (L.length : Int)) ∧ w = w' := by
  have c1 : w.cell? ⟨g, 1, none⟩ = some (.int .i64 (L.length : Int)) := by rw [h.1.cell]; rfl
  clear h
  go_enter Try.func16, Try.ntmps16
  go_wp2_with fail
  go_ret
  exact ⟨rfl, rfl⟩
set_option maxHeartbeats 800000 in
theorem text_t (g : Nat) (A : Option Addr) (c : Nat) (L : List Bool) (B : Option Addr) (d : Nat) (l : List UInt8) (w : World) (h : Wri w g A c L) (hb : Bts w w.heap.size B l) (hL : L.length ≤ 100000000) (hl : l.length ≤ 100000000) :
    Calls Try.prog 22 #[.pointer (some ⟨g, 0, none⟩), .slice B l.length d] w fun e w' => e = .returned (.tuple #[]) ∧ Wrote g A (alignL L ++ bitsOf l) w w' := by
  obtain ⟨hbk, ho⟩ := h
  unfold OwnB at ho
  have hpl := pack_length L
  have c0 : w.cell? ⟨g, 0, none⟩ = some (.slice A (pack L).length c) := by rw [hbk.cell]; rfl
  have hgl := hbk.lt
  have HK := Lib.hid hbk
  have HO := Lib.hid ho
  have HB := Lib.hid hb
  have hpm : (pack L).length ≤ 20000000 := by omega
  clear hbk ho hb hpl
  go_enter Try.func22, Try.ntmps22
  go_wp2_with (at_builtin; refine Hid.out ?_)
  refine wpList_app (xs := bvs (pack L)) rfl rfl elem_u8 rfl HO.out rfl HB.out (bvs_one _) ((pack L).length + l.length) rfl (bvs (pack L ++ l)) (bvs_append _ _).symm (by unfold maxLen; omega) (by omega) (by omega) ?_
  intro A3 c3 w3 o3 g3 q3
  have hb3 := HK.out.grown g3 (fun e => Own.ne_blk HO.out HK.out (by decide) e.symm)
  have fr3 := hb3.free
  have c03 : w3.cell? ⟨g, 0, none⟩ = some (.slice A (pack L).length c) := by rw [hb3.cell]; rfl
  have hon3 : Only (WK g A) w w3 := (Only.refl (WK g A) w).step (Only.of_grown g3) (fun i hi => .inl (.inr hi))
  have hbn : blockOf A3 ≠ some g := Own.ne_blk o3 hb3 (by decide)
  have HB4 := Lib.hid (hb3.put 0 (.slice A3 ((pack L).length + l.length) c3))
  have HO4 := Lib.hid (Own.setOther o3 (p := ⟨g, 0, none⟩) hbn (.slice A3 ((pack L).length + l.length) c3))
  have HN4 := Lib.hid (hon3.set (p := ⟨g, 0, none⟩) (.inl (.inl rfl)) (.slice A3 ((pack L).length + l.length) c3))
  have HQ3 : Hid (blockOf A3 = blockOf A ∨ ∃ i, blockOf A3 = some i ∧ w.heap.size ≤ i) := Lib.hid (q3.imp id (fun e => ⟨_, e, Nat.le_refl _⟩))
  have HBN := Lib.hid hbn
  clear o3 g3 q3 hb3 hon3 hbn c0
  go_wp2_with fail
  refine (walign_raw g A3 _ c3 _ _ HB4.out (by omega)).mono ?_
  rintro e w5 ⟨rfl, rfl⟩
  clear c03 fr3
  go_wp2_with fail
  have hpk : pack (alignL L ++ bitsOf l) = pack L ++ l := by rw [pack_text _ _ (by rw [alignL_length]; omega), pack_align]
  refine bodyPost_end (v := .tuple #[]) (results_none Try.results22 _ _ _) rfl ⟨rfl, A3, c3, ⟨?_, ?_⟩, HN4.out.set (p := ⟨g, 1, none⟩) (.inl (.inl rfl)) _, HQ3.out⟩
  · have h1 := HB4.out.put 1 (.int .i64 (8 * ((pack L).length + l.length : Nat)))
    rw [hpk, List.length_append, List.length_append, alignL_length, bitsOf_length, ← pack_length]
    have e : ((8 * (pack L).length + 8 * l.length : Nat) : Int) = 8 * (((pack L).length + l.length : Nat) : Int) := by omega
    rw [e]
    simpa using h1
  · have h1 := Own.setOther HO4.out (p := ⟨g, 1, none⟩) HBN.out (.int .i64 (8 * ((pack L).length + l.length : Nat)))
    unfold OwnB
    rw [hpk, List.length_append]
    exact h1
def ClonePost (w : World) (l : List UInt8) (e : Ending) (w' : World) : Prop := ∃ A c, e = .returned (.slice A l.length c) ∧ OwnB w' w.heap.size A c l ∧ Below w.heap.size w w'
theorem clone_t (A : Option Addr) (c : Nat) (l : List UInt8) (w : World) (hb : Bts w w.heap.size A l) (hl : l.length ≤ 100000000) :
    Calls Try.prog 32 #[.slice A l.length c] w (ClonePost w l) := by
  rcases A with _ | a
  · have hl0 : l = [] := by
      rcases Nat.eq_zero_or_pos l.length with h0 | h0
      · exact List.length_eq_zero_iff.1 h0
      · obtain ⟨b, o, e, _⟩ := hb.at_ h0
        cases e
    subst hl0
    have hk : ∀ W : World, (binOp .eql 25 (.slice none 0 c) (.slice none 0 0)).run Try.prog W = .ok (.bool true) W := fun W => Lib.run_eql_slice_nil W 25 5 none 0 c 0 0 Try.underlying25
    simp only [List.length_nil]
    clear hb
    go_enter Try.func32, Try.ntmps32
    go_wp2_with fail
    go_ret
    exact ⟨none, 0, rfl, Own.nil _ _ _ _, Below.refl _ _⟩
  · have hk : ∀ W : World, (binOp .eql 25 (.slice (some a) l.length c) (.slice none 0 0)).run Try.prog W = .ok (.bool false) W := fun W => Lib.run_eql_slice_nil W 25 5 (some a) l.length c 0 0 Try.underlying25
    have HB := Lib.hid hb
    clear hb
    go_enter Try.func32, Try.ntmps32
    go_wp2_with (at_builtin; refine Hid.out ?_)
    have hO1 : Own (w.alloc (.cells #[] 5)) w.heap.size 5 1 (some ⟨w.heap.size, 0, none⟩) 0 0 [] := Own.made w _ _ _ #[] 0 (Nat.le_refl _) (Nat.zero_le _) rfl
    have hW1 : Below w.heap.size w (w.alloc (.cells #[] 5)) := (Below.refl _ _).alloc (Nat.le_refl _) _
    have hS1 := HB.out.at_below hW1
    refine wpList_app (xs := []) rfl rfl elem_u8 rfl hO1 rfl hS1 (bvs_one _) l.length (Nat.zero_add _) (bvs l) rfl (by unfold maxLen; omega) (by omega) hW1.size ?_
    intro A2 c2 w2 o2 g2 q2
    have HO2 : Hid (OwnB w2 w.heap.size A2 c2 l) := Lib.hid o2
    have HW2 := Lib.hid (appB hW1 hO1 g2 (Nat.le_refl _) hW1.size)
    clear hO1 hW1 hS1 o2 g2 q2
    go_wp2_with fail
    go_ret
    exact ⟨A2, c2, rfl, HO2.out, HW2.out⟩
theorem bytes_t (g : Nat) (A : Option Addr) (c : Nat) (L : List Bool) (w : World) (h : Wri w g A c L) (hL : L.length ≤ 100000000) :
    Calls Try.prog 13 #[.pointer (some ⟨g, 0, none⟩)] w (ClonePost w (pack L)) := by
  obtain ⟨hbk, ho⟩ := h
  have hpl := pack_length L
  have c0 : w.cell? ⟨g, 0, none⟩ = some (.slice A (pack L).length c) := by rw [hbk.cell]; rfl
  have HC := Lib.hid (clone_t A c (pack L) w (OwnB.reads ho) (by omega))
  clear hbk ho hpl
  go_enter Try.func13, Try.ntmps13
  go_wp2_with fail
  refine HC.out.mono ?_
  rintro e w1 ⟨A1, c1, rfl, h1, h2⟩
  have H1 := Lib.hid h1
  have H2 := Lib.hid h2
  clear h1 h2
  go_wp2_with fail
  go_ret
  exact ⟨A1, c1, rfl, H1.out, H2.out⟩
end Go.Proofs.Ytboakhhmbjomfaa
