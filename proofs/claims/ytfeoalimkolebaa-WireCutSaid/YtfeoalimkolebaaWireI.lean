/- Wire: the reader in memory. -/
import Derived.Test.YtfeoalimkolebaaWireH
namespace Go.Proofs.Ytfeoalimkolebaa
open Go.RowKit
open Wi
def ClonePost (w : World) (l : List UInt8) (e : Ending) (w' : World) : Prop := ∃ A c, e = .returned (.slice A l.length c) ∧ OwnB w' w.heap.size A c l ∧ Below w.heap.size w w'
theorem clone_t (A : Option Addr) (c : Nat) (l : List UInt8) (w : World) (hb : Bts w w.heap.size A l) (hl : l.length ≤ 100000000) :
    Calls Try.prog 28 #[.slice A l.length c] w (ClonePost w l) := by
  rcases A with _ | a
  · have hl0 : l = [] := by
      rcases Nat.eq_zero_or_pos l.length with h0 | h0
      · exact List.length_eq_zero_iff.1 h0
      · obtain ⟨b, o, e, _⟩ := hb.at_ h0
        cases e
    subst hl0
    have hk : ∀ W : World, (binOp .eql 24 (.slice none 0 c) (.slice none 0 0)).run Try.prog W = .ok (.bool true) W := fun W => Lib.run_eql_slice_nil W 24 5 none 0 c 0 0 Try.underlying24
    simp only [List.length_nil]
    clear hb
    go_enter Try.func28, Try.ntmps28
    go_wp2_with fail
    go_ret
    exact ⟨none, 0, rfl, Own.nil _ _ _ _, Below.refl _ _⟩
  · have hk : ∀ W : World, (binOp .eql 24 (.slice (some a) l.length c) (.slice none 0 0)).run Try.prog W = .ok (.bool false) W := fun W => Lib.run_eql_slice_nil W 24 5 (some a) l.length c 0 0 Try.underlying24
    have HB := Lib.hid hb
    clear hb
    go_enter Try.func28, Try.ntmps28
    go_wp2_with (at_builtin; refine Hid.out ?_)
    have hO1 : Own (w.alloc (.cells #[] 5)) w.heap.size 5 1 (some ⟨w.heap.size, 0, none⟩) 0 0 [] := Own.made w _ _ _ #[] 0 (Nat.le_refl _) (Nat.zero_le _) rfl
    have hW1 : Below w.heap.size w (w.alloc (.cells #[] 5)) := (Below.refl _ _).alloc (Nat.le_refl _) _
    have hS1 := HB.out.at_below hW1
    refine wpList_app (xs := []) rfl rfl elem_u8 rfl hO1 rfl hS1 (bvs_one _) l.length (Nat.zero_add _) (bvs l) rfl (by unfold maxLen; omega) (by omega) hW1.size ?_
    intro A2 c2 w2 o2 g2 q2
    have HO2 : Hid (OwnB w2 w.heap.size A2 c2 l) := Lib.hid o2
    have HW2 := Lib.hid (appB hW1 hO1 g2 (Nat.le_refl _) hW1.size)
    clear hO1 hW1 hS1 o2 g2 q2
    go_wp2_with fail
    go_ret
    exact ⟨A2, c2, rfl, HO2.out, HW2.out⟩
/-- What a reader's act may turn: it alone. -/
def RK (g : Nat) (i : Nat) : Prop := i = g
/-- Block g is a reader of the bytes l that stands at a byte. -/
def Rdr (w : World) (base g : Nat) (A : Option Addr) (c : Nat) (l : List UInt8) (p : Nat) : Prop := Blk w g 69 #[.slice A l.length c, .int .i64 (p : Int)] ∧ OwnB w base A c l
theorem Rdr.moved {w w' : World} {base g : Nat} {A : Option Addr} {c : Nat} {l : List UInt8} {p p' : Nat} (h : Rdr w base g A c l p) (hb : Blk w' g 69 #[.slice A l.length c, .int .i64 (p' : Int)]) (ho : Only (RK g) w w') : Rdr w' base g A c l p' :=
  ⟨hb, Own.only h.2 ho (fun i hi e => Own.ne_blk h.2 h.1 (by decide) (by rw [hi, e]))⟩
theorem Rdr.below {w w' : World} {base g : Nat} {A : Option Addr} {c : Nat} {l : List UInt8} {p : Nat} (h : Rdr w base g A c l p) (hb : Below w.heap.size w w') : Rdr w' base g A c l p := ⟨h.1.below hb h.1.lt, Own.below h.2 hb⟩
def NewPost (w : World) (l : List UInt8) (e : Ending) (w' : World) : Prop := ∃ g A c, e = .returned (.pointer (some ⟨g, 0, none⟩)) ∧ w.heap.size ≤ g ∧ Rdr w' w.heap.size g A c l 0 ∧ Below w.heap.size w w'
theorem new_t (A : Option Addr) (c : Nat) (l : List UInt8) (w : World) (hb : Bts w w.heap.size A l) (hl : l.length ≤ 100000000) :
    Calls Try.prog 21 #[.slice A l.length c] w (NewPost w l) := by
  have HC := Lib.hid (clone_t A c l w hb hl)
  clear hb
  go_enter Try.func21, Try.ntmps21
  go_wp2_with fail
  refine HC.out.mono ?_
  rintro e w1 ⟨A1, c1, rfl, h1, h2⟩
  have H1 := Lib.hid h1
  have H2 := Lib.hid h2
  clear h1 h2
  go_wp2_with fail
  go_ret
  exact ⟨w1.heap.size, A1, c1, rfl, H2.out.size, ⟨Blk.new w1 _ _, Own.alloc H1.out _⟩, newB H2.out _⟩
theorem rat_t (base g : Nat) (A : Option Addr) (c : Nat) (l : List UInt8) (p : Nat) (w : World) (h : Rdr w base g A c l p) :
    Calls Try.prog 23 #[.pointer (some ⟨g, 0, none⟩)] w fun e w' => e = .returned (.int .i64 (p : Int)) ∧ w = w' := by
  have c1 : w.cell? ⟨g, 1, none⟩ = some (.int .i64 (p : Int)) := by rw [h.1.cell]; rfl
  clear h
  go_enter Try.func23, Try.ntmps23
  go_wp2_with fail
  go_ret
  exact ⟨rfl, rfl⟩
theorem left_t (base g : Nat) (A : Option Addr) (c : Nat) (l : List UInt8) (p k : Nat) (w : World) (h : Rdr w base g A c l p) (hk : p + k = l.length) (hl : l.length ≤ 100000000) :
    Calls Try.prog 39 #[.pointer (some ⟨g, 0, none⟩)] w fun e w' => e = .returned (.int .i64 (k : Int)) ∧ ∃ q, w' = w.drewN q := by
  have c0 : w.cell? ⟨g, 0, none⟩ = some (.slice A l.length c) := by rw [h.1.cell]; rfl
  have c1 : w.cell? ⟨g, 1, none⟩ = some (.int .i64 (p : Int)) := by rw [h.1.cell]; rfl
  have e2 : IntKind.i64.wrap ((l.length : Int) - (p : Int)) = (k : Int) := by rw [show (l.length : Int) - (p : Int) = (k : Int) by omega]; exact IntWalk.i64_in _ ⟨by omega, by omega⟩
  clear h hk
  go_enter Try.func39, Try.ntmps39
  go_wp2_with fail
  go_quiet (fail)
  go_wp2_with fail
  go_ret
  exact ⟨rfl, nq, rfl⟩
end Go.Proofs.Ytfeoalimkolebaa
