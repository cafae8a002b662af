/- Stores with a budget: what a store is in memory, and what it tells, walked. -/
import Derived.Test.YtbfhiegbgkkgiaaGreatC09
namespace Go.Proofs.YtbfhiegbgkkgiaaGreat
open Go.RowKit
open Pl
/-- Block g is a store with the budget m, that has counted all. -/
structure Sto (w : World) (g gl : Nat) (A : Option Addr) (c : Nat) (m : Int) (all : List Pr) : Prop where
  blk : Blk w g 130 #[.int .i64 m, .pointer (some ⟨gl, 0, none⟩), .int .u64 ((cutL all m).2 : Nat)]
  lst : Lst w gl A c (cutL all m).1
def SK (g gl : Nat) (A : Option Addr) (i : Nat) : Prop := i = g ∨ LK gl A i
structure Stored (g gl : Nat) (A : Option Addr) (m : Int) (all : List Pr) (w w' : World) (A' : Option Addr) (c' : Nat) : Prop where
  sto : Sto w' g gl A' c' m all
  only : Only (SK g gl A) w w'
  new : ∀ x, blockOf A' = some x → blockOf A = some x ∨ w.heap.size ≤ x
section
variable {w w' : World} {g gl c : Nat} {A : Option Addr} {m : Int} {all : List Pr}
theorem Sto.below (h : Sto w g gl A c m all) (hb : Below w.heap.size w w') : Sto w' g gl A c m all := ⟨h.blk.below hb h.blk.lt, h.lst.below hb⟩
theorem Sto.drewN (h : Sto w g gl A c m all) (n : Nat) : Sto (w.drewN n) g gl A c m all := ⟨h.blk, h.lst⟩
theorem Sto.ne (h : Sto w g gl A c m all) : g ≠ gl := Blk.ne h.blk h.lst.1 (by decide)
theorem Sto.c0 (h : Sto w g gl A c m all) : w.cell? ⟨g, 0, none⟩ = some (.int .i64 m) := by rw [h.blk.cell]; rfl
theorem Sto.c1 (h : Sto w g gl A c m all) : w.cell? ⟨g, 1, none⟩ = some (.pointer (some ⟨gl, 0, none⟩)) := by rw [h.blk.cell]; rfl
theorem Sto.c2 (h : Sto w g gl A c m all) : w.cell? ⟨g, 2, none⟩ = some (.int .u64 ((cutL all m).2 : Nat)) := by rw [h.blk.cell]; rfl
theorem Stored.self (h : Sto w g gl A c m all) (hb : Below w.heap.size w w') : Stored g gl A m all w w' A c := ⟨h.below hb, Only.of_below hb, fun _ hx => .inl hx⟩
end
theorem kept_fine {L : List Pr} (hf : Fine L) (m : Int) : Fine (cutL L m).1 := (cutL_fine hf m).1
theorem kept_tot {L : List Pr} (hf : Fine L) (m : Int) : tot (cutL L m).1 = tot L := (cutL_fine hf m).2.1
theorem fold_le {L : List Pr} (m : Int) : (cutL L m).2 ≤ tot L := by
  unfold cutL
  split
  · exact Nat.zero_le _
  · exact tot_take_le' L _
set_option maxRecDepth 100000 in
theorem cnew_no (m : Int) (w : World) (h : m < 2 ∨ 4096 < m) : Calls Tryz.prog 52 #[.int .i64 m] w fun e w' => e = .returned (.tuple #[.pointer none, .int .i64 1]) ∧ w = w' := by
  have hc : decide (m < 2) = true ∨ decide (m < 2) = false ∧ decide (4096 < m) = true := by
    by_cases h1 : m < 2
    · exact .inl (by simp; omega)
    · exact .inr ⟨by simp; omega, by simp; omega⟩
  clear h
  rcases hc with e1 | ⟨e1, e2⟩
  all_goals
    go_enter Tryz.func52, Tryz.ntmps52
    go_wp2_with fail
    go_ret2
    exact ⟨rfl, rfl⟩
set_option maxRecDepth 100000 in
theorem cnew_t (m : Int) (w : World) (h0 : 2 ≤ m) (h1 : m ≤ 4096) : Calls Tryz.prog 52 #[.int .i64 m] w fun e w' => e = .returned (.tuple #[.pointer (some ⟨w.heap.size + 1, 0, none⟩), .int .i64 0]) ∧ Sto w' (w.heap.size + 1) w.heap.size none 0 m [] ∧ Below w.heap.size w w' := by
  have e1 : decide (m < 2) = false := by simp; omega
  have e2 : decide (4096 < m) = false := by simp; omega
  clear h0 h1
  go_enter Tryz.func52, Tryz.ntmps52
  go_wp2_with fail
  go_ret2
  refine ⟨rfl, ⟨?_, ?_, ?_⟩, ((Below.refl _ _).alloc (Nat.le_refl _) _).alloc (by simp) _⟩
  · rw [cutL_nil]
    have h := Blk.new (w.alloc (.cells #[.slice none 0 0, .int .u64 0] 138)) 130 #[.int .i64 m, .pointer (some ⟨w.heap.size, 0, none⟩), .int .u64 0]
    simp only [World.size_alloc] at h
    exact h
  · rw [cutL_nil]
    exact (Blk.new w 138 #[.slice none 0 0, .int .u64 0]).alloc _
  · rw [cutL_nil]
    exact Own.nil _ _ _ _
set_option maxRecDepth 100000 in
theorem sfirst_g (g gl : Nat) (A : Option Addr) (c : Nat) (C : List Pr) (w : World) (c1 : w.cell? ⟨g, 1, none⟩ = some (.pointer (some ⟨gl, 0, none⟩))) (h : Lst w gl A c C) (hf : Fine C) : Calls Tryz.prog 98 #[.pointer (some ⟨g, 0, none⟩)] w fun e w' => (∃ b, e = .returned (.tuple #[.int .i64 (firstK C), .bool b])) ∧ Below w.heap.size w w' := by
  have HC := Lib.hid (pairs_t gl A c C w h hf)
  have hlen : (C.length : Int) ≤ 100000 := by have := hf.len; omega
  clear h hf
  cases C with
  | nil =>
    go_enter Tryz.func98, Tryz.ntmps98
    go_wp2_with fail
    refine HC.out.mono ?_
    rintro e w1 ⟨A1, c1, rfl, h1, h2⟩
    have H2 := Lib.hid h2
    clear h1 h2
    simp only [List.length_nil]
    go_wp2_with fail
    go_ret2
    exact ⟨⟨_, rfl⟩, H2.out⟩
  | cons p C =>
    obtain ⟨x, n⟩ := p
    obtain ⟨N, hN⟩ : ∃ N, N = ((x, n) :: C : List Pr).length := ⟨_, rfl⟩
    have hN0 : 0 < N := by rw [hN]; simp
    have hN1 : (0 : Int) < (N : Int) := by omega
    have hNe : ((N : Int) == 0) = false := by simp; omega
    rw [← hN] at hlen
    have HN := Lib.hid hN
    clear hN hN0
    go_enter Tryz.func98, Tryz.ntmps98
    go_wp2_with fail
    refine HC.out.mono ?_
    rintro e w1 ⟨A1, c1, rfl, h1, h2⟩
    rw [← HN.out]
    obtain ⟨b, o, rfl, _, hc⟩ := (OwnP.reads h1).at_ (by simp)
    have d1 : w1.cell? ⟨b, o, none⟩ = some (.int .i64 x) := by have := (hc 0 (x, n) rfl).1; simpa using this
    have H2 := Lib.hid h2
    clear h1 h2 hc
    go_wp2_with fail
    go_ret2
    exact ⟨⟨_, rfl⟩, H2.out⟩
section
variable (g gl : Nat) (A : Option Addr) (c : Nat) (m : Int) (all : List Pr) (w : World) (h : Sto w g gl A c m all)
include h
set_option maxRecDepth 100000 in
theorem sfolded_t : Calls Tryz.prog 42 #[.pointer (some ⟨g, 0, none⟩)] w fun e w' => e = .returned (.int .u64 ((cutL all m).2 : Nat)) ∧ w = w' := by
  have c2 := h.c2
  clear h
  go_enter Tryz.func42, Tryz.ntmps42
  go_wp2_with fail
  go_ret
  exact ⟨rfl, rfl⟩
set_option maxRecDepth 100000 in
theorem stotal_t (hf : Fine all) : Calls Tryz.prog 55 #[.pointer (some ⟨g, 0, none⟩)] w fun e w' => e = .returned (.int .u64 (tot all : Nat)) ∧ w = w' := by
  have c1 := h.c1
  have HC := Lib.hid (total_t gl A c _ w h.lst)
  rw [kept_tot hf] at HC
  clear h hf
  go_enter Tryz.func55, Tryz.ntmps55
  go_wp2_with fail
  refine HC.out.mono ?_
  rintro e w1 ⟨rfl, rfl⟩
  go_wp2_with fail
  go_ret
  exact ⟨rfl, rfl⟩
set_option maxRecDepth 100000 in
theorem spairs_t (hf : Fine all) : Calls Tryz.prog 41 #[.pointer (some ⟨g, 0, none⟩)] w (NewPairs (cutL all m).1 w) := by
  have c1 := h.c1
  have HC := Lib.hid (pairs_t gl A c _ w h.lst (kept_fine hf m))
  clear h hf
  generalize (cutL all m).1 = C at *
  go_enter Tryz.func41, Tryz.ntmps41
  go_wp2_with fail
  refine HC.out.mono ?_
  rintro e w1 ⟨A1, c1, rfl, h1, h2⟩
  have H1 := Lib.hid h1
  have H2 := Lib.hid h2
  clear h1 h2
  go_wp2_with fail
  go_ret
  exact ⟨A1, c1, rfl, H1.out, H2.out⟩
set_option maxRecDepth 100000 in
theorem sfirst_t (hf : Fine all) : Calls Tryz.prog 98 #[.pointer (some ⟨g, 0, none⟩)] w fun e w' => (∃ b, e = .returned (.tuple #[.int .i64 (firstK (cutL all m).1), .bool b])) ∧ Below w.heap.size w w' := sfirst_g g gl A c _ w h.c1 h.lst (kept_fine hf m)
set_option maxRecDepth 100000 in
theorem sbudget_t : Calls Tryz.prog 40 #[.pointer (some ⟨g, 0, none⟩)] w fun e w' => e = .returned (.int .i64 m) ∧ w = w' := by
  have c0 := h.c0
  clear h
  go_enter Tryz.func40, Tryz.ntmps40
  go_wp2_with fail
  go_ret
  exact ⟨rfl, rfl⟩
/-- Is a rank vague? -/
def vagueB (all : List Pr) (m : Int) (r : Nat) : Bool := decide (0 < (cutL all m).2 ∧ rank (cutL all m).1 r = firstK (cutL all m).1)
end
end Go.Proofs.YtbfhiegbgkkgiaaGreat
