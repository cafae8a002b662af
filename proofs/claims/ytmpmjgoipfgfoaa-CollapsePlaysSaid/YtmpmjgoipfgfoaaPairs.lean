/- Slices of pairs in memory: two cells an element. -/
import Derived.Test.YtmpmjgoipfgfoaaChecked
import Derived.Test.YtmpmjgoipfgfoaaBase
import Derived.Test.YtmpmjgoipfgfoaaPairPlain
namespace Go.Proofs.Ytmpmjgoipfgfoaa
open Go.RowKit
def pcell (p : Pr) : List Value := [.int .i64 p.1, .int .u64 (p.2 : Nat)]
def pcs : List Pr → List Value
  | [] => []
  | p :: l => .int .i64 p.1 :: .int .u64 (p.2 : Nat) :: pcs l
theorem pcs_append (l m : List Pr) : pcs (l ++ m) = pcs l ++ pcs m := by
  induction l with
  | nil => rfl
  | cons p l ih => simp [pcs, ih]
theorem pcs_length (l : List Pr) : (pcs l).length = l.length * 2 := by
  induction l with
  | nil => rfl
  | cons p l ih => simp only [pcs, List.length_cons, ih]; omega
theorem pcs_one (l : List Pr) : ∀ u ∈ pcs l, u.oneCell' = true := by
  induction l with
  | nil => intro u h; cases h
  | cons p l ih =>
    intro u h
    simp only [pcs, List.mem_cons] at h
    rcases h with rfl | rfl | h
    · rfl
    · rfl
    · exact ih u h
theorem pcs_key {l : List Pr} {i : Nat} {p : Pr} (h : l[i]? = some p) : (pcs l)[i * 2]? = some (.int .i64 p.1) ∧ (pcs l)[i * 2 + 1]? = some (.int .u64 (p.2 : Nat)) := by
  induction l generalizing i with
  | nil => simp at h
  | cons q l ih =>
    cases i with
    | zero =>
      simp at h
      subst h
      simp [pcs]
    | succ i =>
      have := ih (i := i) (by simpa using h)
      rw [show (i + 1) * 2 = i * 2 + 2 by omega]
      simpa [pcs] using this
theorem pcs_set {l : List Pr} {i : Nat} {p q : Pr} (h : l[i]? = some p) : ((pcs l).set (i * 2) (.int .i64 q.1)).set (i * 2 + 1) (.int .u64 (q.2 : Nat)) = pcs (l.set i q) := by
  induction l generalizing i with
  | nil => simp at h
  | cons r l ih =>
    cases i with
    | zero => simp [pcs]
    | succ i =>
      have := ih (i := i) (by simpa using h)
      rw [show (i + 1) * 2 = i * 2 + 2 by omega]
      simpa [pcs] using this
theorem elem_pair : Elem Try.prog 23 38 2 16 := elem_of Try.underlying23 (z := .agg #[.int .i64 0, .int .u64 0]) (by kernel_rfl) (by decide) (by decide)
/-- The slice '.slice A L.length _' holds the pairs L and lies below block B. -/
def Prs (w : World) (B : Nat) (A : Option Addr) (L : List Pr) : Prop := Reads w B 2 A L.length (pcs L)
section
variable {w w' : World} {B : Nat} {A : Option Addr} {L : List Pr}
theorem Prs.at_ (h : Prs w B A L) (hn : 0 < L.length) : ∃ b o, A = some ⟨b, o, none⟩ ∧ b < B ∧ ∀ i p, L[i]? = some p → w.cell? ⟨b, o + i * 2, none⟩ = some (.int .i64 p.1) ∧ w.cell? ⟨b, o + i * 2 + 1, none⟩ = some (.int .u64 (p.2 : Nat)) := by
  obtain ⟨b, o, e, hb, hc⟩ := h.2 hn
  refine ⟨b, o, e, hb, fun i p hp => ?_⟩
  obtain ⟨h1, h2⟩ := pcs_key hp
  exact ⟨hc _ _ h1, by have := hc _ _ h2; rwa [← Nat.add_assoc] at this⟩
theorem Prs.below (h : Prs w B A L) (hb : Below B w w') : Prs w' B A L := Reads.below h hb
theorem Prs.at_below (h : Prs w w.heap.size A L) (hb : Below w.heap.size w w') : Prs w' w'.heap.size A L := Reads.at_below h hb
theorem Prs.empty (w : World) (B : Nat) (A : Option Addr) : Prs w B A [] := Reads.empty w B 2 A
end
theorem pair_new (w : World) (k : Int) (n : Nat) : Reads (w.alloc (.cells #[.int .i64 k, .int .u64 (n : Int)] 38)) (w.alloc (.cells #[.int .i64 k, .int .u64 (n : Int)] 38)).heap.size 2 (some ⟨w.heap.size, 0, none⟩) 1 (pcs [(k, n)]) :=
  Reads.lit (newest _ _) rfl rfl
/-- A slice of pairs of the call's own. -/
def OwnP (w : World) (base : Nat) (A : Option Addr) (c : Nat) (L : List Pr) : Prop := Own w base 38 2 A L.length c (pcs L)
theorem OwnP.reads {w : World} {base : Nat} {A : Option Addr} {c : Nat} {L : List Pr} (h : OwnP w base A c L) : Prs w w.heap.size A L := Own.reads h
end Go.Proofs.Ytmpmjgoipfgfoaa
