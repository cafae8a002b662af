/- Lists of pairs (a key, how many), plain: sorted ones are told by their counts; what the document's functions make of them. No program. -/
import Derived.Tactics
import Derived.Test.YtbfhiegbgkkgiaaGreatChecked
import Derived.Test.YtbfhiegbgkkgiaaGreatC01
import Derived.RegionTactic
import Derived.BigRegion
import Derived.Deep.QuietTactic
import Derived.BigQuiet
import Derived.Deep.LoopGhost
namespace Go.Proofs.YtbfhiegbgkkgiaaGreat
abbrev Pr := Int × Nat
namespace Pl
def cnt : List Pr → Int → Nat
  | [], _ => 0
  | p :: l, k => if p.1 = k then p.2 else cnt l k
def tot (l : List Pr) : Nat := (l.map (·.2)).sum
def Srt (l : List Pr) : Prop := l.Pairwise (fun p q => p.1 < q.1)
def Pos (l : List Pr) : Prop := ∀ p ∈ l, 0 < p.2
/-- n more of key k. -/
def put : List Pr → Int → Nat → List Pr
  | [], k, n => [(k, n)]
  | p :: l, k, n => if p.1 < k then p :: put l k n else if p.1 = k then (k, p.2 + n) :: l else (k, n) :: p :: l
def without (l : List Pr) (k : Int) : List Pr := l.filter (fun p => p.1 != k)
theorem tot_nil : tot [] = 0 := rfl
theorem tot_cons (p : Pr) (l : List Pr) : tot (p :: l) = p.2 + tot l := by simp [tot]
theorem tot_append (l m : List Pr) : tot (l ++ m) = tot l + tot m := by simp [tot]
theorem tot_pos {l : List Pr} (hp : Pos l) (h : l ≠ []) : 0 < tot l := by
  cases l with
  | nil => exact absurd rfl h
  | cons p l => rw [tot_cons]; have := hp p (by simp); omega
theorem Srt.nil : Srt [] := List.Pairwise.nil
theorem Pos.nil : Pos [] := by intro p h; cases h
theorem srt_cons {p : Pr} {l : List Pr} : Srt (p :: l) ↔ (∀ q ∈ l, p.1 < q.1) ∧ Srt l := List.pairwise_cons
theorem pos_cons {p : Pr} {l : List Pr} : Pos (p :: l) ↔ 0 < p.2 ∧ Pos l := by simp [Pos]
theorem cnt_zero {l : List Pr} {k : Int} (h : ∀ q ∈ l, q.1 ≠ k) : cnt l k = 0 := by
  induction l with
  | nil => rfl
  | cons p l ih => rw [cnt, if_neg (h p (by simp))]; exact ih fun q hq => h q (by simp [hq])
theorem cnt_lt {l : List Pr} {k : Int} (h : ∀ q ∈ l, k < q.1) : cnt l k = 0 := cnt_zero fun q hq => by have := h q hq; omega
theorem cnt_mem {l : List Pr} {k : Int} (h : cnt l k ≠ 0) : (k, cnt l k) ∈ l := by
  induction l with
  | nil => exact absurd rfl h
  | cons p l ih =>
    rw [cnt] at h ⊢
    by_cases hk : p.1 = k
    · rw [if_pos hk]; subst hk; simp
    · rw [if_neg hk] at h ⊢; exact List.mem_cons_of_mem _ (ih h)
theorem cnt_of_mem {l : List Pr} (hs : Srt l) {p : Pr} (h : p ∈ l) : cnt l p.1 = p.2 := by
  induction l with
  | nil => cases h
  | cons q l ih =>
    obtain ⟨h1, h2⟩ := srt_cons.1 hs
    rw [cnt]
    rcases List.mem_cons.1 h with rfl | h
    · rw [if_pos rfl]
    · rw [if_neg (by have := h1 p h; omega)]; exact ih h2 h
/-- Sorted lists of the same counts are one. -/
theorem ext {l m : List Pr} (hl : Srt l) (hlp : Pos l) (hm : Srt m) (hmp : Pos m) (h : ∀ k, cnt l k = cnt m k) : l = m := by
  induction l generalizing m with
  | nil =>
    cases m with
    | nil => rfl
    | cons q m =>
      have := h q.1
      rw [cnt, cnt, if_pos rfl] at this
      have := (pos_cons.1 hmp).1
      omega
  | cons p l ih =>
    cases m with
    | nil =>
      have := h p.1
      rw [cnt, cnt, if_pos rfl] at this
      have := (pos_cons.1 hlp).1
      omega
    | cons q m =>
      obtain ⟨a1, a2⟩ := srt_cons.1 hl
      obtain ⟨b1, b2⟩ := srt_cons.1 hm
      obtain ⟨a3, a4⟩ := pos_cons.1 hlp
      obtain ⟨b3, b4⟩ := pos_cons.1 hmp
      have hk : p.1 = q.1 := by
        rcases Int.lt_trichotomy p.1 q.1 with hlt | heq | hgt
        · have := h p.1
          rw [cnt, if_pos rfl, cnt_lt (l := q :: m) (fun r hr => by
            rcases List.mem_cons.1 hr with rfl | hr
            · exact hlt
            · have := b1 r hr; omega)] at this
          omega
        · exact heq
        · have := h q.1
          rw [cnt_lt (l := p :: l) (fun r hr => by
            rcases List.mem_cons.1 hr with rfl | hr
            · exact hgt
            · have := a1 r hr; omega), cnt, if_pos rfl] at this
          omega
      have hn : p.2 = q.2 := by
        have := h p.1
        rw [cnt, if_pos rfl, cnt, if_pos hk.symm] at this
        exact this
      have hpq : p = q := Prod.ext hk hn
      subst hpq
      congr 1
      refine ih a2 a4 b2 b4 fun k => ?_
      by_cases hk : p.1 = k
      · subst hk
        rw [cnt_lt a1, cnt_lt b1]
      · have := h k
        rw [cnt, cnt, if_neg hk, if_neg hk] at this
        exact this
theorem put_keys {l : List Pr} {k : Int} {n : Nat} : ∀ q ∈ put l k n, q.1 = k ∨ ∃ p ∈ l, p.1 = q.1 := by
  induction l with
  | nil => intro q hq; simp [put] at hq; subst hq; exact .inl rfl
  | cons p l ih =>
    intro q hq
    rw [put] at hq
    by_cases h1 : p.1 < k
    · rw [if_pos h1] at hq
      rcases List.mem_cons.1 hq with rfl | hq
      · exact .inr ⟨_, by simp, rfl⟩
      · rcases ih q hq with h | ⟨r, hr, e⟩
        · exact .inl h
        · exact .inr ⟨r, by simp [hr], e⟩
    · rw [if_neg h1] at hq
      by_cases h2 : p.1 = k
      · rw [if_pos h2] at hq
        rcases List.mem_cons.1 hq with rfl | hq
        · exact .inl rfl
        · exact .inr ⟨q, by simp [hq], rfl⟩
      · rw [if_neg h2] at hq
        rcases List.mem_cons.1 hq with rfl | hq
        · exact .inl rfl
        · exact .inr ⟨q, hq, rfl⟩
theorem put_srt {l : List Pr} {k : Int} {n : Nat} (hs : Srt l) : Srt (put l k n) := by
  induction l with
  | nil => exact List.pairwise_singleton _ _
  | cons p l ih =>
    obtain ⟨h1, h2⟩ := srt_cons.1 hs
    rw [put]
    by_cases c1 : p.1 < k
    · rw [if_pos c1]
      refine srt_cons.2 ⟨fun q hq => ?_, ih h2⟩
      rcases put_keys q hq with h | ⟨r, hr, e⟩
      · omega
      · have := h1 r hr; omega
    · rw [if_neg c1]
      by_cases c2 : p.1 = k
      · rw [if_pos c2]
        exact srt_cons.2 ⟨fun q hq => by have := h1 q hq; simp only; omega, h2⟩
      · rw [if_neg c2]
        refine srt_cons.2 ⟨fun q hq => ?_, hs⟩
        rcases List.mem_cons.1 hq with rfl | hq
        · simp only; omega
        · have := h1 q hq; simp only; omega
theorem put_pos {l : List Pr} {k : Int} {n : Nat} (hp : Pos l) (hn : 0 < n) : Pos (put l k n) := by
  induction l with
  | nil => intro q hq; simp [put] at hq; subst hq; exact hn
  | cons p l ih =>
    obtain ⟨h1, h2⟩ := pos_cons.1 hp
    rw [put]
    by_cases c1 : p.1 < k
    · rw [if_pos c1]; exact pos_cons.2 ⟨h1, ih h2⟩
    · rw [if_neg c1]
      by_cases c2 : p.1 = k
      · rw [if_pos c2]; exact pos_cons.2 ⟨by simp only; omega, h2⟩
      · rw [if_neg c2]; exact pos_cons.2 ⟨hn, hp⟩
theorem put_cnt {l : List Pr} {k : Int} {n : Nat} (hs : Srt l) (j : Int) : cnt (put l k n) j = cnt l j + if j = k then n else 0 := by
  induction l with
  | nil =>
    rw [put, cnt, cnt]
    by_cases h : j = k
    · subst h; simp
    · rw [if_neg (fun e => h e.symm), if_neg h]; rfl
  | cons p l ih =>
    obtain ⟨h1, h2⟩ := srt_cons.1 hs
    rw [put]
    by_cases c1 : p.1 < k
    · rw [if_pos c1, cnt, cnt]
      by_cases hj : p.1 = j
      · rw [if_pos hj, if_pos hj, if_neg (by omega)]; omega
      · rw [if_neg hj, if_neg hj]; exact ih h2
    · rw [if_neg c1]
      by_cases c2 : p.1 = k
      · rw [if_pos c2, cnt, cnt]
        by_cases hj : j = k
        · subst hj; rw [if_pos rfl, if_pos c2, if_pos rfl]
        · rw [if_neg (fun e => hj e.symm), if_neg (fun e => hj (by omega)), if_neg hj]; omega
      · rw [if_neg c2, cnt]
        by_cases hj : j = k
        · subst hj
          rw [if_pos rfl, if_pos rfl, cnt, if_neg c2, cnt_lt (fun q hq => by have := h1 q hq; omega)]; omega
        · simp only
          rw [if_neg (fun e => hj e.symm), if_neg hj]; omega
theorem put_tot {l : List Pr} {k : Int} {n : Nat} : tot (put l k n) = tot l + n := by
  induction l with
  | nil => simp [put, tot]
  | cons p l ih =>
    rw [put]
    by_cases c1 : p.1 < k
    · rw [if_pos c1, tot_cons, tot_cons, ih]; omega
    · rw [if_neg c1]
      by_cases c2 : p.1 = k
      · rw [if_pos c2, tot_cons, tot_cons]; simp only; omega
      · rw [if_neg c2, tot_cons, tot_cons]; simp only; omega
theorem put_ne {l : List Pr} {k : Int} {n : Nat} : put l k n ≠ [] := by
  cases l with
  | nil => simp [put]
  | cons p l =>
    rw [put]
    by_cases c1 : p.1 < k
    · rw [if_pos c1]; simp
    · rw [if_neg c1]
      by_cases c2 : p.1 = k
      · rw [if_pos c2]; simp
      · rw [if_neg c2]; simp
theorem put_len {l : List Pr} {k : Int} {n : Nat} : (put l k n).length ≤ l.length + 1 := by
  induction l with
  | nil => simp [put]
  | cons p l ih =>
    rw [put]
    by_cases c1 : p.1 < k
    · rw [if_pos c1]; simp; omega
    · rw [if_neg c1]
      by_cases c2 : p.1 = k
      · rw [if_pos c2]; simp
      · rw [if_neg c2]; simp
theorem without_srt {l : List Pr} {k : Int} (hs : Srt l) : Srt (without l k) := List.Pairwise.filter _ hs
theorem without_pos {l : List Pr} {k : Int} (hp : Pos l) : Pos (without l k) := fun p h => hp p (List.mem_filter.1 h).1
theorem without_cnt {l : List Pr} {k : Int} (j : Int) : cnt (without l k) j = if j = k then 0 else cnt l j := by
  induction l with
  | nil => simp [without, cnt]
  | cons p l ih =>
    unfold without at ih ⊢
    rw [List.filter_cons]
    by_cases hk : p.1 = k
    · have : (p.1 != k) = false := by simp [hk]
      rw [this, if_neg (by simp), ih, cnt]
      by_cases hj : j = k
      · rw [if_pos hj, if_pos hj]
      · rw [if_neg hj, if_neg hj, if_neg (by omega)]
    · have : (p.1 != k) = true := by simp [hk]
      rw [this, if_pos rfl, cnt, ih, cnt]
      by_cases hj : p.1 = j
      · rw [if_pos hj, if_neg (by omega), if_pos hj]
      · rw [if_neg hj, if_neg hj]
theorem tot_le_of_mem {l : List Pr} {p : Pr} (h : p ∈ l) : p.2 ≤ tot l := by
  induction l with
  | nil => cases h
  | cons q l ih =>
    rw [tot_cons]
    rcases List.mem_cons.1 h with rfl | h
    · omega
    · have := ih h; omega
theorem without_tot {l : List Pr} {k : Int} (hs : Srt l) : tot (without l k) + cnt l k = tot l := by
  induction l with
  | nil => simp [without, tot, cnt]
  | cons p l ih =>
    obtain ⟨h1, h2⟩ := srt_cons.1 hs
    have ih := ih h2
    unfold without at ih ⊢
    rw [List.filter_cons, cnt, tot_cons]
    by_cases hk : p.1 = k
    · have : (p.1 != k) = false := by simp [hk]
      rw [this, if_neg (by simp), if_pos hk]
      rw [cnt_lt (l := l) (fun q hq => by have := h1 q hq; omega)] at ih
      omega
    · have : (p.1 != k) = true := by simp [hk]
      rw [this, if_pos rfl, if_neg hk, tot_cons]
      omega
/-- All pairs of m, too. -/
def puts (l m : List Pr) : List Pr := m.foldl (fun o p => put o p.1 p.2) l
theorem puts_nil (l : List Pr) : puts l [] = l := rfl
theorem puts_snoc (l m : List Pr) (p : Pr) : puts l (m ++ [p]) = put (puts l m) p.1 p.2 := by simp [puts]
theorem puts_facts {l m : List Pr} (hs : Srt l) (hp : Pos l) (hm : Pos m) : Srt (puts l m) ∧ Pos (puts l m) ∧ tot (puts l m) = tot l + tot m := by
  induction m generalizing l with
  | nil => exact ⟨hs, hp, by simp [puts, tot]⟩
  | cons p m ih =>
    obtain ⟨h1, h2⟩ := pos_cons.1 hm
    obtain ⟨a, b, c⟩ := ih (l := put l p.1 p.2) (put_srt hs) (put_pos hp h1) h2
    exact ⟨a, b, by rw [show puts l (p :: m) = puts (put l p.1 p.2) m from rfl, c, put_tot, tot_cons]; omega⟩
theorem puts_cnt {l m : List Pr} (hs : Srt l) (hm : Srt m) (j : Int) : cnt (puts l m) j = cnt l j + cnt m j := by
  induction m generalizing l with
  | nil => simp [puts, cnt]
  | cons p m ih =>
    obtain ⟨h1, h2⟩ := srt_cons.1 hm
    rw [show puts l (p :: m) = puts (put l p.1 p.2) m from rfl, ih (put_srt hs) h2, put_cnt hs, cnt]
    by_cases hj : p.1 = j
    · subst hj
      rw [if_pos rfl, if_pos rfl, cnt_lt h1]; omega
    · rw [if_neg hj, if_neg (fun e => hj e.symm)]; omega
theorem puts_len {l m : List Pr} : (puts l m).length ≤ l.length + m.length := by
  induction m generalizing l with
  | nil => simp [puts]
  | cons p m ih =>
    have h1 := ih (l := put l p.1 p.2)
    have h2 := put_len (l := l) (k := p.1) (n := p.2)
    rw [show puts l (p :: m) = puts (put l p.1 p.2) m from rfl]
    simp only [List.length_cons]; omega
end Pl
end Go.Proofs.YtbfhiegbgkkgiaaGreat
/- Slices of pairs in memory: two cells an element. -/

namespace Go.Proofs.YtbfhiegbgkkgiaaGreat
open Go.RowKit
def pcell (p : Pr) : List Value := [.int .i64 p.1, .int .u64 (p.2 : Nat)]
def pcs : List Pr → List Value
  | [] => []
  | p :: l => .int .i64 p.1 :: .int .u64 (p.2 : Nat) :: pcs l
theorem pcs_append (l m : List Pr) : pcs (l ++ m) = pcs l ++ pcs m := by
  induction l with
  | nil => rfl
  | cons p l ih => simp [pcs, ih]
theorem pcs_length (l : List Pr) : (pcs l).length = l.length * 2 := by
  induction l with
  | nil => rfl
  | cons p l ih => simp only [pcs, List.length_cons, ih]; omega
theorem pcs_one (l : List Pr) : ∀ u ∈ pcs l, u.oneCell' = true := by
  induction l with
  | nil => intro u h; cases h
  | cons p l ih =>
    intro u h
    simp only [pcs, List.mem_cons] at h
    rcases h with rfl | rfl | h
    · rfl
    · rfl
    · exact ih u h
theorem pcs_key {l : List Pr} {i : Nat} {p : Pr} (h : l[i]? = some p) : (pcs l)[i * 2]? = some (.int .i64 p.1) ∧ (pcs l)[i * 2 + 1]? = some (.int .u64 (p.2 : Nat)) := by
  induction l generalizing i with
  | nil => simp at h
  | cons q l ih =>
    cases i with
    | zero =>
      simp at h
      subst h
      simp [pcs]
    | succ i =>
      have := ih (i := i) (by simpa using h)
      rw [show (i + 1) * 2 = i * 2 + 2 by omega]
      simpa [pcs] using this
theorem pcs_set {l : List Pr} {i : Nat} {p q : Pr} (h : l[i]? = some p) : ((pcs l).set (i * 2) (.int .i64 q.1)).set (i * 2 + 1) (.int .u64 (q.2 : Nat)) = pcs (l.set i q) := by
  induction l generalizing i with
  | nil => simp at h
  | cons r l ih =>
    cases i with
    | zero => simp [pcs]
    | succ i =>
      have := ih (i := i) (by simpa using h)
      rw [show (i + 1) * 2 = i * 2 + 2 by omega]
      simpa [pcs] using this
set_option maxRecDepth 100000 in
theorem elem_pair : Elem Tryz.prog 37 64 2 16 := elem_of Tryz.underlying37 (z := .agg #[.int .i64 0, .int .u64 0]) (by kernel_rfl) (by decide) (by decide)
/-- The slice '.slice A L.length _' holds the pairs L and lies below block B. -/
def Prs (w : World) (B : Nat) (A : Option Addr) (L : List Pr) : Prop := Reads w B 2 A L.length (pcs L)
section
variable {w w' : World} {B : Nat} {A : Option Addr} {L : List Pr}
theorem Prs.at_ (h : Prs w B A L) (hn : 0 < L.length) : ∃ b o, A = some ⟨b, o, none⟩ ∧ b < B ∧ ∀ i p, L[i]? = some p → w.cell? ⟨b, o + i * 2, none⟩ = some (.int .i64 p.1) ∧ w.cell? ⟨b, o + i * 2 + 1, none⟩ = some (.int .u64 (p.2 : Nat)) := by
  obtain ⟨b, o, e, hb, hc⟩ := h.2 hn
  refine ⟨b, o, e, hb, fun i p hp => ?_⟩
  obtain ⟨h1, h2⟩ := pcs_key hp
  exact ⟨hc _ _ h1, by have := hc _ _ h2; rwa [← Nat.add_assoc] at this⟩
theorem Prs.below (h : Prs w B A L) (hb : Below B w w') : Prs w' B A L := Reads.below h hb
theorem Prs.at_below (h : Prs w w.heap.size A L) (hb : Below w.heap.size w w') : Prs w' w'.heap.size A L := Reads.at_below h hb
theorem Prs.empty (w : World) (B : Nat) (A : Option Addr) : Prs w B A [] := Reads.empty w B 2 A
end
theorem pair_new (w : World) (k : Int) (n : Nat) : Reads (w.alloc (.cells #[.int .i64 k, .int .u64 (n : Int)] 64)) (w.alloc (.cells #[.int .i64 k, .int .u64 (n : Int)] 64)).heap.size 2 (some ⟨w.heap.size, 0, none⟩) 1 (pcs [(k, n)]) :=
  Reads.lit (newest _ _) rfl rfl
/-- A slice of pairs of the call's own. -/
def OwnP (w : World) (base : Nat) (A : Option Addr) (c : Nat) (L : List Pr) : Prop := Own w base 64 2 A L.length c (pcs L)
theorem OwnP.reads {w : World} {base : Nat} {A : Option Addr} {c : Nat} {L : List Pr} (h : OwnP w base A c L) : Prs w w.heap.size A L := Own.reads h
end Go.Proofs.YtbfhiegbgkkgiaaGreat
/- The document's functions on lists of pairs, walked: Same, Total, Count, Put. -/

namespace Go.Proofs.YtbfhiegbgkkgiaaGreat
open Go.RowKit
open Pl

theorem prs_len_ok {w : World} {B : Nat} {A : Option Addr} {L : List Pr} (_h : Prs w B A L) : True := trivial
set_option maxRecDepth 100000 in
set_option maxHeartbeats 800000 in
theorem same13_t (A A2 : Option Addr) (c c2 B B2 : Nat) (L : List Pr) (w : World) (h : Prs w B A L) (h2 : Prs w B2 A2 L) (hm : L.length ≤ maxLen) :
    Calls Tryz.prog 47 #[.slice A L.length c, .slice A2 L.length c2] w fun e w' => e = .returned (.bool true) ∧ ∃ n, w' = w.drewN n := by
  unfold maxLen at hm
  have HA := Lib.hid h
  have HA2 := Lib.hid h2
  clear h h2
  go_enter Tryz.func47, Tryz.ntmps47
  go_wp2_with fail
  go_loopw [5] (fun i wr => ∃ k n : Nat, k ≤ L.length ∧ i = .int .i64 k ∧ wr = w.drewN n) (fun i _ => L.length - (intOf i).toNat)
  case atStart => exact ⟨0, 0, Nat.zero_le _, rfl, rfl⟩
  case round =>
    obtain ⟨k, n, hk, rfl, rfl⟩ := hrel
    by_cases hlt : k < L.length
    · obtain ⟨b, o, rfl, _, hcell⟩ := HA.out.at_ (by omega)
      obtain ⟨b2, o2, rfl, _, hcell2⟩ := HA2.out.at_ (by omega)
      obtain ⟨g1, g2⟩ := hcell k L[k] (by simp [hlt])
      obtain ⟨g3, g4⟩ := hcell2 k L[k] (by simp [hlt])
      have hkk : (k : Int) < (L.length : Int) := by omega
      have hk0 : (0 : Int) ≤ (k : Int) := by omega
      have e1 : (w.drewN n).cell? ⟨b, o + k * 2, none⟩ = some (.int .i64 L[k].1) := g1
      have e2 : (w.drewN n).cell? ⟨b, o + k * 2 + 1, none⟩ = some (.int .u64 (L[k].2 : Nat)) := g2
      have e3 : (w.drewN n).cell? ⟨b2, o2 + k * 2, none⟩ = some (.int .i64 L[k].1) := g3
      have e4 : (w.drewN n).cell? ⟨b2, o2 + k * 2 + 1, none⟩ = some (.int .u64 (L[k].2 : Nat)) := g4
      have HL := Lib.hid hlt
      generalize L[k].1 = x1 at *
      generalize L[k].2 = x2 at *
      clear hcell hcell2 hlt
      go_wp2_with fail
      go_quiet (fail)
      go_wp2_with fail
      go_roundw
      case rel => exact ⟨k + 1, n + nq, HL.out, by go_num, rfl⟩
      case measure => have h1 := HL.out; simp [intOf]; omega
    · obtain rfl : k = L.length := by omega
      go_wp2_with fail
      go_ret
      exact ⟨rfl, n, rfl⟩
theorem tot_take {L : List Pr} {k : Nat} (h : k < L.length) : tot (L.take (k + 1)) = tot (L.take k) + L[k].2 := by
  rw [List.take_succ_eq_append_getElem h, tot_append]; simp [tot]
theorem tot_take_le {L : List Pr} {k : Nat} : tot (L.take k) ≤ tot L := by
  have := tot_append (L.take k) (L.drop k)
  rw [List.take_append_drop] at this
  omega
set_option maxRecDepth 100000 in
set_option maxHeartbeats 800000 in
theorem total13_t (A : Option Addr) (c B : Nat) (L : List Pr) (w : World) (h : Prs w B A L) (hm : L.length ≤ maxLen) (ht : tot L ≤ 9223372036854775807) :
    Calls Tryz.prog 46 #[.slice A L.length c] w fun e w' => e = .returned (.int .u64 (tot L : Nat)) ∧ w' = w := by
  unfold maxLen at hm
  have HA := Lib.hid h
  clear h
  go_enter Tryz.func46, Tryz.ntmps46
  go_wp2_with fail
  go_loop [3, 4] (fun s i => ∃ k : Nat, k ≤ L.length ∧ i = .int .i64 k ∧ s = .int .u64 (tot (L.take k) : Nat)) (fun _ i => L.length - (intOf i).toNat)
  case atStart => exact ⟨0, Nat.zero_le _, rfl, rfl⟩
  case round =>
    obtain ⟨k, hk, rfl, rfl⟩ := hrel
    by_cases hlt : k < L.length
    · obtain ⟨b, o, rfl, _, hcell⟩ := HA.out.at_ (by omega)
      obtain ⟨g1, g2⟩ := hcell k L[k] (by simp [hlt])
      have hkk : (k : Int) < (L.length : Int) := by omega
      have hs := tot_take hlt
      have hle := tot_take_le (L := L) (k := k + 1)
      have HL := Lib.hid hlt
      obtain ⟨R, hR⟩ : ∃ R, R = tot (L.take (k + 1)) := ⟨_, rfl⟩
      rw [← hR] at hs hle
      have HR := Lib.hid hR
      generalize L[k].1 = x1 at *
      generalize L[k].2 = x2 at *
      generalize tot (L.take k) = S at *
      have hb : (S : Int) + (x2 : Int) ≤ 9223372036854775807 := by omega
      have HS := Lib.hid (show (S : Int) + (x2 : Int) = (R : Int) by omega)
      clear hcell hlt hs hR
      go_wp2_with fail
      go_round
      case rel => exact ⟨k + 1, HL.out, by go_num, by rw [← HR.out, HS.out]⟩
      case measure => have h1 := HL.out; simp [intOf]; omega
    · obtain rfl : k = L.length := by omega
      rw [List.take_length]
      go_wp2_with fail
      go_ret
      exact ⟨rfl, rfl⟩
theorem cnt_drop {L : List Pr} {k : Nat} {key : Int} (h : k < L.length) : cnt (L.drop k) key = if L[k].1 = key then L[k].2 else cnt (L.drop (k + 1)) key := by
  rw [List.drop_eq_getElem_cons h, cnt]
/-- A new list in memory of the call's own. -/
def NewPairs (L : List Pr) (w : World) (e : Ending) (w' : World) : Prop := ∃ A c, e = .returned (.slice A L.length c) ∧ OwnP w' w.heap.size A c L ∧ Below w.heap.size w w'
theorem own_snoc {w : World} {base : Nat} {A : Option Addr} {n c : Nat} {L M : List Pr} (h : Own w base 64 2 A n c (pcs M)) (hM : M = L) : OwnP w base A c L := by
  subst hM
  have h1 := h.len
  rw [pcs_length] at h1
  have : n = M.length := by omega
  subst this
  exact h
theorem drop_cons {L : List Pr} {k : Nat} {p : Pr} (hp : L[k]? = some p) : L.drop k = p :: L.drop (k + 1) := by
  obtain ⟨h, e⟩ := List.getElem?_eq_some_iff.1 hp
  rw [← e]
  exact List.drop_eq_getElem_cons h
theorem put_drop {L : List Pr} {k : Nat} {key x1 : Int} {n x2 : Nat} (hp : L[k]? = some (x1, x2)) : put (L.drop k) key n = if x1 < key then (x1, x2) :: put (L.drop (k + 1)) key n else if x1 = key then (key, x2 + n) :: L.drop (k + 1) else (key, n) :: (x1, x2) :: L.drop (k + 1) := by
  rw [drop_cons hp, put]
set_option maxRecDepth 100000 in
set_option maxHeartbeats 3200000 in
theorem put13_t (A : Option Addr) (c : Nat) (L : List Pr) (key : Int) (n : Nat) (w : World) (h : Prs w w.heap.size A L) (hm : L.length ≤ 16777216) (ht : tot L + n ≤ 9223372036854775807) :
    Calls Tryz.prog 71 #[.slice A L.length c, .int .i64 key, .int .u64 (n : Int)] w (NewPairs (put L key n) w) := by
  have HA := Lib.hid h
  clear h
  go_enter Tryz.func71, Tryz.ntmps71
  go_wp2_with fail
  go_loopw [7, 8, 9] (fun v d i wr => ∃ (k : Nat) (A' : Option Addr) (c' : Nat) (out : List Pr) (dn : Bool), k ≤ L.length ∧ i = .int .i64 k ∧ v = .slice A' out.length c' ∧ d = .bool dn ∧ OwnP wr w.heap.size A' c' out ∧ Below w.heap.size w wr ∧ out.length ≤ k + dn.toNat ∧
    out ++ (if dn then L.drop k else put (L.drop k) key n) = put L key n) (fun _ _ i _ => L.length - (intOf i).toNat)
  case atStart => exact ⟨0, none, 0, [], false, Nat.zero_le _, rfl, rfl, rfl, Own.nil _ _ _ _, Below.refl _ _, Nat.zero_le _, rfl⟩
  case round =>
    obtain ⟨k, A', c', out, dn, hk, rfl, rfl, rfl, hown, hbel, hol, hput⟩ := hrel
    by_cases hlt : k < L.length
    · obtain ⟨b, o, rfl, hbl, hcell⟩ := HA.out.at_ (by omega)
      obtain ⟨⟨x1, x2⟩, hp⟩ : ∃ p, L[k]? = some p := ⟨L[k], by simp [hlt]⟩
      obtain ⟨g1, g2⟩ := hcell k _ hp
      have hkk : (k : Int) < (L.length : Int) := by omega
      have hk0 : (0 : Int) ≤ (k : Int) := by omega
      have hml : (L.length : Int) ≤ 16777216 := by omega
      have hpd := put_drop (key := key) (n := n) hp
      have hdd := drop_cons hp
      have hle : x2 + n ≤ 9223372036854775807 := by
        have := tot_le_of_mem (l := L) (p := (x1, x2)) (List.mem_of_getElem? hp)
        simp only at this
        omega
      have e1 : wr.cell? ⟨b, o + k * 2, none⟩ = some (.int .i64 x1) := (hbel.cell (p := ⟨b, o + k * 2, none⟩) hbl).trans g1
      have e2 : wr.cell? ⟨b, o + k * 2 + 1, none⟩ = some (.int .u64 (x2 : Nat)) := (hbel.cell (p := ⟨b, o + k * 2 + 1, none⟩) hbl).trans g2
      have HL := Lib.hid hlt
      have HO := Lib.hid hown
      have HB := Lib.hid hbel
      clear hp g1 g2 hcell hlt hown hbel hk
      have hle2 : (x2 : Int) + (n : Int) ≤ 9223372036854775807 := by omega
      cases dn
      · have hol : out.length ≤ k := hol
        rw [if_neg (by decide), hpd] at hput
        by_cases c1 : x1 < key
        · rw [if_pos c1] at hput
          have HP := Lib.hid hput
          clear hput hpd hdd
          go_wp2_with (at_builtin; refine Hid.out ?_)
          refine wpList_app (xs := pcs out) rfl rfl elem_pair rfl (HO.out.alloc _) rfl (pair_new wr x1 x2) (pcs_one _) (out.length + 1) rfl (pcs (out ++ [(x1, x2)])) (pcs_append _ _).symm (by unfold maxLen; omega) (by omega) (by have := HB.out.size; simp; omega) ?_
          intro A2 p2 w3 o2 g2 q2
          have b2 := appB (newB HB.out _) (HO.out.alloc _) g2 (Nat.le_refl _) (newB HB.out _).size
          have HO2 := Lib.hid (own_snoc o2 rfl)
          have HB2 := Lib.hid b2
          clear o2 g2 q2 b2
          go_wp2_with fail
          go_roundw
          case rel => exact ⟨k + 1, A2, p2, _, false, HL.out, by go_num, by simp, rfl, HO2.out, HB2.out, by simp; omega, by rw [if_neg (by decide), ← HP.out]; simp⟩
          case measure => have h1 := HL.out; simp [intOf]; omega
        · rw [if_neg c1] at hput
          by_cases c2 : x1 = key
          · rw [if_pos c2] at hput
            subst c2
            have HP := Lib.hid hput
            clear hput hpd hdd
            go_wp2_with (at_builtin; refine Hid.out ?_)
            rw [show (x2 : Int) + (n : Int) = ((x2 + n : Nat) : Int) by omega]
            refine wpList_app (xs := pcs out) rfl rfl elem_pair rfl (HO.out.alloc _) rfl (pair_new wr x1 (x2 + n)) (pcs_one _) (out.length + 1) rfl (pcs (out ++ [(x1, (x2 + n))])) (pcs_append _ _).symm (by unfold maxLen; omega) (by omega) (by have := HB.out.size; simp; omega) ?_
            intro A2 p2 w3 o2 g2 q2
            have b2 := appB (newB HB.out _) (HO.out.alloc _) g2 (Nat.le_refl _) (newB HB.out _).size
            have HO2 := Lib.hid (own_snoc o2 rfl)
            have HB2 := Lib.hid b2
            clear o2 g2 q2 b2
            go_wp2_with fail
            go_roundw
            case rel => exact ⟨k + 1, A2, p2, _, true, HL.out, by go_num, by simp, rfl, HO2.out, HB2.out, by simp; omega, by rw [if_pos rfl, ← HP.out]; simp⟩
            case measure => have h1 := HL.out; simp [intOf]; omega
          · rw [if_neg c2] at hput
            have c3 : key < x1 := by omega
            have c4 : (x1 == key) = false := by simpa using c2
            have HP := Lib.hid hput
            clear hput hpd hdd
            go_wp2_with (at_builtin; refine Hid.out ?_)
            refine wpList_app (xs := pcs out) rfl rfl elem_pair rfl (HO.out.alloc _) rfl (pair_new wr key n) (pcs_one _) (out.length + 1) rfl (pcs (out ++ [(key, n)])) (pcs_append _ _).symm (by unfold maxLen; omega) (by omega) (by have := HB.out.size; simp; omega) ?_
            intro A2 p2 w3 o2 g2 q2
            have b2 := appB (newB HB.out _) (HO.out.alloc _) g2 (Nat.le_refl _) (newB HB.out _).size
            have HO2 := Lib.hid (own_snoc o2 rfl)
            have HB2 := Lib.hid b2
            clear o2 g2 q2 b2
            have d1 : w3.cell? ⟨b, o + k * 2, none⟩ = some (.int .i64 x1) := (HB2.out.cell (p := ⟨b, o + k * 2, none⟩) hbl).trans ((HB.out.cell (p := ⟨b, o + k * 2, none⟩) hbl).symm.trans e1)
            have d2 : w3.cell? ⟨b, o + k * 2 + 1, none⟩ = some (.int .u64 (x2 : Nat)) := (HB2.out.cell (p := ⟨b, o + k * 2 + 1, none⟩) hbl).trans ((HB.out.cell (p := ⟨b, o + k * 2 + 1, none⟩) hbl).symm.trans e2)
            obtain ⟨out2, hout2⟩ : ∃ out2, out2 = out ++ [(key, n)] := ⟨_, rfl⟩
            rw [← hout2] at HO2
            have hl2 : out2.length = out.length + 1 := by rw [hout2]; simp
            rw [← hl2]
            have hol2 : out2.length ≤ k + 1 := by omega
            have HQ := Lib.hid hout2
            clear hout2 hl2
            go_wp2_with (at_builtin; refine Hid.out ?_)
            refine wpList_app (xs := pcs out2) rfl rfl elem_pair rfl (HO2.out.alloc _) rfl (pair_new w3 x1 x2) (pcs_one _) (out2.length + 1) rfl (pcs (out2 ++ [(x1, x2)])) (pcs_append _ _).symm (by unfold maxLen; omega) (by omega) (by have := HB2.out.size; simp; omega) ?_
            intro A3 p3 w4 o2 g2 q2
            have b2 := appB (newB HB2.out _) (HO2.out.alloc _) g2 (Nat.le_refl _) (newB HB2.out _).size
            have HO3 := Lib.hid (own_snoc o2 rfl)
            have HB3 := Lib.hid b2
            clear o2 g2 q2 b2
            go_wp2_with fail
            go_roundw
            case rel => exact ⟨k + 1, A3, p3, _, true, HL.out, by go_num, by simp, rfl, HO3.out, HB3.out, by simp; omega, by rw [if_pos rfl, ← HP.out, HQ.out]; simp⟩
            case measure => have h1 := HL.out; simp [intOf]; omega
      · have hol : out.length ≤ k + 1 := hol
        rw [if_pos rfl, hdd] at hput
        have HP := Lib.hid hput
        clear hput hpd hdd
        go_wp2_with (at_builtin; refine Hid.out ?_)
        refine wpList_app (xs := pcs out) rfl rfl elem_pair rfl (HO.out.alloc _) rfl (pair_new wr x1 x2) (pcs_one _) (out.length + 1) rfl (pcs (out ++ [(x1, x2)])) (pcs_append _ _).symm (by unfold maxLen; omega) (by omega) (by have := HB.out.size; simp; omega) ?_
        intro A2 p2 w3 o2 g2 q2
        have b2 := appB (newB HB.out _) (HO.out.alloc _) g2 (Nat.le_refl _) (newB HB.out _).size
        have HO2 := Lib.hid (own_snoc o2 rfl)
        have HB2 := Lib.hid b2
        clear o2 g2 q2 b2
        go_wp2_with fail
        go_roundw
        case rel => exact ⟨k + 1, A2, p2, _, true, HL.out, by go_num, by simp, rfl, HO2.out, HB2.out, by simp; omega, by rw [if_pos rfl, ← HP.out]; simp⟩
        case measure => have h1 := HL.out; simp [intOf]; omega
    · obtain rfl : k = L.length := by omega
      have HO := Lib.hid hown
      have HB := Lib.hid hbel
      clear hown hbel
      rw [List.drop_length] at hput
      cases dn
      · have hol : out.length ≤ L.length := hol
        rw [if_neg (by decide), put] at hput
        have HP := Lib.hid hput
        clear hput
        go_wp2_with (at_builtin; refine Hid.out ?_)
        refine wpList_app (xs := pcs out) rfl rfl elem_pair rfl (HO.out.alloc _) rfl (pair_new wr key n) (pcs_one _) (out.length + 1) rfl (pcs (out ++ [(key, n)])) (pcs_append _ _).symm (by unfold maxLen; omega) (by omega) (by have := HB.out.size; simp; omega) ?_
        intro A2 p2 w3 o2 g2 q2
        have b2 := appB (newB HB.out _) (HO.out.alloc _) g2 (Nat.le_refl _) (newB HB.out _).size
        have HO2 := Lib.hid (own_snoc o2 rfl)
        have HB2 := Lib.hid b2
        clear o2 g2 q2 b2
        go_wp2_with fail
        go_ret
        rw [← HP.out]
        exact ⟨A2, p2, by simp, HO2.out, HB2.out⟩
      · rw [if_pos rfl, List.append_nil] at hput
        subst hput
        go_wp2_with fail
        go_ret
        exact ⟨A', c', rfl, HO.out, HB.out⟩
end Go.Proofs.YtbfhiegbgkkgiaaGreat
/- The document's Wide, Add, walked. -/

namespace Go.Proofs.YtbfhiegbgkkgiaaGreat
open Go.RowKit
open Pl

/-- How many keys a window has over a list, and a key more. -/
def wideL (L : List Pr) (k : Int) : Int := match L.head?, L.getLast? with
  | some p, some q => max k q.1 - min k p.1 + 1
  | _, _ => 1
def KeysIn (L : List Pr) : Prop := ∀ p ∈ L, -1048576 ≤ p.1 ∧ p.1 ≤ 1048576
set_option maxRecDepth 100000 in
set_option maxHeartbeats 800000 in
theorem wide13_t (A : Option Addr) (c B : Nat) (L : List Pr) (k : Int) (w : World) (h : Prs w B A L) (hm : L.length ≤ 16777216) (hk : KeysIn L) (k0 : -1048576 ≤ k) (k1 : k ≤ 1048576) :
    Calls Tryz.prog 80 #[.slice A L.length c, .int .i64 k] w fun e w' => e = .returned (.int .i64 (wideL L k)) ∧ ∃ n, w' = w.drewN n := by
  by_cases hl : L.length = 0
  · have : L = [] := List.eq_nil_of_length_eq_zero hl
    subst this
    clear h hk
    go_enter Tryz.func80, Tryz.ntmps80
    go_wp2_with fail
    go_ret
    exact ⟨rfl, 0, rfl⟩
  · obtain ⟨p, hp⟩ : ∃ p, L[0]? = some p := ⟨L[0]'(by omega), by simp⟩
    obtain ⟨q, hq⟩ : ∃ q, L[L.length - 1]? = some q := ⟨L[L.length - 1]'(by omega), by simp⟩
    obtain ⟨b, o, rfl, _, hcell⟩ := h.at_ (by omega)
    obtain ⟨e1, _⟩ := hcell 0 p hp
    obtain ⟨e2, _⟩ := hcell (L.length - 1) q hq
    have e : wideL L k = max k q.1 - min k p.1 + 1 := by
      unfold wideL
      rw [List.head?_eq_getElem?, hp, List.getLast?_eq_getElem?, hq]
    rw [e]
    have b1 := hk p (List.mem_of_getElem? hp)
    have b2 := hk q (List.mem_of_getElem? hq)
    have hz : ((L.length : Int) == 0) = false := by simp; intro e; exact hl (by rw [e]; rfl)
    obtain ⟨r, hr⟩ : ∃ r : Nat, r = L.length - 1 := ⟨_, rfl⟩
    rw [← hr] at e2
    rw [Nat.zero_mul, Nat.add_zero] at e1
    have hrr : (r : Int) = (L.length : Int) - 1 := by omega
    have s1 : IntKind.i64.wrap ((L.length : Int) - 1) = (r : Int) := by rw [hrr]; exact IntWalk.i64_in _ ⟨by omega, by omega⟩
    have hr0 : (0 : Int) ≤ (r : Int) := by omega
    have hrl : (r : Int) < (L.length : Int) := by omega
    have hl0 : (0 : Int) < (L.length : Int) := by omega
    obtain ⟨x1, x2⟩ := p
    obtain ⟨y1, y2⟩ := q
    simp only at e1 e2 b1 b2
    obtain ⟨b11, b12⟩ := b1
    obtain ⟨b21, b22⟩ := b2
    clear hl h hcell hp hq e hr hrr hk
    go_enter Tryz.func80, Tryz.ntmps80
    go_wp2_with fail
    go_quiet (fail)
    go_wp2_with fail
    all_goals (go_ret; exact ⟨ret_int (by omega), _, rfl⟩)
/-- The document's Add: the list, the error's number; window 0: there is none. -/
def radd (L : List Pr) (k : Int) (n W : Nat) : List Pr × Int :=
  if n = 0 then (L, 4) else if k < -1048576 ∨ 1048576 < k then (L, 5) else if 0 < W ∧ (W : Int) < wideL L k then (L, 130) else if 4611686018427387904 - tot L < n then (L, 6) else (put L k n, 0)
def RAdd (base : Nat) (w : World) (R : List Pr × Int) (e : Ending) (w' : World) : Prop :=
  ∃ A c, e = .returned (.tuple #[.slice A R.1.length c, .int .i64 R.2]) ∧ OwnP w' base A c R.1 ∧ Below w.heap.size w w'
set_option maxRecDepth 100000 in
set_option maxHeartbeats 800000 in
theorem add13_zero (A : Option Addr) (c base : Nat) (L : List Pr) (k : Int) (n W : Nat) (w : World) (h : OwnP w base A c L) (_hW : W ≤ 16777216) (_hn : n ≤ 18446744073709551615) (h0 : n = 0) :
    Calls Tryz.prog 57 #[.slice A L.length c, .int .i64 k, .int .u64 (n : Int), .int .i64 (W : Int)] w (RAdd base w (radd L k n W)) := by
  subst h0
  have e : radd L k 0 W = (L, 4) := by simp [radd]
  rw [e]
  have HH := Lib.hid h
  clear h e
  go_enter Tryz.func57, Tryz.ntmps57
  go_wp2_with fail
  go_ret2
  exact ⟨A, c, rfl, HH.out, Below.refl _ _⟩
set_option maxRecDepth 100000 in
set_option maxHeartbeats 800000 in
theorem add13_low (A : Option Addr) (c base : Nat) (L : List Pr) (k : Int) (n W : Nat) (w : World) (h : OwnP w base A c L) (_hW : W ≤ 16777216) (_hn : n ≤ 18446744073709551615) (h0 : n ≠ 0) (h1 : k < -1048576) :
    Calls Tryz.prog 57 #[.slice A L.length c, .int .i64 k, .int .u64 (n : Int), .int .i64 (W : Int)] w (RAdd base w (radd L k n W)) := by
  have e : radd L k n W = (L, 5) := by unfold radd; rw [if_neg h0, if_pos (.inl h1)]
  rw [e]
  have b0 : ((n : Int) == 0) = false := by simp; omega
  have HH := Lib.hid h
  clear h e h0
  go_enter Tryz.func57, Tryz.ntmps57
  go_wp2_with fail
  go_ret2
  exact ⟨A, c, rfl, HH.out, Below.refl _ _⟩
set_option maxRecDepth 100000 in
set_option maxHeartbeats 800000 in
theorem add13_high (A : Option Addr) (c base : Nat) (L : List Pr) (k : Int) (n W : Nat) (w : World) (h : OwnP w base A c L) (_hW : W ≤ 16777216) (_hn : n ≤ 18446744073709551615) (h0 : n ≠ 0) (h1 : 1048576 < k) :
    Calls Tryz.prog 57 #[.slice A L.length c, .int .i64 k, .int .u64 (n : Int), .int .i64 (W : Int)] w (RAdd base w (radd L k n W)) := by
  have e : radd L k n W = (L, 5) := by unfold radd; rw [if_neg h0, if_pos (.inr h1)]
  rw [e]
  have b0 : ((n : Int) == 0) = false := by simp; omega
  have HH := Lib.hid h
  clear h e h0
  go_enter Tryz.func57, Tryz.ntmps57
  go_wp2_with fail
  go_ret2
  exact ⟨A, c, rfl, HH.out, Below.refl _ _⟩
set_option maxRecDepth 100000 in
set_option maxHeartbeats 800000 in
theorem add13_wide (A : Option Addr) (c base : Nat) (L : List Pr) (k : Int) (n W : Nat) (w : World) (h : OwnP w base A c L) (_hW : W ≤ 16777216) (_hn : n ≤ 18446744073709551615) (h0 : n ≠ 0) (k0 : -1048576 ≤ k) (k1 : k ≤ 1048576) (hm : L.length ≤ 16777216) (hk : KeysIn L) (h2 : 0 < W) (h3 : (W : Int) < wideL L k) :
    Calls Tryz.prog 57 #[.slice A L.length c, .int .i64 k, .int .u64 (n : Int), .int .i64 (W : Int)] w (RAdd base w (radd L k n W)) := by
  have e : radd L k n W = (L, 130) := by unfold radd; rw [if_neg h0, if_neg (by omega), if_pos ⟨h2, h3⟩]
  rw [e]
  have b0 : ((n : Int) == 0) = false := by simp; omega
  have HWI := fun B W' h => wide13_t A c B L k W' h hm hk k0 k1
  replace HWI := Lib.hid HWI
  have HH := Lib.hid h
  generalize wideL L k = V at *
  have d1 : decide ((0 : Int) < (W : Int)) = true := by simp; omega
  clear h e h0 hk
  go_enter Tryz.func57, Tryz.ntmps57
  go_wp2_with fail
  refine (HWI.out _ _ HH.out.reads).mono ?_
  rintro e w1 ⟨rfl, m, rfl⟩
  go_wp2_with fail
  go_ret2
  exact ⟨A, c, rfl, HH.out, below_drewN (Below.refl _ _) m⟩
set_option maxRecDepth 100000 in
set_option maxHeartbeats 800000 in
theorem add13_cap0 (A : Option Addr) (c base : Nat) (L : List Pr) (k : Int) (n W : Nat) (w : World) (h : OwnP w base A c L) (_hW : W ≤ 16777216) (_hn : n ≤ 18446744073709551615) (h0 : n ≠ 0) (k0 : -1048576 ≤ k) (k1 : k ≤ 1048576) (hm : L.length ≤ 16777216) (ht : tot L ≤ 4611686018427387904) (hw0 : W = 0) (h4 : 4611686018427387904 - tot L < n) :
    Calls Tryz.prog 57 #[.slice A L.length c, .int .i64 k, .int .u64 (n : Int), .int .i64 (W : Int)] w (RAdd base w (radd L k n W)) := by
  have e : radd L k n W = (L, 6) := by unfold radd; rw [if_neg h0, if_neg (by omega), if_neg (by omega), if_pos h4]
  rw [e]
  subst hw0
  have b0 : ((n : Int) == 0) = false := by simp; omega
  have HT := fun B W' h => total13_t A c B L W' h (by unfold maxLen; omega) (by omega)
  replace HT := Lib.hid HT
  have HH := Lib.hid h
  have d4 : decide (4611686018427387904 - ((tot L : Nat) : Int) < (n : Int)) = true := by simp; omega
  have htt : ((tot L : Nat) : Int) ≤ 4611686018427387904 := by omega
  clear h e h0 h4 hm ht
  go_enter Tryz.func57, Tryz.ntmps57
  go_wp2_with fail
  refine (HT.out _ _ HH.out.reads).mono ?_
  rintro e w1 ⟨rfl, rfl⟩
  go_wp2_with fail
  go_ret2
  exact ⟨A, c, rfl, HH.out, Below.refl _ _⟩
set_option maxRecDepth 100000 in
set_option maxHeartbeats 800000 in
theorem add13_capW (A : Option Addr) (c base : Nat) (L : List Pr) (k : Int) (n W : Nat) (w : World) (h : OwnP w base A c L) (_hW : W ≤ 16777216) (_hn : n ≤ 18446744073709551615) (h0 : n ≠ 0) (k0 : -1048576 ≤ k) (k1 : k ≤ 1048576) (hm : L.length ≤ 16777216) (ht : tot L ≤ 4611686018427387904) (h2 : 0 < W) (h3 : ¬ (W : Int) < wideL L k) (hk : KeysIn L) (h4 : 4611686018427387904 - tot L < n) :
    Calls Tryz.prog 57 #[.slice A L.length c, .int .i64 k, .int .u64 (n : Int), .int .i64 (W : Int)] w (RAdd base w (radd L k n W)) := by
  have e : radd L k n W = (L, 6) := by unfold radd; rw [if_neg h0, if_neg (by omega), if_neg (fun x => h3 x.2), if_pos h4]
  rw [e]
  have b0 : ((n : Int) == 0) = false := by simp; omega
  have HT := fun B W' h => total13_t A c B L W' h (by unfold maxLen; omega) (by omega)
  replace HT := Lib.hid HT
  have HH := Lib.hid h
  have HWI := fun B W' h => wide13_t A c B L k W' h hm hk k0 k1
  replace HWI := Lib.hid HWI
  generalize wideL L k = V at *
  have d1 : decide ((0 : Int) < (W : Int)) = true := by simp; omega
  have d4 : decide (4611686018427387904 - ((tot L : Nat) : Int) < (n : Int)) = true := by simp; omega
  have htt : ((tot L : Nat) : Int) ≤ 4611686018427387904 := by omega
  clear h e h0 h4 hm ht hk
  go_enter Tryz.func57, Tryz.ntmps57
  go_wp2_with fail
  refine (HWI.out _ _ HH.out.reads).mono ?_
  rintro e w1 ⟨rfl, m, rfl⟩
  go_wp2_with fail
  refine (HT.out w.heap.size _ (Reads.drewN HH.out.reads m)).mono ?_
  rintro e w1 ⟨rfl, rfl⟩
  go_wp2_with fail
  go_ret2
  exact ⟨A, c, rfl, HH.out, below_drewN (Below.refl _ _) m⟩
set_option maxRecDepth 100000 in
set_option maxHeartbeats 800000 in
theorem add13_ok0 (A : Option Addr) (c base : Nat) (L : List Pr) (k : Int) (n W : Nat) (w : World) (h : OwnP w base A c L) (_hW : W ≤ 16777216) (_hn : n ≤ 18446744073709551615) (h0 : n ≠ 0) (k0 : -1048576 ≤ k) (k1 : k ≤ 1048576) (hm : L.length ≤ 16777216) (ht : tot L ≤ 4611686018427387904) (hw0 : W = 0) (h4 : ¬ 4611686018427387904 - tot L < n) (hbase : base ≤ w.heap.size) :
    Calls Tryz.prog 57 #[.slice A L.length c, .int .i64 k, .int .u64 (n : Int), .int .i64 (W : Int)] w (RAdd base w (radd L k n W)) := by
  have e : radd L k n W = (put L k n, 0) := by unfold radd; rw [if_neg h0, if_neg (by omega), if_neg (by omega), if_neg h4]
  rw [e]
  subst hw0
  have b0 : ((n : Int) == 0) = false := by simp; omega
  have HT := fun B W' h => total13_t A c B L W' h (by unfold maxLen; omega) (by omega)
  replace HT := Lib.hid HT
  have HH := Lib.hid h
  have HPU := fun W' h => put13_t A c L k n W' h hm (by omega)
  replace HPU := Lib.hid HPU
  have d4 : decide (4611686018427387904 - ((tot L : Nat) : Int) < (n : Int)) = false := by simp; omega
  have htt : ((tot L : Nat) : Int) ≤ 4611686018427387904 := by omega
  clear h e h0 h4 hm ht
  go_enter Tryz.func57, Tryz.ntmps57
  go_wp2_with fail
  refine (HT.out _ _ HH.out.reads).mono ?_
  rintro e w1 ⟨rfl, rfl⟩
  go_wp2_with fail
  refine (HPU.out _ HH.out.reads).mono ?_
  rintro e w2 ⟨A2, c2, rfl, ho, hb⟩
  have HO := Lib.hid (Own.mono ho hbase)
  have HB := Lib.hid hb
  clear ho hb
  go_wp2_with fail
  go_ret2
  exact ⟨A2, c2, rfl, HO.out, HB.out⟩
set_option maxRecDepth 100000 in
set_option maxHeartbeats 800000 in
theorem add13_okW (A : Option Addr) (c base : Nat) (L : List Pr) (k : Int) (n W : Nat) (w : World) (h : OwnP w base A c L) (_hW : W ≤ 16777216) (_hn : n ≤ 18446744073709551615) (h0 : n ≠ 0) (k0 : -1048576 ≤ k) (k1 : k ≤ 1048576) (hm : L.length ≤ 16777216) (ht : tot L ≤ 4611686018427387904) (h2 : 0 < W) (h3 : ¬ (W : Int) < wideL L k) (hk : KeysIn L) (h4 : ¬ 4611686018427387904 - tot L < n) (hbase : base ≤ w.heap.size) :
    Calls Tryz.prog 57 #[.slice A L.length c, .int .i64 k, .int .u64 (n : Int), .int .i64 (W : Int)] w (RAdd base w (radd L k n W)) := by
  have e : radd L k n W = (put L k n, 0) := by unfold radd; rw [if_neg h0, if_neg (by omega), if_neg (fun x => h3 x.2), if_neg h4]
  rw [e]
  have b0 : ((n : Int) == 0) = false := by simp; omega
  have HT := fun B W' h => total13_t A c B L W' h (by unfold maxLen; omega) (by omega)
  replace HT := Lib.hid HT
  have HH := Lib.hid h
  have HPU := fun W' h => put13_t A c L k n W' h hm (by omega)
  replace HPU := Lib.hid HPU
  have HWI := fun B W' h => wide13_t A c B L k W' h hm hk k0 k1
  replace HWI := Lib.hid HWI
  generalize wideL L k = V at *
  have d1 : decide ((0 : Int) < (W : Int)) = true := by simp; omega
  have d4 : decide (4611686018427387904 - ((tot L : Nat) : Int) < (n : Int)) = false := by simp; omega
  have htt : ((tot L : Nat) : Int) ≤ 4611686018427387904 := by omega
  clear h e h0 h4 hm ht hk
  go_enter Tryz.func57, Tryz.ntmps57
  go_wp2_with fail
  refine (HWI.out _ _ HH.out.reads).mono ?_
  rintro e w1 ⟨rfl, m, rfl⟩
  go_wp2_with fail
  refine (HT.out w.heap.size _ (Reads.drewN HH.out.reads m)).mono ?_
  rintro e w1 ⟨rfl, rfl⟩
  go_wp2_with fail
  refine (HPU.out (w.drewN m) (Reads.drewN HH.out.reads m)).mono ?_
  rintro e w2 ⟨A2, c2, rfl, ho, hb⟩
  have HO := Lib.hid (Own.mono ho hbase)
  have HB := Lib.hid (show Below w.heap.size w w2 from ⟨hb.os, hb.tape, hb.output, hb.size, hb.block⟩)
  clear ho hb
  go_wp2_with fail
  go_ret2
  exact ⟨A2, c2, rfl, HO.out, HB.out⟩
set_option maxRecDepth 100000 in
theorem add13_t (A : Option Addr) (c base : Nat) (L : List Pr) (k : Int) (n W : Nat) (w : World) (h : OwnP w base A c L) (hW : W ≤ 16777216) (hn : n ≤ 18446744073709551615) (hm : L.length ≤ 16777216) (ht : tot L ≤ 4611686018427387904) (hk : KeysIn L) (hbase : base ≤ w.heap.size) :
    Calls Tryz.prog 57 #[.slice A L.length c, .int .i64 k, .int .u64 (n : Int), .int .i64 (W : Int)] w (RAdd base w (radd L k n W)) := by
  by_cases h0 : n = 0
  · exact add13_zero A c base L k n W w h hW hn h0
  by_cases h1 : k < -1048576
  · exact add13_low A c base L k n W w h hW hn h0 h1
  by_cases h1' : 1048576 < k
  · exact add13_high A c base L k n W w h hW hn h0 h1'
  by_cases hw0 : W = 0
  · by_cases h4 : 4611686018427387904 - tot L < n
    · exact add13_cap0 A c base L k n W w h hW hn h0 (by omega) (by omega) hm ht hw0 h4
    · exact add13_ok0 A c base L k n W w h hW hn h0 (by omega) (by omega) hm ht hw0 h4 hbase
  by_cases h3 : (W : Int) < wideL L k
  · exact add13_wide A c base L k n W w h hW hn h0 (by omega) (by omega) hm hk (by omega) h3
  by_cases h4 : 4611686018427387904 - tot L < n
  · exact add13_capW A c base L k n W w h hW hn h0 (by omega) (by omega) hm ht (by omega) h3 hk h4
  · exact add13_okW A c base L k n W w h hW hn h0 (by omega) (by omega) hm ht (by omega) h3 hk h4 hbase
end Go.Proofs.YtbfhiegbgkkgiaaGreat
