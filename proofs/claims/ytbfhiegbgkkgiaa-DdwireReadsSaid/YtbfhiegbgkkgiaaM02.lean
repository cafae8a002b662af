/- Lists of pairs (a key, how many), plain: sorted ones are told by their counts; what the document's functions make of them. No program. -/
import Derived.Tactics
import Derived.Test.YtbfhiegbgkkgiaaChecked
import Derived.Test.YtbfhiegbgkkgiaaM01
import Derived.RegionTactic
import Derived.BigRegion
import Derived.Deep.QuietTactic
import Derived.BigQuiet
import Derived.Deep.LoopGhost
import Derived.Deep.RegionHeld3
import Derived.Laws.CopyOwn
namespace Go.Proofs.Ytbfhiegbgkkgiaa
abbrev Pr := Int × Nat
namespace Pl
def cnt : List Pr → Int → Nat
  | [], _ => 0
  | p :: l, k => if p.1 = k then p.2 else cnt l k
def tot (l : List Pr) : Nat := (l.map (·.2)).sum
def Srt (l : List Pr) : Prop := l.Pairwise (fun p q => p.1 < q.1)
def Pos (l : List Pr) : Prop := ∀ p ∈ l, 0 < p.2
/-- n more of key k. -/
def put : List Pr → Int → Nat → List Pr
  | [], k, n => [(k, n)]
  | p :: l, k, n => if p.1 < k then p :: put l k n else if p.1 = k then (k, p.2 + n) :: l else (k, n) :: p :: l
def without (l : List Pr) (k : Int) : List Pr := l.filter (fun p => p.1 != k)
theorem tot_nil : tot [] = 0 := rfl
theorem tot_cons (p : Pr) (l : List Pr) : tot (p :: l) = p.2 + tot l := by simp [tot]
theorem tot_append (l m : List Pr) : tot (l ++ m) = tot l + tot m := by simp [tot]
theorem tot_pos {l : List Pr} (hp : Pos l) (h : l ≠ []) : 0 < tot l := by
  cases l with
  | nil => exact absurd rfl h
  | cons p l => rw [tot_cons]; have := hp p (by simp); omega
theorem Srt.nil : Srt [] := List.Pairwise.nil
theorem Pos.nil : Pos [] := by intro p h; cases h
theorem srt_cons {p : Pr} {l : List Pr} : Srt (p :: l) ↔ (∀ q ∈ l, p.1 < q.1) ∧ Srt l := List.pairwise_cons
theorem pos_cons {p : Pr} {l : List Pr} : Pos (p :: l) ↔ 0 < p.2 ∧ Pos l := by simp [Pos]
theorem cnt_zero {l : List Pr} {k : Int} (h : ∀ q ∈ l, q.1 ≠ k) : cnt l k = 0 := by
  induction l with
  | nil => rfl
  | cons p l ih => rw [cnt, if_neg (h p (by simp))]; exact ih fun q hq => h q (by simp [hq])
theorem cnt_lt {l : List Pr} {k : Int} (h : ∀ q ∈ l, k < q.1) : cnt l k = 0 := cnt_zero fun q hq => by have := h q hq; omega
theorem cnt_mem {l : List Pr} {k : Int} (h : cnt l k ≠ 0) : (k, cnt l k) ∈ l := by
  induction l with
  | nil => exact absurd rfl h
  | cons p l ih =>
    rw [cnt] at h ⊢
    by_cases hk : p.1 = k
    · rw [if_pos hk]; subst hk; simp
    · rw [if_neg hk] at h ⊢; exact List.mem_cons_of_mem _ (ih h)
theorem cnt_of_mem {l : List Pr} (hs : Srt l) {p : Pr} (h : p ∈ l) : cnt l p.1 = p.2 := by
  induction l with
  | nil => cases h
  | cons q l ih =>
    obtain ⟨h1, h2⟩ := srt_cons.1 hs
    rw [cnt]
    rcases List.mem_cons.1 h with rfl | h
    · rw [if_pos rfl]
    · rw [if_neg (by have := h1 p h; omega)]; exact ih h2 h
/-- Sorted lists of the same counts are one. -/
theorem ext {l m : List Pr} (hl : Srt l) (hlp : Pos l) (hm : Srt m) (hmp : Pos m) (h : ∀ k, cnt l k = cnt m k) : l = m := by
  induction l generalizing m with
  | nil =>
    cases m with
    | nil => rfl
    | cons q m =>
      have := h q.1
      rw [cnt, cnt, if_pos rfl] at this
      have := (pos_cons.1 hmp).1
      omega
  | cons p l ih =>
    cases m with
    | nil =>
      have := h p.1
      rw [cnt, cnt, if_pos rfl] at this
      have := (pos_cons.1 hlp).1
      omega
    | cons q m =>
      obtain ⟨a1, a2⟩ := srt_cons.1 hl
      obtain ⟨b1, b2⟩ := srt_cons.1 hm
      obtain ⟨a3, a4⟩ := pos_cons.1 hlp
      obtain ⟨b3, b4⟩ := pos_cons.1 hmp
      have hk : p.1 = q.1 := by
        rcases Int.lt_trichotomy p.1 q.1 with hlt | heq | hgt
        · have := h p.1
          rw [cnt, if_pos rfl, cnt_lt (l := q :: m) (fun r hr => by
            rcases List.mem_cons.1 hr with rfl | hr
            · exact hlt
            · have := b1 r hr; omega)] at this
          omega
        · exact heq
        · have := h q.1
          rw [cnt_lt (l := p :: l) (fun r hr => by
            rcases List.mem_cons.1 hr with rfl | hr
            · exact hgt
            · have := a1 r hr; omega), cnt, if_pos rfl] at this
          omega
      have hn : p.2 = q.2 := by
        have := h p.1
        rw [cnt, if_pos rfl, cnt, if_pos hk.symm] at this
        exact this
      have hpq : p = q := Prod.ext hk hn
      subst hpq
      congr 1
      refine ih a2 a4 b2 b4 fun k => ?_
      by_cases hk : p.1 = k
      · subst hk
        rw [cnt_lt a1, cnt_lt b1]
      · have := h k
        rw [cnt, cnt, if_neg hk, if_neg hk] at this
        exact this
theorem put_keys {l : List Pr} {k : Int} {n : Nat} : ∀ q ∈ put l k n, q.1 = k ∨ ∃ p ∈ l, p.1 = q.1 := by
  induction l with
  | nil => intro q hq; simp [put] at hq; subst hq; exact .inl rfl
  | cons p l ih =>
    intro q hq
    rw [put] at hq
    by_cases h1 : p.1 < k
    · rw [if_pos h1] at hq
      rcases List.mem_cons.1 hq with rfl | hq
      · exact .inr ⟨_, by simp, rfl⟩
      · rcases ih q hq with h | ⟨r, hr, e⟩
        · exact .inl h
        · exact .inr ⟨r, by simp [hr], e⟩
    · rw [if_neg h1] at hq
      by_cases h2 : p.1 = k
      · rw [if_pos h2] at hq
        rcases List.mem_cons.1 hq with rfl | hq
        · exact .inl rfl
        · exact .inr ⟨q, by simp [hq], rfl⟩
      · rw [if_neg h2] at hq
        rcases List.mem_cons.1 hq with rfl | hq
        · exact .inl rfl
        · exact .inr ⟨q, hq, rfl⟩
theorem put_srt {l : List Pr} {k : Int} {n : Nat} (hs : Srt l) : Srt (put l k n) := by
  induction l with
  | nil => exact List.pairwise_singleton _ _
  | cons p l ih =>
    obtain ⟨h1, h2⟩ := srt_cons.1 hs
    rw [put]
    by_cases c1 : p.1 < k
    · rw [if_pos c1]
      refine srt_cons.2 ⟨fun q hq => ?_, ih h2⟩
      rcases put_keys q hq with h | ⟨r, hr, e⟩
      · omega
      · have := h1 r hr; omega
    · rw [if_neg c1]
      by_cases c2 : p.1 = k
      · rw [if_pos c2]
        exact srt_cons.2 ⟨fun q hq => by have := h1 q hq; simp only; omega, h2⟩
      · rw [if_neg c2]
        refine srt_cons.2 ⟨fun q hq => ?_, hs⟩
        rcases List.mem_cons.1 hq with rfl | hq
        · simp only; omega
        · have := h1 q hq; simp only; omega
theorem put_pos {l : List Pr} {k : Int} {n : Nat} (hp : Pos l) (hn : 0 < n) : Pos (put l k n) := by
  induction l with
  | nil => intro q hq; simp [put] at hq; subst hq; exact hn
  | cons p l ih =>
    obtain ⟨h1, h2⟩ := pos_cons.1 hp
    rw [put]
    by_cases c1 : p.1 < k
    · rw [if_pos c1]; exact pos_cons.2 ⟨h1, ih h2⟩
    · rw [if_neg c1]
      by_cases c2 : p.1 = k
      · rw [if_pos c2]; exact pos_cons.2 ⟨by simp only; omega, h2⟩
      · rw [if_neg c2]; exact pos_cons.2 ⟨hn, hp⟩
theorem put_cnt {l : List Pr} {k : Int} {n : Nat} (hs : Srt l) (j : Int) : cnt (put l k n) j = cnt l j + if j = k then n else 0 := by
  induction l with
  | nil =>
    rw [put, cnt, cnt]
    by_cases h : j = k
    · subst h; simp
    · rw [if_neg (fun e => h e.symm), if_neg h]; rfl
  | cons p l ih =>
    obtain ⟨h1, h2⟩ := srt_cons.1 hs
    rw [put]
    by_cases c1 : p.1 < k
    · rw [if_pos c1, cnt, cnt]
      by_cases hj : p.1 = j
      · rw [if_pos hj, if_pos hj, if_neg (by omega)]; omega
      · rw [if_neg hj, if_neg hj]; exact ih h2
    · rw [if_neg c1]
      by_cases c2 : p.1 = k
      · rw [if_pos c2, cnt, cnt]
        by_cases hj : j = k
        · subst hj; rw [if_pos rfl, if_pos c2, if_pos rfl]
        · rw [if_neg (fun e => hj e.symm), if_neg (fun e => hj (by omega)), if_neg hj]; omega
      · rw [if_neg c2, cnt]
        by_cases hj : j = k
        · subst hj
          rw [if_pos rfl, if_pos rfl, cnt, if_neg c2, cnt_lt (fun q hq => by have := h1 q hq; omega)]; omega
        · simp only
          rw [if_neg (fun e => hj e.symm), if_neg hj]; omega
theorem put_tot {l : List Pr} {k : Int} {n : Nat} : tot (put l k n) = tot l + n := by
  induction l with
  | nil => simp [put, tot]
  | cons p l ih =>
    rw [put]
    by_cases c1 : p.1 < k
    · rw [if_pos c1, tot_cons, tot_cons, ih]; omega
    · rw [if_neg c1]
      by_cases c2 : p.1 = k
      · rw [if_pos c2, tot_cons, tot_cons]; simp only; omega
      · rw [if_neg c2, tot_cons, tot_cons]; simp only; omega
theorem put_ne {l : List Pr} {k : Int} {n : Nat} : put l k n ≠ [] := by
  cases l with
  | nil => simp [put]
  | cons p l =>
    rw [put]
    by_cases c1 : p.1 < k
    · rw [if_pos c1]; simp
    · rw [if_neg c1]
      by_cases c2 : p.1 = k
      · rw [if_pos c2]; simp
      · rw [if_neg c2]; simp
theorem put_len {l : List Pr} {k : Int} {n : Nat} : (put l k n).length ≤ l.length + 1 := by
  induction l with
  | nil => simp [put]
  | cons p l ih =>
    rw [put]
    by_cases c1 : p.1 < k
    · rw [if_pos c1]; simp; omega
    · rw [if_neg c1]
      by_cases c2 : p.1 = k
      · rw [if_pos c2]; simp
      · rw [if_neg c2]; simp
theorem without_srt {l : List Pr} {k : Int} (hs : Srt l) : Srt (without l k) := List.Pairwise.filter _ hs
theorem without_pos {l : List Pr} {k : Int} (hp : Pos l) : Pos (without l k) := fun p h => hp p (List.mem_filter.1 h).1
theorem without_cnt {l : List Pr} {k : Int} (j : Int) : cnt (without l k) j = if j = k then 0 else cnt l j := by
  induction l with
  | nil => simp [without, cnt]
  | cons p l ih =>
    unfold without at ih ⊢
    rw [List.filter_cons]
    by_cases hk : p.1 = k
    · have : (p.1 != k) = false := by simp [hk]
      rw [this, if_neg (by simp), ih, cnt]
      by_cases hj : j = k
      · rw [if_pos hj, if_pos hj]
      · rw [if_neg hj, if_neg hj, if_neg (by omega)]
    · have : (p.1 != k) = true := by simp [hk]
      rw [this, if_pos rfl, cnt, ih, cnt]
      by_cases hj : p.1 = j
      · rw [if_pos hj, if_neg (by omega), if_pos hj]
      · rw [if_neg hj, if_neg hj]
theorem tot_le_of_mem {l : List Pr} {p : Pr} (h : p ∈ l) : p.2 ≤ tot l := by
  induction l with
  | nil => cases h
  | cons q l ih =>
    rw [tot_cons]
    rcases List.mem_cons.1 h with rfl | h
    · omega
    · have := ih h; omega
theorem without_tot {l : List Pr} {k : Int} (hs : Srt l) : tot (without l k) + cnt l k = tot l := by
  induction l with
  | nil => simp [without, tot, cnt]
  | cons p l ih =>
    obtain ⟨h1, h2⟩ := srt_cons.1 hs
    have ih := ih h2
    unfold without at ih ⊢
    rw [List.filter_cons, cnt, tot_cons]
    by_cases hk : p.1 = k
    · have : (p.1 != k) = false := by simp [hk]
      rw [this, if_neg (by simp), if_pos hk]
      rw [cnt_lt (l := l) (fun q hq => by have := h1 q hq; omega)] at ih
      omega
    · have : (p.1 != k) = true := by simp [hk]
      rw [this, if_pos rfl, if_neg hk, tot_cons]
      omega
/-- All pairs of m, too. -/
def puts (l m : List Pr) : List Pr := m.foldl (fun o p => put o p.1 p.2) l
theorem puts_nil (l : List Pr) : puts l [] = l := rfl
theorem puts_snoc (l m : List Pr) (p : Pr) : puts l (m ++ [p]) = put (puts l m) p.1 p.2 := by simp [puts]
theorem puts_facts {l m : List Pr} (hs : Srt l) (hp : Pos l) (hm : Pos m) : Srt (puts l m) ∧ Pos (puts l m) ∧ tot (puts l m) = tot l + tot m := by
  induction m generalizing l with
  | nil => exact ⟨hs, hp, by simp [puts, tot]⟩
  | cons p m ih =>
    obtain ⟨h1, h2⟩ := pos_cons.1 hm
    obtain ⟨a, b, c⟩ := ih (l := put l p.1 p.2) (put_srt hs) (put_pos hp h1) h2
    exact ⟨a, b, by rw [show puts l (p :: m) = puts (put l p.1 p.2) m from rfl, c, put_tot, tot_cons]; omega⟩
theorem puts_cnt {l m : List Pr} (hs : Srt l) (hm : Srt m) (j : Int) : cnt (puts l m) j = cnt l j + cnt m j := by
  induction m generalizing l with
  | nil => simp [puts, cnt]
  | cons p m ih =>
    obtain ⟨h1, h2⟩ := srt_cons.1 hm
    rw [show puts l (p :: m) = puts (put l p.1 p.2) m from rfl, ih (put_srt hs) h2, put_cnt hs, cnt]
    by_cases hj : p.1 = j
    · subst hj
      rw [if_pos rfl, if_pos rfl, cnt_lt h1]; omega
    · rw [if_neg hj, if_neg (fun e => hj e.symm)]; omega
theorem puts_len {l m : List Pr} : (puts l m).length ≤ l.length + m.length := by
  induction m generalizing l with
  | nil => simp [puts]
  | cons p m ih =>
    have h1 := ih (l := put l p.1 p.2)
    have h2 := put_len (l := l) (k := p.1) (n := p.2)
    rw [show puts l (p :: m) = puts (put l p.1 p.2) m from rfl]
    simp only [List.length_cons]; omega
end Pl
end Go.Proofs.Ytbfhiegbgkkgiaa
/- Slices of pairs in memory: two cells an element. -/

namespace Go.Proofs.Ytbfhiegbgkkgiaa
open Go.RowKit
def pcell (p : Pr) : List Value := [.int .i64 p.1, .int .u64 (p.2 : Nat)]
def pcs : List Pr → List Value
  | [] => []
  | p :: l => .int .i64 p.1 :: .int .u64 (p.2 : Nat) :: pcs l
theorem pcs_append (l m : List Pr) : pcs (l ++ m) = pcs l ++ pcs m := by
  induction l with
  | nil => rfl
  | cons p l ih => simp [pcs, ih]
theorem pcs_length (l : List Pr) : (pcs l).length = l.length * 2 := by
  induction l with
  | nil => rfl
  | cons p l ih => simp only [pcs, List.length_cons, ih]; omega
theorem pcs_one (l : List Pr) : ∀ u ∈ pcs l, u.oneCell' = true := by
  induction l with
  | nil => intro u h; cases h
  | cons p l ih =>
    intro u h
    simp only [pcs, List.mem_cons] at h
    rcases h with rfl | rfl | h
    · rfl
    · rfl
    · exact ih u h
theorem pcs_key {l : List Pr} {i : Nat} {p : Pr} (h : l[i]? = some p) : (pcs l)[i * 2]? = some (.int .i64 p.1) ∧ (pcs l)[i * 2 + 1]? = some (.int .u64 (p.2 : Nat)) := by
  induction l generalizing i with
  | nil => simp at h
  | cons q l ih =>
    cases i with
    | zero =>
      simp at h
      subst h
      simp [pcs]
    | succ i =>
      have := ih (i := i) (by simpa using h)
      rw [show (i + 1) * 2 = i * 2 + 2 by omega]
      simpa [pcs] using this
theorem pcs_set {l : List Pr} {i : Nat} {p q : Pr} (h : l[i]? = some p) : ((pcs l).set (i * 2) (.int .i64 q.1)).set (i * 2 + 1) (.int .u64 (q.2 : Nat)) = pcs (l.set i q) := by
  induction l generalizing i with
  | nil => simp at h
  | cons r l ih =>
    cases i with
    | zero => simp [pcs]
    | succ i =>
      have := ih (i := i) (by simpa using h)
      rw [show (i + 1) * 2 = i * 2 + 2 by omega]
      simpa [pcs] using this
set_option maxRecDepth 100000 in
theorem elem_pair : Elem Try.prog 34 62 2 16 := elem_of Try.underlying34 (z := .agg #[.int .i64 0, .int .u64 0]) (by kernel_rfl) (by decide) (by decide)
/-- The slice '.slice A L.length _' holds the pairs L and lies below block B. -/
def Prs (w : World) (B : Nat) (A : Option Addr) (L : List Pr) : Prop := Reads w B 2 A L.length (pcs L)
section
variable {w w' : World} {B : Nat} {A : Option Addr} {L : List Pr}
theorem Prs.at_ (h : Prs w B A L) (hn : 0 < L.length) : ∃ b o, A = some ⟨b, o, none⟩ ∧ b < B ∧ ∀ i p, L[i]? = some p → w.cell? ⟨b, o + i * 2, none⟩ = some (.int .i64 p.1) ∧ w.cell? ⟨b, o + i * 2 + 1, none⟩ = some (.int .u64 (p.2 : Nat)) := by
  obtain ⟨b, o, e, hb, hc⟩ := h.2 hn
  refine ⟨b, o, e, hb, fun i p hp => ?_⟩
  obtain ⟨h1, h2⟩ := pcs_key hp
  exact ⟨hc _ _ h1, by have := hc _ _ h2; rwa [← Nat.add_assoc] at this⟩
theorem Prs.below (h : Prs w B A L) (hb : Below B w w') : Prs w' B A L := Reads.below h hb
theorem Prs.at_below (h : Prs w w.heap.size A L) (hb : Below w.heap.size w w') : Prs w' w'.heap.size A L := Reads.at_below h hb
theorem Prs.empty (w : World) (B : Nat) (A : Option Addr) : Prs w B A [] := Reads.empty w B 2 A
end
theorem pair_new (w : World) (k : Int) (n : Nat) : Reads (w.alloc (.cells #[.int .i64 k, .int .u64 (n : Int)] 62)) (w.alloc (.cells #[.int .i64 k, .int .u64 (n : Int)] 62)).heap.size 2 (some ⟨w.heap.size, 0, none⟩) 1 (pcs [(k, n)]) :=
  Reads.lit (newest _ _) rfl rfl
/-- A slice of pairs of the call's own. -/
def OwnP (w : World) (base : Nat) (A : Option Addr) (c : Nat) (L : List Pr) : Prop := Own w base 62 2 A L.length c (pcs L)
theorem OwnP.reads {w : World} {base : Nat} {A : Option Addr} {c : Nat} {L : List Pr} (h : OwnP w base A c L) : Prs w w.heap.size A L := Own.reads h
end Go.Proofs.Ytbfhiegbgkkgiaa
/- The document's functions on lists of pairs, walked: Same, Total, Count, Put. -/

namespace Go.Proofs.Ytbfhiegbgkkgiaa
open Go.RowKit
open Pl

theorem prs_len_ok {w : World} {B : Nat} {A : Option Addr} {L : List Pr} (_h : Prs w B A L) : True := trivial
theorem tot_take {L : List Pr} {k : Nat} (h : k < L.length) : tot (L.take (k + 1)) = tot (L.take k) + L[k].2 := by
  rw [List.take_succ_eq_append_getElem h, tot_append]; simp [tot]
theorem tot_take_le {L : List Pr} {k : Nat} : tot (L.take k) ≤ tot L := by
  have := tot_append (L.take k) (L.drop k)
  rw [List.take_append_drop] at this
  omega
theorem cnt_drop {L : List Pr} {k : Nat} {key : Int} (h : k < L.length) : cnt (L.drop k) key = if L[k].1 = key then L[k].2 else cnt (L.drop (k + 1)) key := by
  rw [List.drop_eq_getElem_cons h, cnt]
/-- A new list in memory of the call's own. -/
def NewPairs (L : List Pr) (w : World) (e : Ending) (w' : World) : Prop := ∃ A c, e = .returned (.slice A L.length c) ∧ OwnP w' w.heap.size A c L ∧ Below w.heap.size w w'
theorem own_snoc {w : World} {base : Nat} {A : Option Addr} {n c : Nat} {L M : List Pr} (h : Own w base 62 2 A n c (pcs M)) (hM : M = L) : OwnP w base A c L := by
  subst hM
  have h1 := h.len
  rw [pcs_length] at h1
  have : n = M.length := by omega
  subst this
  exact h
theorem drop_cons {L : List Pr} {k : Nat} {p : Pr} (hp : L[k]? = some p) : L.drop k = p :: L.drop (k + 1) := by
  obtain ⟨h, e⟩ := List.getElem?_eq_some_iff.1 hp
  rw [← e]
  exact List.drop_eq_getElem_cons h
theorem put_drop {L : List Pr} {k : Nat} {key x1 : Int} {n x2 : Nat} (hp : L[k]? = some (x1, x2)) : put (L.drop k) key n = if x1 < key then (x1, x2) :: put (L.drop (k + 1)) key n else if x1 = key then (key, x2 + n) :: L.drop (k + 1) else (key, n) :: (x1, x2) :: L.drop (k + 1) := by
  rw [drop_cons hp, put]
end Go.Proofs.Ytbfhiegbgkkgiaa
/- The document's Wide, Add, walked. -/

namespace Go.Proofs.Ytbfhiegbgkkgiaa
open Go.RowKit
open Pl

/-- How many keys a window has over a list, and a key more. -/
def wideL (L : List Pr) (k : Int) : Int := match L.head?, L.getLast? with
  | some p, some q => max k q.1 - min k p.1 + 1
  | _, _ => 1
def KeysIn (L : List Pr) : Prop := ∀ p ∈ L, -1048576 ≤ p.1 ∧ p.1 ≤ 1048576
/-- The document's Add: the list, the error's number; window 0: there is none. -/
def radd (L : List Pr) (k : Int) (n W : Nat) : List Pr × Int :=
  if n = 0 then (L, 4) else if k < -1048576 ∨ 1048576 < k then (L, 5) else if 0 < W ∧ (W : Int) < wideL L k then (L, 130) else if 4611686018427387904 - tot L < n then (L, 6) else (put L k n, 0)
def RAdd (base : Nat) (w : World) (R : List Pr × Int) (e : Ending) (w' : World) : Prop :=
  ∃ A c, e = .returned (.tuple #[.slice A R.1.length c, .int .i64 R.2]) ∧ OwnP w' base A c R.1 ∧ Below w.heap.size w w'
end Go.Proofs.Ytbfhiegbgkkgiaa
/- The document's Take without a window, walked (after Ref13C). -/

namespace Go.Proofs.Ytbfhiegbgkkgiaa
open Go.RowKit
open Pl
/-- The document's Take: the list, the error's number; window 0: there is none. -/
def wideLL (L M : List Pr) : Int := match L.head?, L.getLast?, M.head?, M.getLast? with
  | some p, some q, some p', some q' => max q.1 q'.1 - min p.1 p'.1 + 1
  | _, _, _, _ => 0
def rtake (L M : List Pr) (W : Nat) : List Pr × Int :=
  if M = [] then (L, 0) else if 0 < W ∧ L ≠ [] ∧ (W : Int) < wideLL L M then (L, 130) else if 4611686018427387904 - tot L < tot M then (L, 6) else (puts L M, 0)
theorem nat_len_zero {α : Type} {l : List α} (h : l.length = 0) : ((l.length : Int) == 0) = true := by simp; exact List.length_eq_zero_iff.1 h
theorem nat_len_ne {α : Type} {l : List α} (h : l ≠ []) : ((l.length : Int) == 0) = false := by simp [h]
theorem puts_tot {L M : List Pr} : tot (puts L M) = tot L + tot M := by
  induction M generalizing L with
  | nil => simp [puts, tot]
  | cons p M ih => rw [show puts L (p :: M) = puts (put L p.1 p.2) M from rfl, ih, put_tot, tot_cons]; omega
theorem rtake0 (L M : List Pr) : rtake L M 0 = if M = [] then (L, 0) else if 4611686018427387904 - tot L < tot M then (L, 6) else (puts L M, 0) := by
  unfold rtake
  rw [if_neg (show ¬ (0 < 0 ∧ L ≠ [] ∧ ((0 : Nat) : Int) < wideLL L M) from fun h => absurd h.1 (by decide))]
end Go.Proofs.Ytbfhiegbgkkgiaa
/- Sparse lists of pairs, plain: places, sums, what an insertion makes. No program. -/

namespace Go.Proofs.Ytbfhiegbgkkgiaa
namespace Pl
/-- How many keys are less than k. -/
def lo (L : List Pr) (k : Int) : Nat := L.countP (fun p => decide (p.1 < k))
theorem lo_le (L : List Pr) (k : Int) : lo L k ≤ L.length := List.countP_le_length
theorem lo_cons (p : Pr) (L : List Pr) (k : Int) : lo (p :: L) k = lo L k + if p.1 < k then 1 else 0 := by
  unfold lo
  rw [List.countP_cons]
  by_cases h : p.1 < k <;> simp [h]
theorem lo_zero {L : List Pr} {k : Int} (h : ∀ q ∈ L, k ≤ q.1) : lo L k = 0 := by
  unfold lo
  rw [List.countP_eq_zero]
  intro q hq
  have := h q hq
  simp
  omega
theorem lo_iff {L : List Pr} (hs : Srt L) {k : Int} : ∀ {i : Nat} {p : Pr}, L[i]? = some p → (p.1 < k ↔ i < lo L k) := by
  induction L with
  | nil => intro i p h; simp at h
  | cons q L ih =>
    intro i p h
    obtain ⟨h1, h2⟩ := srt_cons.1 hs
    rw [lo_cons]
    cases i with
    | zero =>
      simp at h
      subst h
      by_cases hk : q.1 < k
      · rw [if_pos hk]; omega
      · rw [if_neg hk, lo_zero (fun r hr => by have := h1 r hr; omega)]; omega
    | succ i =>
      have h3 := ih h2 (i := i) (p := p) (by simpa using h)
      have h4 := h1 p (List.mem_of_getElem? (by simpa using h))
      by_cases hk : q.1 < k
      · rw [if_pos hk]; omega
      · rw [if_neg hk, lo_zero (fun r hr => by have := h1 r hr; omega)]; omega
/-- Is there the key k? -/
def hasK (L : List Pr) (k : Int) : Bool := match L[lo L k]? with
  | some p => decide (p.1 = k)
  | none => false
theorem put_cons_lt {p : Pr} {L : List Pr} {k : Int} {n : Nat} (h : p.1 < k) : put (p :: L) k n = p :: put L k n := by rw [put, if_pos h]
/-- A key that isn't there is inserted at its place. -/
theorem put_ins {L : List Pr} (hs : Srt L) {k : Int} {n : Nat} (h : hasK L k = false) : put L k n = L.take (lo L k) ++ (k, n) :: L.drop (lo L k) := by
  induction L with
  | nil => rfl
  | cons p L ih =>
    obtain ⟨h1, h2⟩ := srt_cons.1 hs
    by_cases hk : p.1 < k
    · have e : lo (p :: L) k = lo L k + 1 := by rw [lo_cons, if_pos hk]
      have h3 : hasK L k = false := by
        unfold hasK at h ⊢
        rw [e, List.getElem?_cons_succ] at h
        exact h
      rw [put_cons_lt hk, e, List.take_succ_cons, List.drop_succ_cons, ih h2 h3]
      rfl
    · have e : lo (p :: L) k = 0 := by rw [lo_cons, if_neg hk, lo_zero (fun r hr => by have := h1 r hr; omega)]
      have h3 : p.1 ≠ k := by
        unfold hasK at h
        rw [e] at h
        simpa using h
      rw [put, if_neg hk, if_neg h3, e]
      rfl
/-- A key that is there counts n more. -/
theorem put_set {L : List Pr} (hs : Srt L) {k : Int} {n : Nat} (h : hasK L k = true) : ∃ m, L[lo L k]? = some (k, m) ∧ put L k n = L.set (lo L k) (k, m + n) := by
  induction L with
  | nil => simp [hasK] at h
  | cons p L ih =>
    obtain ⟨h1, h2⟩ := srt_cons.1 hs
    by_cases hk : p.1 < k
    · have e : lo (p :: L) k = lo L k + 1 := by rw [lo_cons, if_pos hk]
      have h3 : hasK L k = true := by
        unfold hasK at h ⊢
        rw [e, List.getElem?_cons_succ] at h
        exact h
      obtain ⟨m, h4, h5⟩ := ih h2 h3
      exact ⟨m, by rw [e, List.getElem?_cons_succ, h4], by rw [put_cons_lt hk, e, List.set_cons_succ, h5]⟩
    · have e : lo (p :: L) k = 0 := by rw [lo_cons, if_neg hk, lo_zero (fun r hr => by have := h1 r hr; omega)]
      have h3 : p.1 = k := by
        unfold hasK at h
        rw [e] at h
        simpa using h
      refine ⟨p.2, by rw [e, ← h3]; rfl, ?_⟩
      rw [put, if_neg hk, if_pos h3, e]
      rfl
theorem hasK_of {L : List Pr} {k : Int} {p : Pr} (h : L[lo L k]? = some p) : hasK L k = decide (p.1 = k) := by unfold hasK; rw [h]
theorem hasK_end {L : List Pr} {k : Int} (h : L.length ≤ lo L k) : hasK L k = false := by unfold hasK; rw [List.getElem?_eq_none h]
theorem tot_take_next {L : List Pr} {i : Nat} {p : Pr} (h : L[i]? = some p) : tot (L.take (i + 1)) = tot (L.take i) + p.2 := by
  rw [List.take_add_one, h, tot_append]
  simp [tot]
theorem tot_take_le' (L : List Pr) (i : Nat) : tot (L.take i) ≤ tot L := by
  have h : tot (L.take i) + tot (L.drop i) = tot L := by rw [← tot_append, List.take_append_drop]
  omega
/-- The sum of all with lesser keys. -/
def below (L : List Pr) (k : Int) : Nat := tot (L.filter (fun p => decide (p.1 < k)))
theorem below_take {L : List Pr} (hs : Srt L) (k : Int) : below L k = tot (L.take (lo L k)) := by
  induction L with
  | nil => rfl
  | cons p L ih =>
    obtain ⟨h1, h2⟩ := srt_cons.1 hs
    unfold below at ih ⊢
    rw [lo_cons, List.filter_cons]
    by_cases hk : p.1 < k
    · rw [if_pos (by simpa using hk), if_pos hk, List.take_succ_cons, tot_cons, tot_cons, ih h2]
    · rw [if_neg (by simpa using hk), if_neg hk, ih h2, lo_zero (fun r hr => by have := h1 r hr; omega)]
      rfl
theorem hasK_iff {L : List Pr} (hs : Srt L) {k : Int} : hasK L k = true ↔ ∃ p ∈ L, p.1 = k := by
  constructor
  · intro h
    obtain ⟨m, h1, _⟩ := put_set hs (n := 0) h
    exact ⟨(k, m), List.mem_of_getElem? h1, rfl⟩
  · rintro ⟨p, hp, rfl⟩
    cases hh : hasK L p.1 with
    | true => rfl
    | false =>
      exfalso
      obtain ⟨i, hi⟩ := List.mem_iff_getElem?.1 hp
      have h1 := lo_iff hs (k := p.1) hi
      have hge : lo L p.1 ≤ i := by
        rcases Nat.lt_or_ge i (lo L p.1) with h | h
        · have := h1.2 h; omega
        · exact h
      have hlt : lo L p.1 < L.length := Nat.lt_of_le_of_lt hge (List.getElem?_eq_some_iff.1 hi).1
      obtain ⟨q, hq⟩ : ∃ q, L[lo L p.1]? = some q := ⟨_, List.getElem?_eq_getElem hlt⟩
      have h2 := lo_iff hs (k := p.1) hq
      have h3 : q.1 ≠ p.1 := by
        rw [hasK_of hq] at hh
        exact of_decide_eq_false hh
      rcases Nat.lt_or_ge (lo L p.1) i with h | h
      · have h4 := List.pairwise_iff_getElem.1 hs (lo L p.1) i hlt (List.getElem?_eq_some_iff.1 hi).1 h
        rw [(List.getElem?_eq_some_iff.1 hq).2, (List.getElem?_eq_some_iff.1 hi).2] at h4
        have : ¬ q.1 < p.1 := fun h => absurd (h2.1 h) (Nat.lt_irrefl _)
        omega
      · have : lo L p.1 = i := by omega
        rw [this, hi] at hq
        injection hq with hq
        exact h3 (by rw [hq])
theorem lo_succ {L : List Pr} (hs : Srt L) (k : Int) : lo L (k + 1) = lo L k + if hasK L k then 1 else 0 := by
  induction L with
  | nil => rfl
  | cons p L ih =>
    obtain ⟨h1, h2⟩ := srt_cons.1 hs
    rw [lo_cons, lo_cons, ih h2]
    by_cases hk : p.1 < k
    · have e : hasK (p :: L) k = hasK L k := by
        rw [Bool.eq_iff_iff, hasK_iff hs, hasK_iff h2]
        constructor
        · rintro ⟨q, hq, rfl⟩
          rcases List.mem_cons.1 hq with rfl | hq
          · omega
          · exact ⟨q, hq, rfl⟩
        · rintro ⟨q, hq, rfl⟩
          exact ⟨q, List.mem_cons_of_mem _ hq, rfl⟩
      rw [if_pos hk, if_pos (show p.1 < k + 1 by omega), e]
      omega
    · have hz : hasK L k = false := by
        cases hh : hasK L k with
        | false => rfl
        | true =>
          obtain ⟨q, hq, rfl⟩ := (hasK_iff h2).1 hh
          have := h1 q hq
          omega
      rw [if_neg hk, hz, lo_zero (fun r hr => by have := h1 r hr; omega)]
      by_cases he : p.1 = k
      · have : hasK (p :: L) k = true := (hasK_iff hs).2 ⟨p, by simp, he⟩
        rw [this, if_pos (show p.1 < k + 1 by omega)]
        simp
      · have : hasK (p :: L) k = false := by
          cases hh : hasK (p :: L) k with
          | false => rfl
          | true =>
            obtain ⟨q, hq, e⟩ := (hasK_iff hs).1 hh
            rcases List.mem_cons.1 hq with rfl | hq
            · exact absurd e he
            · have := h1 q hq
              omega
        rw [this, if_neg (show ¬ p.1 < k + 1 by omega)]
        simp
/-- Keys have bounds: what is beyond them has no other place. -/
theorem lo_clamp {L : List Pr} (hk : ∀ p ∈ L, -1048576 ≤ p.1 ∧ p.1 ≤ 1048576) {k kk : Int} (h : kk = k ∨ (1048577 ≤ kk ∧ 1048577 ≤ k) ∨ (kk ≤ -1048576 ∧ k ≤ -1048576)) : lo L kk = lo L k := by
  unfold lo
  refine List.countP_congr fun p hp => ?_
  have := hk p hp
  simp only [decide_eq_true_eq]
  omega
/-- The key of a rank. -/
def rank : List Pr → Nat → Int
  | [], _ => 0
  | p :: L, r => if r ≤ p.2 then p.1 else rank L (r - p.2)
theorem rank_at {L : List Pr} {i : Nat} {p : Pr} {r : Nat} (hp : L[i]? = some p) (h1 : tot (L.take i) < r) (h2 : r ≤ tot (L.take i) + p.2) : rank L r = p.1 := by
  induction L generalizing i r with
  | nil => simp at hp
  | cons q L ih =>
    cases i with
    | zero =>
      simp at hp
      subst hp
      rw [List.take_zero, tot_nil] at h1 h2
      rw [rank, if_pos (by omega)]
    | succ i =>
      rw [List.take_succ_cons, tot_cons] at h1 h2
      rw [rank, if_neg (by omega)]
      exact ih (by simpa using hp) (by omega) (by omega)
/-- The m greatest keys; the least of them counts all that is cut off, too. -/
def cutI (L : List Pr) (i : Nat) : List Pr := match L.drop i with
  | [] => []
  | p :: R => (p.1, p.2 + tot (L.take i)) :: R
def cutN (m : Int) : Nat := (max m 1).toNat
def cutL (L : List Pr) (m : Int) : List Pr × Nat := if L.length ≤ cutN m then (L, 0) else (cutI L (L.length - cutN m), tot (L.take (L.length - cutN m)))
theorem cutI_len (L : List Pr) (i : Nat) : (cutI L i).length = L.length - i := by
  unfold cutI
  rw [← List.length_drop]
  cases L.drop i <;> rfl
theorem cutI_tot {L : List Pr} {i : Nat} (h : i < L.length) : tot (cutI L i) = tot L := by
  have h1 : tot (L.take i) + tot (L.drop i) = tot L := by rw [← tot_append, List.take_append_drop]
  unfold cutI
  cases hd : L.drop i with
  | nil =>
    have := congrArg List.length hd
    rw [List.length_drop] at this
    simp at this
    omega
  | cons p R =>
    rw [hd, tot_cons] at h1
    rw [tot_cons]
    omega
theorem drop_srt {L : List Pr} (hs : Srt L) (i : Nat) : Srt (L.drop i) := List.Pairwise.sublist (List.drop_sublist i L) hs
theorem cutI_srt {L : List Pr} (hs : Srt L) (i : Nat) : Srt (cutI L i) := by
  have h := drop_srt hs i
  unfold cutI
  cases hd : L.drop i with
  | nil => exact Srt.nil
  | cons p R =>
    rw [hd] at h
    exact srt_cons.2 ⟨(srt_cons.1 h).1, (srt_cons.1 h).2⟩
theorem cutI_pos {L : List Pr} (hp : Pos L) (i : Nat) : Pos (cutI L i) := by
  have h : Pos (L.drop i) := fun p hq => hp p (List.mem_of_mem_drop hq)
  unfold cutI
  cases hd : L.drop i with
  | nil => exact Pos.nil
  | cons p R =>
    rw [hd] at h
    exact pos_cons.2 ⟨by have := (pos_cons.1 h).1; simp only; omega, (pos_cons.1 h).2⟩
theorem cutI_keys {L : List Pr} {i : Nat} {P : Int → Prop} (h : ∀ p ∈ L, P p.1) : ∀ p ∈ cutI L i, P p.1 := by
  unfold cutI
  cases hd : L.drop i with
  | nil => intro p hp; cases hp
  | cons q R =>
    have hm : ∀ p ∈ q :: R, P p.1 := fun p hp => h p (List.mem_of_mem_drop (by rw [hd]; exact hp))
    intro p hp
    rcases List.mem_cons.1 hp with rfl | hp
    · exact hm q (by simp)
    · exact hm p (by simp [hp])
end Pl
end Go.Proofs.Ytbfhiegbgkkgiaa
/- copy, and append of zero values that must grow, for elements of several cells. Over any program. -/

namespace Go.Proofs.Ytbfhiegbgkkgiaa
open Go.RowKit
section
variable {P : Program} {w : World}
theorem run_copy_sz (dT sT ty elem : TypeId) (g off dLen dCap : Nat) (ad : Addr) (sLen sCap : Nat) (cur : Array Value) (t : TypeId) (cs : List Value) (size n : Nat)
    (hu : P.underlying dT = some (.slice elem)) (hs : (P.info? elem).map (·.size) = some size)
    (hg : w.heap[g]? = some (.cells cur t (0, 0))) (hn : n = Nat.min sLen dLen) (hcs : cs.length = n * size)
    (hsrc : ∀ j v, cs[j]? = some v → w.cell? (ad.add j) = some v) (hfit : off + cs.length ≤ cur.size) (h1 : ∀ v ∈ cs, v.oneCell' = true) :
    (Builtin.copy_ #[dT, sT] ty #[.slice (some ⟨g, off, none⟩) dLen dCap, .slice (some ad) sLen sCap]).run P w =
      .ok (goInt n) (w.setRow g (cur.toList.take off ++ cs ++ cur.toList.drop (off + cs.length)).toArray) := by
  cases hq : P.info? elem with
  | none => simp [hq] at hs
  | some i =>
    have hi : i.size = size := by simpa [hq] using hs
    have hf := run_firstCells_some (P := P) (w := w) i.size n ad sLen sCap cs (by rw [hi]; exact hcs) hsrc
    have hst := run_storeCells_at P g off t cs 0 cur w hg (by simpa using hfit) h1
    simp only [Nat.add_zero] at hst
    simp [Builtin.copy_, run_underlying hu, Builtin.lenOf, sizeOf, typeInfo, hq, ← hn, hf, hst]
theorem wp_copy_run {o : Oper} {a : Act} {K : Act → World → Prop} {Q : Exit → Act → World → Prop} (d s : Operand) (t t' : TypeId)
    (ho : o.op = .call { callee := .builtin .copy, args := #[d, s], argTypes := #[t, t'] }) (v u : Value) (hd : a.eval d = v) (hs : a.eval s = u) {v' : Value} {w' : World}
    (hr : (Builtin.copy_ #[t, t'] o.type #[v, u]).run P w = .ok v' w') (h : K (a.put o.dst v') w') : o.wp P a w K Q := by
  unfold Oper.wp execOp
  simp only [ho, resolve, invoke, builtin, Sem.run_bind, Sem.run_pure, Result.andThen_ok, List.map_toArray, List.map_cons, List.map_nil, hd, hs, hr]
  exact h
theorem wpList_copy_run {ops : Array Oper} {rest : List Oper} {o : Oper} {a : Act} {Q : Exit → Act → World → Prop} (hgd : o.guard = none) (d s : Operand) (t t' : TypeId)
    (ho : o.op = .call { callee := .builtin .copy, args := #[d, s], argTypes := #[t, t'] }) (v u : Value) (hd : a.eval d = v) (hs : a.eval s = u) {v' : Value} {w' : World}
    (hr : (Builtin.copy_ #[t, t'] o.type #[v, u]).run P w = .ok v' w') (h : wpList P ops Q rest (a.put o.dst v') w') : wpList P ops Q (o :: rest) a w :=
  wpList_plain hgd fun _ hK => wp_copy_run d s t t' ho v u hd hs hr (hK _ _ h)
theorem step_copy_run {ops : Array Oper} {o : Oper} {a : Act} {K : Act → World → Prop} {Q : Exit → Act → World → Prop} {E : Prop} (hgd : o.guard = none) (d s : Operand) (t t' : TypeId)
    (ho : o.op = .call { callee := .builtin .copy, args := #[d, s], argTypes := #[t, t'] }) (v u : Value) (hd : a.eval d = v) (hs : a.eval s = u) {v' : Value} {w' : World}
    (hr : (Builtin.copy_ #[t, t'] o.type #[v, u]).run P w = .ok v' w') (h : K (a.put o.dst v') w') :
    if Region.wanted o (yielded ops a.tmps) = true then Oper.wp P o a w K Q else E := by
  have hw : Region.wanted o (yielded ops a.tmps) = true := by simp [Region.wanted, hgd]
  rw [if_pos hw]
  exact wp_copy_run d s t t' ho v u hd hs hr h
/-- 'append(s, make([]T, m)...)' where there is no room: a new row; what stands in its first places is known. -/
theorem run_grow_zeros {t ti ty e : TypeId} {i : TypeInfo} {z : Value} {size bytes : Nat} (ht : P.underlying t = some (.slice e)) (hti : P.underlying ti = some (.int .i64)) (hi : P.info? e = some i) (hz : i.zero = some z) (hsize : i.size = size) (hby : i.bytes = bytes) (hzs : z.cells.size = size)
    (ad : Addr) (n old : Nat) (xs : List Value) (hx : xs.length = n * size) (hc : ∀ j u, xs[j]? = some u → w.cell? (ad.add j) = some u)
    (m : Nat) (hm : 1 ≤ m) (ho : old < n + m) (h63 : n + m ≤ 140737488355328) (hbytes : (n + m) * bytes ≤ 140737488355328) :
    ∃ c' cs, (Builtin.append_ #[t, ti] ty #[.slice (some ad) n old, .int .i64 (m : Int)]).run P w = .ok (.slice (some ⟨w.heap.size, 0, none⟩) (n + m) c') (w.drew.alloc (.cells cs e)) ∧ cs.size = c' * size ∧ n + m ≤ c' ∧ c' ≤ maxLen ∧ cs.toList.take (n * size) = xs := by
  subst hby
  subst hsize
  have hml : n + m ≤ maxLen := by unfold maxLen; omega
  have hmb : m * i.bytes ≤ 140737488355328 := Nat.le_trans (Nat.mul_le_mul_right _ (by omega)) hbytes
  have hwrap : IntKind.i64.wrap (m : Int) = (m : Int) := IntWalk.i64_in _ ⟨by omega, by omega⟩
  have hmb2 : ¬ (281474976710656 : Int) < (m : Int) * (i.bytes : Int) := by
    have : ((m * i.bytes : Nat) : Int) ≤ 140737488355328 := by omega
    rw [Int.natCast_mul] at this
    omega
  have hneg : ¬ ((m : Int) < 0) := by omega
  have h63' : ¬ (9223372036854775807 < ((n : Int) + (m : Int))) := by omega
  have hold' := run_firstCells_some (P := P) (w := w.drew) i.size n ad n old xs hx (by simpa using hc)
  have hnx : Builtin.nextslicecap (n + m) old * i.bytes ≤ 281474976710656 := growslice_fits (by omega) hbytes
  have hge := grownCap_ge w (n + m) old e
  have hcm : grownCap w (n + m) old e ≤ maxLen := grownCap_le_maxLen w (n + m) old e hml
  have hn : ¬ (n + m ≤ old) := by omega
  have h48' : ¬ (281474976710656 < Builtin.nextslicecap (n + m) old * i.bytes) := by omega
  refine ⟨grownCap w (n + m) old e, xs.toArray ++ Builtin.zeroCells z.cells m ++ Builtin.zeroCells z.cells (grownCap w (n + m) old e - (n + m)), ?_, ?_, hge, hcm, ?_⟩
  · simp [Builtin.append_, run_underlying ht, run_underlying hti, sizeOf, typeInfo, zeroValue, hi, hz, asInt, asIntOf, hwrap, hneg, hmb2, hn, h63', h48', Question.forced, hold', newRow, grownCap]
    intro h0
    have e0 : Builtin.zeroCells z.cells m = #[] := Array.eq_empty_of_size_eq_zero (by rw [size_zeroCells, hzs]; exact h0)
    rw [e0]
    simp
  · simp only [Array.size_append, List.size_toArray, size_zeroCells, hzs, hx, ← Nat.add_mul]
    congr 1
    omega
  · simp only [Array.toList_append, List.append_assoc]
    rw [← hx]
    exact List.take_left
theorem wpList_append_run {ops : Array Oper} {rest : List Oper} {o : Oper} {a : Act} {Q : Exit → Act → World → Prop} (hgd : o.guard = none) (d s : Operand) (t t' : TypeId)
    (ho : o.op = .call { callee := .builtin .append, args := #[d, s], argTypes := #[t, t'] }) (v u : Value) (hd : a.eval d = v) (hs : a.eval s = u) {v' : Value} {w' : World}
    (hr : (Builtin.append_ #[t, t'] o.type #[v, u]).run P w = .ok v' w') (h : wpList P ops Q rest (a.put o.dst v') w') : wpList P ops Q (o :: rest) a w :=
  wpList_plain hgd fun _ hK => by
    unfold Oper.wp execOp
    simp only [ho, resolve, invoke, builtin, Sem.run_bind, Sem.run_pure, Result.andThen_ok, List.map_toArray, List.map_cons, List.map_nil, hd, hs, hr]
    exact hK _ _ h
end
end Go.Proofs.Ytbfhiegbgkkgiaa
