/- Lists of pairs counted in any order, plain. -/
import Derived.Test.YtmpmjgoipfgfoaaCoE
namespace Go.Proofs.Ytmpmjgoipfgfoaa
open Pl
/-- How often a key comes among a law's own pairs. -/
def wt (l : List Pr) (j : Int) : Nat := (l.map (fun p => if ck p.1 = j then cn p.2 else 0)).sum
theorem wt_append (l m : List Pr) (j : Int) : wt (l ++ m) j = wt l j + wt m j := by simp [wt]
theorem wt_reverse (l : List Pr) (j : Int) : wt l.reverse j = wt l j := by
  induction l with
  | nil => rfl
  | cons p l ih => rw [List.reverse_cons, wt_append, ih]; simp [wt]; omega
theorem ct_cnt : ∀ (l L : List Pr) (j : Int), Srt L → cnt (l.foldl (fun L p => put L (ck p.1) (cn p.2)) L) j = cnt L j + wt l j ∧ Srt (l.foldl (fun L p => put L (ck p.1) (cn p.2)) L)
  | [], L, j, h => ⟨by simp [wt], h⟩
  | p :: l, L, j, h => by
    obtain ⟨h1, h2⟩ := ct_cnt l (put L (ck p.1) (cn p.2)) j (put_srt h)
    refine ⟨?_, h2⟩
    rw [List.foldl_cons, h1, put_cnt h]
    have e : wt (p :: l) j = (if ck p.1 = j then cn p.2 else 0) + wt l j := by simp [wt]
    rw [e]
    by_cases hj : ck p.1 = j
    · rw [if_pos hj.symm, if_pos hj]; omega
    · rw [if_neg (fun e => hj e.symm), if_neg hj]; omega
theorem cntL_cnt (l : List Pr) (j : Int) : cnt (cntL l) j = wt l j := by
  have h := (ct_cnt l [] j Srt.nil).1
  unfold cntL
  rw [h]
  simp [cnt]
theorem take100 {l : List Pr} (h : l.length ≤ 100) : l.take 100 = l := List.take_of_length_le h
theorem order_eq (a b m : List Pr) (ha : a.length ≤ 50) (hb : b.length ≤ 50) (hm : m.length ≤ 100) (h : ∀ j, wt m j = wt a j + wt b j) : cntL (m.take 100) = puts (cntL (a.take 100)) (cntL (b.take 100)) := by
  obtain ⟨f1, _, _⟩ := cntL_fine a
  obtain ⟨f2, _, _⟩ := cntL_fine b
  obtain ⟨f3, _, _⟩ := cntL_fine m
  obtain ⟨p1, p2, _⟩ := puts_facts f1.srt f1.pos f2.pos
  refine ext f3.srt f3.pos p1 p2 (fun j => ?_)
  rw [puts_cnt f1.srt f2.srt, take100 hm, take100 (by omega : a.length ≤ 100), take100 (by omega : b.length ≤ 100), cntL_cnt, cntL_cnt, cntL_cnt, h]
theorem order_u (a b : List Pr) (ha : a.length ≤ 50) (hb : b.length ≤ 50) : cntL ((a ++ b).take 100) = puts (cntL (a.take 100)) (cntL (b.take 100)) :=
  order_eq a b _ ha hb (by rw [List.length_append]; omega) (fun j => wt_append _ _ _)
theorem order_v (a b : List Pr) (ha : a.length ≤ 50) (hb : b.length ≤ 50) : cntL ((b.reverse ++ a.reverse).take 100) = puts (cntL (a.take 100)) (cntL (b.take 100)) :=
  order_eq a b _ ha hb (by rw [List.length_append, List.length_reverse, List.length_reverse]; omega) (fun j => by rw [wt_append, wt_reverse, wt_reverse]; omega)
theorem order_x (a b : List Pr) : puts (cntL (b.take 100)) (cntL (a.take 100)) = puts (cntL (a.take 100)) (cntL (b.take 100)) := by
  obtain ⟨f1, _, _⟩ := cntL_fine a
  obtain ⟨f2, _, _⟩ := cntL_fine b
  obtain ⟨p1, p2, _⟩ := puts_facts f1.srt f1.pos f2.pos
  obtain ⟨q1, q2, _⟩ := puts_facts f2.srt f2.pos f1.pos
  refine ext q1 q2 p1 p2 (fun j => ?_)
  rw [puts_cnt f1.srt f2.srt, puts_cnt f2.srt f1.srt]
  omega
end Go.Proofs.Ytmpmjgoipfgfoaa
