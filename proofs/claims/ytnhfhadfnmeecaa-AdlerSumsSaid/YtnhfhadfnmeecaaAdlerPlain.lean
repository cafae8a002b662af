/- Adler-32: the plain law, no program in sight. -/
import Derived.Laws.BitsAllLaws
import Derived.Laws.BitsLemmas
namespace Go.Proofs.Ytnhfhadfnmeecaa.Ad

/-- One byte more of the two sums. -/
def st (p : Int × Int) (x : Int) : Int × Int := ((p.1 + x) % 65521, (p.2 + (p.1 + x) % 65521) % 65521)
def of (s : Int) : Int × Int := (s % 65536 % 65521, s / 65536 % 65521)
def bs (l : List UInt8) : List Int := l.map fun b => (b.toNat : Int)
def run (p : Int × Int) (l : List UInt8) : Int × Int := (bs l).foldl st p
def sum (p : Int × Int) : Int := 65536 * p.2 + p.1
def more (s : Int) (l : List UInt8) : Int := sum (run (of s) l)
def ok (p : Int × Int) : Prop := 0 ≤ p.1 ∧ p.1 ≤ 65520 ∧ 0 ≤ p.2 ∧ p.2 ≤ 65520

theorem ok_st (p : Int × Int) (x : Int) : ok (st p x) := by unfold ok st; omega
theorem ok_of (s : Int) : ok (of s) := by unfold ok of; omega
theorem ok_foldl (l : List Int) : ∀ p, ok p → ok (l.foldl st p) := by
  induction l with
  | nil => intro p h; exact h
  | cons x l ih => intro p _; exact ih _ (ok_st p x)
theorem ok_run (p : Int × Int) (l : List UInt8) (h : ok p) : ok (run p l) := ok_foldl _ _ h
theorem run_snoc (p : Int × Int) (l : List UInt8) (k : Nat) (hk : k < l.length) : run p (l.take (k + 1)) = st (run p (l.take k)) (l[k].toNat : Int) := by
  simp only [run, bs]
  rw [List.take_succ_eq_append_getElem hk, List.map_append, List.foldl_append]; rfl
theorem run_append (p : Int × Int) (l m : List UInt8) : run p (l ++ m) = run (run p l) m := by simp [run, bs]
theorem more_range (s : Int) (l : List UInt8) : 0 ≤ more s l ∧ more s l ≤ 4294967295 := by
  have := ok_run (of s) l (ok_of s)
  unfold ok at this
  unfold more sum
  omega
theorem of_sum (p : Int × Int) (h : ok p) : of (sum p) = p := by
  unfold ok at h; unfold of sum
  obtain ⟨a, b⟩ := p
  simp only at h ⊢
  congr 1 <;> omega
theorem more_append (s : Int) (l m : List UInt8) : more s (l ++ m) = more (more s l) m := by
  unfold more
  rw [run_append, of_sum _ (ok_run _ _ (ok_of s))]

theorem st_eq (a b x : Int) : st (a, b) x = ((a + x) % 65521, (b + (a + x)) % 65521) := by unfold st; simp only; congr 1; omega
/-- The law of joining. -/
def join (s t n : Int) : Int :=
  let m := n % 65521
  let a := ((of s).1 + 65520) % 65521
  sum ((a + (of t).1) % 65521, ((of s).2 + (of t).2 + m * a) % 65521)

theorem fold_lin (l : List Int) : ∀ a b, 
    (l.foldl st (a, b)).1 % 65521 = (a + l.sum) % 65521 := by
  induction l with
  | nil => intro a b; simp
  | cons x l ih =>
    intro a b
    simp only [List.foldl_cons, List.sum_cons, st]
    rw [ih]
    omega

/-- What b gains of a: from a start (a, b), the second number is b + n*a + what (0, 0) comes to. -/
theorem fold_snd (l : List Int) : ∀ a b, 
    (l.foldl st (a, b)).2 % 65521 = (b + l.length * a + (l.foldl st (0, 0)).2) % 65521 := by
  have core : ∀ (l : List Int) (a b a' b' : Int), ((l.foldl st (a, b)).2 - (l.foldl st (a', b')).2) % 65521 = ((b - b') + l.length * (a - a')) % 65521 := by
    intro l
    induction l with
    | nil => intro a b a' b'; simp
    | cons x l ih =>
      intro a b a' b'
      simp only [List.foldl_cons, st]
      rw [ih]
      have e : ((x :: l).length : Int) * (a - a') = (l.length : Int) * (a - a') + (a - a') := by
        simp only [List.length_cons, Int.natCast_add, Int.add_mul]; simp
      rw [e]
      have h1 : ∃ q, (a + x) % 65521 - (a' + x) % 65521 = (a - a') + 65521 * q := ⟨((a - a') - ((a + x) % 65521 - (a' + x) % 65521)) / 65521 * (-1), by omega⟩
      obtain ⟨q, hq⟩ := h1
      have h2 : (l.length : Int) * ((a + x) % 65521 - (a' + x) % 65521) = (l.length : Int) * (a - a') + 65521 * ((l.length : Int) * q) := by
        rw [hq, Int.mul_add, ← Int.mul_assoc, Int.mul_comm (l.length : Int) 65521, Int.mul_assoc]
      rw [h2]
      generalize (l.length : Int) * (a - a') = u
      generalize (l.length : Int) * q = v
      omega
  intro a b
  have := core l a b 0 0
  simp only [Int.sub_zero] at this
  omega

theorem join_sums (l m : List UInt8) : join (more 1 l) (more 1 m) m.length = more 1 (l ++ m) := by
  have o1 : ok (of 1) := ok_of 1
  have ol := ok_run (of 1) l o1
  have om := ok_run (of 1) m o1
  rw [more_append 1]
  have e1 : of (more 1 l) = run (of 1) l := of_sum _ ol
  have e2 : of (more 1 m) = run (of 1) m := of_sum _ om
  unfold join
  rw [e1, e2]
  show _ = sum (run (of (more 1 l)) m)
  rw [e1]
  have h1 : of 1 = (1, 0) := by decide
  have oo := ok_run (run (of 1) l) m ol
  generalize hp : run (of 1) l = p at *
  have g1 : (run p m).1 % 65521 = (p.1 + (bs m).sum) % 65521 := fold_lin (bs m) p.1 p.2
  have g2 : (run p m).2 % 65521 = (p.2 + (bs m).length * p.1 + ((bs m).foldl st (0, 0)).2) % 65521 := fold_snd (bs m) p.1 p.2
  have g3 : (run (of 1) m).1 % 65521 = (1 + (bs m).sum) % 65521 := by rw [h1]; exact fold_lin (bs m) 1 0
  have g4 : (run (of 1) m).2 % 65521 = (0 + (bs m).length * 1 + ((bs m).foldl st (0, 0)).2) % 65521 := by rw [h1]; exact fold_snd (bs m) 1 0
  have el : (bs m).length = m.length := by simp [bs]
  rw [el] at g2 g4
  generalize run (of 1) m = q at *
  generalize run p m = r at *
  generalize (bs m).sum = S at *
  generalize ((bs m).foldl st (0, 0)).2 = T at *
  unfold ok at *
  obtain ⟨p1, p2⟩ := p
  obtain ⟨q1, q2⟩ := q
  obtain ⟨r1, r2⟩ := r
  simp only at *
  have k1 : (p1 + 65520) % 65521 = p1 - 1 + 65521 * (if p1 = 0 then 1 else 0) := by split <;> omega
  have k2 : ∃ z, (m.length : Int) % 65521 * ((p1 + 65520) % 65521) = (m.length : Int) * p1 - m.length + 65521 * z := by
    rw [k1]
    generalize (if p1 = 0 then (1 : Int) else 0) = y
    refine ⟨(m.length : Int) % 65521 * y - (m.length : Int) / 65521 * (p1 - 1), ?_⟩
    have hd := Int.emod_add_mul_ediv (m.length : Int) 65521
    generalize (m.length : Int) % 65521 = A at *
    generalize (m.length : Int) / 65521 = B at *
    rw [← hd]
    simp only [Int.mul_add, Int.add_mul, Int.mul_sub, Int.mul_one, Int.mul_assoc, Int.mul_left_comm A 65521 y]
    omega
  obtain ⟨z, hz⟩ := k2
  rw [hz]
  generalize (m.length : Int) * p1 = u at *
  unfold sum
  simp only
  omega

/-- One byte turned: another sum. -/
theorem other_byte (l m : List UInt8) (x y : UInt8) (h : x ≠ y) : more 1 (l ++ x :: m) ≠ more 1 (l ++ y :: m) := by
  intro e
  have o1 : ok (of 1) := ok_of 1
  have oa := ok_run (of 1) (l ++ x :: m) o1
  have ob := ok_run (of 1) (l ++ y :: m) o1
  have f : run (of 1) (l ++ x :: m) = run (of 1) (l ++ y :: m) := by
    have := congrArg of e
    unfold more at this
    rwa [of_sum _ oa, of_sum _ ob] at this
  have h1 : of 1 = (1, 0) := by decide
  have ga : (run (of 1) (l ++ x :: m)).1 % 65521 = (1 + (bs (l ++ x :: m)).sum) % 65521 := by rw [h1]; exact fold_lin _ 1 0
  have gb : (run (of 1) (l ++ y :: m)).1 % 65521 = (1 + (bs (l ++ y :: m)).sum) % 65521 := by rw [h1]; exact fold_lin _ 1 0
  rw [f] at ga
  rw [ga] at gb
  simp only [bs, List.map_append, List.map_cons, List.sum_append, List.sum_cons] at gb
  have hx := x.toNat_lt
  have hy := y.toNat_lt
  have hne : x.toNat ≠ y.toNat := fun e => h (UInt8.toNat_inj.1 e)
  omega
end Go.Proofs.Ytnhfhadfnmeecaa.Ad
