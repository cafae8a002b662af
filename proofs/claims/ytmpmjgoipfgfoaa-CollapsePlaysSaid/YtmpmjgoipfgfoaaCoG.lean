/- What holds between the steps of scripts: few keys; many stores apart from each other. -/
import Derived.Test.YtmpmjgoipfgfoaaCoE
namespace Go.Proofs.Ytmpmjgoipfgfoaa
open Go.RowKit
open Pl
/-- A script's lists: fine, with few keys. -/
def upd {α : Type} (S : Nat → α) (a : Nat) (x : α) : Nat → α := fun i => if i = a then x else S i
theorem upd_same {α : Type} (S : Nat → α) (a : Nat) (x : α) : upd S a x a = x := if_pos rfl
theorem upd_ne {α : Type} (S : Nat → α) {a i : Nat} (x : α) (h : i ≠ a) : upd S a x i = S i := if_neg h
structure Few (k : Nat) (S : Nat → List Pr) : Prop where
  fine : ∀ a, a < 2 → Fine (S a)
  keys : ∃ K : List Pr, Srt K ∧ K.length ≤ k ∧ ∀ a, a < 2 → ∀ p ∈ S a, ∃ q ∈ K, q.1 = p.1
theorem Few.len {k : Nat} {S : Nat → List Pr} (h : Few k S) {a : Nat} (ha : a < 2) : (S a).length ≤ k := by
  obtain ⟨K, h1, h2, h3⟩ := h.keys
  exact Nat.le_trans (srt_sub K (S a) (h.fine a ha).srt h1 (h3 a ha)) h2
theorem put_keys {L : List Pr} {k : Int} {n : Nat} : (∀ q ∈ put L k n, q.1 = k ∨ ∃ p ∈ L, p.1 = q.1) ∧ (∃ q ∈ put L k n, q.1 = k) ∧ ∀ p ∈ L, ∃ q ∈ put L k n, q.1 = p.1 := by
  induction L with
  | nil => simp [put]
  | cons p L ih =>
    obtain ⟨i1, ⟨x, hx, ex⟩, i3⟩ := ih
    unfold put
    split
    · refine ⟨fun q hq => ?_, ⟨x, by simp [hx], ex⟩, fun q hq => ?_⟩
      · rcases List.mem_cons.1 hq with rfl | hq
        · exact .inr ⟨_, by simp, rfl⟩
        · rcases i1 q hq with e | ⟨y, hy, e⟩
          · exact .inl e
          · exact .inr ⟨y, by simp [hy], e⟩
      · rcases List.mem_cons.1 hq with rfl | hq
        · exact ⟨_, by simp, rfl⟩
        · obtain ⟨y, hy, e⟩ := i3 q hq
          exact ⟨y, by simp [hy], e⟩
    · split
      · rename_i h1 h2
        refine ⟨fun q hq => ?_, ⟨(k, p.2 + n), List.mem_cons_self, rfl⟩, fun q hq => ?_⟩
        · rcases List.mem_cons.1 hq with rfl | hq
          · exact .inl rfl
          · exact .inr ⟨q, by simp [hq], rfl⟩
        · rcases List.mem_cons.1 hq with rfl | hq
          · exact ⟨(k, q.2 + n), List.mem_cons_self, h2.symm⟩
          · exact ⟨q, by simp [hq], rfl⟩
      · refine ⟨fun q hq => ?_, ⟨(k, n), List.mem_cons_self, rfl⟩, fun q hq => ⟨q, List.mem_cons_of_mem _ hq, rfl⟩⟩
        rcases List.mem_cons.1 hq with rfl | hq
        · exact .inl rfl
        · exact .inr ⟨q, hq, rfl⟩
theorem Few.mono {k k' : Nat} {S : Nat → List Pr} (h : Few k S) (hk : k ≤ k') : Few k' S := by
  obtain ⟨K, h1, h2, h3⟩ := h.keys
  exact ⟨h.fine, K, h1, by omega, h3⟩
theorem Few.upd {k : Nat} {S : Nat → List Pr} (h : Few k S) {a : Nat} {L : List Pr} (hf : Fine L) {j : Int} (hj : ∀ p ∈ L, p.1 = j ∨ ∃ b, b < 2 ∧ ∃ q ∈ S b, q.1 = p.1) : Few (k + 1) (upd S a L) := by
  obtain ⟨K, h1, h2, h3⟩ := h.keys
  obtain ⟨p1, p2, p3⟩ := put_keys (L := K) (k := j) (n := 1)
  refine ⟨fun i hi => ?_, put K j 1, put_srt h1, Nat.le_trans put_len (by omega), fun i hi p hp => ?_⟩
  · by_cases e : i = a
    · subst e; rw [upd_same]; exact hf
    · rw [upd_ne _ _ e]; exact h.fine i hi
  · by_cases e : i = a
    · subst e
      rw [upd_same] at hp
      rcases hj p hp with e | ⟨b, hb, q, hq, e⟩
      · rw [e]; exact p2
      · obtain ⟨x, hx, ex⟩ := h3 b hb q hq
        obtain ⟨y, hy, ey⟩ := p3 x hx
        exact ⟨y, hy, by rw [ey, ex, e]⟩
    · rw [upd_ne _ _ e] at hp
      obtain ⟨x, hx, ex⟩ := h3 i hi p hp
      obtain ⟨y, hy, ey⟩ := p3 x hx
      exact ⟨y, hy, by rw [ey, ex]⟩
theorem Few.add {k : Nat} {S : Nat → List Pr} (h : Few k S) {a : Nat} (ha : a < 2) (hk : k ≤ 1000) (j : Int) (n : Nat) : Few (k + 1) (Go.Proofs.Ytmpmjgoipfgfoaa.upd S a (radd (S a) j n 0).1) := by
  have hl := h.len ha
  refine h.upd (radd_fine (h.fine a ha) (by omega)).1 (j := j) (fun p hp => ?_)
  rw [radd0] at hp
  split at hp
  · exact .inr ⟨a, ha, p, hp, rfl⟩
  · split at hp
    · exact .inr ⟨a, ha, p, hp, rfl⟩
    · split at hp
      · exact .inr ⟨a, ha, p, hp, rfl⟩
      · rcases put_keys.1 p hp with e | ⟨q, hq, e⟩
        · exact .inl e
        · exact .inr ⟨a, ha, q, hq, e⟩
theorem Few.take {k : Nat} {S : Nat → List Pr} (h : Few k S) {a b : Nat} (ha : a < 2) (hb : b < 2) (hk : k ≤ 1000) : Few (k + 1) (Go.Proofs.Ytmpmjgoipfgfoaa.upd S a (rtake (S a) (S b) 0).1) := by
  have hl := h.len ha
  have hl2 := h.len hb
  refine h.upd (took_fine (h.fine a ha) (h.fine b hb) (by omega)).1 (j := 0) (fun p hp => ?_)
  rw [rtake0] at hp
  split at hp
  · exact .inr ⟨a, ha, p, hp, rfl⟩
  · split at hp
    · exact .inr ⟨a, ha, p, hp, rfl⟩
    · rcases puts_keys p hp with ⟨q, hq, e⟩ | ⟨q, hq, e⟩
      · exact .inr ⟨a, ha, q, hq, e⟩
      · exact .inr ⟨b, hb, q, hq, e⟩
theorem Few.nil : Few 0 (fun _ => []) := ⟨fun _ _ => Fine.nil, [], Srt.nil, Nat.le_refl _, fun _ _ p hp => by cases hp⟩
/-- A step of a script. -/
abbrev PlayOp := Nat × Bool × Int × Nat
def opcell (x : PlayOp) : List Value := [.int .u8 (x.1 : Nat), .bool x.2.1, .int .i64 x.2.2.1, .int .u64 (x.2.2.2 : Nat)]
def OpOk (x : PlayOp) : Prop := x.1 ≤ 255 ∧ -9223372036854775808 ≤ x.2.2.1 ∧ x.2.2.1 ≤ 9223372036854775807 ∧ x.2.2.2 ≤ 18446744073709551615
def Ops (w : World) (A : Option Addr) (l : List PlayOp) : Prop := (∀ x ∈ l, OpOk x) ∧ Reads w w.heap.size 4 A l.length (l.flatMap opcell)
theorem ops_cells {w : World} {B : Nat} {A : Option Addr} {l : List PlayOp} {k : Nat} {x : PlayOp} (h : Reads w B 4 A l.length (l.flatMap opcell)) (hp : l[k]? = some x) :
    ∃ b o, A = some ⟨b, o, none⟩ ∧ b < B ∧ w.cell? ⟨b, o + k * 4, none⟩ = some (.int .u8 (x.1 : Nat)) ∧ w.cell? ⟨b, o + k * 4 + 1, none⟩ = some (.bool x.2.1) ∧ w.cell? ⟨b, o + k * 4 + 2, none⟩ = some (.int .i64 x.2.2.1) ∧ w.cell? ⟨b, o + k * 4 + 3, none⟩ = some (.int .u64 (x.2.2.2 : Nat)) := by
  have hk : k < l.length := (List.getElem?_eq_some_iff.1 hp).1
  obtain ⟨b, o, e, hb, hc⟩ := h.2 (by omega)
  have key : ∀ (l : List PlayOp) (k i : Nat) (u : Value), l[k]? = some x → (opcell x)[i]? = some u → i < 4 → (l.flatMap opcell)[k * 4 + i]? = some u := fun l => by
    induction l with
    | nil => intro k i u h; simp at h
    | cons y l ih =>
      intro k i u h h2 h3
      rw [List.flatMap_cons]
      cases k with
      | zero =>
        simp at h
        subst h
        rw [Nat.zero_mul, Nat.zero_add, List.getElem?_append_left (by simp [opcell]; exact h3)]
        exact h2
      | succ k =>
        rw [List.getElem?_append_right (by simp [opcell]; omega), show (k + 1) * 4 + i - (opcell y).length = k * 4 + i by simp [opcell]; omega]
        exact ih k i u (by simpa using h) h2 h3
  refine ⟨b, o, e, hb, ?_, ?_, ?_, ?_⟩
  · have := hc _ _ (key l k 0 _ hp rfl (by decide)); simpa using this
  · have := hc _ _ (key l k 1 _ hp rfl (by decide)); rwa [← Nat.add_assoc] at this
  · have := hc _ _ (key l k 2 _ hp rfl (by decide)); rwa [← Nat.add_assoc] at this
  · have := hc _ _ (key l k 3 _ hp rfl (by decide)); rwa [← Nat.add_assoc] at this
/-- Stores apart from each other. -/
structure MS (n : Nat) (w0 : World) (M : Nat → Int) (G GL : Nat → Nat) (AL : Nat → Option Addr) (CL : Nat → Nat) (S : Nat → List Pr) (wr : World) : Prop where
  sto : ∀ a, a < n → Sto wr (G a) (GL a) (AL a) (CL a) (M a) (S a)
  ne : ∀ a b, a < n → b < n → a ≠ b → G a ≠ G b ∧ GL a ≠ GL b ∧ Dj (AL a) (AL b)
  low : ∀ a, a < n → w0.heap.size ≤ G a ∧ w0.heap.size ≤ GL a
  bel : Below w0.heap.size w0 wr
theorem sto_other {w w' : World} {g gl c g2 gl2 c2 : Nat} {A A2 : Option Addr} {m m2 : Int} {all all2 : List Pr} (h : Sto w g gl A c m all) (hy : Sto w g2 gl2 A2 c2 m2 all2) (hg : g ≠ g2) (hl : gl ≠ gl2) (hd : Dj A A2) (k : Only (SK g gl A) w w') : Sto w' g2 gl2 A2 c2 m2 all2 := by
  refine ⟨hy.blk.only k (fun e => ?_), hy.lst.only k (fun e => ?_) (fun x hx e => ?_)⟩
  · rcases e with e | e
    · exact hg e.symm
    · exact h.lst.ne_blk hy.blk (by decide) (by decide) e
  · rcases e with e | e | e
    · exact Blk.ne h.blk hy.lst.1 (by decide) e.symm
    · exact hl e.symm
    · exact Own.ne_blk (show Own w gl 38 2 A (cutL all m).1.length c (pcs (cutL all m).1) from h.lst.2) hy.lst.1 (by decide) e
  · rcases e with e | e | e
    · exact hy.lst.ne_blk h.blk (by decide) (by decide) (.inr (by rw [← e]; exact hx))
    · exact Own.ne_blk (show Own w gl2 38 2 A2 (cutL all2 m2).1.length c2 (pcs (cutL all2 m2).1) from hy.lst.2) h.lst.1 (by decide) (by rw [← e]; exact hx)
    · exact hd x e hx
section
variable {n : Nat} {w0 wr w2 : World} {M : Nat → Int} {G GL : Nat → Nat} {AL : Nat → Option Addr} {CL : Nat → Nat} {S : Nat → List Pr}
theorem MS.below (h : MS n w0 M G GL AL CL S wr) (hb : Below wr.heap.size wr w2) : MS n w0 M G GL AL CL S w2 := ⟨fun a ha => (h.sto a ha).below hb, h.ne, h.low, nextB h.bel hb⟩
theorem MS.drewN (h : MS n w0 M G GL AL CL S wr) (k : Nat) : MS n w0 M G GL AL CL S (wr.drewN k) := ⟨fun a ha => (h.sto a ha).drewN k, h.ne, h.low, below_drewN h.bel k⟩
theorem MS.act (h : MS n w0 M G GL AL CL S wr) {a : Nat} (ha : a < n) {L' : List Pr} {A' : Option Addr} {c' : Nat} (k : Stored (G a) (GL a) (AL a) (M a) L' wr w2 A' c') : MS n w0 M G GL (upd AL a A') (upd CL a c') (upd S a L') w2 := by
  have hn := fun b (hb : b < n) (e : b ≠ a) => dj_new (h.ne a b ha hb (fun x => e x.symm)).2.2 (h.sto b hb).lst.2 k.new
  refine ⟨fun b hb => ?_, fun b d hb hd e => ?_, h.low, stored_below h.bel (h.low a ha).1 (h.low a ha).2 (h.sto a ha) k⟩
  · by_cases e : b = a
    · subst e; rw [upd_same, upd_same, upd_same]; exact k.sto
    · rw [upd_ne _ _ e, upd_ne _ _ e, upd_ne _ _ e]
      have h3 := h.ne a b ha hb (fun x => e x.symm)
      exact sto_other (h.sto a ha) (h.sto b hb) h3.1 h3.2.1 h3.2.2 k.only
  · refine ⟨(h.ne b d hb hd e).1, (h.ne b d hb hd e).2.1, ?_⟩
    by_cases e1 : b = a
    · subst e1
      rw [upd_same, upd_ne _ _ (fun x => e x.symm)]
      exact hn d hd (fun x => e x.symm)
    · rw [upd_ne _ _ e1]
      by_cases e2 : d = a
      · subst e2
        rw [upd_same]
        exact (hn b hb e1).symm
      · rw [upd_ne _ _ e2]
        exact (h.ne b d hb hd e).2.2
theorem MS.nil (w0 : World) (hb : Below w0.heap.size w0 wr) : MS 0 w0 M G GL AL CL S wr := ⟨fun _ ha => absurd ha (Nat.not_lt_zero _), fun _ _ ha => absurd ha (Nat.not_lt_zero _), fun _ ha => absurd ha (Nat.not_lt_zero _), hb⟩
/-- A store more, made behind all the others. -/
theorem MS.more (h : MS n w0 M G GL AL CL S wr) (hb : Below wr.heap.size wr w2) {g gl c : Nat} {A : Option Addr} {m : Int} {L : List Pr} (hs : Sto w2 g gl A c m L) (hg : wr.heap.size ≤ g) (hgl : wr.heap.size ≤ gl) :
    MS (n + 1) w0 (upd M n m) (upd G n g) (upd GL n gl) (upd AL n A) (upd CL n c) (upd S n L) w2 := by
  have hbl : ∀ a, a < n → G a < wr.heap.size ∧ GL a < wr.heap.size ∧ ∀ x, blockOf (AL a) = some x → x < wr.heap.size := fun a ha => ⟨(h.sto a ha).blk.lt, (h.sto a ha).lst.1.lt, fun x hx => (Own.block (show Own wr (GL a) 38 2 (AL a) (cutL (S a) (M a)).1.length (CL a) (pcs (cutL (S a) (M a)).1) from (h.sto a ha).lst.2) hx).2⟩
  have hA : ∀ x, blockOf A = some x → wr.heap.size ≤ x := fun x hx => Nat.le_trans hgl (Own.block (show Own w2 gl 38 2 A (cutL L m).1.length c (pcs (cutL L m).1) from hs.lst.2) hx).1
  refine ⟨fun a ha => ?_, fun a b ha hb' e => ?_, fun a ha => ?_, nextB h.bel hb⟩
  · by_cases e : a = n
    · subst e; simp only [upd_same]; exact hs
    · simp only [upd_ne _ _ e]; exact (h.sto a (by omega)).below hb
  · by_cases e1 : a = n
    · subst e1
      have e2 : b ≠ a := fun x => e x.symm
      simp only [upd_same, upd_ne _ _ e2]
      have h1 := hbl b (by omega)
      exact ⟨by omega, by omega, fun x hx hy => by have := hA x hx; have := h1.2.2 x hy; omega⟩
    · by_cases e2 : b = n
      · subst e2
        simp only [upd_same, upd_ne _ _ e1]
        have h1 := hbl a (by omega)
        exact ⟨by omega, by omega, fun x hx hy => by have := hA x hy; have := h1.2.2 x hx; omega⟩
      · simp only [upd_ne _ _ e1, upd_ne _ _ e2]
        exact h.ne a b (by omega) (by omega) e
  · by_cases e : a = n
    · subst e; simp only [upd_same]; exact ⟨Nat.le_trans h.bel.size hg, Nat.le_trans h.bel.size hgl⟩
    · simp only [upd_ne _ _ e]; exact h.low a (by omega)
end
end Go.Proofs.Ytmpmjgoipfgfoaa
