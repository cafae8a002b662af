/- Sparse: what holds between the steps of a script: two lists, two rows, each in its slice. -/
import Derived.Test.YtfpehefcgfhdmaaSpO
namespace Go.Proofs.Ytfpehefcgfhdmaa
open Go.RowKit
open Pl
/-- A script's lists: fine, with few keys. -/
def upd {α : Type} (S : Nat → α) (a : Nat) (x : α) : Nat → α := fun i => if i = a then x else S i
theorem upd_same {α : Type} (S : Nat → α) (a : Nat) (x : α) : upd S a x a = x := if_pos rfl
theorem upd_ne {α : Type} (S : Nat → α) {a i : Nat} (x : α) (h : i ≠ a) : upd S a x i = S i := if_neg h
structure Few (k : Nat) (S : Nat → List Pr) : Prop where
  fine : ∀ a, a < 2 → Fine (S a)
  keys : ∃ K : List Pr, Srt K ∧ K.length ≤ k ∧ ∀ a, a < 2 → ∀ p ∈ S a, ∃ q ∈ K, q.1 = p.1
theorem Few.len {k : Nat} {S : Nat → List Pr} (h : Few k S) {a : Nat} (ha : a < 2) : (S a).length ≤ k := by
  obtain ⟨K, h1, h2, h3⟩ := h.keys
  exact Nat.le_trans (srt_sub K (S a) (h.fine a ha).srt h1 (h3 a ha)) h2
theorem put_keys {L : List Pr} {k : Int} {n : Nat} : (∀ q ∈ put L k n, q.1 = k ∨ ∃ p ∈ L, p.1 = q.1) ∧ (∃ q ∈ put L k n, q.1 = k) ∧ ∀ p ∈ L, ∃ q ∈ put L k n, q.1 = p.1 := by
  induction L with
  | nil => simp [put]
  | cons p L ih =>
    obtain ⟨i1, ⟨x, hx, ex⟩, i3⟩ := ih
    unfold put
    split
    · refine ⟨fun q hq => ?_, ⟨x, by simp [hx], ex⟩, fun q hq => ?_⟩
      · rcases List.mem_cons.1 hq with rfl | hq
        · exact .inr ⟨_, by simp, rfl⟩
        · rcases i1 q hq with e | ⟨y, hy, e⟩
          · exact .inl e
          · exact .inr ⟨y, by simp [hy], e⟩
      · rcases List.mem_cons.1 hq with rfl | hq
        · exact ⟨_, by simp, rfl⟩
        · obtain ⟨y, hy, e⟩ := i3 q hq
          exact ⟨y, by simp [hy], e⟩
    · split
      · rename_i h1 h2
        refine ⟨fun q hq => ?_, ⟨(k, p.2 + n), List.mem_cons_self, rfl⟩, fun q hq => ?_⟩
        · rcases List.mem_cons.1 hq with rfl | hq
          · exact .inl rfl
          · exact .inr ⟨q, by simp [hq], rfl⟩
        · rcases List.mem_cons.1 hq with rfl | hq
          · exact ⟨(k, q.2 + n), List.mem_cons_self, h2.symm⟩
          · exact ⟨q, by simp [hq], rfl⟩
      · refine ⟨fun q hq => ?_, ⟨(k, n), List.mem_cons_self, rfl⟩, fun q hq => ⟨q, List.mem_cons_of_mem _ hq, rfl⟩⟩
        rcases List.mem_cons.1 hq with rfl | hq
        · exact .inl rfl
        · exact .inr ⟨q, hq, rfl⟩
theorem Few.mono {k k' : Nat} {S : Nat → List Pr} (h : Few k S) (hk : k ≤ k') : Few k' S := by
  obtain ⟨K, h1, h2, h3⟩ := h.keys
  exact ⟨h.fine, K, h1, by omega, h3⟩
theorem Few.upd {k : Nat} {S : Nat → List Pr} (h : Few k S) {a : Nat} {L : List Pr} (hf : Fine L) {j : Int} (hj : ∀ p ∈ L, p.1 = j ∨ ∃ b, b < 2 ∧ ∃ q ∈ S b, q.1 = p.1) : Few (k + 1) (upd S a L) := by
  obtain ⟨K, h1, h2, h3⟩ := h.keys
  obtain ⟨p1, p2, p3⟩ := put_keys (L := K) (k := j) (n := 1)
  refine ⟨fun i hi => ?_, put K j 1, put_srt h1, Nat.le_trans put_len (by omega), fun i hi p hp => ?_⟩
  · by_cases e : i = a
    · subst e; rw [upd_same]; exact hf
    · rw [upd_ne _ _ e]; exact h.fine i hi
  · by_cases e : i = a
    · subst e
      rw [upd_same] at hp
      rcases hj p hp with e | ⟨b, hb, q, hq, e⟩
      · rw [e]; exact p2
      · obtain ⟨x, hx, ex⟩ := h3 b hb q hq
        obtain ⟨y, hy, ey⟩ := p3 x hx
        exact ⟨y, hy, by rw [ey, ex, e]⟩
    · rw [upd_ne _ _ e] at hp
      obtain ⟨x, hx, ex⟩ := h3 i hi p hp
      obtain ⟨y, hy, ey⟩ := p3 x hx
      exact ⟨y, hy, by rw [ey, ex]⟩
theorem Few.add {k : Nat} {S : Nat → List Pr} (h : Few k S) {a : Nat} (ha : a < 2) (hk : k ≤ 1000) (j : Int) (n : Nat) : Few (k + 1) (Go.Proofs.Ytfpehefcgfhdmaa.upd S a (radd (S a) j n 0).1) := by
  have hl := h.len ha
  refine h.upd (radd_fine (h.fine a ha) (by omega)).1 (j := j) (fun p hp => ?_)
  rw [radd0] at hp
  split at hp
  · exact .inr ⟨a, ha, p, hp, rfl⟩
  · split at hp
    · exact .inr ⟨a, ha, p, hp, rfl⟩
    · split at hp
      · exact .inr ⟨a, ha, p, hp, rfl⟩
      · rcases put_keys.1 p hp with e | ⟨q, hq, e⟩
        · exact .inl e
        · exact .inr ⟨a, ha, q, hq, e⟩
theorem Few.take {k : Nat} {S : Nat → List Pr} (h : Few k S) {a b : Nat} (ha : a < 2) (hb : b < 2) (hk : k ≤ 1000) : Few (k + 1) (Go.Proofs.Ytfpehefcgfhdmaa.upd S a (rtake (S a) (S b) 0).1) := by
  have hl := h.len ha
  have hl2 := h.len hb
  refine h.upd (took_fine (h.fine a ha) (h.fine b hb) (by omega)).1 (j := 0) (fun p hp => ?_)
  rw [rtake0] at hp
  split at hp
  · exact .inr ⟨a, ha, p, hp, rfl⟩
  · split at hp
    · exact .inr ⟨a, ha, p, hp, rfl⟩
    · rcases puts_keys p hp with ⟨q, hq, e⟩ | ⟨q, hq, e⟩
      · exact .inr ⟨a, ha, q, hq, e⟩
      · exact .inr ⟨b, hb, q, hq, e⟩
theorem Few.cut {k : Nat} {S : Nat → List Pr} (h : Few k S) {a : Nat} (ha : a < 2) (m : Int) : Few (k + 1) (Go.Proofs.Ytfpehefcgfhdmaa.upd S a (cutL (S a) m).1) := by
  refine h.upd (cutL_fine (h.fine a ha) m).1 (j := 0) (fun p hp => ?_)
  unfold cutL at hp
  split at hp
  · exact .inr ⟨a, ha, p, hp, rfl⟩
  · obtain ⟨q, hq, e⟩ := cutI_keys (P := fun k => ∃ q ∈ S a, q.1 = k) (fun p hp => ⟨p, hp, rfl⟩) p hp
    exact .inr ⟨a, ha, q, hq, e⟩
theorem Few.nil : Few 0 (fun _ => []) := ⟨fun _ _ => Fine.nil, [], Srt.nil, Nat.le_refl _, fun _ _ p hp => by cases hp⟩
/-- The lists are as S says, the rows as R says. -/
structure SI (w0 : World) (g bs bw : Nat) (S R : Nat → List Pr) (AL : Nat → Option Addr) (CL : Nat → Nat) (AW : Nat → Option Addr) (CW : Nat → Nat) (wr : World) : Prop where
  lst : ∀ a, a < 2 → Lst wr (g + a) (AL a) (CL a) (S a)
  own : ∀ a, a < 2 → OwnP wr w0.heap.size (AW a) (CW a) (R a)
  dll : ∀ a b, a < 2 → b < 2 → a ≠ b → Dj (AL a) (AL b)
  dlw : ∀ a b, a < 2 → b < 2 → Dj (AL a) (AW b)
  bsl : Blk wr bs 24 #[.pointer (some ⟨g, 0, none⟩), .pointer (some ⟨g + 1, 0, none⟩)]
  bwl : Blk wr bw 22 #[.slice (AW 0) (R 0).length (CW 0), .slice (AW 1) (R 1).length (CW 1)]
  bel : Below w0.heap.size w0 wr
  low : w0.heap.size ≤ g
  wlow : w0.heap.size ≤ bw
section
variable {w0 wr w2 : World} {g bs bw : Nat} {S R : Nat → List Pr} {AL AW : Nat → Option Addr} {CL CW : Nat → Nat}
theorem Lst.ne_blk {w : World} {g i c : Nat} {A : Option Addr} {L : List Pr} {t : TypeId} {cs : Array Value} (h : Lst w g A c L) (hb : Blk w i t cs) (h1 : t ≠ 51) (h2 : t ≠ 32) : ¬ LK g A i := fun e => by
  rcases e with rfl | e
  · exact absurd rfl (Blk.ne hb h.1 h1)
  · exact Own.ne_blk (show Own w g 32 2 A L.length c (pcs L) from h.2) hb (fun e => h2 e.symm) e
theorem SI.act (h : SI w0 g bs bw S R AL CL AW CW wr) {a : Nat} (ha : a < 2) {L' : List Pr} {A' : Option Addr} {c' : Nat} (k : Acted (g + a) (AL a) L' wr w2 A' c') :
    SI w0 g bs bw (upd S a L') R (upd AL a A') (upd CL a c') AW CW w2 := by
  have hw := fun b (hb : b < 2) => dj_new (h.dlw a b ha hb) (h.own b hb) k.2.2
  have hl := fun b (hb : b < 2) (e : b ≠ a) => dj_new (h.dll a b ha hb (fun x => e x.symm)) (h.lst b hb).2 k.2.2
  refine ⟨fun b hb => ?_, fun b hb => row_other (h.lst a ha) (h.own b hb) (h.dlw a b ha hb) k.2.1, fun b d hb hd e => ?_, fun b d hb hd => ?_, h.bsl.only k.2.1 ((h.lst a ha).ne_blk h.bsl (by decide) (by decide)), h.bwl.only k.2.1 ((h.lst a ha).ne_blk h.bwl (by decide) (by decide)), acted_below h.bel h.bel.size (Nat.le_trans h.low (by omega)) (h.lst a ha) k, h.low, h.wlow⟩
  · by_cases e : b = a
    · subst e; rw [upd_same, upd_same, upd_same]; exact k.1
    · rw [upd_ne _ _ e, upd_ne _ _ e, upd_ne _ _ e]
      exact lst_other (h.lst a ha) (h.lst b hb) (by omega) (h.dll a b ha hb (fun x => e x.symm)) k.2.1
  · by_cases e1 : b = a
    · subst e1
      rw [upd_same, upd_ne _ _ (fun x => e x.symm)]
      exact hl d hd (fun x => e x.symm)
    · rw [upd_ne _ _ e1]
      by_cases e2 : d = a
      · subst e2
        rw [upd_same]
        exact (hl b hb e1).symm
      · rw [upd_ne _ _ e2]
        exact h.dll b d hb hd e
  · by_cases e1 : b = a
    · subst e1; rw [upd_same]; exact hw d hd
    · rw [upd_ne _ _ e1]; exact h.dlw b d hb hd
theorem SI.below (h : SI w0 g bs bw S R AL CL AW CW wr) (hb : Below wr.heap.size wr w2) : SI w0 g bs bw S R AL CL AW CW w2 :=
  ⟨fun a ha => (h.lst a ha).below hb, fun a ha => Own.below (h.own a ha) hb, h.dll, h.dlw, h.bsl.below hb h.bsl.lt, h.bwl.below hb h.bwl.lt, nextB h.bel hb, h.low, h.wlow⟩
theorem SI.drewN (h : SI w0 g bs bw S R AL CL AW CW wr) (n : Nat) : SI w0 g bs bw S R AL CL AW CW (wr.drewN n) :=
  ⟨h.lst, h.own, h.dll, h.dlw, h.bsl, h.bwl, below_drewN h.bel n, h.low, h.wlow⟩
theorem SI.put (h : SI w0 g bs bw S R AL CL AW CW wr) {a : Nat} (ha : a < 2) {A3 : Option Addr} {c3 : Nat} {R3 : List Pr} (ho : OwnP wr w0.heap.size A3 c3 R3) (hd : ∀ b, b < 2 → Dj (AL b) A3) :
    SI w0 g bs bw S (upd R a R3) AL CL (upd AW a A3) (upd CW a c3) (wr.setCell ⟨bw, a, none⟩ (.slice A3 R3.length c3)) := by
  have hne : ∀ b, b < 2 → ¬ LK (g + b) (AL b) bw := fun b hb => (h.lst b hb).ne_blk h.bwl (by decide) (by decide)
  have hbs : bs ≠ bw := Blk.ne h.bsl h.bwl (by decide)
  refine ⟨fun b hb => ⟨(h.lst b hb).1.far (p := ⟨bw, a, none⟩) (fun e => hne b hb (.inl e.symm)) _, Own.setOther (h.lst b hb).2 (fun e => hne b hb (.inr e)) _⟩, fun b hb => ?_, h.dll, fun b d hb hd2 => ?_, h.bsl.far (p := ⟨bw, a, none⟩) hbs _, ?_, h.bel.setCell h.wlow _, h.low, h.wlow⟩
  · by_cases e : b = a
    · subst e
      rw [upd_same, upd_same, upd_same]
      exact Own.setOther ho (Own.ne_blk ho h.bwl (by decide)) _
    · rw [upd_ne _ _ e, upd_ne _ _ e, upd_ne _ _ e]
      exact Own.setOther (h.own b hb) (Own.ne_blk (h.own b hb) h.bwl (by decide)) _
  · by_cases e : d = a
    · subst e; rw [upd_same]; exact hd b hb
    · rw [upd_ne _ _ e]; exact h.dlw b d hb hd2
  · have h1 := h.bwl.put a (.slice A3 R3.length c3)
    rcases (by omega : a = 0 ∨ a = 1) with rfl | rfl
    · exact h1
    · exact h1
/-- A row that lies as the old one, or is new, lies apart from the lists. -/
theorem SI.apart (h : SI w0 g bs bw S R AL CL AW CW wr) {a : Nat} (ha : a < 2) {A3 : Option Addr} (hn : ∀ x, blockOf A3 = some x → blockOf (AW a) = some x ∨ wr.heap.size ≤ x) : ∀ b, b < 2 → Dj (AL b) A3 := fun b hb => (dj_new (h.dlw b a hb ha).symm (h.lst b hb).2 hn).symm
/-- The cells of the two slices. -/
theorem SI.ptr (h : SI w0 g bs bw S R AL CL AW CW wr) {a : Nat} (ha : a < 2) : wr.cell? ⟨bs, a, none⟩ = some (.pointer (some ⟨g + a, 0, none⟩)) := by
  rw [h.bsl.cell]
  rcases (by omega : a = 0 ∨ a = 1) with rfl | rfl <;> rfl
theorem SI.row (h : SI w0 g bs bw S R AL CL AW CW wr) {a : Nat} (ha : a < 2) : wr.cell? ⟨bw, a, none⟩ = some (.slice (AW a) (R a).length (CW a)) := by
  rw [h.bwl.cell]
  rcases (by omega : a = 0 ∨ a = 1) with rfl | rfl <;> rfl
end
/-- A step of a script. -/
abbrev PlayOp := Nat × Bool × Int × Nat
def opcell (x : PlayOp) : List Value := [.int .u8 (x.1 : Nat), .bool x.2.1, .int .i64 x.2.2.1, .int .u64 (x.2.2.2 : Nat)]
def OpOk (x : PlayOp) : Prop := x.1 ≤ 255 ∧ -9223372036854775808 ≤ x.2.2.1 ∧ x.2.2.1 ≤ 9223372036854775807 ∧ x.2.2.2 ≤ 18446744073709551615
def Ops (w : World) (A : Option Addr) (l : List PlayOp) : Prop := (∀ x ∈ l, OpOk x) ∧ Reads w w.heap.size 4 A l.length (l.flatMap opcell)
theorem ops_cells {w : World} {B : Nat} {A : Option Addr} {l : List PlayOp} {k : Nat} {x : PlayOp} (h : Reads w B 4 A l.length (l.flatMap opcell)) (hp : l[k]? = some x) :
    ∃ b o, A = some ⟨b, o, none⟩ ∧ b < B ∧ w.cell? ⟨b, o + k * 4, none⟩ = some (.int .u8 (x.1 : Nat)) ∧ w.cell? ⟨b, o + k * 4 + 1, none⟩ = some (.bool x.2.1) ∧ w.cell? ⟨b, o + k * 4 + 2, none⟩ = some (.int .i64 x.2.2.1) ∧ w.cell? ⟨b, o + k * 4 + 3, none⟩ = some (.int .u64 (x.2.2.2 : Nat)) := by
  have hk : k < l.length := (List.getElem?_eq_some_iff.1 hp).1
  obtain ⟨b, o, e, hb, hc⟩ := h.2 (by omega)
  have key : ∀ (l : List PlayOp) (k i : Nat) (u : Value), l[k]? = some x → (opcell x)[i]? = some u → i < 4 → (l.flatMap opcell)[k * 4 + i]? = some u := fun l => by
    induction l with
    | nil => intro k i u h; simp at h
    | cons y l ih =>
      intro k i u h h2 h3
      rw [List.flatMap_cons]
      cases k with
      | zero =>
        simp at h
        subst h
        rw [Nat.zero_mul, Nat.zero_add, List.getElem?_append_left (by simp [opcell]; exact h3)]
        exact h2
      | succ k =>
        rw [List.getElem?_append_right (by simp [opcell]; omega), show (k + 1) * 4 + i - (opcell y).length = k * 4 + i by simp [opcell]; omega]
        exact ih k i u (by simpa using h) h2 h3
  refine ⟨b, o, e, hb, ?_, ?_, ?_, ?_⟩
  · have := hc _ _ (key l k 0 _ hp rfl (by decide)); simpa using this
  · have := hc _ _ (key l k 1 _ hp rfl (by decide)); rwa [← Nat.add_assoc] at this
  · have := hc _ _ (key l k 2 _ hp rfl (by decide)); rwa [← Nat.add_assoc] at this
  · have := hc _ _ (key l k 3 _ hp rfl (by decide)); rwa [← Nat.add_assoc] at this
end Go.Proofs.Ytfpehefcgfhdmaa
