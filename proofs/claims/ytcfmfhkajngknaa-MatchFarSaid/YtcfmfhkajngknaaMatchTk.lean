/- Match: tokens in memory: three cells an element. -/
import Derived.Test.YtcfmfhkajngknaaMatchE
namespace Go.Proofs.Ytcfmfhkajngknaa
open Go.RowKit
open Mt
def tcs : List Tk → List Value
  | [] => []
  | t :: l => .int .u8 (t.1.toNat : Int) :: .int .i64 (t.2.1 : Nat) :: .int .i64 (t.2.2 : Nat) :: tcs l
theorem tcs_append (l m : List Tk) : tcs (l ++ m) = tcs l ++ tcs m := by
  induction l with
  | nil => rfl
  | cons p l ih => simp [tcs, ih]
theorem tcs_length (l : List Tk) : (tcs l).length = l.length * 3 := by
  induction l with
  | nil => rfl
  | cons p l ih => simp only [tcs, List.length_cons, ih]; omega
theorem tcs_one (l : List Tk) : ∀ u ∈ tcs l, u.oneCell' = true := by
  induction l with
  | nil => intro u h; cases h
  | cons p l ih =>
    intro u h
    simp only [tcs, List.mem_cons] at h
    rcases h with rfl | rfl | rfl | h
    · rfl
    · rfl
    · rfl
    · exact ih u h
theorem tcs_key {l : List Tk} {i : Nat} {t : Tk} (h : l[i]? = some t) : (tcs l)[i * 3]? = some (.int .u8 (t.1.toNat : Int)) ∧ (tcs l)[i * 3 + 1]? = some (.int .i64 (t.2.1 : Nat)) ∧ (tcs l)[i * 3 + 2]? = some (.int .i64 (t.2.2 : Nat)) := by
  induction l generalizing i with
  | nil => simp at h
  | cons q l ih =>
    cases i with
    | zero =>
      simp at h
      subst h
      simp [tcs]
    | succ i =>
      have := ih (i := i) (by simpa using h)
      rw [show (i + 1) * 3 = i * 3 + 3 by omega]
      simpa [tcs] using this
theorem elem_tok : Elem Try.prog 25 28 3 24 := elem_of Try.underlying25 (z := .agg #[.int .u8 0, .int .i64 0, .int .i64 0]) (by kernel_rfl) (by decide) (by decide)
def Tks (w : World) (B : Nat) (A : Option Addr) (L : List Tk) : Prop := Reads w B 3 A L.length (tcs L)
section
variable {w w' : World} {B : Nat} {A : Option Addr} {L : List Tk}
theorem Tks.at_ (h : Tks w B A L) (hn : 0 < L.length) : ∃ b o, A = some ⟨b, o, none⟩ ∧ b < B ∧ ∀ i t, L[i]? = some t → w.cell? ⟨b, o + i * 3, none⟩ = some (.int .u8 (t.1.toNat : Int)) ∧ w.cell? ⟨b, o + i * 3 + 1, none⟩ = some (.int .i64 (t.2.1 : Nat)) ∧ w.cell? ⟨b, o + i * 3 + 2, none⟩ = some (.int .i64 (t.2.2 : Nat)) := by
  obtain ⟨b, o, e, hb, hc⟩ := h.2 hn
  refine ⟨b, o, e, hb, fun i t hp => ?_⟩
  obtain ⟨h1, h2, h3⟩ := tcs_key hp
  exact ⟨hc _ _ h1, by have := hc _ _ h2; rwa [← Nat.add_assoc] at this, by have := hc _ _ h3; rwa [← Nat.add_assoc] at this⟩
theorem Tks.below (h : Tks w B A L) (hb : Below B w w') : Tks w' B A L := Reads.below h hb
theorem Tks.at_below (h : Tks w w.heap.size A L) (hb : Below w.heap.size w w') : Tks w' w'.heap.size A L := Reads.at_below h hb
theorem Tks.empty (w : World) (B : Nat) (A : Option Addr) : Tks w B A [] := Reads.empty w B 3 A
end
theorem tok_new (w : World) (t : Tk) : Reads (w.alloc (.cells #[.int .u8 (t.1.toNat : Int), .int .i64 (t.2.1 : Nat), .int .i64 (t.2.2 : Nat)] 28)) (w.alloc (.cells #[.int .u8 (t.1.toNat : Int), .int .i64 (t.2.1 : Nat), .int .i64 (t.2.2 : Nat)] 28)).heap.size 3 (some ⟨w.heap.size, 0, none⟩) 1 (tcs [t]) :=
  Reads.lit (newest _ _) rfl rfl
def OwnT (w : World) (base : Nat) (A : Option Addr) (c : Nat) (L : List Tk) : Prop := Own w base 28 3 A L.length c (tcs L)
theorem OwnT.reads {w : World} {base : Nat} {A : Option Addr} {c : Nat} {L : List Tk} (h : OwnT w base A c L) : Tks w w.heap.size A L := Own.reads h
/-- The token at a place, as its cells. -/
theorem tokC_mk (l : List UInt8) (a : Nat) : tokC (l.getD a 0).toNat (Mt.tok l a) = #[.int .u8 ((mk l a).1.toNat : Int), .int .i64 ((mk l a).2.1 : Nat), .int .i64 ((mk l a).2.2 : Nat)] := by
  rw [mk_len, mk_back]
  unfold tokC tb mk
  split <;> rfl
theorem MapIs.isMap {w : World} {Bm base n : Nat} {l : List UInt8} (h : MapIs w Bm base l n) : ∃ es clock, w.heap[Bm]? = some (.map es clock) := by
  obtain ⟨D, ⟨es, clock, hb, _⟩, _⟩ := h
  exact ⟨es, clock, hb⟩
theorem MapIs.below {w w' : World} {Bm base n : Nat} {l : List UInt8} (h : MapIs w Bm base l n) (hb : Below w.heap.size w w') : MapIs w' Bm base l n :=
  h.grown ⟨hb.os, hb.tape, hb.output, hb.size, fun k hk _ => hb.block k hk⟩
/-- What is neither the map nor a row of numbers stays. -/
theorem nk_not {w : World} {Bm base g n : Nat} {l : List UInt8} {t : TypeId} {cs : Array Value} (h : MapIs w Bm base l n) (hg : Blk w g t cs) (ht : t ≠ 3) : ¬ NK Bm base w g := by
  obtain ⟨es, clock, hm⟩ := h.isMap
  rintro (rfl | ⟨_, cs2, h2⟩)
  · have h1 : w.heap[g]? = some (.cells cs t (0, 0)) := hg
    rw [hm] at h1
    cases h1
  · exact hg.ne h2 ht rfl
theorem nk_own {w : World} {Bm base b2 n size k c : Nat} {l : List UInt8} {t : TypeId} {A : Option Addr} {xs : List Value} (h : MapIs w Bm base l n) (hg : Own w b2 t size A k c xs) (ht : t ≠ 3) : ∀ g, blockOf A = some g → ¬ NK Bm base w g := by
  intro g hgA
  rcases hg.2 with ⟨hv, _⟩ | ⟨g', cap, cur, hv, _, hh, _⟩
  · injection hv with hA _ _
    subst hA
    cases hgA
  · injection hv with hA _ _
    subst hA
    obtain rfl : g' = g := by simpa [blockOf] using hgA
    exact nk_not h (t := t) (cs := cur) hh ht
theorem own_blk {w : World} {b2 size k c : Nat} {t : TypeId} {A : Option Addr} {xs : List Value} (hg : Own w b2 t size A k c xs) : ∀ g, blockOf A = some g → ∃ cs, Blk w g t cs := by
  intro g hgA
  rcases hg.2 with ⟨hv, _⟩ | ⟨g', cap, cur, hv, _, hh, _⟩
  · injection hv with hA _ _
    subst hA
    cases hgA
  · injection hv with hA _ _
    subst hA
    obtain rfl : g' = g := by simpa [blockOf] using hgA
    exact ⟨cur, hh⟩
/-- The map, behind an append to a slice of other things. -/
theorem MapIs.app {w w' : World} {Bm base b2 n size k c : Nat} {l : List UInt8} {t : TypeId} {A : Option Addr} {xs : List Value} (h : MapIs w Bm base l n) (hg : Own w b2 t size A k c xs) (ht : 3 ≠ t) (hgr : w.grownBy w' (blockOf A)) : MapIs w' Bm base l n := by
  refine h.kept hgr ?_ (fun blk hb => ?_)
  · intro e
    obtain ⟨cs, hc⟩ := own_blk hg Bm e.symm
    exact nk_not h hc (fun e => ht e.symm) (.inl rfl)
  · obtain ⟨cs, hc⟩ := own_blk hg blk hb
    exact ⟨t, cs, ht, hc⟩
theorem nk_below {w w' : World} {Bm base B : Nat} (h : Only (NK Bm base w) w w') (hB : B ≤ w.heap.size) (hm : B ≤ Bm) (hb : B ≤ base) : Below B w w' :=
  h.below hB fun i hi => by
    rcases hi with rfl | ⟨h1, _⟩
    · exact hm
    · omega
end Go.Proofs.Ytcfmfhkajngknaa
