/- Lists apart from each other: what acts on one of them leave of the others. -/
import Derived.Test.YtmpmjgoipfgfoaaCoL
import Derived.Test.YtmpmjgoipfgfoaaCoPlain
namespace Go.Proofs.Ytmpmjgoipfgfoaa
open Go.RowKit
open Pl
theorem Lst.only {K : Nat → Prop} {w w' : World} {g : Nat} {A : Option Addr} {c : Nat} {L : List Pr} (h : Lst w g A c L) (k : Only K w w') (hg : ¬ K g) (hA : ∀ x, blockOf A = some x → ¬ K x) : Lst w' g A c L := ⟨h.1.only k hg, Own.only h.2 k hA⟩
theorem cutL_fine {L : List Pr} (hf : Fine L) (m : Int) : Fine (cutL L m).1 ∧ tot (cutL L m).1 = tot L ∧ (cutL L m).1.length ≤ L.length := by
  have hc : 1 ≤ cutN m := by unfold cutN; omega
  unfold cutL
  split
  · exact ⟨hf, rfl, Nat.le_refl _⟩
  · have h1 := cutI_tot (L := L) (i := L.length - cutN m) (by omega)
    refine ⟨⟨cutI_srt hf.srt _, cutI_pos hf.pos _, cutI_keys (P := fun k => -1048576 ≤ k ∧ k ≤ 1048576) hf.keys, by simp only [h1]; exact hf.tot, ?_⟩, h1, ?_⟩
    · have := hf.len
      simp only [cutI_len]; omega
    · simp only [cutI_len]; omega
def Dj (A A2 : Option Addr) : Prop := ∀ x, blockOf A = some x → blockOf A2 ≠ some x
theorem Dj.symm {A A2 : Option Addr} (h : Dj A A2) : Dj A2 A := fun x h1 h2 => h x h2 h1
section
variable {w w' : World} {g g' c c' base cw : Nat} {A A' A2 W : Option Addr} {L L' M : List Pr}
theorem lst_other (h : Lst w g A c L) (hy : Lst w g' A2 c' M) (hg : g ≠ g') (hd : Dj A A2) (k : Only (LK g A) w w') : Lst w' g' A2 c' M :=
  hy.only k (fun e => by
    rcases e with e | e
    · exact hg e.symm
    · exact Own.ne_blk (show Own w g 38 2 A L.length c (pcs L) from h.2) hy.1 (by decide) e) (fun x hx e => by
    rcases e with e | e
    · exact Own.ne_blk (show Own w g' 38 2 A2 M.length c' (pcs M) from hy.2) h.1 (by decide) (by rw [← e]; exact hx)
    · exact hd x e hx)
theorem row_other (h : Lst w g A c L) (hy : OwnP w base W cw M) (hd : Dj A W) (k : Only (LK g A) w w') : OwnP w' base W cw M :=
  Own.only hy k (fun x hx e => by
    rcases e with e | e
    · exact Own.ne_blk (show Own w base 38 2 W M.length cw (pcs M) from hy) h.1 (by decide) (by rw [← e]; exact hx)
    · exact hd x e hx)
theorem dj_new (hd : Dj A W) (hy : OwnP w base W cw M) (hq : ∀ x, blockOf A' = some x → blockOf A = some x ∨ w.heap.size ≤ x) : Dj A' W := fun x hx e => by
  rcases hq x hx with h | h
  · exact hd x h e
  · have := (Own.block (show Own w base 38 2 W M.length cw (pcs M) from hy) e).2
    omega
/-- What an act on a list leaves: Add, Cut, Take. -/
def Acted (g : Nat) (A : Option Addr) (L' : List Pr) (w w' : World) (A' : Option Addr) (c' : Nat) : Prop := Lst w' g A' c' L' ∧ Only (LK g A) w w' ∧ ∀ x, blockOf A' = some x → blockOf A = some x ∨ w.heap.size ≤ x
theorem Counted.acted (h : Counted g A L w w') : ∃ A' c', Acted g A L w w' A' c' := by
  obtain ⟨A', c', h1, h2, h3⟩ := h
  refine ⟨A', c', h1, h2, fun x hx => ?_⟩
  rcases h3 with h3 | ⟨i, h3, h4⟩
  · exact .inl (by rw [← h3]; exact hx)
  · rw [hx] at h3
    injection h3 with h3
    exact .inr (by omega)
theorem Took.acted (h : Took g A L w w') : ∃ A' c', Acted g A L w w' A' c' := by
  obtain ⟨A', c', h1, h2, h3⟩ := h
  refine ⟨A', c', h1, h2.mono (fun i hi => .inl hi), fun x hx => ?_⟩
  rcases h3 with h3 | h3
  · exact .inl (by rw [← h3]; exact hx)
  · exact .inr (h3 x hx)
theorem acted_below {B : Nat} {w0 : World} (hb : Below B w0 w) (hB : B ≤ w.heap.size) (hg : B ≤ g) (h : Lst w g A c L) {A' : Option Addr} {c' : Nat} (ha : Acted g A L' w w' A' c') : Below B w0 w' := by
  refine hb.trans (ha.2.1.below hB (fun i hi => ?_))
  rcases hi with rfl | hi
  · exact hg
  · exact Nat.le_trans hg (Own.block (show Own w g 38 2 A L.length c (pcs L) from h.2) hi).1
end
theorem tot_nil_of {L : List Pr} (hp : Pos L) (h : tot L = 0) : L = [] := by
  cases L with
  | nil => rfl
  | cons p L => have := tot_pos hp (l := p :: L) (by simp); omega
theorem cutL_rank {L : List Pr} (hf : Fine L) (m : Int) {r : Nat} (h1 : 1 ≤ r) (h2 : r ≤ tot L) : rank L r ≤ rank (cutL L m).1 r := by
  have hc : 1 ≤ cutN m := by unfold cutN; omega
  unfold cutL
  split
  · exact Int.le_refl _
  · exact cutI_rank hf.srt (by omega) h1 h2
theorem cutL_len {L : List Pr} {m : Nat} (h : 1 ≤ m) : (cutL L (m : Int)).1.length ≤ m := by
  unfold cutL cutN
  rw [show (max (m : Int) 1).toNat = m by omega]
  split
  · assumption
  · simp only [cutI_len]; omega
theorem cutL_count {L : List Pr} (hf : Fine L) (m : Int) {t : Nat} {q : Pr} (ht : 0 < t) (hq : (cutL L m).1[t]? = some q) : cnt L q.1 = q.2 := by
  have hc : 1 ≤ cutN m := by unfold cutN; omega
  unfold cutL at hq
  split at hq
  · exact cnt_of_mem hf.srt (List.mem_of_getElem? hq)
  · exact cutI_count hf.srt (by omega) ht hq
end Go.Proofs.Ytmpmjgoipfgfoaa
