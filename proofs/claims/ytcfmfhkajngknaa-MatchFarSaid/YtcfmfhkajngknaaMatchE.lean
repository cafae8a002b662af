/- Match: best, whatever is left of the text. -/
import Derived.Test.YtcfmfhkajngknaaMatchD
import Derived.Test.YtcfmfhkajngknaaMatchToks
namespace Go.Proofs.Ytcfmfhkajngknaa
open Go.RowKit
open Mt
theorem best_t (g : Nat) (A : Option Addr) (c : Nat) (l : List UInt8) (Bm base : Nat) (a : Nat) (w : World) (h : Blk w g 41 #[.slice A l.length c, .map (some Bm)]) (hb : Bts w w.heap.size A l) (hM : MapIs w Bm base l a) (hm : l.length ≤ 16777216) (ha : a < l.length) (hcl : l.length ≤ c) :
    Calls Try.prog 14 #[.pointer (some ⟨g, 0, none⟩), .int .i64 (a : Int)] w fun e w' => e = .returned (tokV (l.getD a 0).toNat (Mt.tok l a)) ∧ Below w.heap.size w w' := by
  have gd : ∀ i (hi : i < l.length), l.getD i 0 = l[i] := fun i hi => by simp [List.getD, hi]
  unfold Mt.tok
  by_cases h3 : a + 3 ≤ l.length
  · rw [if_pos h3, gd a ha, gd (a + 1) (by omega), gd (a + 2) (by omega)]
    exact best_go g A c l Bm base a w h hb hM hm h3 hcl
  · rw [if_neg h3, gd a ha]
    exact best_end g A c l _ a w h hb hm ha (by omega)
end Go.Proofs.Ytcfmfhkajngknaa
