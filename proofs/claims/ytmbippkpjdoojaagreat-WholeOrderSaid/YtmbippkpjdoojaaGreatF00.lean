/- Names. -/
import Derived.WalkKit
import Derived.Lib.Hide
namespace Go.Proofs.YtmbippkpjdoojaaGreat
open Go.RowKit
theorem Oh {p : Prop} (h : p) : Hid p := Lib.hid h
theorem Oi (n : Nat) : n ≤ n := Nat.le_refl n
theorem Oj {α : Type _} {l : List α} {i : Nat} (h : i < l.length) : l[i]? = some l[i] := List.getElem?_eq_getElem h
theorem Ok {α : Type _} {l r : List α} : (l ++ r).length = l.length + r.length := List.length_append
theorem Ol (a : Int) (h : -9223372036854775808 ≤ a ∧ a ≤ 9223372036854775807) : IntKind.i64.wrap a = a := IntWalk.i64_in a h
theorem Om {α : Type _} {l : List α} {i : Nat} {a : α} (h : l[i]? = some a) : a ∈ l := List.mem_of_getElem? h
theorem On (n : Int) : IntKind.u64.wrap n = n % 18446744073709551616 := IntKind.wrap_u64 n
theorem Oo {n m k : Nat} (h : n ≤ m) (h2 : m ≤ k) : n ≤ k := Nat.le_trans h h2
theorem Oq (B : Nat) (w : World) : Below B w w := Below.refl B w
end Go.Proofs.YtmbippkpjdoojaaGreat
