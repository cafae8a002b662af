/- Match: the map tells where three bytes stand. -/
import Derived.Test.YtcfmfhkajngknaaMatchMap
import Derived.Test.YtcfmfhkajngknaaMatchPlain
import Derived.Test.YtcfmfhkajngknaaChecked
import Derived.Maps.GroupsBeside
namespace Go.Proofs.Ytcfmfhkajngknaa
open Go.RowKit Go.ChangeMaps Go.MapKept Go.ChangeShapes
open Go.Maps (Keyed)
open Go.WideElems (rd_val)
open Mt

abbrev TM : TypeId := 39
abbrev TK : TypeId := 47
theorem arr3 : WideMaps.ArrKey Try.prog TK 5 3 := ⟨Try.underlying47, by kernel_rfl, by kernel_rfl, by kernel_rfl⟩
theorem sizeK : ∃ m, Try.prog.types.size = m + 1 := ⟨Try.prog.types.size - 1, by have := rowK; simp only [TypeId] at this; omega⟩
theorem zeroE (u : World) : (zeroValue 46).run Try.prog u = .ok (.slice none 0 0) u := by kernel_rfl
/-- Three bytes as a key. -/
def k3 (x y z : UInt8) : Value := .agg #[bv x, bv y, bv z]
def l3 (x y z : UInt8) : Lit := .string (keyBytes [.int .u8 (x.toNat : Int), .int .u8 (y.toNat : Int), .int .u8 (z.toNat : Int)])
theorem byte_wf (x : UInt8) : (Lit.int .u8 (x.toNat : Int)).wf = true := by
  have := x.toNat_lt
  simp [Lit.wf, IntKind.min, IntKind.max, IntKind.bits, IntKind.signed]
  omega
theorem key3 (x y z : UInt8) : keyOf Try.prog TK (k3 x y z) = some (l3 x y z) := by
  have hkt := arr3.keyType sizeK
  obtain ⟨m, hm⟩ := sizeK
  unfold keyOf k3 l3
  simp only [arr3.hu]
  rw [if_pos (by simp [hkt, Value.formed, arr3.hu, arr3.size]), hm]
  unfold Program.keyLits
  simp only [arr3.hu, Value.cells]
  rw [if_pos (by rw [arr3.size]; rfl), show List.range 3 = [0, 1, 2] from rfl, List.mapM_cons, List.mapM_cons, List.mapM_cons, List.mapM_nil]
  simp [arr3.one, Program.keyLits, Try.underlying5, byte_wf, bv]
theorem l3_ne {x y z x' y' z' : UInt8} (h : ¬ (x' = x ∧ y' = y ∧ z' = z)) : l3 x' y' z' ≠ l3 x y z := fun e => by
  have h1 := key3 x' y' z'
  rw [e] at h1
  have h2 := lawK.inj h1 (key3 x y z)
  simp only [k3, bv, Value.agg.injEq, Array.mk.injEq, List.cons.injEq, Value.int.injEq, true_and, and_true, Int.natCast_inj, UInt8.toNat_inj] at h2
  exact h ⟨h2.1, h2.2.1, h2.2.2⟩
def psI (l : List UInt8) (n : Nat) (x y z : UInt8) : List Int := (ps l n x y z).map fun (p : Nat) => (p : Int)
def At (D : DataW Unit) (k : Lit) (zs : List Int) : Prop := (zs = [] ∧ D.atKey k .nil = .nil) ∨ D.atKey k .nil = .slice (lits .i64 zs) []
theorem lits_inj {a b : List Int} (h : (lits .i64 a : List (DataW Unit)) = lits .i64 b) : a = b := by
  unfold lits at h
  exact (List.map_inj_right (fun a b hab => by simpa using hab)).1 h
theorem At.same {D : DataW Unit} {k : Lit} {zs ys : List Int} {w : World} {base : Nat} {e : TypeId} {v : Value} (h : At D k zs) (hat : D.atKey k .nil = rowDatum .i64 v ys) (hoi : w.ownsInts base e .i64 v ys) : ys = zs := by
  rcases hoi.datum (H := Unit) with ⟨e1, rfl⟩ | e1 <;> rw [e1] at hat <;> rcases h with ⟨rfl, h⟩ | h <;> rw [hat] at h
  all_goals first | rfl | (cases h; done) | exact lits_inj (by simpa using h)
/-- A look-up hangs on the map's block alone. -/
theorem look_run {P : Program} {t k E : TypeId} {R : Value → Option (DataW Unit × List MemPlace)} {b : Nat} {es : Array MapEntry} {clock : Nat} (K : WideMaps.KeyLaw P k) (ht : P.underlying t = some (.map k E)) (hz : ∀ u : World, (zeroValue E).run P u = .ok (.slice none 0 0) u) (F : WideElems.Fit P k R es clock) {key : Value} {kl : Lit} (hkey : keyOf P k key = some kl) :
    ∃ v, ∀ W : World, W.heap[b]? = some (.map es clock) → (Instr.lookup t (.map (some b)) key false).run P W = .ok v W := by
  by_cases hex : ∃ e ∈ es.toList, e.key = key
  · obtain ⟨e, he, hek⟩ := hex
    refine ⟨e.val, fun W hb => ?_⟩
    rcases Maps.fit_look false (Keyed.of_law K) ht (hz W) hb F hkey with ⟨_, h2, _⟩ | ⟨e0, y, hm0, h3, hl, _⟩
    · exact absurd hek (h2 e he)
    · have : e0 = e := entry_eq_of_key ((stamped_iff _ _).1 F.stamped).2.2 hm0 he (h3.trans hek.symm)
      subst this
      simpa using hl
  · refine ⟨.slice none 0 0, fun W hb => ?_⟩
    rcases Maps.fit_look false (Keyed.of_law K) ht (hz W) hb F hkey with ⟨hl, _⟩ | ⟨e0, y, hm0, h3, _⟩
    · simpa using hl
    · exact absurd ⟨e0, hm0, h3⟩ hex
/-- Block Bm is the map of the places below n. -/
def MapIs (w : World) (Bm base : Nat) (l : List UInt8) (n : Nat) : Prop :=
  ∃ D : DataW Unit, w.ownsGroups Try.prog TK base 3 .i64 Bm n D ∧ Maps.IsMap D ∧ ∀ x y z, At D (l3 x y z) (psI l n x y z)
theorem MapIs.new (w : World) (l : List UInt8) : MapIs (w.alloc (.map #[] 0)) w.heap.size (w.heap.size + 1) l 0 :=
  ⟨.map [], World.ownsGroups_made _ _ _ _ _, Maps.isMap_empty, fun _ _ _ => .inl ⟨rfl, rfl⟩⟩
theorem MapIs.at_ {w : World} {Bm base n : Nat} {l : List UInt8} (h : MapIs w Bm base l n) (hn : n < maxLen) (x y z : UInt8) :
    ∃ v, (Instr.lookup TM (.map (some Bm)) (k3 x y z) false).run Try.prog w = .ok v w ∧ w.ownsInts base 3 .i64 v (psI l n x y z) := by
  obtain ⟨D, ho, _, hat⟩ := h
  obtain ⟨v, zs, hrun, h1, hoi, _, _⟩ := ho.at (t := TM) (Keyed.of_law lawK) Try.underlying39 (zeroE w) hn (key3 x y z)
  have := (hat x y z).same h1 hoi
  subst this
  exact ⟨v, hrun, hoi⟩
theorem MapIs.look {w : World} {Bm base n : Nat} {l : List UInt8} (h : MapIs w Bm base l n) (hn : n < maxLen) (x y z : UInt8) :
    ∃ v, (∀ W : World, W.heap[Bm]? = w.heap[Bm]? → (Instr.lookup TM (.map (some Bm)) (k3 x y z) false).run Try.prog W = .ok v W) ∧ w.ownsInts base 3 .i64 v (psI l n x y z) := by
  obtain ⟨v, hrun, hoi⟩ := h.at_ hn x y z
  obtain ⟨D, ⟨es, clock, hb, F, _⟩, _⟩ := h
  obtain ⟨v2, h2⟩ := look_run (b := Bm) lawK Try.underlying39 zeroE F (key3 x y z)
  have e := (h2 w hb).symm.trans hrun
  simp only [Result.ok.injEq, and_true] at e
  subst e
  exact ⟨v2, fun W hW => h2 W (hW.trans hb), hoi⟩
theorem MapIs.skip {w : World} {Bm base n : Nat} {l : List UInt8} (h : MapIs w Bm base l n) (hn : l.length < n + 3) : MapIs w Bm base l (n + 1) := by
  obtain ⟨D, ⟨es, clock, hb, F, hs, hD, hbb, hlen, hap⟩, hm, hat⟩ := h
  refine ⟨D, ⟨es, clock, hb, F, by omega, hD, hbb, fun x hx zs hz => Nat.le_succ_of_le (hlen x hx zs hz), hap⟩, hm, fun x y z => ?_⟩
  have e : psI l (n + 1) x y z = psI l n x y z := by
    unfold psI
    rw [ps_succ, if_neg]
    intro h3
    simp only [at3, Bool.and_eq_true, beq_iff_eq] at h3
    have := (List.getElem?_eq_some_iff.1 h3.2).1
    omega
  rw [e]
  exact hat x y z
theorem MapIs.entry {w : World} {Bm base n : Nat} {l : List UInt8} (h : MapIs w Bm base l n) (hn : n < maxLen) {x y z : UInt8} (h3 : at3 l n x y z = true) :
    ∃ v st w1, (Instr.mapEntry TM (.map (some Bm)) (k3 x y z)).run Try.prog w = .ok (.tuple #[v, goInt st]) w1 ∧ w.grownBy w1 (some Bm) ∧ w1.heap.size = w.heap.size ∧ w1.ownsInts base 3 .i64 v (psI l n x y z) ∧ Bm < base ∧
      ∀ (w2 : World) (v' : Value), w1.grownBy w2 v.ownBlock → w2.ownsInts base 3 .i64 v' (psI l n x y z ++ [(n : Int)]) → (v'.ownBlock = v.ownBlock ∨ ∃ g, v'.ownBlock = some g ∧ w.heap.size ≤ g) →
        ∃ w3, (Instr.entryStore TM (.map (some Bm)) (goInt st) v').run Try.prog w2 = .ok () w3 ∧ MapIs w3 Bm base l (n + 1) ∧ w2.grownBy w3 (some Bm) := by
  obtain ⟨D, ho, hm, hat⟩ := h
  obtain ⟨v, zs, st, w1, hrun, hg, hsz, h1, hoi, hzl, hbb, hback⟩ := groups_entry (t := TM) ho lawK Try.underlying39 zeroE hn (key3 x y z)
  have := (hat x y z).same h1 hoi
  subst this
  refine ⟨v, st, w1, hrun, hg, hsz, hoi, hbb, fun w2 v' hg2 hown hloc => ?_⟩
  have hlen : (psI l n x y z ++ [(n : Int)]).length ≤ n + 1 := by
    have := ps_len l n x y z
    simp [psI]
    omega
  obtain ⟨w3, hr3, ho3, hg3⟩ := hback w2 v' _ hg2 hown hlen hloc
  refine ⟨w3, hr3, ⟨_, ho3, (let ⟨es, e⟩ := hm; by subst e; exact ⟨_, rfl⟩), fun x' y' z' => ?_⟩, hg3⟩
  by_cases hx : x' = x ∧ y' = y ∧ z' = z
  · obtain ⟨rfl, rfl, rfl⟩ := hx
    have e : psI l (n + 1) x' y' z' = psI l n x' y' z' ++ [(n : Int)] := by
      unfold psI
      rw [ps_succ, if_pos h3, List.map_append]
      rfl
    rw [e]
    refine .inr ?_
    rw [Maps.atKey_put_same hm ((Keyed.of_law lawK).key (key3 x' y' z')), hown.datum_pos (by simp)]
  · have e : psI l (n + 1) x' y' z' = psI l n x' y' z' := by
      unfold psI
      rw [ps_succ, if_neg]
      intro hh
      simp only [at3, Bool.and_eq_true, beq_iff_eq] at h3 hh
      obtain ⟨⟨a1, a2⟩, a3⟩ := hh
      rw [h3.1.1] at a1
      rw [h3.1.2] at a2
      rw [h3.2] at a3
      exact hx ⟨(Option.some.inj a1).symm, (Option.some.inj a2).symm, (Option.some.inj a3).symm⟩
    rw [e]
    unfold At
    rw [Maps.atKey_put_other (l3_ne hx)]
    exact hat x' y' z'
/-- Over whatever turns another block that is none of the rows (whose cells are of another type), and new blocks. -/
theorem MapIs.kept {w w' : World} {Bm base n : Nat} {l : List UInt8} {row : Option Nat} (h : MapIs w Bm base l n) (hg : w.grownBy w' row) (hb : some Bm ≠ row) (hr : ∀ blk, row = some blk → ∃ t cs, 3 ≠ t ∧ Blk w blk t cs) : MapIs w' Bm base l n := by
  obtain ⟨D, ho, hm, hat⟩ := h
  refine ⟨D, ho.kept hg hb ?_, hm, hat⟩
  obtain ⟨es0, clock0, hb0, F, _⟩ := ho
  intro es clock he x hx
  rw [hb0] at he
  cases he
  obtain ⟨y, hy⟩ := F.reads x hx
  obtain ⟨z, hz, _⟩ := rd_val hy
  obtain ⟨zs, ho1, _⟩ := rowElem_inv hz
  obtain ⟨A, c, hv⟩ := own_shape ho1.1
  have ho2 := ho1.1
  rw [hv] at ho2 ⊢
  rw [ownBlock_slice]
  cases row with
  | none =>
    cases A with
    | none => exact .inl rfl
    | some a => exact .inr (by simp [blockOf])
  | some blk =>
    obtain ⟨t, cs, hne, hblk⟩ := hr blk rfl
    exact .inr (Own.ne_blk ho2 hblk hne)
theorem MapIs.grown {w w' : World} {Bm base n : Nat} {l : List UInt8} (h : MapIs w Bm base l n) (hg : w.grownBy w' none) : MapIs w' Bm base l n :=
  h.kept hg (by simp) (fun _ e => by cases e)
end Go.Proofs.Ytcfmfhkajngknaa
