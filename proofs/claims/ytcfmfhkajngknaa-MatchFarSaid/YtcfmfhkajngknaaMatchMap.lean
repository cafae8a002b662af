/- Match: the places' map: an entry that is taken, appended to and stored. -/
import Derived.Test.YtcfmfhkajngknaaBase
import Derived.Test.YtcfmfhkajngknaaProg
import Derived.Maps.OwnRows
import Derived.Maps.Views
import Derived.Maps.Range
import Derived.WideKeyEntry
import Derived.WideKeyArr2
import Derived.DeepKeys4
namespace Go.Proofs.Ytcfmfhkajngknaa
open Go.RowKit Go.ChangeMaps Go.MapKept Go.ChangeShapes
open Go.WideElems (Fit rd rg pl rd_val elemAt entry_then_store)
open Go.Maps (Keyed)

theorem laidOut : laidOutB Try.prog = true := by kernel_rfl
theorem rowK : (47 : TypeId) < Try.prog.types.size := of_decide_eq_true (by kernel_rfl)
theorem wideK : (match Try.prog.underlying 47 with | some (.array _ _) | some (.struct _) => true | _ => false) = true := by rw [Try.underlying47]
theorem lawK : WideMaps.KeyLaw Try.prog 47 := deep_law_laid laidOut (m := 2) (by omega) rowK (by kernel_rfl) wideK
section
variable {H : Type} {P : Program} {w : World} {t k E : TypeId} {R : Value → Option (DataW H × List MemPlace)} {b : Nat} {es : Array MapEntry} {clock : Nat}
/-- A store at a key hangs on the map's block alone. -/
theorem upd_run (K : WideMaps.KeyLaw P k) (ht : P.underlying t = some (.map k E)) (F : Fit P k R es clock) {key val : Value} {kl : Lit} (hkey : keyOf P k key = some kl) :
    ∃ o, ∀ W : World, W.heap[b]? = some (.map es clock) → (Instr.mapUpdate t (.map (some b)) key val).run P W = .ok () (setBlock W b o) := by
  by_cases hex : ∃ e ∈ es.toList, e.key = key
  · obtain ⟨e, he, hek⟩ := hex
    obtain ⟨j0, hj0, rfl⟩ := List.getElem_of_mem he
    refine ⟨.map (es.modify j0 fun e' => { e' with key := key, val := val }) clock, fun W hb => ?_⟩
    rcases K.find W hkey es.toList F.keys with ⟨_, h2⟩ | ⟨j, e0, h1, h2, h3⟩
    · exact absurd hek (h2 _ he)
    · obtain ⟨hj, hje⟩ := List.getElem?_eq_some_iff.1 h2
      have hjj : j = j0 := by
        rcases Nat.lt_trichotomy j j0 with hlt | heq | hlt
        · exact absurd (by rw [hje, h3, hek]) (List.pairwise_iff_getElem.1 ((stamped_iff _ _).1 F.stamped).2.2 j j0 hj hj0 hlt)
        · exact heq
        · exact absurd (by rw [hje, h3, hek]) (List.pairwise_iff_getElem.1 ((stamped_iff _ _).1 F.stamped).2.2 j0 j hj0 hj hlt)
      subst hjj
      have hja : es[j]? = some e0 := by simpa using h2
      simp [Instr.mapUpdate, run_underlying ht, MapKept.run_getObj_map hb, K.check W false hkey, h1, hja, h3, K.stays W hkey, MapKept.run_setObj_map _ hb, Result.andThen, setBlock]
  · refine ⟨.map (es.push ⟨key, val, clock⟩) (clock + 1), fun W hb => ?_⟩
    rcases K.find W hkey es.toList F.keys with ⟨h1, _⟩ | ⟨j, e0, _, h2, h3⟩
    · simp [Instr.mapUpdate, run_underlying ht, MapKept.run_getObj_map hb, K.check W false hkey, h1, MapKept.run_setObj_map _ hb, Result.andThen, setBlock]
    · exact absurd ⟨e0, List.mem_of_getElem? h2, h3⟩ hex
variable {base n : Nat} {e : TypeId} {q : IntKind} {D : DataW H}
/-- m[k] = append(m[k], ..): the entry taken, and the way back to the store. -/
theorem groups_entry {key : Value} {kl : Lit} (h : w.ownsGroups P k base e q b n D) (K : WideMaps.KeyLaw P k) (ht : P.underlying t = some (.map k E)) (hz : ∀ u : World, (zeroValue E).run P u = .ok (.slice none 0 0) u) (hn : n < maxLen) (hkey : keyOf P k key = some kl) :
    ∃ v zs st w1, (Instr.mapEntry t (.map (some b)) key).run P w = .ok (.tuple #[v, goInt st]) w1 ∧ w.grownBy w1 (some b) ∧ w1.heap.size = w.heap.size ∧ D.atKey kl .nil = rowDatum q v zs ∧ w1.ownsInts base e q v zs ∧ zs.length ≤ n ∧ b < base ∧
      ∀ (w2 : World) (v' : Value) (zs' : List Int), w1.grownBy w2 v.ownBlock → w2.ownsInts base e q v' zs' → zs'.length ≤ n + 1 → (v'.ownBlock = v.ownBlock ∨ ∃ g, v'.ownBlock = some g ∧ w.heap.size ≤ g) →
        ∃ w3, (Instr.entryStore t (.map (some b)) (goInt st) v').run P w2 = .ok () w3 ∧ w3.ownsGroups P k base e q b (n + 1) (D.put kl (rowDatum q v' zs')) ∧ w2.grownBy w3 (some b) := by
  have hh := h
  obtain ⟨es, clock, hb, F, hs, hD, hbb, hlen, hap⟩ := h
  have hblt : b < w.heap.size := (Array.getElem?_eq_some_iff.1 hb).1
  obtain ⟨v, zs, hlook, hat, hoi, hzl, hback⟩ := hh.at (Keyed.of_law K) ht (hz w) hn hkey
  obtain ⟨v0, st, es1, clock1, hrun, hwho, hstore⟩ := entry_then_store K ht hz hb F hkey
  have hv : v0 = v := by
    rcases Maps.fit_look false (Keyed.of_law K) ht (hz w) hb F hkey with ⟨hl, hno, _⟩ | ⟨e0, y, hm0, h3, hl, _⟩
    · rw [hlook] at hl
      rcases hwho with ⟨e1, he1, hk1, _⟩ | ⟨_, hv0⟩
      · exact absurd hk1 (hno e1 he1)
      · simp at hl
        rw [hv0, hl]
    · rw [hlook] at hl
      rcases hwho with ⟨e1, he1, hk1, hv0⟩ | ⟨hno, _⟩
      · have : e1 = e0 := entry_eq_of_key ((stamped_iff _ _).1 F.stamped).2.2 he1 hm0 (hk1.trans h3.symm)
        simp at hl
        rw [hv0, hl, this]
      · exact absurd h3 (hno e0 hm0)
  subst hv
  have hvb : v0.ownBlock ≠ some b := fun e1 => by
    have := (hoi.1.lt b e1).1
    omega
  have hg1 : w.grownBy (setBlock w b (.map es1 clock1)) (some b) := ⟨rfl, rfl, rfl, by simp [setBlock], fun i _ hi => heap_setBlock_other hb _ (fun e1 => hi (by rw [e1]))⟩
  have hoi1 := hoi.kept hg1 (by
    cases hvo : v0.ownBlock with
    | none => exact .inl rfl
    | some g => exact .inr (fun e1 => hvb (by rw [hvo, e1])))
  refine ⟨v0, zs, st, _, hrun, hg1, by simp [setBlock], hat, hoi1, hzl, hbb, fun w2 v' zs' hg2 hown' hl' hloc => ?_⟩
  have hb1 : (setBlock w b (.map es1 clock1)).heap[b]? = some (.map es1 clock1) := heap_setBlock_same hb _
  have hb2 : w2.heap[b]? = some (.map es1 clock1) := (hg2.block b (by simpa [setBlock] using hblt) (fun e1 => hvb e1.symm)).trans hb1
  obtain ⟨es', clock', hr2, hru⟩ := hstore w2 v' hb2
  obtain ⟨o, ho⟩ := upd_run (b := b) (val := v') K ht F hkey
  have hoe : o = .map es' clock' := by
    have h1 := (ho w hb).symm.trans hru
    simp only [Result.ok.injEq, true_and] at h1
    have h2 : (setBlock w b o).heap[b]? = some o := heap_setBlock_same hb _
    rw [h1, heap_setBlock_same hb] at h2
    exact (Option.some.inj h2).symm
  have hwb : (setBlock w2 b (.map es clock)).heap[b]? = some (.map es clock) := heap_setBlock_same hb2 _
  have hgw : w.grownBy (setBlock w2 b (.map es clock)) v0.ownBlock := by
    refine ⟨hg2.os, hg2.tape, hg2.output, ?_, fun i hi hne => ?_⟩
    · have := hg2.size
      simpa [setBlock] using this
    · by_cases hib : i = b
      · subst hib
        rw [hwb, hb]
      · rw [heap_setBlock_other hb2 _ hib, hg2.block i (by simpa [setBlock] using hi) hne, heap_setBlock_other hb _ hib]
  have hgv : w2.grownBy (setBlock w2 b (.map es clock)) (some b) := ⟨rfl, rfl, rfl, by simp [setBlock], fun i _ hi => heap_setBlock_other hb2 _ (fun e1 => hi (by rw [e1]))⟩
  have hown2 := hown'.kept hgv (by
    cases hvo : v'.ownBlock with
    | none => exact .inl rfl
    | some g =>
      refine .inr (fun e1 => ?_)
      have := (hown'.1.lt g hvo).1
      cases e1
      omega)
  obtain ⟨w3, hr3, r1, _⟩ := hback _ v' zs' hgw hown2 hl' hloc
  have hw3 : w3 = setBlock w2 b (.map es' clock') := by
    have h1 := (ho _ hwb).symm.trans hr3
    simp only [Result.ok.injEq, true_and] at h1
    rw [← h1, hoe]
    simp [setBlock]
  exact ⟨w3, by rw [hw3]; exact hr2, r1, by rw [hw3]; exact ⟨rfl, rfl, rfl, by simp [setBlock], fun i _ hi => heap_setBlock_other hb2 _ (fun e1 => hi (by rw [e1]))⟩⟩
end
end Go.Proofs.Ytcfmfhkajngknaa
