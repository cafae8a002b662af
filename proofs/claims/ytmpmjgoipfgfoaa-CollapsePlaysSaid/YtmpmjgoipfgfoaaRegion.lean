/- A region that draws its order, walked by hand: a condition S holds till operation L (the last store, say) has been carried out; what yields its value in every world that meets S, and for which L waits, is taken first. After the kit's own laws on 'wpAnyH', which ask S behind L, too. -/
import Derived.Test.YtmpmjgoipfgfoaaBase
import Derived.RegionTactic
import Derived.Deep.RegionHeld3
namespace Go.Proofs.Ytmpmjgoipfgfoaa
open Go.RowKit
section
variable {P : Program} {ops : Array Oper} {Q : Exit → Act → World → Prop} {md : Region.Mode} {S : World → Prop} {L : Nat}

/-- Does operation j wait for i, at once or through others? -/
def awaits (md : Region.Mode) (ops : Array Oper) (i : Nat) : Nat → Nat → Bool
  | 0, _ => false
  | n + 1, j => match ops[j]? with
    | none => false
    | some o => o.after.any fun e => Region.binds md e && (e.on == i || awaits md ops i n e.on)
/-- What has come up came behind all that it waits for. -/
def Good (md : Region.Mode) (ops : Array Oper) (listed : Array Bool) : Prop := ∀ k o, ops[k]? = some o → listed.getD k false = true → ∀ e ∈ o.after, Region.binds md e = true → listed.getD e.on false = true
def goodB (md : Region.Mode) (ops : Array Oper) (listed : Array Bool) : Bool := (List.range ops.size).all fun k => !(listed.getD k false) || match ops[k]? with
  | none => true
  | some o => o.after.all fun e => !(Region.binds md e) || listed.getD e.on false
theorem good_of {listed : Array Bool} (h : goodB md ops listed = true) : Good md ops listed := by
  intro k o hk hl e he hb
  unfold goodB at h
  rw [List.all_eq_true] at h
  have h1 := h k (List.mem_range.2 (Array.getElem?_eq_some_iff.1 hk).1)
  rw [hl, hk] at h1
  simp only [Bool.not_true, Bool.false_or] at h1
  rw [Array.all_eq_true'] at h1
  have h2 := h1 e he
  rw [hb] at h2
  simpa using h2
theorem Good.step {listed : Array Bool} {j : Nat} (h : Good md ops listed) (hj : j ∈ Region.ready md ops listed) : Good md ops (listed.setIfInBounds j true) := by
  intro k o hk hl e he hb
  refine getD_set_true ?_
  by_cases hjk : j = k
  · subst hjk
    obtain ⟨_, oj, hoj, hall⟩ := mem_ready.1 hj
    rw [hoj] at hk
    injection hk with hk
    subst hk
    exact hall e he hb
  · rw [getD_set_ne false hjk] at hl
    exact h k o hk hl e he hb
theorem awaits_listed {listed : Array Bool} {i : Nat} (hg : Good md ops listed) : ∀ (n j : Nat) (o : Oper), awaits md ops i n j = true → ops[j]? = some o → (∀ e ∈ o.after, Region.binds md e = true → listed.getD e.on false = true) → listed.getD i false = true := by
  intro n
  induction n with
  | zero => intro j o h; simp [awaits] at h
  | succ n ih =>
    intro j o h hj hall
    simp only [awaits, hj] at h
    rw [Array.any_eq_true'] at h
    obtain ⟨e, he, h2⟩ := h
    simp only [Bool.and_eq_true, Bool.or_eq_true, beq_iff_eq] at h2
    obtain ⟨hb, h3⟩ := h2
    have hl := hall e he hb
    rcases h3 with h3 | h3
    · rw [← h3]; exact hl
    · cases hk : ops[e.on]? with
      | none =>
        cases n with
        | zero => simp [awaits] at h3
        | succ n => simp [awaits, hk] at h3
      | some o2 => exact ih e.on o2 h3 hk (fun e2 he2 hb2 => hg e.on o2 hk hl e2 he2 hb2)
theorem not_ready {listed : Array Bool} {i n : Nat} (hg : Good md ops listed) (ha : awaits md ops i n L = true) (hun : listed.getD i true = false) : ¬ L ∈ Region.ready md ops listed := by
  intro h
  obtain ⟨_, o, ho, hall⟩ := mem_ready.1 h
  have h1 := awaits_listed hg n L o ha ho hall
  rcases Nat.lt_or_ge i listed.size with h' | h'
  · simp [h'] at hun h1
    rw [hun] at h1
    cases h1
  · simp [Array.getElem?_eq_none h'] at h1

def wpAnyT (P : Program) (md : Region.Mode) (ops : Array Oper) (Q : Exit → Act → World → Prop) (S : World → Prop) (L : Nat) : Nat → Array Bool → Act → World → Prop
  | 0, listed, a, w => Region.ready md ops listed = [] ∧ Q .normal a w
  | fuel + 1, listed, a, w =>
    (Region.ready md ops listed = [] → Q .normal a w) ∧
    ∀ i ∈ Region.ready md ops listed, wpOp P ops Q i (fun a' w' => (i ≠ L → S w') ∧ wpAnyT P md ops Q S L fuel (listed.setIfInBounds i true) a' w') a w
theorem wpAny_of_T : ∀ (fuel : Nat) (listed : Array Bool) (a : Act) (w : World), wpAnyT P md ops Q S L fuel listed a w → wpAny P md ops Q fuel listed a w
  | 0, _, _, _, h => h
  | fuel + 1, _, _, _, h => ⟨h.1, fun i hi => wpOp_mono (fun a' w' h' => wpAny_of_T fuel _ a' w' h'.2) (h.2 i hi)⟩
theorem wpAnyT_first {i n : Nat} {oi : Oper} {v : Value} (hi : ops[i]? = some oi) (hsel : ∀ (j : Nat) (o : Oper) cs b, ops[j]? = some o → o.op ≠ .select cs b)
    (hQ : ∀ c a w, Q (.panic c) (a.put oi.dst v) w → Q (.panic c) a w) (ha : awaits md ops i n L = true) :
    ∀ (fuel : Nat) (listed : Array Bool) (a : Act) (w : World), Good md ops listed →
      (∀ j oj, ops[j]? = some oj → j ≠ i → listed.getD j true = false → (∀ e ∈ oj.after, Region.binds md e = true → e.on ≠ i) → oi.apart ops oj = true) →
      i ∈ Region.ready md ops listed → YieldsIf P ops S oi v a → S w →
      wpAnyT P md ops Q S L fuel (listed.setIfInBounds i true) (a.put oi.dst v) w → wpAnyT P md ops Q S L (fuel + 1) listed a w := by
  intro fuel
  induction fuel with
  | zero =>
    intro listed a w _ _ hr hy hS H
    refine ⟨fun h => (by rw [h] at hr; cases hr), fun j hj => ?_⟩
    by_cases hji : j = i
    · subst hji; exact hy.wpOp hi hS ⟨fun _ => hS, H⟩
    · have := ready_mono hj hji
      rw [H.1] at this
      cases this
  | succ fuel ih =>
    intro listed a w hg hfree hr hy hS H
    refine ⟨fun h => (by rw [h] at hr; cases hr), fun j hj => ?_⟩
    by_cases hji : j = i
    · subst hji; exact hy.wpOp hi hS ⟨fun _ => hS, H⟩
    · have hjL : j ≠ L := by
        rintro rfl
        exact not_ready hg ha (mem_ready.1 hr).1 hj
      have h1 := H.2 j (ready_mono hj hji)
      obtain ⟨hjun, oj, hoj, hall⟩ := mem_ready.1 hj
      have hnot : ∀ e ∈ oj.after, Region.binds md e = true → e.on ≠ i := fun e he hb heq => by
        have h1 := hall e he hb
        have h0 := (mem_ready.1 hr).1
        rw [heq] at h1
        rcases Nat.lt_or_ge i listed.size with h' | h'
        · simp [h'] at h0 h1; rw [h0] at h1; cases h1
        · simp [Array.getElem?_eq_none h'] at h1
      have h2 := wpOp_putIf hoj (hfree j oj hoj hji hjun hnot) (fun cs b => hsel i oi cs b hi) (fun cs b => hsel j oj cs b hoj) hQ hy h1
      have hfree' : ∀ k ok, ops[k]? = some ok → k ≠ i → (listed.setIfInBounds j true).getD k true = false →
          (∀ e ∈ ok.after, Region.binds md e = true → e.on ≠ i) → oi.apart ops ok = true := fun k ok hk hki hun hno => by
        refine hfree k ok hk hki ?_ hno
        by_cases hjk : j = k
        · subst hjk; exact hjun
        · rw [getD_set_ne true hjk] at hun; exact hun
      refine wpOp_mono (fun a' w' h3 => ⟨h3.2.1, ih (listed.setIfInBounds j true) a' w' (hg.step hj) hfree' (ready_mono hr (Ne.symm hji)) h3.1 (h3.2.1 hjL) ?_⟩) h2
      rw [Array.setIfInBounds_comm _ _ hji]
      exact h3.2.2
/-- Take number i first. -/
theorem wpAnyT_take {i : Nat} {oi : Oper} {v : Value} {fuel : Nat} {listed : Array Bool} {a : Act} {w : World} (hi : ops[i]? = some oi)
    (hs : Region.noSelect ops = true) (hf : Region.free md ops listed i = true) (hr : (Region.ready md ops listed).contains i = true)
    (hga : (goodB md ops listed && awaits md ops i ops.size L) = true)
    (hQ : ∀ c a w, Q (.panic c) (a.put oi.dst v) w → Q (.panic c) a w) (hy : YieldsIf P ops S oi v a) (hS : S w)
    (h : wpAnyT P md ops Q S L fuel (listed.setIfInBounds i true) (a.put oi.dst v) w) : wpAnyT P md ops Q S L (fuel + 1) listed a w := by
  rw [Bool.and_eq_true] at hga
  exact wpAnyT_first hi (Region.noSelect_spec hs) hQ hga.2 fuel listed a w (good_of hga.1) (Region.free_spec hi hf) (by simpa using hr) hy hS h
/-- One operation alone may come up: it is carried out; behind it S is shown anew (but behind L). -/
theorem wpAnyT_one {i : Nat} {o : Oper} {fuel : Nat} {listed : Array Bool} {a : Act} {w : World} (ho : ops[i]? = some o) (hr : Region.ready md ops listed = [i])
    (h : ∀ K' : Act → World → Prop, Shut (∀ a w, (i ≠ L → S w) → ((i ≠ L → S w) → wpAnyT P md ops Q S L fuel (listed.setIfInBounds i true) a w) → K' a w) → if Region.wanted o (yielded ops a.tmps) = true then Oper.wp P o a w K' Q else K' (a.put o.dst undef) w) :
    wpAnyT P md ops Q S L (fuel + 1) listed a w := by
  refine ⟨fun h0 => (by rw [hr] at h0; cases h0), fun j hj => ?_⟩
  rw [hr, List.mem_singleton] at hj
  subst hj
  exact wpOp_step ho (fun K' hK => h K' (fun a w hS hW => hK a w ⟨hS, hW hS⟩))
theorem wpAnyT_done {listed : Array Bool} {a : Act} {w : World} (hr : Region.ready md ops listed = []) (h : Q .normal a w) : ∀ fuel, wpAnyT P md ops Q S L fuel listed a w
  | 0 => ⟨hr, h⟩
  | _ + 1 => ⟨fun _ => h, by rw [hr]; simp⟩
theorem wp_region_T {id : Nat} {a : Act} {w : World} (hm : P.follows .mixedOrders = true) (hS : S w.drew) (h : S w.drew → wpAnyT P .any ops Q S L ops.size (Array.replicate ops.size false) a w.drew) : (Code.region id ops true).wp P Q a w :=
  wp_region_any hm (wpAny_of_T _ _ _ _ (h hS))
end
end Go.Proofs.Ytmpmjgoipfgfoaa
