/- Sparse: Take walked. -/
import Derived.Test.YtbfhiegbgkkgiaaGreatC07
import Derived.Deep.RegionHeld3
namespace Go.Proofs.YtbfhiegbgkkgiaaGreat
open Go.RowKit
open Pl
namespace Pl
/-- Two lists gone through side by side. -/
def mrg : List Pr → List Pr → List Pr
  | [], M => M
  | p :: L, [] => p :: L
  | p :: L, q :: M => if p.1 < q.1 then p :: mrg L (q :: M) else if q.1 < p.1 then q :: mrg (p :: L) M else (p.1, p.2 + q.2) :: mrg L M
termination_by L M => L.length + M.length
theorem mrg_nil (L : List Pr) : mrg L [] = L := by cases L <;> simp [mrg]
theorem mrg_cons (p q : Pr) (L M : List Pr) : mrg (p :: L) (q :: M) = if p.1 < q.1 then p :: mrg L (q :: M) else if q.1 < p.1 then q :: mrg (p :: L) M else (p.1, p.2 + q.2) :: mrg L M := by rw [mrg]
theorem cnt_cons (p : Pr) (L : List Pr) (j : Int) : cnt (p :: L) j = if p.1 = j then p.2 else cnt L j := rfl
theorem mrg_fine (k : Nat) : ∀ (L M : List Pr), L.length + M.length ≤ k → Srt L → Pos L → Srt M → Pos M →
    Srt (mrg L M) ∧ Pos (mrg L M) ∧ (∀ j, cnt (mrg L M) j = cnt L j + cnt M j) ∧ (∀ r ∈ mrg L M, (∃ p ∈ L, p.1 = r.1) ∨ (∃ q ∈ M, q.1 = r.1)) := by
  induction k with
  | zero =>
    intro L M hk _ _ hm hmp
    have h1 : L = [] := List.eq_nil_of_length_eq_zero (by omega)
    subst h1
    rw [mrg]
    exact ⟨hm, hmp, fun j => by simp [cnt], fun r hr => .inr ⟨r, hr, rfl⟩⟩
  | succ k ih =>
    intro L M hk hl hlp hm hmp
    cases L with
    | nil =>
      rw [mrg]
      exact ⟨hm, hmp, fun j => by simp [cnt], fun r hr => .inr ⟨r, hr, rfl⟩⟩
    | cons p L =>
      cases M with
      | nil =>
        rw [mrg_nil]
        exact ⟨hl, hlp, fun j => by simp [cnt], fun r hr => .inl ⟨r, hr, rfl⟩⟩
      | cons q M =>
        simp only [List.length_cons] at hk
        obtain ⟨a1, a2⟩ := srt_cons.1 hl
        obtain ⟨b1, b2⟩ := srt_cons.1 hm
        obtain ⟨a3, a4⟩ := pos_cons.1 hlp
        obtain ⟨b3, b4⟩ := pos_cons.1 hmp
        rw [mrg_cons]
        by_cases h1 : p.1 < q.1
        · rw [if_pos h1]
          obtain ⟨c1, c2, c3, c4⟩ := ih L (q :: M) (by simp only [List.length_cons]; omega) a2 a4 hm hmp
          refine ⟨srt_cons.2 ⟨fun r hr => ?_, c1⟩, pos_cons.2 ⟨a3, c2⟩, fun j => ?_, fun r hr => ?_⟩
          · rcases c4 r hr with ⟨x, hx, e⟩ | ⟨x, hx, e⟩
            · have := a1 x hx; omega
            · rcases List.mem_cons.1 hx with rfl | hx
              · omega
              · have := b1 x hx; omega
          · rw [cnt_cons p (mrg L (q :: M)), c3, cnt_cons p L]
            by_cases hj : p.1 = j
            · have hz : cnt (q :: M) j = 0 := cnt_lt (fun x hx => by
                rcases List.mem_cons.1 hx with rfl | hx
                · omega
                · have := b1 x hx; omega)
              rw [if_pos hj, if_pos hj, hz]
              rfl
            · rw [if_neg hj, if_neg hj]
          · rcases List.mem_cons.1 hr with rfl | hr
            · exact .inl ⟨r, by simp, rfl⟩
            · rcases c4 r hr with ⟨x, hx, e⟩ | h
              · exact .inl ⟨x, by simp [hx], e⟩
              · exact .inr h
        · rw [if_neg h1]
          by_cases h2 : q.1 < p.1
          · rw [if_pos h2]
            obtain ⟨c1, c2, c3, c4⟩ := ih (p :: L) M (by simp only [List.length_cons]; omega) hl hlp b2 b4
            refine ⟨srt_cons.2 ⟨fun r hr => ?_, c1⟩, pos_cons.2 ⟨b3, c2⟩, fun j => ?_, fun r hr => ?_⟩
            · rcases c4 r hr with ⟨x, hx, e⟩ | ⟨x, hx, e⟩
              · rcases List.mem_cons.1 hx with rfl | hx
                · omega
                · have := a1 x hx; omega
              · have := b1 x hx; omega
            · rw [cnt_cons q (mrg (p :: L) M), c3, cnt_cons q M]
              by_cases hj : q.1 = j
              · have hz : cnt (p :: L) j = 0 := cnt_lt (fun x hx => by
                  rcases List.mem_cons.1 hx with rfl | hx
                  · omega
                  · have := a1 x hx; omega)
                rw [if_pos hj, if_pos hj, hz, Nat.zero_add]
              · rw [if_neg hj, if_neg hj]
            · rcases List.mem_cons.1 hr with rfl | hr
              · exact .inr ⟨r, by simp, rfl⟩
              · rcases c4 r hr with h | ⟨x, hx, e⟩
                · exact .inl h
                · exact .inr ⟨x, by simp [hx], e⟩
          · rw [if_neg h2]
            obtain ⟨c1, c2, c3, c4⟩ := ih L M (by omega) a2 a4 b2 b4
            refine ⟨srt_cons.2 ⟨fun r hr => ?_, c1⟩, pos_cons.2 ⟨by simp only; omega, c2⟩, fun j => ?_, fun r hr => ?_⟩
            · simp only
              rcases c4 r hr with ⟨x, hx, e⟩ | ⟨x, hx, e⟩
              · have := a1 x hx; omega
              · have := b1 x hx; omega
            · rw [cnt_cons (p.1, p.2 + q.2) (mrg L M), c3, cnt_cons p L, cnt_cons q M]
              simp only
              by_cases hj : p.1 = j
              · rw [if_pos hj, if_pos hj, if_pos (by omega)]
              · rw [if_neg hj, if_neg hj, if_neg (by omega)]
            · rcases List.mem_cons.1 hr with rfl | hr
              · exact .inl ⟨p, by simp, rfl⟩
              · rcases c4 r hr with ⟨x, hx, e⟩ | ⟨x, hx, e⟩
                · exact .inl ⟨x, by simp [hx], e⟩
                · exact .inr ⟨x, by simp [hx], e⟩
theorem mrg_puts {L M : List Pr} (hl : Srt L) (hlp : Pos L) (hm : Srt M) (hmp : Pos M) : mrg L M = puts L M := by
  obtain ⟨a, b, c, _⟩ := mrg_fine _ L M (Nat.le_refl _) hl hlp hm hmp
  obtain ⟨d, e, _⟩ := puts_facts hl hlp hmp
  exact ext a b d e (fun k => by rw [c, puts_cnt hl hm])
end Pl
def TK (g : Nat) (i : Nat) : Prop := i = g
/-- The list at g has taken another one. -/
def Took (g : Nat) (A : Option Addr) (L : List Pr) (w w' : World) : Prop := ∃ A' c', Lst w' g A' c' L ∧ Only (TK g) w w' ∧ (blockOf A' = blockOf A ∨ ∀ j, blockOf A' = some j → w.heap.size ≤ j)
theorem Took.counted {g : Nat} {A : Option Addr} {L : List Pr} {w w' : World} (h : Took g A L w w') : ∃ A' c', Lst w' g A' c' L ∧ Only (LK g A) w w' := by
  obtain ⟨A', c', h1, h2, _⟩ := h
  exact ⟨A', c', h1, h2.mono (fun i hi => .inl hi)⟩
set_option maxRecDepth 100000 in
theorem take_nil (g : Nat) (w : World) :
    Calls Tryz.prog 95 #[.pointer (some ⟨g, 0, none⟩), .pointer none] w fun e w' => e = .returned (.int .i64 1) ∧ w = w' := by
  go_enter Tryz.func95, Tryz.ntmps95
  go_wp2_with fail
  go_ret
  exact ⟨rfl, rfl⟩
set_option maxRecDepth 100000 in
set_option maxHeartbeats 1600000 in
theorem take_cap (g gt : Nat) (A At : Option Addr) (c ct : Nat) (L M : List Pr) (w : World) (h : Lst w g A c L) (ht : Lst w gt At ct M) (hc : tot L ≤ 4611686018427387904) (hcap : 4611686018427387904 - tot L < tot M) :
    Calls Tryz.prog 95 #[.pointer (some ⟨g, 0, none⟩), .pointer (some ⟨gt, 0, none⟩)] w fun e w' => e = .returned (.int .i64 6) ∧ Took g A L w w' := by
  have c1 : w.cell? ⟨g, 1, none⟩ = some (.int .u64 (tot L : Nat)) := by rw [h.1.cell]; rfl
  have t1 : w.cell? ⟨gt, 1, none⟩ = some (.int .u64 (tot M : Nat)) := by rw [ht.1.cell]; rfl
  have hsub : IntKind.u64.wrap (4611686018427387904 - ((tot L : Nat) : Int)) = 4611686018427387904 - ((tot L : Nat) : Int) := IntWalk.u64_in _ ⟨by omega, by omega⟩
  have e1 : decide (4611686018427387904 - ((tot L : Nat) : Int) < ((tot M : Nat) : Int)) = true := by simp; omega
  have H := Lib.hid h
  clear h ht hcap hc
  go_enter Tryz.func95, Tryz.ntmps95
  go_wp2_with fail
  go_quiet (fail)
  go_wp2_with fail
  go_ret
  exact ⟨rfl, A, c, ⟨H.out.1.drewN _, H.out.2⟩, (Only.refl _ _).drewN _, .inl rfl⟩
theorem prs_tail {w : World} {B : Nat} {b o : Nat} {p : Pr} {D : List Pr} (h : Prs w B (some ⟨b, o, none⟩) (p :: D)) : Prs w B (some ⟨b, o + 2, none⟩) D := by
  refine ⟨pcs_length _, fun hn => ?_⟩
  obtain ⟨b', o', e, hb, hc⟩ := h.2 (by simp)
  injection e with e
  injection e with e1 e2 _
  subst e1
  subst e2
  refine ⟨b, o + 2, rfl, hb, fun j u hj => ?_⟩
  have := hc (j + 2) u (by simpa [pcs] using hj)
  rwa [show o + (j + 2) = o + 2 + j by omega] at this
theorem prs_nil {w : World} {B : Nat} {A : Option Addr} : Prs w B A [] := Reads.empty ..
theorem Prs.below' {w wo w3 : World} {B : Nat} {A : Option Addr} {D : List Pr} (h : Prs wo B A D) (h3 : Below B w w3) (ho : Below B w wo) : Prs w3 B A D :=
  Reads.keep h (fun _ hp => (h3.cell hp).trans (ho.cell hp).symm)
def lenV : Value → Nat
  | .slice _ n _ => n
  | _ => 0
set_option maxRecDepth 100000 in
set_option maxHeartbeats 12800000 in
theorem take_ok (g gt : Nat) (A At : Option Addr) (c ct : Nat) (L M : List Pr) (w : World) (h : Lst w g A c L) (ht : Lst w gt At ct M) (hf : Fine L) (hfm : Fine M) (hcap : ¬ 4611686018427387904 - tot L < tot M) (hlm : L.length + M.length ≤ 100000) :
    Calls Tryz.prog 95 #[.pointer (some ⟨g, 0, none⟩), .pointer (some ⟨gt, 0, none⟩)] w fun e w' => e = .returned (.int .i64 0) ∧ Took g A (puts L M) w w' := by
  have c0 : w.cell? ⟨g, 0, none⟩ = some (.slice A L.length c) := by rw [h.1.cell]; rfl
  have c1 : w.cell? ⟨g, 1, none⟩ = some (.int .u64 (tot L : Nat)) := by rw [h.1.cell]; rfl
  have t0 : w.cell? ⟨gt, 0, none⟩ = some (.slice At M.length ct) := by rw [ht.1.cell]; rfl
  have t1 : w.cell? ⟨gt, 1, none⟩ = some (.int .u64 (tot M : Nat)) := by rw [ht.1.cell]; rfl
  have hc := hf.tot
  have hsub : IntKind.u64.wrap (4611686018427387904 - ((tot L : Nat) : Int)) = 4611686018427387904 - ((tot L : Nat) : Int) := IntWalk.u64_in _ ⟨by omega, by omega⟩
  have e1 : decide (4611686018427387904 - ((tot L : Nat) : Int) < ((tot M : Nat) : Int)) = false := by simp; omega
  have htot : tot (puts L M) = tot L + tot M := puts_tot
  have hmp := mrg_puts hf.srt hf.pos hfm.srt hfm.pos
  obtain ⟨R, hR⟩ : ∃ R, R = puts L M := ⟨_, rfl⟩
  rw [← hR] at htot hmp ⊢
  have hlc : ∀ (g : Nat) (A : Option Addr) (c : Nat) (L : List Pr), OwnP w g A c L → L.length ≤ c := fun g A c L h => by
    rcases h.2 with ⟨hv, h0⟩ | ⟨_, _, _, hv, _, _, h2, _⟩
    · injection hv with _ h2 h3; omega
    · injection hv with _ h3 h4; omega
  have HLC := Lib.hid (hlc g A c L h.2)
  have HLC2 := Lib.hid (hlc gt At ct M ht.2)
  have H := Lib.hid h
  have HT := Lib.hid ht
  have HTOT := Lib.hid htot
  have HMP := Lib.hid hmp
  have HCAP : Hid (tot L + tot M ≤ 4611686018427387904) := Lib.hid (by omega)
  have HLM := Lib.hid hlm
  have HNA0 := Lib.hid (Own.ne_blk (show Own w g 64 2 A L.length c (pcs L) from h.2) h.1 (by decide))
  have HNB0 := Lib.hid (Own.ne_blk (show Own w gt 64 2 At M.length ct (pcs M) from ht.2) h.1 (by decide))
  have hgl := h.1.lt
  have hgtl := ht.1.lt
  clear h ht hcap hc hf hfm htot hmp hR hlm hlc
  go_enter Tryz.func95, Tryz.ntmps95
  go_wp2_with fail
  go_quiet (fail)
  go_wp2_with fail
  go_quiet (fail)
  go_wp2_with fail
  clear e1 hsub
  go_loopw [5, 6, 7] (fun u a b wr => ∃ (T Da Db : List Pr) (A5 Aa Ab : Option Addr) (c5 ca cb nt na nb : Nat), u = .slice A5 nt c5 ∧ a = .slice Aa na ca ∧ b = .slice Ab nb cb ∧ nt = T.length ∧ na = Da.length ∧ nb = Db.length ∧ na ≤ ca ∧ nb ≤ cb ∧ T ++ mrg Da Db = R ∧ nt + na + nb ≤ 100000 ∧ Prs wr w.heap.size Aa Da ∧ Prs wr w.heap.size Ab Db ∧ OwnP wr w.heap.size A5 c5 T ∧ Below w.heap.size w wr ∧ blockOf Aa ≠ some g ∧ blockOf Ab ≠ some g) (fun _ a b _ => lenV a + lenV b)
  case atStart => exact ⟨[], L, M, none, A, At, 0, c, ct, 0, L.length, M.length, rfl, rfl, rfl, rfl, rfl, rfl, HLC.out, HLC2.out, by rw [List.nil_append, HMP.out], by have := HLM.out; omega, OwnP.reads H.out.2, OwnP.reads HT.out.2, Own.nil _ _ _ _, below_drewN (below_drewN (Below.refl _ _) _) _, HNA0.out, HNB0.out⟩
  case round =>
    obtain ⟨T, Da, Db, A5, Aa, Ab, c5, ca, cb, nt, na, nb, rfl, rfl, rfl, hnt, hna, hnb, hca, hcb, hTR, hlen, hpa, hpb, hot, hbel, hnga, hngb⟩ := hrel
    obtain ⟨wo, rfl⟩ : ∃ wo : World, wo = wr := ⟨_, rfl⟩
    have HBE := Lib.hid hbel
    have HTR := Lib.hid hTR
    have hlt5 : nt + na + nb ≤ 100000 := hlen
    have HNT := Lib.hid hnt
    have HOT := Lib.hid hot
    have HPA := Lib.hid hpa
    have HPB := Lib.hid hpb
    have HGA := Lib.hid hnga
    have HGB := Lib.hid hngb
    clear hbel hTR hot hpa hpb hnga hngb
    cases Da with
    | nil => 
      have hfin : (T ++ []) ++ Db = R := by have h := HTR.out; rw [mrg] at h; rw [List.append_nil]; exact h
      have x1 : decide ((0 : Int) < (na : Int)) = false := by simp only [List.length_nil] at hna; simp; omega
      have x2 : decide (0 < na) = false := by simp only [List.length_nil] at hna; simp; omega
      have hbk := H.out.1.below HBE.out hgl
      have k1 : wo.cell? ⟨g, 1, none⟩ = some (.int .u64 (tot L : Nat)) := (HBE.out.cell (p := ⟨g, 1, none⟩) hgl).trans c1
      have k2 : wo.cell? ⟨gt, 1, none⟩ = some (.int .u64 (tot M : Nat)) := (HBE.out.cell (p := ⟨gt, 1, none⟩) hgtl).trans t1
      have fr := hbk.free
      have HBK := Lib.hid hbk
      have hcp := HCAP.out
      have hsum : IntKind.u64.wrap (((tot L : Nat) : Int) + ((tot M : Nat) : Int)) = ((tot R : Nat) : Int) := by rw [HTOT.out, IntWalk.u64_in _ ⟨by omega, by omega⟩]; omega
      have HLR : Hid (nt + na + nb = R.length) := Lib.hid (by rw [← hfin, List.length_append, List.length_append]; simp only [List.length_nil] at *; omega)
      have HNT := Lib.hid hnt
      have HFIN := Lib.hid hfin
      have HNA := Lib.hid hna
      have HNB := Lib.hid hnb
      clear hbk hcp c1 t1 c0 t0 hfin hnt hlen hca hcb hna hnb
      go_wp2_with fail
      refine wp_region_noPanic ?_
      refine wp_region_T (S := ((fun W' => W'.cell? ⟨g, 1, none⟩ = some (.int .u64 (tot L : Nat)) ∧ W'.cell? ⟨gt, 1, none⟩ = some (.int .u64 (tot M : Nat))))) (L := 11) (by kernel_rfl) ⟨by simpa using k1, by simpa using k2⟩ (fun hHeld => ?_)
      refine wpAnyT_take (i := 0) (oi := ?_) (v := ?_) ?_ ?_ ?_ ?_ ?_ ?_ ?_ ?_ ?_
      rotate_left 2
      · simp only [List.getElem?_toArray, List.getElem?_cons_zero]; rfl
      · kernel_rfl
      · kernel_rfl
      · kernel_rfl
      · kernel_rfl
      · exact fun _ _ _ h => h
      · exact Or.inl ⟨by kernel_rfl, by intro w hSw; (try dsimp only at hSw); go_simp; try with_reducible rfl⟩
      · assumption
      try go_simp
      refine wpAnyT_take (i := 1) (oi := ?_) (v := ?_) ?_ ?_ ?_ ?_ ?_ ?_ ?_ ?_ ?_
      rotate_left 2
      · simp only [List.getElem?_toArray, List.getElem?_cons_succ, List.getElem?_cons_zero]; rfl
      · kernel_rfl
      · kernel_rfl
      · kernel_rfl
      · kernel_rfl
      · exact fun _ _ _ h => h
      · exact Or.inl ⟨by kernel_rfl, by intro w hSw; (try dsimp only at hSw); go_simp; try with_reducible rfl⟩
      · assumption
      try go_simp
      refine wpAnyT_take (i := 2) (oi := ?_) (v := ?_) ?_ ?_ ?_ ?_ ?_ ?_ ?_ ?_ ?_
      rotate_left 2
      · simp only [List.getElem?_toArray, List.getElem?_cons_succ, List.getElem?_cons_zero]; rfl
      · kernel_rfl
      · kernel_rfl
      · kernel_rfl
      · kernel_rfl
      · exact fun _ _ _ h => h
      · exact Or.inl ⟨by kernel_rfl, by intro w hSw; (try dsimp only at hSw); go_simp; try with_reducible rfl⟩
      · assumption
      try go_simp
      refine wpAnyT_take (i := 3) (oi := ?_) (v := ?_) ?_ ?_ ?_ ?_ ?_ ?_ ?_ ?_ ?_
      rotate_left 2
      · simp only [List.getElem?_toArray, List.getElem?_cons_succ, List.getElem?_cons_zero]; rfl
      · kernel_rfl
      · kernel_rfl
      · kernel_rfl
      · kernel_rfl
      · exact fun _ _ _ h => h
      · exact Or.inl ⟨by kernel_rfl, by intro w hSw; (try dsimp only at hSw); go_simp; try with_reducible rfl⟩
      · assumption
      try go_simp
      refine wpAnyT_take (i := 4) (oi := ?_) (v := ?_) ?_ ?_ ?_ ?_ ?_ ?_ ?_ ?_ ?_
      rotate_left 2
      · simp only [List.getElem?_toArray, List.getElem?_cons_succ, List.getElem?_cons_zero]; rfl
      · kernel_rfl
      · kernel_rfl
      · kernel_rfl
      · kernel_rfl
      · exact fun _ _ _ h => h
      · exact Or.inl ⟨by kernel_rfl, by intro w hSw; (try dsimp only at hSw); go_simp; try with_reducible rfl⟩
      · assumption
      try go_simp
      refine wpAnyT_take (i := 5) (oi := ?_) (v := ?_) ?_ ?_ ?_ ?_ ?_ ?_ ?_ ?_ ?_
      rotate_left 2
      · simp only [List.getElem?_toArray, List.getElem?_cons_succ, List.getElem?_cons_zero]; rfl
      · kernel_rfl
      · kernel_rfl
      · kernel_rfl
      · kernel_rfl
      · exact fun _ _ _ h => h
      · exact Or.inl ⟨by kernel_rfl, by intro w hSw; (try dsimp only at hSw); go_simp; try with_reducible rfl⟩
      · assumption
      try go_simp
      refine wpAnyT_take (i := 6) (oi := ?_) (v := ?_) ?_ ?_ ?_ ?_ ?_ ?_ ?_ ?_ ?_
      rotate_left 2
      · simp only [List.getElem?_toArray, List.getElem?_cons_succ, List.getElem?_cons_zero]; rfl
      · kernel_rfl
      · kernel_rfl
      · kernel_rfl
      · kernel_rfl
      · exact fun _ _ _ h => h
      · exact Or.inl ⟨by kernel_rfl, by intro w hSw; (try dsimp only at hSw); go_simp; try with_reducible rfl⟩
      · assumption
      try go_simp
      refine wpAnyT_take (i := 7) (oi := ?_) (v := ?_) ?_ ?_ ?_ ?_ ?_ ?_ ?_ ?_ ?_
      rotate_left 2
      · simp only [List.getElem?_toArray, List.getElem?_cons_succ, List.getElem?_cons_zero]; rfl
      · kernel_rfl
      · kernel_rfl
      · kernel_rfl
      · kernel_rfl
      · exact fun _ _ _ h => h
      · exact Or.inl ⟨by kernel_rfl, by intro w hSw; (try dsimp only at hSw); go_simp; try with_reducible rfl⟩
      · assumption
      try go_simp
      refine wpAnyT_take (i := 8) (oi := ?_) (v := ?_) ?_ ?_ ?_ ?_ ?_ ?_ ?_ ?_ ?_
      rotate_left 2
      · simp only [List.getElem?_toArray, List.getElem?_cons_succ, List.getElem?_cons_zero]; rfl
      · kernel_rfl
      · kernel_rfl
      · kernel_rfl
      · kernel_rfl
      · exact fun _ _ _ h => h
      · exact Or.inl ⟨by kernel_rfl, by intro w hSw; (try dsimp only at hSw); go_simp; try with_reducible rfl⟩
      · assumption
      try go_simp
      refine wpAnyT_take (i := 9) (oi := ?_) (v := ?_) ?_ ?_ ?_ ?_ ?_ ?_ ?_ ?_ ?_
      rotate_left 2
      · simp only [List.getElem?_toArray, List.getElem?_cons_succ, List.getElem?_cons_zero]; rfl
      · kernel_rfl
      · kernel_rfl
      · kernel_rfl
      · kernel_rfl
      · exact fun _ _ _ h => h
      · exact Or.inl ⟨by kernel_rfl, by intro w hSw; (try dsimp only at hSw); go_simp; try with_reducible rfl⟩
      · assumption
      try go_simp
      refine wpAnyT_take (i := 10) (oi := ?_) (v := ?_) ?_ ?_ ?_ ?_ ?_ ?_ ?_ ?_ ?_
      rotate_left 2
      · simp only [List.getElem?_toArray, List.getElem?_cons_succ, List.getElem?_cons_zero]; rfl
      · kernel_rfl
      · kernel_rfl
      · kernel_rfl
      · kernel_rfl
      · exact fun _ _ _ h => h
      · exact Or.inl ⟨by kernel_rfl, by intro w hSw; (try dsimp only at hSw); go_simp; try with_reducible rfl⟩
      · assumption
      try go_simp
      refine wpAnyT_one (i := 11) (o := ?_) ?_ ?_ ?_
      rotate_left 1
      · simp only [List.getElem?_toArray, List.getElem?_cons_succ, List.getElem?_cons_zero]; rfl
      · kernel_rfl
      intro K hK
      go_simp
      refine hK.out _ _ ?_ (fun hHeld => ?_)
      · exact fun h => absurd rfl h
      clear hK K
      try go_simp
      refine wpAnyT_done (by kernel_rfl) ?_ _
      refine NoPanic.normal ?_
      obtain ⟨W14, hW14⟩ : ∃ W14, W14 = (wo.setCell ⟨g, 1, none⟩ (.int .u64 ((tot R : Nat) : Int))).drew := ⟨_, rfl⟩
      rw [← hW14]
      have hb14 : Blk W14 g 138 #[.slice A L.length c, .int .u64 ((tot R : Nat) : Int)] := by
        have h := (HBK.out.put 1 (.int .u64 ((tot R : Nat) : Int))).drew
        rw [hW14]
        simpa using h
      have hot' : Own wo w.heap.size 64 2 A5 nt c5 (pcs T) := by rw [HNT.out]; exact HOT.out
      have hge5 : ∀ x, blockOf A5 = some x → w.heap.size ≤ x := fun x hx => (Own.block hot' hx).1
      have hng5 : blockOf A5 ≠ some g := fun hx => by have := hge5 g hx; omega
      have o14 : Own W14 w.heap.size 64 2 A5 nt c5 (pcs T) := by rw [hW14]; exact (Own.setOther hot' (p := ⟨g, 1, none⟩) hng5 _).drew
      have hkeep : ∀ (A : Option Addr) (D : List Pr), blockOf A ≠ some g → Prs wo w.heap.size A D → Prs W14 w.heap.size A D := fun A D hA hD => ⟨hD.1, fun hn => by
        obtain ⟨bb, oo, e, hbb, hcc⟩ := hD.2 hn
        subst e
        refine ⟨bb, oo, rfl, hbb, fun j u hj => ?_⟩
        rw [hW14, show ((wo.setCell ⟨g, 1, none⟩ (.int .u64 ((tot R : Nat) : Int))).drew).cell? ⟨bb, oo + j, none⟩ = wo.cell? ⟨bb, oo + j, none⟩ from World.cell?_of_block (Below.heap_setCell wo ⟨g, 1, none⟩ _ bb (fun e => hA (by rw [e]; rfl)))]
        exact hcc j u hj⟩
      have rA := hkeep Aa ([]) HGA.out HPA.out
      have rB := hkeep Ab (Db) HGB.out HPB.out
      have hs14 : w.heap.size ≤ W14.heap.size := by rw [hW14]; simpa [World.setCell] using HBE.out.size
      have hon14 : Only (TK g) w W14 := by rw [hW14]; exact ((Only.of_below (K := TK g) HBE.out).set (p := ⟨g, 1, none⟩) (.inl (show TK g g from rfl)) _).drew
      clear hkeep hot' hW14
      go_wp2_with (at_builtin; refine Hid.out ?_)
      refine wpList_app (xs := pcs T) (news := pcs ([])) rfl rfl elem_pair rfl o14 rfl (by have h := rA; unfold Prs at h; rw [← HNA.out] at h; exact h) (pcs_one _) (nt + na) rfl (pcs (T ++ ([]))) (pcs_append _ _).symm (by unfold maxLen; omega) (by omega) hs14 ?_
      intro A6 c6 w6 o6 g6 q6
      have rB6 : Prs w6 w.heap.size Ab (Db) := Reads.grown rB g6 hs14 hge5
      have hb6 := hb14.grown g6 (fun e => hng5 e.symm)
      have hs6 := Nat.le_trans hs14 g6.size
      have hon6 := hon14.step (Only.of_grown g6) (fun i hi => .inr (hge5 i hi))
      have hge6 : ∀ x, blockOf A6 = some x → w.heap.size ≤ x := fun x hx => (Own.block o6 hx).1
      have hng6 : blockOf A6 ≠ some g := fun hx => by have := hge6 g hx; omega
      go_wp2_with (at_builtin; refine Hid.out ?_)
      refine wpList_app (xs := pcs (T ++ ([]))) (news := pcs (Db)) rfl rfl elem_pair rfl o6 rfl (by have h := rB6; unfold Prs at h; rw [← HNB.out] at h; exact h) (pcs_one _) (nt + na + nb) rfl (pcs R) (by rw [← pcs_append, HFIN.out]) (by unfold maxLen; omega) (by omega) hs6 ?_
      intro A7 c7 w7 o7 g7 q7
      have hb7 := hb6.grown g7 (fun e => hng6 e.symm)
      have hon7 := hon6.step (Only.of_grown g7) (fun i hi => .inr (hge6 i hi))
      have hge7 : ∀ x, blockOf A7 = some x → w.heap.size ≤ x := fun x hx => (Own.block o7 hx).1
      have hng7 : blockOf A7 ≠ some g := fun hx => by have := hge7 g hx; omega
      have j0 : w7.cell? ⟨g, 0, none⟩ = some (.slice A L.length c) := by rw [hb7.cell]; rfl
      have fr7 := hb7.free
      have HB7 := Lib.hid (hb7.put 0 (.slice A7 (nt + na + nb) c7))
      have HO7 := Lib.hid (Own.setOther o7 (p := ⟨g, 0, none⟩) hng7 (.slice A7 (nt + na + nb) c7))
      have HON7 := Lib.hid (hon7.set (p := ⟨g, 0, none⟩) (.inl (show TK g g from rfl)) (.slice A7 (nt + na + nb) c7))
      have HGE7 := Lib.hid hge7
      clear o14 rA rB hb14 hge5 hng5 hs14 hon14 o6 g6 q6 rB6 hb6 hs6 hon6 hge6 hng6 o7 g7 q7 hb7 hon7 hge7 hng7 k1 k2 fr
      generalize nt + na + nb = k7 at *
      go_wp2_with fail
      go_ret
      refine ⟨rfl, A7, c7, ⟨?_, ?_⟩, ?_, .inr HGE7.out⟩
      · have h := HB7.out
        rw [← HLR.out]
        simpa using h
      · have h := HO7.out
        unfold OwnP
        rw [← HLR.out]
        exact Own.mono h (Nat.le_of_lt hgl)
      · exact HON7.out
    | cons p Da =>
      cases Db with
      | nil => 
        have hfin : (T ++ (p :: Da)) ++ [] = R := by have h := HTR.out; rw [mrg_nil] at h; rw [List.append_nil]; exact h
        have x0 : decide ((0 : Int) < (na : Int)) = true := by rw [List.length_cons] at hna; simp; omega
        have x0b : decide (0 < na) = true := by rw [List.length_cons] at hna; simp; omega
        have x1 : decide ((0 : Int) < (nb : Int)) = false := by simp only [List.length_nil] at hnb; simp; omega
        have x2 : decide (0 < nb) = false := by simp only [List.length_nil] at hnb; simp; omega
        have hbk := H.out.1.below HBE.out hgl
        have k1 : wo.cell? ⟨g, 1, none⟩ = some (.int .u64 (tot L : Nat)) := (HBE.out.cell (p := ⟨g, 1, none⟩) hgl).trans c1
        have k2 : wo.cell? ⟨gt, 1, none⟩ = some (.int .u64 (tot M : Nat)) := (HBE.out.cell (p := ⟨gt, 1, none⟩) hgtl).trans t1
        have fr := hbk.free
        have HBK := Lib.hid hbk
        have hcp := HCAP.out
        have hsum : IntKind.u64.wrap (((tot L : Nat) : Int) + ((tot M : Nat) : Int)) = ((tot R : Nat) : Int) := by rw [HTOT.out, IntWalk.u64_in _ ⟨by omega, by omega⟩]; omega
        have HLR : Hid (nt + na + nb = R.length) := Lib.hid (by rw [← hfin, List.length_append, List.length_append]; simp only [List.length_nil] at *; omega)
        have HNT := Lib.hid hnt
        have HFIN := Lib.hid hfin
        have HNA := Lib.hid hna
        have HNB := Lib.hid hnb
        clear hbk hcp c1 t1 c0 t0 hfin hnt hlen hca hcb hna hnb
        go_wp2_with fail
        refine wp_region_noPanic ?_
        refine wp_region_T (S := ((fun W' => W'.cell? ⟨g, 1, none⟩ = some (.int .u64 (tot L : Nat)) ∧ W'.cell? ⟨gt, 1, none⟩ = some (.int .u64 (tot M : Nat))))) (L := 11) (by kernel_rfl) ⟨by simpa using k1, by simpa using k2⟩ (fun hHeld => ?_)
        refine wpAnyT_take (i := 0) (oi := ?_) (v := ?_) ?_ ?_ ?_ ?_ ?_ ?_ ?_ ?_ ?_
        rotate_left 2
        · simp only [List.getElem?_toArray, List.getElem?_cons_zero]; rfl
        · kernel_rfl
        · kernel_rfl
        · kernel_rfl
        · kernel_rfl
        · exact fun _ _ _ h => h
        · exact Or.inl ⟨by kernel_rfl, by intro w hSw; (try dsimp only at hSw); go_simp; try with_reducible rfl⟩
        · assumption
        try go_simp
        refine wpAnyT_take (i := 1) (oi := ?_) (v := ?_) ?_ ?_ ?_ ?_ ?_ ?_ ?_ ?_ ?_
        rotate_left 2
        · simp only [List.getElem?_toArray, List.getElem?_cons_succ, List.getElem?_cons_zero]; rfl
        · kernel_rfl
        · kernel_rfl
        · kernel_rfl
        · kernel_rfl
        · exact fun _ _ _ h => h
        · exact Or.inl ⟨by kernel_rfl, by intro w hSw; (try dsimp only at hSw); go_simp; try with_reducible rfl⟩
        · assumption
        try go_simp
        refine wpAnyT_take (i := 2) (oi := ?_) (v := ?_) ?_ ?_ ?_ ?_ ?_ ?_ ?_ ?_ ?_
        rotate_left 2
        · simp only [List.getElem?_toArray, List.getElem?_cons_succ, List.getElem?_cons_zero]; rfl
        · kernel_rfl
        · kernel_rfl
        · kernel_rfl
        · kernel_rfl
        · exact fun _ _ _ h => h
        · exact Or.inl ⟨by kernel_rfl, by intro w hSw; (try dsimp only at hSw); go_simp; try with_reducible rfl⟩
        · assumption
        try go_simp
        refine wpAnyT_take (i := 3) (oi := ?_) (v := ?_) ?_ ?_ ?_ ?_ ?_ ?_ ?_ ?_ ?_
        rotate_left 2
        · simp only [List.getElem?_toArray, List.getElem?_cons_succ, List.getElem?_cons_zero]; rfl
        · kernel_rfl
        · kernel_rfl
        · kernel_rfl
        · kernel_rfl
        · exact fun _ _ _ h => h
        · exact Or.inl ⟨by kernel_rfl, by intro w hSw; (try dsimp only at hSw); go_simp; try with_reducible rfl⟩
        · assumption
        try go_simp
        refine wpAnyT_take (i := 4) (oi := ?_) (v := ?_) ?_ ?_ ?_ ?_ ?_ ?_ ?_ ?_ ?_
        rotate_left 2
        · simp only [List.getElem?_toArray, List.getElem?_cons_succ, List.getElem?_cons_zero]; rfl
        · kernel_rfl
        · kernel_rfl
        · kernel_rfl
        · kernel_rfl
        · exact fun _ _ _ h => h
        · exact Or.inl ⟨by kernel_rfl, by intro w hSw; (try dsimp only at hSw); go_simp; try with_reducible rfl⟩
        · assumption
        try go_simp
        refine wpAnyT_take (i := 5) (oi := ?_) (v := ?_) ?_ ?_ ?_ ?_ ?_ ?_ ?_ ?_ ?_
        rotate_left 2
        · simp only [List.getElem?_toArray, List.getElem?_cons_succ, List.getElem?_cons_zero]; rfl
        · kernel_rfl
        · kernel_rfl
        · kernel_rfl
        · kernel_rfl
        · exact fun _ _ _ h => h
        · exact Or.inl ⟨by kernel_rfl, by intro w hSw; (try dsimp only at hSw); go_simp; try with_reducible rfl⟩
        · assumption
        try go_simp
        refine wpAnyT_take (i := 6) (oi := ?_) (v := ?_) ?_ ?_ ?_ ?_ ?_ ?_ ?_ ?_ ?_
        rotate_left 2
        · simp only [List.getElem?_toArray, List.getElem?_cons_succ, List.getElem?_cons_zero]; rfl
        · kernel_rfl
        · kernel_rfl
        · kernel_rfl
        · kernel_rfl
        · exact fun _ _ _ h => h
        · exact Or.inl ⟨by kernel_rfl, by intro w hSw; (try dsimp only at hSw); go_simp; try with_reducible rfl⟩
        · assumption
        try go_simp
        refine wpAnyT_take (i := 7) (oi := ?_) (v := ?_) ?_ ?_ ?_ ?_ ?_ ?_ ?_ ?_ ?_
        rotate_left 2
        · simp only [List.getElem?_toArray, List.getElem?_cons_succ, List.getElem?_cons_zero]; rfl
        · kernel_rfl
        · kernel_rfl
        · kernel_rfl
        · kernel_rfl
        · exact fun _ _ _ h => h
        · exact Or.inl ⟨by kernel_rfl, by intro w hSw; (try dsimp only at hSw); go_simp; try with_reducible rfl⟩
        · assumption
        try go_simp
        refine wpAnyT_take (i := 8) (oi := ?_) (v := ?_) ?_ ?_ ?_ ?_ ?_ ?_ ?_ ?_ ?_
        rotate_left 2
        · simp only [List.getElem?_toArray, List.getElem?_cons_succ, List.getElem?_cons_zero]; rfl
        · kernel_rfl
        · kernel_rfl
        · kernel_rfl
        · kernel_rfl
        · exact fun _ _ _ h => h
        · exact Or.inl ⟨by kernel_rfl, by intro w hSw; (try dsimp only at hSw); go_simp; try with_reducible rfl⟩
        · assumption
        try go_simp
        refine wpAnyT_take (i := 9) (oi := ?_) (v := ?_) ?_ ?_ ?_ ?_ ?_ ?_ ?_ ?_ ?_
        rotate_left 2
        · simp only [List.getElem?_toArray, List.getElem?_cons_succ, List.getElem?_cons_zero]; rfl
        · kernel_rfl
        · kernel_rfl
        · kernel_rfl
        · kernel_rfl
        · exact fun _ _ _ h => h
        · exact Or.inl ⟨by kernel_rfl, by intro w hSw; (try dsimp only at hSw); go_simp; try with_reducible rfl⟩
        · assumption
        try go_simp
        refine wpAnyT_take (i := 10) (oi := ?_) (v := ?_) ?_ ?_ ?_ ?_ ?_ ?_ ?_ ?_ ?_
        rotate_left 2
        · simp only [List.getElem?_toArray, List.getElem?_cons_succ, List.getElem?_cons_zero]; rfl
        · kernel_rfl
        · kernel_rfl
        · kernel_rfl
        · kernel_rfl
        · exact fun _ _ _ h => h
        · exact Or.inl ⟨by kernel_rfl, by intro w hSw; (try dsimp only at hSw); go_simp; try with_reducible rfl⟩
        · assumption
        try go_simp
        refine wpAnyT_one (i := 11) (o := ?_) ?_ ?_ ?_
        rotate_left 1
        · simp only [List.getElem?_toArray, List.getElem?_cons_succ, List.getElem?_cons_zero]; rfl
        · kernel_rfl
        intro K hK
        go_simp
        refine hK.out _ _ ?_ (fun hHeld => ?_)
        · exact fun h => absurd rfl h
        clear hK K
        try go_simp
        refine wpAnyT_done (by kernel_rfl) ?_ _
        refine NoPanic.normal ?_
        obtain ⟨W14, hW14⟩ : ∃ W14, W14 = (wo.setCell ⟨g, 1, none⟩ (.int .u64 ((tot R : Nat) : Int))).drew := ⟨_, rfl⟩
        rw [← hW14]
        have hb14 : Blk W14 g 138 #[.slice A L.length c, .int .u64 ((tot R : Nat) : Int)] := by
          have h := (HBK.out.put 1 (.int .u64 ((tot R : Nat) : Int))).drew
          rw [hW14]
          simpa using h
        have hot' : Own wo w.heap.size 64 2 A5 nt c5 (pcs T) := by rw [HNT.out]; exact HOT.out
        have hge5 : ∀ x, blockOf A5 = some x → w.heap.size ≤ x := fun x hx => (Own.block hot' hx).1
        have hng5 : blockOf A5 ≠ some g := fun hx => by have := hge5 g hx; omega
        have o14 : Own W14 w.heap.size 64 2 A5 nt c5 (pcs T) := by rw [hW14]; exact (Own.setOther hot' (p := ⟨g, 1, none⟩) hng5 _).drew
        have hkeep : ∀ (A : Option Addr) (D : List Pr), blockOf A ≠ some g → Prs wo w.heap.size A D → Prs W14 w.heap.size A D := fun A D hA hD => ⟨hD.1, fun hn => by
          obtain ⟨bb, oo, e, hbb, hcc⟩ := hD.2 hn
          subst e
          refine ⟨bb, oo, rfl, hbb, fun j u hj => ?_⟩
          rw [hW14, show ((wo.setCell ⟨g, 1, none⟩ (.int .u64 ((tot R : Nat) : Int))).drew).cell? ⟨bb, oo + j, none⟩ = wo.cell? ⟨bb, oo + j, none⟩ from World.cell?_of_block (Below.heap_setCell wo ⟨g, 1, none⟩ _ bb (fun e => hA (by rw [e]; rfl)))]
          exact hcc j u hj⟩
        have rA := hkeep Aa (p :: Da) HGA.out HPA.out
        have rB := hkeep Ab ([]) HGB.out HPB.out
        have hs14 : w.heap.size ≤ W14.heap.size := by rw [hW14]; simpa [World.setCell] using HBE.out.size
        have hon14 : Only (TK g) w W14 := by rw [hW14]; exact ((Only.of_below (K := TK g) HBE.out).set (p := ⟨g, 1, none⟩) (.inl (show TK g g from rfl)) _).drew
        clear hkeep hot' hW14
        go_wp2_with (at_builtin; refine Hid.out ?_)
        refine wpList_app (xs := pcs T) (news := pcs (p :: Da)) rfl rfl elem_pair rfl o14 rfl (by have h := rA; unfold Prs at h; rw [← HNA.out] at h; exact h) (pcs_one _) (nt + na) rfl (pcs (T ++ (p :: Da))) (pcs_append _ _).symm (by unfold maxLen; omega) (by omega) hs14 ?_
        intro A6 c6 w6 o6 g6 q6
        have rB6 : Prs w6 w.heap.size Ab ([]) := Reads.grown rB g6 hs14 hge5
        have hb6 := hb14.grown g6 (fun e => hng5 e.symm)
        have hs6 := Nat.le_trans hs14 g6.size
        have hon6 := hon14.step (Only.of_grown g6) (fun i hi => .inr (hge5 i hi))
        have hge6 : ∀ x, blockOf A6 = some x → w.heap.size ≤ x := fun x hx => (Own.block o6 hx).1
        have hng6 : blockOf A6 ≠ some g := fun hx => by have := hge6 g hx; omega
        go_wp2_with (at_builtin; refine Hid.out ?_)
        refine wpList_app (xs := pcs (T ++ (p :: Da))) (news := pcs ([])) rfl rfl elem_pair rfl o6 rfl (by have h := rB6; unfold Prs at h; rw [← HNB.out] at h; exact h) (pcs_one _) (nt + na + nb) rfl (pcs R) (by rw [← pcs_append, HFIN.out]) (by unfold maxLen; omega) (by omega) hs6 ?_
        intro A7 c7 w7 o7 g7 q7
        have hb7 := hb6.grown g7 (fun e => hng6 e.symm)
        have hon7 := hon6.step (Only.of_grown g7) (fun i hi => .inr (hge6 i hi))
        have hge7 : ∀ x, blockOf A7 = some x → w.heap.size ≤ x := fun x hx => (Own.block o7 hx).1
        have hng7 : blockOf A7 ≠ some g := fun hx => by have := hge7 g hx; omega
        have j0 : w7.cell? ⟨g, 0, none⟩ = some (.slice A L.length c) := by rw [hb7.cell]; rfl
        have fr7 := hb7.free
        have HB7 := Lib.hid (hb7.put 0 (.slice A7 (nt + na + nb) c7))
        have HO7 := Lib.hid (Own.setOther o7 (p := ⟨g, 0, none⟩) hng7 (.slice A7 (nt + na + nb) c7))
        have HON7 := Lib.hid (hon7.set (p := ⟨g, 0, none⟩) (.inl (show TK g g from rfl)) (.slice A7 (nt + na + nb) c7))
        have HGE7 := Lib.hid hge7
        clear o14 rA rB hb14 hge5 hng5 hs14 hon14 o6 g6 q6 rB6 hb6 hs6 hon6 hge6 hng6 o7 g7 q7 hb7 hon7 hge7 hng7 k1 k2 fr
        generalize nt + na + nb = k7 at *
        go_wp2_with fail
        go_ret
        refine ⟨rfl, A7, c7, ⟨?_, ?_⟩, ?_, .inr HGE7.out⟩
        · have h := HB7.out
          rw [← HLR.out]
          simpa using h
        · have h := HO7.out
          unfold OwnP
          rw [← HLR.out]
          exact Own.mono h (Nat.le_of_lt hgl)
        · exact HON7.out
      | cons q Db =>
        obtain ⟨b1, o1, hA1, hb1w, hc1⟩ := HPA.out.at_ (by simp)
        obtain ⟨b2, o2, hA2, hb2w, hc2⟩ := HPB.out.at_ (by simp)
        subst hA1
        subst hA2
        obtain ⟨d1, d2⟩ := hc1 0 p rfl
        obtain ⟨d3, d4⟩ := hc2 0 q rfl
        have HPA2 := Lib.hid (prs_tail HPA.out)
        have HPB2 := Lib.hid (prs_tail HPB.out)
        have hmc := HTR.out
        rw [mrg_cons] at hmc
        have hmem : ∀ r ∈ R, r.2 ≤ 4611686018427387904 := fun r hr => by have h1 := tot_le_of_mem hr; have h2 := HTOT.out; have h3 := HCAP.out; omega
        have HME := Lib.hid hmem
        rw [List.length_cons] at hna hnb
        obtain ⟨px, pn⟩ := p
        obtain ⟨qx, qn⟩ := q
        dsimp only at d1 d2 d3 d4 hmc
        rw [Nat.zero_mul, Nat.add_zero] at d1 d2 d3 d4
        have hb1 : b1 < (wo.drewN nq).drew.heap.size := Nat.lt_of_lt_of_le hb1w HBE.out.size
        have hb2 : b2 < (wo.drewN nq).drew.heap.size := Nat.lt_of_lt_of_le hb2w HBE.out.size
        have d1w := (HBE.out.cell (p := ⟨b1, o1, none⟩) hb1w).symm.trans d1
        have d2w := (HBE.out.cell (p := ⟨b1, o1 + 1, none⟩) hb1w).symm.trans d2
        have d3w := (HBE.out.cell (p := ⟨b2, o2, none⟩) hb2w).symm.trans d3
        have d4w := (HBE.out.cell (p := ⟨b2, o2 + 1, none⟩) hb2w).symm.trans d4
        have hn1 : (0 : Int) < (na : Int) := by omega
        have hn2 : (0 : Int) < (nb : Int) := by omega
        have hn3 : (1 : Int) ≤ (na : Int) := by omega
        have hn4 : (1 : Int) ≤ (nb : Int) := by omega
        have hn5 : (1 : Int) ≤ (ca : Int) := by omega
        have hn6 : (1 : Int) ≤ (cb : Int) := by omega
        have hn7 : 1 ≤ na := by omega
        have hn8 : 1 ≤ nb := by omega
        have HNA := Lib.hid (show na - 1 = Da.length by omega)
        have HNB := Lib.hid (show nb - 1 = Db.length by omega)
        have HCA := Lib.hid (show na - 1 ≤ ca - 1 by omega)
        have HCB := Lib.hid (show nb - 1 ≤ cb - 1 by omega)
        have HCA1 : Hid (ca = 1 → Da = []) := Lib.hid (fun h => List.eq_nil_of_length_eq_zero (by omega))
        have HCB1 : Hid (cb = 1 → Db = []) := Lib.hid (fun h => List.eq_nil_of_length_eq_zero (by omega))
        have HL5 := Lib.hid (show nt + 1 + (na - 1) + nb ≤ 100000 ∧ nt + 1 + na + (nb - 1) ≤ 100000 ∧ nt + 1 + (na - 1) + (nb - 1) ≤ 100000 ∧ na ≤ ca ∧ nb ≤ cb by omega)
        have HNB' : Hid (nb = ((qx, qn) :: Db).length) := Lib.hid (by rw [List.length_cons]; exact hnb)
        have HNA' : Hid (na = ((px, pn) :: Da).length) := Lib.hid (by rw [List.length_cons]; exact hna)
        clear hc1 hc2 hna hnb hmem hlen hnt
        by_cases hlt : px < qx
        · rw [if_pos hlt] at hmc
          have HMC : Hid ((T ++ [(px, pn)]) ++ mrg Da ((qx, qn) :: Db) = R) := Lib.hid (by rw [List.append_assoc]; exact hmc)
          have x1 : decide (px < qx) = true := by simpa using hlt
          clear hmc
          by_cases hc1 : ca = 1
          all_goals
            go_wp2_with fail
            go_quiet (fail)
            go_wp2_with fail
            have hOT : Own (wo.drewN nq).drew w.heap.size 64 2 A5 nt c5 (pcs T) := by rw [HNT.out]; exact HOT.out
            refine wp_region_noPanic ?_
            refine wp_region_T (S := (fun W' => W'.cell? ⟨b1, o1, none⟩ = some (.int .i64 px) ∧ W'.cell? ⟨b1, o1 + 1, none⟩ = some (.int .u64 (pn : Int)))) (L := 9) (by kernel_rfl) ⟨by simpa using d1, by simpa using d2⟩ (fun hHeld => ?_)
            refine wpAnyT_take (i := 0) (oi := ?_) (v := ?_) ?_ ?_ ?_ ?_ ?_ ?_ ?_ ?_ ?_
            rotate_left 2
            · simp only [List.getElem?_toArray, List.getElem?_cons_zero]; rfl
            · kernel_rfl
            · kernel_rfl
            · kernel_rfl
            · kernel_rfl
            · exact fun _ _ _ h => h
            · exact Or.inl ⟨by kernel_rfl, by intro w hSw; (try dsimp only at hSw); go_simp; try with_reducible rfl⟩
            · assumption
            try go_simp
            refine wpAnyT_take (i := 1) (oi := ?_) (v := ?_) ?_ ?_ ?_ ?_ ?_ ?_ ?_ ?_ ?_
            rotate_left 2
            · simp only [List.getElem?_toArray, List.getElem?_cons_succ, List.getElem?_cons_zero]; rfl
            · kernel_rfl
            · kernel_rfl
            · kernel_rfl
            · kernel_rfl
            · exact fun _ _ _ h => h
            · exact Or.inl ⟨by kernel_rfl, by intro w hSw; (try dsimp only at hSw); go_simp; try with_reducible rfl⟩
            · assumption
            try go_simp
            refine wpAnyT_take (i := 2) (oi := ?_) (v := ?_) ?_ ?_ ?_ ?_ ?_ ?_ ?_ ?_ ?_
            rotate_left 2
            · simp only [List.getElem?_toArray, List.getElem?_cons_succ, List.getElem?_cons_zero]; rfl
            · kernel_rfl
            · kernel_rfl
            · kernel_rfl
            · kernel_rfl
            · exact fun _ _ _ h => h
            · exact Or.inl ⟨by kernel_rfl, by intro w hSw; (try dsimp only at hSw); go_simp; try with_reducible rfl⟩
            · assumption
            try go_simp
            refine wpAnyT_take (i := 3) (oi := ?_) (v := ?_) ?_ ?_ ?_ ?_ ?_ ?_ ?_ ?_ ?_
            rotate_left 2
            · simp only [List.getElem?_toArray, List.getElem?_cons_succ, List.getElem?_cons_zero]; rfl
            · kernel_rfl
            · kernel_rfl
            · kernel_rfl
            · kernel_rfl
            · exact fun _ _ _ h => h
            · exact Or.inl ⟨by kernel_rfl, by intro w hSw; (try dsimp only at hSw); go_simp; try with_reducible rfl⟩
            · assumption
            try go_simp
            refine wpAnyT_take (i := 6) (oi := ?_) (v := ?_) ?_ ?_ ?_ ?_ ?_ ?_ ?_ ?_ ?_
            rotate_left 2
            · simp only [List.getElem?_toArray, List.getElem?_cons_succ, List.getElem?_cons_zero]; rfl
            · kernel_rfl
            · kernel_rfl
            · kernel_rfl
            · kernel_rfl
            · exact fun _ _ _ h => h
            · exact Or.inl ⟨by kernel_rfl, by intro w hSw; (try dsimp only at hSw); go_simp; try with_reducible rfl⟩
            · assumption
            try go_simp
            refine wpAnyT_take (i := 7) (oi := ?_) (v := ?_) ?_ ?_ ?_ ?_ ?_ ?_ ?_ ?_ ?_
            rotate_left 2
            · simp only [List.getElem?_toArray, List.getElem?_cons_succ, List.getElem?_cons_zero]; rfl
            · kernel_rfl
            · kernel_rfl
            · kernel_rfl
            · kernel_rfl
            · exact fun _ _ _ h => h
            · exact Or.inl ⟨by kernel_rfl, by intro w hSw; (try dsimp only at hSw); go_simp; try with_reducible rfl⟩
            · assumption
            try go_simp
            refine wpAnyT_one (i := 4) (o := ?_) ?_ ?_ ?_
            rotate_left 1
            · simp only [List.getElem?_toArray, List.getElem?_cons_succ, List.getElem?_cons_zero]; rfl
            · kernel_rfl
            intro K hK
            go_simp
            refine hK.out _ _ ?_ (fun hHeld => ?_)
            · exact fun _ => ⟨by simpa using (World.cell?_alloc_lt (wo.drewN nq).drew _ ⟨b1, o1, none⟩ hb1).trans d1, by simpa using (World.cell?_alloc_lt (wo.drewN nq).drew _ ⟨b1, o1 + 1, none⟩ hb1).trans d2⟩
            clear hK K
            replace hHeld := hHeld (by decide)
            try go_simp
            refine wpAnyT_one (i := 5) (o := ?_) ?_ ?_ ?_
            rotate_left 1
            · simp only [List.getElem?_toArray, List.getElem?_cons_succ, List.getElem?_cons_zero]; rfl
            · kernel_rfl
            intro K hK
            refine step_app (s := .tmp 67) (x := .tmp 71) (t := 37) (base := w.heap.size) (A := A5) (n := nt) (c := c5) (xs := pcs T) (B := ((wo.drewN nq).drew.alloc (.cells #[.int .i64 px, .int .u64 (pn : Int)] 64)).heap.size) (D := some ⟨(wo.drewN nq).drew.heap.size, 0, none⟩) (m := 1) (c2 := 1) (news := pcs [(px, pn)]) (by rfl) (by rfl) elem_pair (by rfl) (Own.alloc hOT (.cells #[.int .i64 px, .int .u64 (pn : Int)] 64)) (by rfl) (pair_new (wo.drewN nq).drew px pn) (pcs_one _) (nt + 1) rfl (pcs (T ++ [(px, pn)])) (pcs_append _ _).symm (by unfold maxLen; omega) (by omega) (by have := HBE.out.size; simp; omega) ?_
            intro A3 c3 w3 o3 g3 q3
            have hB3 := appB (newB (show Below w.heap.size w (wo.drewN nq).drew from (below_drewN HBE.out nq).drew) (.cells #[.int .i64 px, .int .u64 (pn : Int)] 64)) (Own.alloc hOT _) g3 (Nat.le_refl _) (newB (show Below w.heap.size w (wo.drewN nq).drew from (below_drewN HBE.out nq).drew) (.cells #[.int .i64 px, .int .u64 (pn : Int)] 64)).size
            have f0 := (hB3.cell (p := ⟨b1, o1, none⟩) hb1w).trans d1w
            have f1 := (hB3.cell (p := ⟨b1, o1 + 1, none⟩) hb1w).trans d2w
            have HB3 := Lib.hid hB3
            have HO3 := Lib.hid o3
            clear o3 g3 q3 hB3
            refine hK.out _ _ ?_ (fun hHeld => ?_)
            · exact fun _ => ⟨f0, f1⟩
            clear hK K
            replace hHeld := hHeld (by decide)
            try go_simp
            refine wpAnyT_take (i := 8) (oi := ?_) (v := ?_) ?_ ?_ ?_ ?_ ?_ ?_ ?_ ?_ ?_
            rotate_left 2
            · simp only [List.getElem?_toArray, List.getElem?_cons_succ, List.getElem?_cons_zero]; rfl
            · kernel_rfl
            · kernel_rfl
            · kernel_rfl
            · kernel_rfl
            · exact fun _ _ _ h => h
            · exact Or.inl ⟨by kernel_rfl, by intro w hSw; (try dsimp only at hSw); go_simp; try with_reducible rfl⟩
            · assumption
            try go_simp
            refine wpAnyT_one (i := 9) (o := ?_) ?_ ?_ ?_
            rotate_left 1
            · simp only [List.getElem?_toArray, List.getElem?_cons_succ, List.getElem?_cons_zero]; rfl
            · kernel_rfl
            intro K hK
            go_simp
            refine hK.out _ _ ?_ (fun hHeld => ?_)
            · exact fun h => absurd rfl h
            clear hK K
            try go_simp
            refine wpAnyT_done (by kernel_rfl) ?_ _
            refine NoPanic.normal ?_
            go_wp2_with fail
            go_roundw
            case rel => exact ⟨T ++ [(px, pn)], Da, (qx, qn) :: Db, A3, _, _, c3, _, _, nt + 1, na - 1, nb, rfl, rfl, rfl, by rw [List.length_append, HNT.out]; rfl, HNA.out, HNB'.out, by have := HCA.out; omega, HL5.out.2.2.2.2, HMC.out, HL5.out.1, by first | exact (HPA2.out).below' HB3.out HBE.out | (rw [HCA1.out (by assumption)]; exact prs_nil), HPB.out.below' HB3.out HBE.out, by unfold OwnP; rw [List.length_append, ← HNT.out]; exact HO3.out, HB3.out, HGA.out, HGB.out⟩
            case measure => simp [lenV]; omega
        · rw [if_neg hlt] at hmc
          have x1 : decide (px < qx) = false := by simp; omega
          by_cases hgt : qx < px
          · rw [if_pos hgt] at hmc
            have HMC : Hid ((T ++ [(qx, qn)]) ++ mrg ((px, pn) :: Da) Db = R) := Lib.hid (by rw [List.append_assoc]; exact hmc)
            have x2 : decide (qx < px) = true := by simpa using hgt
            clear hmc
            by_cases hc1 : cb = 1
            all_goals
              go_wp2_with fail
              go_quiet (fail)
              go_wp2_with fail
              generalize nq = n1 at *
              go_quiet (fail)
              rw [World.drewN_drewN]
              go_wp2_with fail
              have hOT : Own (wo.drewN (n1 + nq)).drew w.heap.size 64 2 A5 nt c5 (pcs T) := by rw [HNT.out]; exact HOT.out
              refine wp_region_noPanic ?_
              refine wp_region_T (S := (fun W' => W'.cell? ⟨b2, o2, none⟩ = some (.int .i64 qx) ∧ W'.cell? ⟨b2, o2 + 1, none⟩ = some (.int .u64 (qn : Int)))) (L := 9) (by kernel_rfl) ⟨by simpa using d3, by simpa using d4⟩ (fun hHeld => ?_)
              refine wpAnyT_take (i := 0) (oi := ?_) (v := ?_) ?_ ?_ ?_ ?_ ?_ ?_ ?_ ?_ ?_
              rotate_left 2
              · simp only [List.getElem?_toArray, List.getElem?_cons_zero]; rfl
              · kernel_rfl
              · kernel_rfl
              · kernel_rfl
              · kernel_rfl
              · exact fun _ _ _ h => h
              · exact Or.inl ⟨by kernel_rfl, by intro w hSw; (try dsimp only at hSw); go_simp; try with_reducible rfl⟩
              · assumption
              try go_simp
              refine wpAnyT_take (i := 1) (oi := ?_) (v := ?_) ?_ ?_ ?_ ?_ ?_ ?_ ?_ ?_ ?_
              rotate_left 2
              · simp only [List.getElem?_toArray, List.getElem?_cons_succ, List.getElem?_cons_zero]; rfl
              · kernel_rfl
              · kernel_rfl
              · kernel_rfl
              · kernel_rfl
              · exact fun _ _ _ h => h
              · exact Or.inl ⟨by kernel_rfl, by intro w hSw; (try dsimp only at hSw); go_simp; try with_reducible rfl⟩
              · assumption
              try go_simp
              refine wpAnyT_take (i := 2) (oi := ?_) (v := ?_) ?_ ?_ ?_ ?_ ?_ ?_ ?_ ?_ ?_
              rotate_left 2
              · simp only [List.getElem?_toArray, List.getElem?_cons_succ, List.getElem?_cons_zero]; rfl
              · kernel_rfl
              · kernel_rfl
              · kernel_rfl
              · kernel_rfl
              · exact fun _ _ _ h => h
              · exact Or.inl ⟨by kernel_rfl, by intro w hSw; (try dsimp only at hSw); go_simp; try with_reducible rfl⟩
              · assumption
              try go_simp
              refine wpAnyT_take (i := 3) (oi := ?_) (v := ?_) ?_ ?_ ?_ ?_ ?_ ?_ ?_ ?_ ?_
              rotate_left 2
              · simp only [List.getElem?_toArray, List.getElem?_cons_succ, List.getElem?_cons_zero]; rfl
              · kernel_rfl
              · kernel_rfl
              · kernel_rfl
              · kernel_rfl
              · exact fun _ _ _ h => h
              · exact Or.inl ⟨by kernel_rfl, by intro w hSw; (try dsimp only at hSw); go_simp; try with_reducible rfl⟩
              · assumption
              try go_simp
              refine wpAnyT_take (i := 6) (oi := ?_) (v := ?_) ?_ ?_ ?_ ?_ ?_ ?_ ?_ ?_ ?_
              rotate_left 2
              · simp only [List.getElem?_toArray, List.getElem?_cons_succ, List.getElem?_cons_zero]; rfl
              · kernel_rfl
              · kernel_rfl
              · kernel_rfl
              · kernel_rfl
              · exact fun _ _ _ h => h
              · exact Or.inl ⟨by kernel_rfl, by intro w hSw; (try dsimp only at hSw); go_simp; try with_reducible rfl⟩
              · assumption
              try go_simp
              refine wpAnyT_take (i := 7) (oi := ?_) (v := ?_) ?_ ?_ ?_ ?_ ?_ ?_ ?_ ?_ ?_
              rotate_left 2
              · simp only [List.getElem?_toArray, List.getElem?_cons_succ, List.getElem?_cons_zero]; rfl
              · kernel_rfl
              · kernel_rfl
              · kernel_rfl
              · kernel_rfl
              · exact fun _ _ _ h => h
              · exact Or.inl ⟨by kernel_rfl, by intro w hSw; (try dsimp only at hSw); go_simp; try with_reducible rfl⟩
              · assumption
              try go_simp
              refine wpAnyT_one (i := 4) (o := ?_) ?_ ?_ ?_
              rotate_left 1
              · simp only [List.getElem?_toArray, List.getElem?_cons_succ, List.getElem?_cons_zero]; rfl
              · kernel_rfl
              intro K hK
              go_simp
              refine hK.out _ _ ?_ (fun hHeld => ?_)
              · exact fun _ => ⟨by simpa using (World.cell?_alloc_lt (wo.drewN (n1 + nq)).drew _ ⟨b2, o2, none⟩ hb2).trans d3, by simpa using (World.cell?_alloc_lt (wo.drewN (n1 + nq)).drew _ ⟨b2, o2 + 1, none⟩ hb2).trans d4⟩
              clear hK K
              replace hHeld := hHeld (by decide)
              try go_simp
              refine wpAnyT_one (i := 5) (o := ?_) ?_ ?_ ?_
              rotate_left 1
              · simp only [List.getElem?_toArray, List.getElem?_cons_succ, List.getElem?_cons_zero]; rfl
              · kernel_rfl
              intro K hK
              refine step_app (s := .tmp 85) (x := .tmp 89) (t := 37) (base := w.heap.size) (A := A5) (n := nt) (c := c5) (xs := pcs T) (B := ((wo.drewN (n1 + nq)).drew.alloc (.cells #[.int .i64 qx, .int .u64 (qn : Int)] 64)).heap.size) (D := some ⟨(wo.drewN (n1 + nq)).drew.heap.size, 0, none⟩) (m := 1) (c2 := 1) (news := pcs [(qx, qn)]) (by rfl) (by rfl) elem_pair (by rfl) (Own.alloc hOT (.cells #[.int .i64 qx, .int .u64 (qn : Int)] 64)) (by rfl) (pair_new (wo.drewN (n1 + nq)).drew qx qn) (pcs_one _) (nt + 1) rfl (pcs (T ++ [(qx, qn)])) (pcs_append _ _).symm (by unfold maxLen; omega) (by omega) (by have := HBE.out.size; simp; omega) ?_
              intro A3 c3 w3 o3 g3 q3
              have hB3 := appB (newB (show Below w.heap.size w (wo.drewN (n1 + nq)).drew from (below_drewN HBE.out (n1 + nq)).drew) (.cells #[.int .i64 qx, .int .u64 (qn : Int)] 64)) (Own.alloc hOT _) g3 (Nat.le_refl _) (newB (show Below w.heap.size w (wo.drewN (n1 + nq)).drew from (below_drewN HBE.out (n1 + nq)).drew) (.cells #[.int .i64 qx, .int .u64 (qn : Int)] 64)).size
              have f0 := (hB3.cell (p := ⟨b2, o2, none⟩) hb2w).trans d3w
              have f1 := (hB3.cell (p := ⟨b2, o2 + 1, none⟩) hb2w).trans d4w
              have HB3 := Lib.hid hB3
              have HO3 := Lib.hid o3
              clear o3 g3 q3 hB3
              refine hK.out _ _ ?_ (fun hHeld => ?_)
              · exact fun _ => ⟨f0, f1⟩
              clear hK K
              replace hHeld := hHeld (by decide)
              try go_simp
              refine wpAnyT_take (i := 8) (oi := ?_) (v := ?_) ?_ ?_ ?_ ?_ ?_ ?_ ?_ ?_ ?_
              rotate_left 2
              · simp only [List.getElem?_toArray, List.getElem?_cons_succ, List.getElem?_cons_zero]; rfl
              · kernel_rfl
              · kernel_rfl
              · kernel_rfl
              · kernel_rfl
              · exact fun _ _ _ h => h
              · exact Or.inl ⟨by kernel_rfl, by intro w hSw; (try dsimp only at hSw); go_simp; try with_reducible rfl⟩
              · assumption
              try go_simp
              refine wpAnyT_one (i := 9) (o := ?_) ?_ ?_ ?_
              rotate_left 1
              · simp only [List.getElem?_toArray, List.getElem?_cons_succ, List.getElem?_cons_zero]; rfl
              · kernel_rfl
              intro K hK
              go_simp
              refine hK.out _ _ ?_ (fun hHeld => ?_)
              · exact fun h => absurd rfl h
              clear hK K
              try go_simp
              refine wpAnyT_done (by kernel_rfl) ?_ _
              refine NoPanic.normal ?_
              go_wp2_with fail
              go_roundw
              case rel => exact ⟨T ++ [(qx, qn)], (px, pn) :: Da, Db, A3, _, _, c3, _, _, nt + 1, na, nb - 1, rfl, rfl, rfl, by rw [List.length_append, HNT.out]; rfl, HNA'.out, HNB.out, HL5.out.2.2.2.1, by have := HCB.out; omega, HMC.out, HL5.out.2.1, HPA.out.below' HB3.out HBE.out, by first | exact (HPB2.out).below' HB3.out HBE.out | (rw [HCB1.out (by assumption)]; exact prs_nil), by unfold OwnP; rw [List.length_append, ← HNT.out]; exact HO3.out, HB3.out, HGA.out, HGB.out⟩
              case measure => simp [lenV]; omega
          · rw [if_neg hgt] at hmc
            obtain ⟨sn, hsn⟩ : ∃ sn, sn = pn + qn := ⟨_, rfl⟩
            rw [← hsn] at hmc
            have HMC : Hid ((T ++ [(px, sn)]) ++ mrg Da Db = R) := Lib.hid (by rw [List.append_assoc]; exact hmc)
            have hsb := HME.out (px, sn) (by rw [← hmc]; simp)
            dsimp only at hsb
            have hsum : IntKind.u64.wrap ((pn : Int) + (qn : Int)) = (sn : Int) := by rw [IntWalk.u64_in _ ⟨by omega, by omega⟩]; omega
            have x2 : decide (qx < px) = false := by simp; omega
            clear hmc hsn hsb
            by_cases hc1 : ca = 1 <;> by_cases hc2 : cb = 1
            all_goals
              go_wp2_with fail
              go_quiet (fail)
              go_wp2_with fail
              generalize nq = n1 at *
              go_quiet (fail)
              rw [World.drewN_drewN]
              go_wp2_with fail
              have hOT : Own (wo.drewN (n1 + nq)).drew w.heap.size 64 2 A5 nt c5 (pcs T) := by rw [HNT.out]; exact HOT.out
              refine wp_region_noPanic ?_
              refine wp_region_T (S := (fun W' => W'.cell? ⟨b1, o1, none⟩ = some (.int .i64 px) ∧ W'.cell? ⟨b1, o1 + 1, none⟩ = some (.int .u64 (pn : Int)) ∧ W'.cell? ⟨b2, o2 + 1, none⟩ = some (.int .u64 (qn : Int)))) (L := 17) (by kernel_rfl) ⟨by simpa using d1, by simpa using d2, by simpa using d4⟩ (fun hHeld => ?_)
              refine wpAnyT_take (i := 0) (oi := ?_) (v := ?_) ?_ ?_ ?_ ?_ ?_ ?_ ?_ ?_ ?_
              rotate_left 2
              · simp only [List.getElem?_toArray, List.getElem?_cons_zero]; rfl
              · kernel_rfl
              · kernel_rfl
              · kernel_rfl
              · kernel_rfl
              · exact fun _ _ _ h => h
              · exact Or.inl ⟨by kernel_rfl, by intro w hSw; (try dsimp only at hSw); go_simp; try with_reducible rfl⟩
              · assumption
              try go_simp
              refine wpAnyT_take (i := 1) (oi := ?_) (v := ?_) ?_ ?_ ?_ ?_ ?_ ?_ ?_ ?_ ?_
              rotate_left 2
              · simp only [List.getElem?_toArray, List.getElem?_cons_succ, List.getElem?_cons_zero]; rfl
              · kernel_rfl
              · kernel_rfl
              · kernel_rfl
              · kernel_rfl
              · exact fun _ _ _ h => h
              · exact Or.inl ⟨by kernel_rfl, by intro w hSw; (try dsimp only at hSw); go_simp; try with_reducible rfl⟩
              · assumption
              try go_simp
              refine wpAnyT_take (i := 2) (oi := ?_) (v := ?_) ?_ ?_ ?_ ?_ ?_ ?_ ?_ ?_ ?_
              rotate_left 2
              · simp only [List.getElem?_toArray, List.getElem?_cons_succ, List.getElem?_cons_zero]; rfl
              · kernel_rfl
              · kernel_rfl
              · kernel_rfl
              · kernel_rfl
              · exact fun _ _ _ h => h
              · exact Or.inl ⟨by kernel_rfl, by intro w hSw; (try dsimp only at hSw); go_simp; try with_reducible rfl⟩
              · assumption
              try go_simp
              refine wpAnyT_take (i := 3) (oi := ?_) (v := ?_) ?_ ?_ ?_ ?_ ?_ ?_ ?_ ?_ ?_
              rotate_left 2
              · simp only [List.getElem?_toArray, List.getElem?_cons_succ, List.getElem?_cons_zero]; rfl
              · kernel_rfl
              · kernel_rfl
              · kernel_rfl
              · kernel_rfl
              · exact fun _ _ _ h => h
              · exact Or.inl ⟨by kernel_rfl, by intro w hSw; (try dsimp only at hSw); go_simp; try with_reducible rfl⟩
              · assumption
              try go_simp
              refine wpAnyT_take (i := 4) (oi := ?_) (v := ?_) ?_ ?_ ?_ ?_ ?_ ?_ ?_ ?_ ?_
              rotate_left 2
              · simp only [List.getElem?_toArray, List.getElem?_cons_succ, List.getElem?_cons_zero]; rfl
              · kernel_rfl
              · kernel_rfl
              · kernel_rfl
              · kernel_rfl
              · exact fun _ _ _ h => h
              · exact Or.inl ⟨by kernel_rfl, by intro w hSw; (try dsimp only at hSw); go_simp; try with_reducible rfl⟩
              · assumption
              try go_simp
              refine wpAnyT_take (i := 5) (oi := ?_) (v := ?_) ?_ ?_ ?_ ?_ ?_ ?_ ?_ ?_ ?_
              rotate_left 2
              · simp only [List.getElem?_toArray, List.getElem?_cons_succ, List.getElem?_cons_zero]; rfl
              · kernel_rfl
              · kernel_rfl
              · kernel_rfl
              · kernel_rfl
              · exact fun _ _ _ h => h
              · exact Or.inl ⟨by kernel_rfl, by intro w hSw; (try dsimp only at hSw); go_simp; try with_reducible rfl⟩
              · assumption
              try go_simp
              refine wpAnyT_take (i := 6) (oi := ?_) (v := ?_) ?_ ?_ ?_ ?_ ?_ ?_ ?_ ?_ ?_
              rotate_left 2
              · simp only [List.getElem?_toArray, List.getElem?_cons_succ, List.getElem?_cons_zero]; rfl
              · kernel_rfl
              · kernel_rfl
              · kernel_rfl
              · kernel_rfl
              · exact fun _ _ _ h => h
              · exact Or.inl ⟨by kernel_rfl, by intro w hSw; (try dsimp only at hSw); go_simp; try with_reducible rfl⟩
              · assumption
              try go_simp
              refine wpAnyT_take (i := 7) (oi := ?_) (v := ?_) ?_ ?_ ?_ ?_ ?_ ?_ ?_ ?_ ?_
              rotate_left 2
              · simp only [List.getElem?_toArray, List.getElem?_cons_succ, List.getElem?_cons_zero]; rfl
              · kernel_rfl
              · kernel_rfl
              · kernel_rfl
              · kernel_rfl
              · exact fun _ _ _ h => h
              · exact Or.inl ⟨by kernel_rfl, by intro w hSw; (try dsimp only at hSw); go_simp; try with_reducible rfl⟩
              · assumption
              try go_simp
              refine wpAnyT_take (i := 8) (oi := ?_) (v := ?_) ?_ ?_ ?_ ?_ ?_ ?_ ?_ ?_ ?_
              rotate_left 2
              · simp only [List.getElem?_toArray, List.getElem?_cons_succ, List.getElem?_cons_zero]; rfl
              · kernel_rfl
              · kernel_rfl
              · kernel_rfl
              · kernel_rfl
              · exact fun _ _ _ h => h
              · exact Or.inl ⟨by kernel_rfl, by intro w hSw; (try dsimp only at hSw); go_simp; try with_reducible rfl⟩
              · assumption
              try go_simp
              refine wpAnyT_take (i := 9) (oi := ?_) (v := ?_) ?_ ?_ ?_ ?_ ?_ ?_ ?_ ?_ ?_
              rotate_left 2
              · simp only [List.getElem?_toArray, List.getElem?_cons_succ, List.getElem?_cons_zero]; rfl
              · kernel_rfl
              · kernel_rfl
              · kernel_rfl
              · kernel_rfl
              · exact fun _ _ _ h => h
              · exact Or.inl ⟨by kernel_rfl, by intro w hSw; (try dsimp only at hSw); go_simp; try with_reducible rfl⟩
              · assumption
              try go_simp
              refine wpAnyT_take (i := 10) (oi := ?_) (v := ?_) ?_ ?_ ?_ ?_ ?_ ?_ ?_ ?_ ?_
              rotate_left 2
              · simp only [List.getElem?_toArray, List.getElem?_cons_succ, List.getElem?_cons_zero]; rfl
              · kernel_rfl
              · kernel_rfl
              · kernel_rfl
              · kernel_rfl
              · exact fun _ _ _ h => h
              · exact Or.inl ⟨by kernel_rfl, by intro w hSw; (try dsimp only at hSw); go_simp; try with_reducible rfl⟩
              · assumption
              try go_simp
              refine wpAnyT_take (i := 11) (oi := ?_) (v := ?_) ?_ ?_ ?_ ?_ ?_ ?_ ?_ ?_ ?_
              rotate_left 2
              · simp only [List.getElem?_toArray, List.getElem?_cons_succ, List.getElem?_cons_zero]; rfl
              · kernel_rfl
              · kernel_rfl
              · kernel_rfl
              · kernel_rfl
              · exact fun _ _ _ h => h
              · exact Or.inl ⟨by kernel_rfl, by intro w hSw; (try dsimp only at hSw); go_simp; try with_reducible rfl⟩
              · assumption
              try go_simp
              refine wpAnyT_take (i := 12) (oi := ?_) (v := ?_) ?_ ?_ ?_ ?_ ?_ ?_ ?_ ?_ ?_
              rotate_left 2
              · simp only [List.getElem?_toArray, List.getElem?_cons_succ, List.getElem?_cons_zero]; rfl
              · kernel_rfl
              · kernel_rfl
              · kernel_rfl
              · kernel_rfl
              · exact fun _ _ _ h => h
              · exact Or.inl ⟨by kernel_rfl, by intro w hSw; (try dsimp only at hSw); go_simp; try with_reducible rfl⟩
              · assumption
              try go_simp
              refine wpAnyT_take (i := 13) (oi := ?_) (v := ?_) ?_ ?_ ?_ ?_ ?_ ?_ ?_ ?_ ?_
              rotate_left 2
              · simp only [List.getElem?_toArray, List.getElem?_cons_succ, List.getElem?_cons_zero]; rfl
              · kernel_rfl
              · kernel_rfl
              · kernel_rfl
              · kernel_rfl
              · exact fun _ _ _ h => h
              · exact Or.inl ⟨by kernel_rfl, by intro w hSw; (try dsimp only at hSw); go_simp; try with_reducible rfl⟩
              · assumption
              try go_simp
              refine wpAnyT_take (i := 14) (oi := ?_) (v := ?_) ?_ ?_ ?_ ?_ ?_ ?_ ?_ ?_ ?_
              rotate_left 2
              · simp only [List.getElem?_toArray, List.getElem?_cons_succ, List.getElem?_cons_zero]; rfl
              · kernel_rfl
              · kernel_rfl
              · kernel_rfl
              · kernel_rfl
              · exact fun _ _ _ h => h
              · exact Or.inl ⟨by kernel_rfl, by intro w hSw; (try dsimp only at hSw); go_simp; try with_reducible rfl⟩
              · assumption
              try go_simp
              refine wpAnyT_one (i := 15) (o := ?_) ?_ ?_ ?_
              rotate_left 1
              · simp only [List.getElem?_toArray, List.getElem?_cons_succ, List.getElem?_cons_zero]; rfl
              · kernel_rfl
              intro K hK
              go_simp
              refine hK.out _ _ ?_ (fun hHeld => ?_)
              · exact fun _ => ⟨by simpa using (World.cell?_alloc_lt (wo.drewN (n1 + nq)).drew _ ⟨b1, o1, none⟩ hb1).trans d1, by simpa using (World.cell?_alloc_lt (wo.drewN (n1 + nq)).drew _ ⟨b1, o1 + 1, none⟩ hb1).trans d2, by simpa using (World.cell?_alloc_lt (wo.drewN (n1 + nq)).drew _ ⟨b2, o2 + 1, none⟩ hb2).trans d4⟩
              clear hK K
              replace hHeld := hHeld (by decide)
              try go_simp
              refine wpAnyT_one (i := 16) (o := ?_) ?_ ?_ ?_
              rotate_left 1
              · simp only [List.getElem?_toArray, List.getElem?_cons_succ, List.getElem?_cons_zero]; rfl
              · kernel_rfl
              intro K hK
              refine step_app (s := .tmp 36) (x := .tmp 51) (t := 37) (base := w.heap.size) (A := A5) (n := nt) (c := c5) (xs := pcs T) (B := ((wo.drewN (n1 + nq)).drew.alloc (.cells #[.int .i64 px, .int .u64 (sn : Int)] 64)).heap.size) (D := some ⟨(wo.drewN (n1 + nq)).drew.heap.size, 0, none⟩) (m := 1) (c2 := 1) (news := pcs [(px, sn)]) (by rfl) (by rfl) elem_pair (by rfl) (Own.alloc hOT (.cells #[.int .i64 px, .int .u64 (sn : Int)] 64)) (by rfl) (pair_new (wo.drewN (n1 + nq)).drew px sn) (pcs_one _) (nt + 1) rfl (pcs (T ++ [(px, sn)])) (pcs_append _ _).symm (by unfold maxLen; omega) (by omega) (by have := HBE.out.size; simp; omega) ?_
              intro A3 c3 w3 o3 g3 q3
              have hB3 := appB (newB (show Below w.heap.size w (wo.drewN (n1 + nq)).drew from (below_drewN HBE.out (n1 + nq)).drew) (.cells #[.int .i64 px, .int .u64 (sn : Int)] 64)) (Own.alloc hOT _) g3 (Nat.le_refl _) (newB (show Below w.heap.size w (wo.drewN (n1 + nq)).drew from (below_drewN HBE.out (n1 + nq)).drew) (.cells #[.int .i64 px, .int .u64 (sn : Int)] 64)).size
              have f0 := (hB3.cell (p := ⟨b1, o1, none⟩) hb1w).trans d1w
              have f1 := (hB3.cell (p := ⟨b1, o1 + 1, none⟩) hb1w).trans d2w
              have f2 := (hB3.cell (p := ⟨b2, o2 + 1, none⟩) hb2w).trans d4w
              have HB3 := Lib.hid hB3
              have HO3 := Lib.hid o3
              clear o3 g3 q3 hB3
              refine hK.out _ _ ?_ (fun hHeld => ?_)
              · exact fun _ => ⟨f0, f1, f2⟩
              clear hK K
              replace hHeld := hHeld (by decide)
              try go_simp
              refine wpAnyT_one (i := 17) (o := ?_) ?_ ?_ ?_
              rotate_left 1
              · simp only [List.getElem?_toArray, List.getElem?_cons_succ, List.getElem?_cons_zero]; rfl
              · kernel_rfl
              intro K hK
              go_simp
              refine hK.out _ _ ?_ (fun hHeld => ?_)
              · exact fun h => absurd rfl h
              clear hK K
              try go_simp
              refine wpAnyT_done (by kernel_rfl) ?_ _
              refine NoPanic.normal ?_
              go_wp2_with fail
              go_quiet (fail)
              go_wp2_with fail
              go_roundw
              case rel => exact ⟨T ++ [(px, sn)], Da, Db, A3, _, _, c3, _, _, nt + 1, na - 1, nb - 1, rfl, rfl, rfl, by rw [List.length_append, HNT.out]; rfl, HNA.out, HNB.out, by have := HCA.out; omega, by have := HCB.out; omega, HMC.out, HL5.out.2.2.1, by first | exact (HPA2.out).below' (below_drewN HB3.out _) HBE.out | (rw [HCA1.out (by assumption)]; exact prs_nil), by first | exact (HPB2.out).below' (below_drewN HB3.out _) HBE.out | (rw [HCB1.out (by assumption)]; exact prs_nil), by unfold OwnP; rw [List.length_append, ← HNT.out]; exact HO3.out, below_drewN HB3.out _, HGA.out, HGB.out⟩
              case measure => simp [lenV]; omega
set_option maxRecDepth 100000 in
theorem take_t (g gt : Nat) (A At : Option Addr) (c ct : Nat) (L M : List Pr) (w : World) (h : Lst w g A c L) (ht : Lst w gt At ct M) (hf : Fine L) (hfm : Fine M) (hlm : L.length + M.length ≤ 100000) :
    Calls Tryz.prog 95 #[.pointer (some ⟨g, 0, none⟩), .pointer (some ⟨gt, 0, none⟩)] w fun e w' => e = .returned (.int .i64 (rtake L M 0).2) ∧ Took g A (rtake L M 0).1 w w' := by
  rw [rtake0]
  by_cases hcap : 4611686018427387904 - tot L < tot M
  · rw [if_neg (fun h => by rw [h, tot_nil] at hcap; omega), if_pos hcap]
    exact take_cap g gt A At c ct L M w h ht hf.tot hcap
  · have hk := take_ok g gt A At c ct L M w h ht hf hfm hcap hlm
    by_cases hM : M = []
    · rw [if_pos hM]
      subst hM
      exact hk
    · rw [if_neg hM, if_neg hcap]
      exact hk
theorem took_fine {L M : List Pr} (hf : Fine L) (hfm : Fine M) (hlm : L.length + M.length ≤ 100000) : Fine (rtake L M 0).1 ∧ (rtake L M 0).1.length ≤ L.length + M.length := by
  rw [rtake0]
  split
  · exact ⟨hf, by simp⟩
  · split
    · exact ⟨hf, by simp⟩
    · have hp := mrg_puts hf.srt hf.pos hfm.srt hfm.pos
      obtain ⟨a, b, _, d⟩ := mrg_fine _ L M (Nat.le_refl _) hf.srt hf.pos hfm.srt hfm.pos
      rw [hp] at a b d
      have h1 := hf.tot
      refine ⟨⟨a, b, fun r hr => ?_, by simp only [puts_tot]; omega, by have := puts_len (l := L) (m := M); simp only; omega⟩, puts_len⟩
      rcases d r hr with ⟨x, hx, e⟩ | ⟨x, hx, e⟩
      · have := hf.keys x hx; omega
      · have := hfm.keys x hx; omega
end Go.Proofs.YtbfhiegbgkkgiaaGreat
