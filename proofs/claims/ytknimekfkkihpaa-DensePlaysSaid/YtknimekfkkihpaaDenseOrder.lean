/- DenseOrder walked. -/
import Derived.Test.YtknimekfkkihpaaDenseAdds
import Derived.Test.YtknimekfkkihpaaOpenPairs
namespace Go.Proofs.Ytknimekfkkihpaa
open Go.RowKit
open Ds Pl

theorem prs_cells {w : World} {B : Nat} {A : Option Addr} {L : List Pr} {k : Nat} {p : Pr} (h : Prs w B A L) (hp : L[k]? = some p) : ∃ b o, A = some ⟨b, o, none⟩ ∧ b < B ∧ w.cell? ⟨b, o + k * 2, none⟩ = some (.int .i64 p.1) ∧ w.cell? ⟨b, o + k * 2 + 1, none⟩ = some (.int .u64 (p.2 : Nat)) := by
  have hk : k < L.length := (List.getElem?_eq_some_iff.1 hp).1
  obtain ⟨b, o, e, hb, hc⟩ := h.at_ (by omega)
  exact ⟨b, o, e, hb, hc k p hp⟩
def S2 (g1 g2 : Nat) (s1 s2 : St) : Nat → St := upd (upd (fun _ => e0) g1 s1) g2 s2
theorem S2_1 {g1 g2 : Nat} {s1 s2 : St} (h : g1 ≠ g2) : S2 g1 g2 s1 s2 g1 = s1 := by unfold S2; rw [upd_ne _ _ h, upd_same]
theorem S2_2 {g1 g2 : Nat} {s1 s2 : St} : S2 g1 g2 s1 s2 g2 = s2 := upd_same _ _ _
/-- Add to the one, or the other, of two. -/
theorem two_add1 {s1 s2 : St} {base g1 g2 : Nat} (hne : g1 ≠ g2) (p : Pr) (w : World) (hbase : base ≤ w.heap.size) (h : Sts w base [g2, g1] (S2 g1 g2 s1 s2)) (k0 : -9223372036854775808 ≤ p.1) (k1 : p.1 ≤ 9223372036854775807) (hn : p.2 ≤ 18446744073709551615) :
    Calls Try.prog 8 #[.pointer (some ⟨g1, 0, none⟩), .int .i64 p.1, .int .u64 (p.2 : Nat)] w fun e w' => e = .returned (.int .i64 (chk s1.1 s1.2.1 s1.2.2 p.1 p.2)) ∧ Sts w' base [g2, g1] (S2 g1 g2 (addS s1 p) s2) ∧ Below base w w' := by
  refine (sadd_t g1 p.1 p.2 w hbase h (by simp) k0 k1 hn).mono ?_
  rintro e w' ⟨rfl, hs, hb⟩
  rw [S2_1 hne] at *
  refine ⟨rfl, hs.congr (fun g hg => ?_), hb⟩
  simp at hg
  rcases hg with rfl | rfl
  · rw [S2_2, upd_ne _ _ (Ne.symm hne), S2_2]
  · rw [upd_same, S2_1 hne]
theorem two_add2 {s1 s2 : St} {base g1 g2 : Nat} (hne : g1 ≠ g2) (p : Pr) (w : World) (hbase : base ≤ w.heap.size) (h : Sts w base [g2, g1] (S2 g1 g2 s1 s2)) (k0 : -9223372036854775808 ≤ p.1) (k1 : p.1 ≤ 9223372036854775807) (hn : p.2 ≤ 18446744073709551615) :
    Calls Try.prog 8 #[.pointer (some ⟨g2, 0, none⟩), .int .i64 p.1, .int .u64 (p.2 : Nat)] w fun e w' => e = .returned (.int .i64 (chk s2.1 s2.2.1 s2.2.2 p.1 p.2)) ∧ Sts w' base [g2, g1] (S2 g1 g2 s1 (addS s2 p)) ∧ Below base w w' := by
  refine (sadd_t g2 p.1 p.2 w hbase h (by simp) k0 k1 hn).mono ?_
  rintro e w' ⟨rfl, hs, hb⟩
  rw [S2_2] at *
  refine ⟨rfl, hs.congr (fun g hg => ?_), hb⟩
  simp at hg
  rcases hg with rfl | rfl
  · rw [upd_same, S2_2]
  · rw [upd_ne _ _ hne, S2_1 hne, S2_1 hne]
theorem two_new (w : World) : Sts ((w.alloc (.cells #[.int .i64 0, .slice none 0 0, .int .u64 0] 28)).alloc (.cells #[.int .i64 0, .slice none 0 0, .int .u64 0] 28)) w.heap.size [w.heap.size + 1, w.heap.size] (S2 w.heap.size (w.heap.size + 1) e0 e0) := by
  have h1 := Sts.new (Sts.none w w.heap.size (fun _ => e0)) (Nat.le_refl _)
  have h2 := Sts.new h1 (by simp)
  simp only [World.size_alloc] at h2
  exact h2
set_option maxHeartbeats 3200000 in
theorem denseOrder_walk (w : World) (A : Option Addr) (c : Nat) (l : List Pr) (m : l.length ≤ maxLen) (s : Pairs w A l) :
    Calls Try.prog 3 #[.slice A l.length c] w fun e w' => e = .returned (.bool true) ∧ Below w.heap.size w w' := by
  obtain ⟨hok, hp⟩ := s
  unfold maxLen at m
  have HA := alive_t
  have HP := Lib.hid hp
  have HOK := Lib.hid hok
  clear hp hok
  by_cases hbig : 200 < l.length
  · go_enter Try.func3, Try.ntmps3
    go_wp2_with fail
    refine (HA _).mono ?_
    rintro e w1 ⟨rfl, hb1⟩
    have HB1 := Lib.hid hb1
    clear hb1
    go_wp2_with fail
    go_ret
    exact ⟨rfl, HB1.out⟩
  · have hl : (l.length : Int) ≤ 200 := by omega
    go_enter Try.func3, Try.ntmps3
    go_wp2_with fail
    refine (HA _).mono ?_
    rintro e w1 ⟨rfl, hb1⟩
    have HB1 := Lib.hid hb1
    clear hb1
    go_wp2_with fail
    have hs0 := two_new w1
    have hb0 : Below w1.heap.size w1 ((w1.alloc (.cells #[.int .i64 0, .slice none 0 0, .int .u64 0] 28)).alloc (.cells #[.int .i64 0, .slice none 0 0, .int .u64 0] 28)) := ((Below.refl _ _).alloc (Nat.le_refl _) _).alloc (by simp) _
    have hz0 := hb0.size
    have hb00 := nextB HB1.out hb0
    have hwg := HB1.out.size
    generalize (w1.alloc (.cells #[.int .i64 0, .slice none 0 0, .int .u64 0] 28)).alloc (.cells #[.int .i64 0, .slice none 0 0, .int .u64 0] 28) = w0 at *
    generalize w1.heap.size = g at *
    have HS0 := Lib.hid hs0
    have HWG := Lib.hid hwg
    have HB0 := Lib.hid hb00
    clear hs0 hb0 hb00 HB1
    obtain ⟨I, hI⟩ : ∃ I, I = l.map item1 := ⟨_, rfl⟩
    have hIk : ∀ q ∈ I, KeyOk q := by
      intro q hq
      rw [hI] at hq
      obtain ⟨r, _, rfl⟩ := List.mem_map.1 hq
      exact item1_ok r
    have hIt : tot I ≤ 4611686018427387904 := by
      rw [hI]
      have := tot_map_le (f := item1) (m := 1000) (fun p => by unfold item1; simp only; omega) l
      omega
    have hIl : I.length = l.length := by rw [hI, List.length_map]
    have HIk := Lib.hid hIk
    have HIt := Lib.hid hIt
    have HI := Lib.hid hI
    have HIl := Lib.hid hIl
    clear hI hIk hIt hIl
    go_loopw [5] (fun i wr => ∃ k : Nat, k ≤ l.length ∧ i = .int .i64 k ∧ Sts wr g [g + 1, g] (S2 g (g + 1) (adds e0 (I.take k)) (adds e0 (I.reverse.take k))) ∧ Below w.heap.size w wr ∧ g ≤ wr.heap.size) (fun i _ => l.length - (intOf i).toNat)
    case atStart => exact ⟨0, Nat.zero_le _, rfl, HS0.out, HB0.out, hz0⟩
    case round =>
      obtain ⟨k, hk, rfl, hsts, hbel, hgw⟩ := hrel
      by_cases hlt : k < l.length
      · obtain ⟨p, hp⟩ : ∃ p, l[k]? = some p := ⟨l[k], by simp [hlt]⟩
        obtain ⟨q, hq⟩ : ∃ q, l[l.length - 1 - k]? = some q := ⟨l[l.length - 1 - k], by simp⟩
        obtain ⟨b, o, hA, hbl, c1, c2⟩ := prs_cells HP.out hp
        subst hA
        obtain ⟨b', o', hA, _, c3, c4⟩ := prs_cells HP.out hq
        obtain ⟨rfl, rfl⟩ : b' = b ∧ o' = o := by
          simp only [Option.some.injEq, Addr.mk.injEq] at hA
          exact ⟨hA.1.symm, hA.2.1.symm⟩
        have i1 : I[k]? = some (item1 p) := by rw [HI.out]; exact map_get hp
        have i2 : I.reverse[k]? = some (item1 q) := by rw [HI.out]; exact rev_get (by rw [List.length_map]; exact hlt) (by rw [List.length_map]; exact map_get hq)
        have n1 := adds_take (s := e0) i1
        have n2 := adds_take (s := e0) i2
        have k1 := chk_adds HIk.out HIt.out i1
        have k2 := chk_adds (L := I.reverse) (fun q hq => HIk.out q (by simpa using hq)) (by rw [tot_reverse]; exact HIt.out) i2
        rw [if_neg (by unfold item1; simp only; omega)] at k1 k2
        have o1 := HOK.out p (List.mem_of_getElem? hp)
        have o2 := HOK.out q (List.mem_of_getElem? hq)
        have t1 := tmod_range p.1
        have t2 := tmod_range q.1
        have q0 : (item1 p).1 = p.1.tmod 4000 := rfl
        have q1 : (item1 p).2 = 1 + p.2 % 1000 := rfl
        have q2 : (item1 q).1 = q.1.tmod 4000 := rfl
        have q3 : (item1 q).2 = 1 + q.2 % 1000 := rfl
        have HA1 := fun W hb h => two_add1 (s1 := adds e0 (I.take k)) (s2 := adds e0 (I.reverse.take k)) (base := g) (g1 := g) (g2 := g + 1) (by omega) (item1 p) W hb h (by rw [q0]; omega) (by rw [q0]; omega) (by rw [q1]; omega)
        have HA2 := fun W hb h => two_add2 (s1 := adds e0 (I.take (k + 1))) (s2 := adds e0 (I.reverse.take k)) (base := g) (g1 := g) (g2 := g + 1) (by omega) (item1 q) W hb h (by rw [q2]; omega) (by rw [q2]; omega) (by rw [q3]; omega)
        rw [k1, ← n1, q0, q1] at HA1
        rw [k2, ← n2, q2, q3] at HA2
        obtain ⟨x1, x2⟩ := p
        obtain ⟨y1, y2⟩ := q
        simp only at c1 c2 c3 c4 t1 t2 o1 o2 HA1 HA2
        obtain ⟨o11, o12, o13⟩ := o1
        obtain ⟨o21, o22, o23⟩ := o2
        simp only at o11 o12 o13 o21 o22 o23
        have hkk : (k : Int) < (l.length : Int) := by omega
        have hk0 : (0 : Int) ≤ (k : Int) := by omega
        obtain ⟨r, hr⟩ : ∃ r : Nat, r = l.length - 1 - k := ⟨_, rfl⟩
        rw [← hr] at c3 c4
        have hrr : (r : Int) = (l.length : Int) - 1 - k := by omega
        have hr0 : (0 : Int) ≤ (r : Int) := by omega
        have hrl : (r : Int) < (l.length : Int) := by omega
        have s1 : IntKind.i64.wrap ((l.length : Int) - 1) = (l.length : Int) - 1 := IntWalk.i64_in _ ⟨by omega, by omega⟩
        have s2 : IntKind.i64.wrap ((l.length : Int) - 1 - k) = (r : Int) := by rw [hrr]; exact IntWalk.i64_in _ ⟨by omega, by omega⟩
        obtain ⟨v1, hv1⟩ : ∃ v1, v1 = 1 + x2 % 1000 := ⟨_, rfl⟩
        obtain ⟨v2, hv2⟩ : ∃ v2, v2 = 1 + y2 % 1000 := ⟨_, rfl⟩
        rw [← hv1] at HA1
        rw [← hv2] at HA2
        have u1 : IntKind.u64.wrap (1 + (x2 : Int).tmod 1000) = (v1 : Int) := by
          rw [Int.tmod_eq_emod_of_nonneg (by omega)]
          rw [show (1 : Int) + (x2 : Int) % 1000 = (v1 : Int) by omega]
          exact IntWalk.u64_in _ ⟨by omega, by omega⟩
        have u2 : IntKind.u64.wrap (1 + (y2 : Int).tmod 1000) = (v2 : Int) := by
          rw [Int.tmod_eq_emod_of_nonneg (by omega)]
          rw [show (1 : Int) + (y2 : Int) % 1000 = (v2 : Int) by omega]
          exact IntWalk.u64_in _ ⟨by omega, by omega⟩
        clear hv1 hv2
        have d1 : wr.cell? ⟨b', o' + k * 2, none⟩ = some (.int .i64 x1) := (hbel.cell (p := ⟨b', o' + k * 2, none⟩) hbl).trans c1
        have d2 : wr.cell? ⟨b', o' + k * 2 + 1, none⟩ = some (.int .u64 (x2 : Nat)) := (hbel.cell (p := ⟨b', o' + k * 2 + 1, none⟩) hbl).trans c2
        have d3 : wr.cell? ⟨b', o' + r * 2, none⟩ = some (.int .i64 y1) := (hbel.cell (p := ⟨b', o' + r * 2, none⟩) hbl).trans c3
        have d4 : wr.cell? ⟨b', o' + r * 2 + 1, none⟩ = some (.int .u64 (y2 : Nat)) := (hbel.cell (p := ⟨b', o' + r * 2 + 1, none⟩) hbl).trans c4
        have HL := Lib.hid hlt
        have HS := Lib.hid hsts
        have HB := Lib.hid hbel
        replace HA1 := Lib.hid HA1
        replace HA2 := Lib.hid HA2
        have HGW := Lib.hid hgw
        clear hk hp hq hA i1 i2 n1 n2 k1 k2 q0 q1 q2 q3 hlt hsts hbel c1 c2 c3 c4 hr hrr hgw
        go_wp2_with fail
        refine wp_region_noPanic ?_
        refine wp_region_held_drew (S := (fun w' => w'.cell? ⟨b', o' + k * 2, none⟩ = some (.int .i64 x1) ∧ w'.cell? ⟨b', o' + k * 2 + 1, none⟩ = some (.int .u64 (x2 : Nat)) ∧ w'.cell? ⟨b', o' + r * 2, none⟩ = some (.int .i64 y1) ∧ w'.cell? ⟨b', o' + r * 2 + 1, none⟩ = some (.int .u64 (y2 : Nat)))) (by kernel_rfl) ⟨d1, d2, d3, d4⟩ (fun hHeld => ?_)
        refine wpAnyH_take (i := 0) (oi := ?_) (v := ?_) ?_ ?_ ?_ ?_ ?_ ?_ ?_ ?_
        rotate_left 2
        · simp only [List.getElem?_toArray, List.getElem?_cons_zero]; rfl
        · kernel_rfl
        · kernel_rfl
        · kernel_rfl
        · exact fun _ _ _ h => h
        · exact Or.inl ⟨by kernel_rfl, by intro w hSw; (try dsimp only at hSw); go_simp; try with_reducible rfl⟩
        · assumption
        try go_simp
        refine wpAnyH_take (i := 1) (oi := ?_) (v := ?_) ?_ ?_ ?_ ?_ ?_ ?_ ?_ ?_
        rotate_left 2
        · simp only [List.getElem?_toArray, List.getElem?_cons_succ, List.getElem?_cons_zero]; rfl
        · kernel_rfl
        · kernel_rfl
        · kernel_rfl
        · exact fun _ _ _ h => h
        · exact Or.inl ⟨by kernel_rfl, by intro w hSw; (try dsimp only at hSw); go_simp; try with_reducible rfl⟩
        · assumption
        try go_simp
        refine wpAnyH_take (i := 2) (oi := ?_) (v := ?_) ?_ ?_ ?_ ?_ ?_ ?_ ?_ ?_
        rotate_left 2
        · simp only [List.getElem?_toArray, List.getElem?_cons_succ, List.getElem?_cons_zero]; rfl
        · kernel_rfl
        · kernel_rfl
        · kernel_rfl
        · exact fun _ _ _ h => h
        · exact Or.inl ⟨by kernel_rfl, by intro w hSw; (try dsimp only at hSw); go_simp; try with_reducible rfl⟩
        · assumption
        try go_simp
        refine wpAnyH_take (i := 3) (oi := ?_) (v := ?_) ?_ ?_ ?_ ?_ ?_ ?_ ?_ ?_
        rotate_left 2
        · simp only [List.getElem?_toArray, List.getElem?_cons_succ, List.getElem?_cons_zero]; rfl
        · kernel_rfl
        · kernel_rfl
        · kernel_rfl
        · exact fun _ _ _ h => h
        · exact Or.inl ⟨by kernel_rfl, by intro w hSw; (try dsimp only at hSw); go_simp; try with_reducible rfl⟩
        · assumption
        try go_simp
        refine wpAnyH_take (i := 4) (oi := ?_) (v := ?_) ?_ ?_ ?_ ?_ ?_ ?_ ?_ ?_
        rotate_left 2
        · simp only [List.getElem?_toArray, List.getElem?_cons_succ, List.getElem?_cons_zero]; rfl
        · kernel_rfl
        · kernel_rfl
        · kernel_rfl
        · exact fun _ _ _ h => h
        · exact Or.inl ⟨by kernel_rfl, by intro w hSw; (try dsimp only at hSw); go_simp; try with_reducible rfl⟩
        · assumption
        try go_simp
        refine wpAnyH_take (i := 5) (oi := ?_) (v := ?_) ?_ ?_ ?_ ?_ ?_ ?_ ?_ ?_
        rotate_left 2
        · simp only [List.getElem?_toArray, List.getElem?_cons_succ, List.getElem?_cons_zero]; rfl
        · kernel_rfl
        · kernel_rfl
        · kernel_rfl
        · exact fun _ _ _ h => h
        · exact Or.inl ⟨by kernel_rfl, by intro w hSw; (try dsimp only at hSw); go_simp; try with_reducible rfl⟩
        · assumption
        try go_simp
        refine wpAnyH_take (i := 6) (oi := ?_) (v := ?_) ?_ ?_ ?_ ?_ ?_ ?_ ?_ ?_
        rotate_left 2
        · simp only [List.getElem?_toArray, List.getElem?_cons_succ, List.getElem?_cons_zero]; rfl
        · kernel_rfl
        · kernel_rfl
        · kernel_rfl
        · exact fun _ _ _ h => h
        · exact Or.inl ⟨by kernel_rfl, by intro w hSw; (try dsimp only at hSw); go_simp; try with_reducible rfl⟩
        · assumption
        try go_simp
        refine wpAnyH_take (i := 7) (oi := ?_) (v := ?_) ?_ ?_ ?_ ?_ ?_ ?_ ?_ ?_
        rotate_left 2
        · simp only [List.getElem?_toArray, List.getElem?_cons_succ, List.getElem?_cons_zero]; rfl
        · kernel_rfl
        · kernel_rfl
        · kernel_rfl
        · exact fun _ _ _ h => h
        · exact Or.inl ⟨by kernel_rfl, by intro w hSw; (try dsimp only at hSw); go_simp; try with_reducible rfl⟩
        · assumption
        try go_simp
        refine wpAnyH_take (i := 8) (oi := ?_) (v := ?_) ?_ ?_ ?_ ?_ ?_ ?_ ?_ ?_
        rotate_left 2
        · simp only [List.getElem?_toArray, List.getElem?_cons_succ, List.getElem?_cons_zero]; rfl
        · kernel_rfl
        · kernel_rfl
        · kernel_rfl
        · exact fun _ _ _ h => h
        · exact Or.inl ⟨by kernel_rfl, by intro w hSw; (try dsimp only at hSw); go_simp; try with_reducible rfl⟩
        · assumption
        try go_simp
        refine wpAnyH_ready (rs := [9]) (by kernel_rfl) (by simp) ?_
        refine AllReadyH.cons (o := ?_) ?_ ?_ AllReadyH.nil
        rotate_left 1
        · simp only [List.getElem?_toArray, List.getElem?_cons_succ, List.getElem?_cons_zero]; rfl
        intro K hK
        go_simp
        refine (HA1.out wr.drew HGW.out HS.out).mono ?_
        rintro e w2 ⟨rfl, hs2, hb2⟩
        have hB : Below w.heap.size wr.drew w2 := hb2.mono HWG.out
        have f1 : w2.cell? ⟨b', o' + k * 2, none⟩ = some (.int .i64 x1) := (hB.cell (p := ⟨b', o' + k * 2, none⟩) hbl).trans d1
        have f2 : w2.cell? ⟨b', o' + k * 2 + 1, none⟩ = some (.int .u64 (x2 : Nat)) := (hB.cell (p := ⟨b', o' + k * 2 + 1, none⟩) hbl).trans d2
        have f3 : w2.cell? ⟨b', o' + r * 2, none⟩ = some (.int .i64 y1) := (hB.cell (p := ⟨b', o' + r * 2, none⟩) hbl).trans d3
        have f4 : w2.cell? ⟨b', o' + r * 2 + 1, none⟩ = some (.int .u64 (y2 : Nat)) := (hB.cell (p := ⟨b', o' + r * 2 + 1, none⟩) hbl).trans d4
        have hgw2 := Nat.le_trans HGW.out hb2.size
        have HB2 := Lib.hid (HB.out.drew.trans hB)
        have HS2 := Lib.hid hs2
        have HGW2 := Lib.hid hgw2
        clear hs2 hb2 hB hgw2
        refine hK.out _ _ ?_ (fun hHeld => ?_)
        · exact ⟨f1, f2, f3, f4⟩
        clear hK K
        try go_simp
        refine wpAnyH_take (i := 10) (oi := ?_) (v := ?_) ?_ ?_ ?_ ?_ ?_ ?_ ?_ ?_
        rotate_left 2
        · simp only [List.getElem?_toArray, List.getElem?_cons_succ, List.getElem?_cons_zero]; rfl
        · kernel_rfl
        · kernel_rfl
        · kernel_rfl
        · exact fun _ _ _ h => h
        · exact Or.inl ⟨by kernel_rfl, by intro w hSw; (try dsimp only at hSw); go_simp; try with_reducible rfl⟩
        · assumption
        try go_simp
        refine wpAnyH_take (i := 11) (oi := ?_) (v := ?_) ?_ ?_ ?_ ?_ ?_ ?_ ?_ ?_
        rotate_left 2
        · simp only [List.getElem?_toArray, List.getElem?_cons_succ, List.getElem?_cons_zero]; rfl
        · kernel_rfl
        · kernel_rfl
        · kernel_rfl
        · exact fun _ _ _ h => h
        · exact Or.inl ⟨by kernel_rfl, by intro w hSw; (try dsimp only at hSw); go_simp; try with_reducible rfl⟩
        · assumption
        try go_simp
        refine wpAnyH_take (i := 12) (oi := ?_) (v := ?_) ?_ ?_ ?_ ?_ ?_ ?_ ?_ ?_
        rotate_left 2
        · simp only [List.getElem?_toArray, List.getElem?_cons_succ, List.getElem?_cons_zero]; rfl
        · kernel_rfl
        · kernel_rfl
        · kernel_rfl
        · exact fun _ _ _ h => h
        · exact Or.inl ⟨by kernel_rfl, by intro w hSw; (try dsimp only at hSw); go_simp; try with_reducible rfl⟩
        · assumption
        try go_simp
        refine wpAnyH_take (i := 13) (oi := ?_) (v := ?_) ?_ ?_ ?_ ?_ ?_ ?_ ?_ ?_
        rotate_left 2
        · simp only [List.getElem?_toArray, List.getElem?_cons_succ, List.getElem?_cons_zero]; rfl
        · kernel_rfl
        · kernel_rfl
        · kernel_rfl
        · exact fun _ _ _ h => h
        · exact Or.inl ⟨by kernel_rfl, by intro w hSw; (try dsimp only at hSw); go_simp; try with_reducible rfl⟩
        · assumption
        try go_simp
        refine wpAnyH_take (i := 14) (oi := ?_) (v := ?_) ?_ ?_ ?_ ?_ ?_ ?_ ?_ ?_
        rotate_left 2
        · simp only [List.getElem?_toArray, List.getElem?_cons_succ, List.getElem?_cons_zero]; rfl
        · kernel_rfl
        · kernel_rfl
        · kernel_rfl
        · exact fun _ _ _ h => h
        · exact Or.inl ⟨by kernel_rfl, by intro w hSw; (try dsimp only at hSw); go_simp; try with_reducible rfl⟩
        · assumption
        try go_simp
        refine wpAnyH_take (i := 15) (oi := ?_) (v := ?_) ?_ ?_ ?_ ?_ ?_ ?_ ?_ ?_
        rotate_left 2
        · simp only [List.getElem?_toArray, List.getElem?_cons_succ, List.getElem?_cons_zero]; rfl
        · kernel_rfl
        · kernel_rfl
        · kernel_rfl
        · exact fun _ _ _ h => h
        · exact Or.inl ⟨by kernel_rfl, by intro w hSw; (try dsimp only at hSw); go_simp; try with_reducible rfl⟩
        · assumption
        try go_simp
        refine wpAnyH_take (i := 16) (oi := ?_) (v := ?_) ?_ ?_ ?_ ?_ ?_ ?_ ?_ ?_
        rotate_left 2
        · simp only [List.getElem?_toArray, List.getElem?_cons_succ, List.getElem?_cons_zero]; rfl
        · kernel_rfl
        · kernel_rfl
        · kernel_rfl
        · exact fun _ _ _ h => h
        · exact Or.inl ⟨by kernel_rfl, by intro w hSw; (try dsimp only at hSw); go_simp; try with_reducible rfl⟩
        · assumption
        try go_simp
        refine wpAnyH_take (i := 17) (oi := ?_) (v := ?_) ?_ ?_ ?_ ?_ ?_ ?_ ?_ ?_
        rotate_left 2
        · simp only [List.getElem?_toArray, List.getElem?_cons_succ, List.getElem?_cons_zero]; rfl
        · kernel_rfl
        · kernel_rfl
        · kernel_rfl
        · exact fun _ _ _ h => h
        · exact Or.inl ⟨by kernel_rfl, by intro w hSw; (try dsimp only at hSw); go_simp; try with_reducible rfl⟩
        · assumption
        try go_simp
        refine wpAnyH_take (i := 18) (oi := ?_) (v := ?_) ?_ ?_ ?_ ?_ ?_ ?_ ?_ ?_
        rotate_left 2
        · simp only [List.getElem?_toArray, List.getElem?_cons_succ, List.getElem?_cons_zero]; rfl
        · kernel_rfl
        · kernel_rfl
        · kernel_rfl
        · exact fun _ _ _ h => h
        · exact Or.inl ⟨by kernel_rfl, by intro w hSw; (try dsimp only at hSw); go_simp; try with_reducible rfl⟩
        · assumption
        try go_simp
        refine wpAnyH_take (i := 19) (oi := ?_) (v := ?_) ?_ ?_ ?_ ?_ ?_ ?_ ?_ ?_
        rotate_left 2
        · simp only [List.getElem?_toArray, List.getElem?_cons_succ, List.getElem?_cons_zero]; rfl
        · kernel_rfl
        · kernel_rfl
        · kernel_rfl
        · exact fun _ _ _ h => h
        · exact Or.inl ⟨by kernel_rfl, by intro w hSw; (try dsimp only at hSw); go_simp; try with_reducible rfl⟩
        · assumption
        try go_simp
        refine wpAnyH_take (i := 20) (oi := ?_) (v := ?_) ?_ ?_ ?_ ?_ ?_ ?_ ?_ ?_
        rotate_left 2
        · simp only [List.getElem?_toArray, List.getElem?_cons_succ, List.getElem?_cons_zero]; rfl
        · kernel_rfl
        · kernel_rfl
        · kernel_rfl
        · exact fun _ _ _ h => h
        · exact Or.inl ⟨by kernel_rfl, by intro w hSw; (try dsimp only at hSw); go_simp; try with_reducible rfl⟩
        · assumption
        try go_simp
        refine wpAnyH_take (i := 21) (oi := ?_) (v := ?_) ?_ ?_ ?_ ?_ ?_ ?_ ?_ ?_
        rotate_left 2
        · simp only [List.getElem?_toArray, List.getElem?_cons_succ, List.getElem?_cons_zero]; rfl
        · kernel_rfl
        · kernel_rfl
        · kernel_rfl
        · exact fun _ _ _ h => h
        · exact Or.inl ⟨by kernel_rfl, by intro w hSw; (try dsimp only at hSw); go_simp; try with_reducible rfl⟩
        · assumption
        try go_simp
        refine wpAnyH_take (i := 22) (oi := ?_) (v := ?_) ?_ ?_ ?_ ?_ ?_ ?_ ?_ ?_
        rotate_left 2
        · simp only [List.getElem?_toArray, List.getElem?_cons_succ, List.getElem?_cons_zero]; rfl
        · kernel_rfl
        · kernel_rfl
        · kernel_rfl
        · exact fun _ _ _ h => h
        · exact Or.inl ⟨by kernel_rfl, by intro w hSw; (try dsimp only at hSw); go_simp; try with_reducible rfl⟩
        · assumption
        try go_simp
        refine wpAnyH_take (i := 23) (oi := ?_) (v := ?_) ?_ ?_ ?_ ?_ ?_ ?_ ?_ ?_
        rotate_left 2
        · simp only [List.getElem?_toArray, List.getElem?_cons_succ, List.getElem?_cons_zero]; rfl
        · kernel_rfl
        · kernel_rfl
        · kernel_rfl
        · exact fun _ _ _ h => h
        · exact Or.inl ⟨by kernel_rfl, by intro w hSw; (try dsimp only at hSw); go_simp; try with_reducible rfl⟩
        · assumption
        try go_simp
        refine wpAnyH_take (i := 24) (oi := ?_) (v := ?_) ?_ ?_ ?_ ?_ ?_ ?_ ?_ ?_
        rotate_left 2
        · simp only [List.getElem?_toArray, List.getElem?_cons_succ, List.getElem?_cons_zero]; rfl
        · kernel_rfl
        · kernel_rfl
        · kernel_rfl
        · exact fun _ _ _ h => h
        · exact Or.inl ⟨by kernel_rfl, by intro w hSw; (try dsimp only at hSw); go_simp; try with_reducible rfl⟩
        · assumption
        try go_simp
        refine wpAnyH_take (i := 25) (oi := ?_) (v := ?_) ?_ ?_ ?_ ?_ ?_ ?_ ?_ ?_
        rotate_left 2
        · simp only [List.getElem?_toArray, List.getElem?_cons_succ, List.getElem?_cons_zero]; rfl
        · kernel_rfl
        · kernel_rfl
        · kernel_rfl
        · exact fun _ _ _ h => h
        · exact Or.inl ⟨by kernel_rfl, by intro w hSw; (try dsimp only at hSw); go_simp; try with_reducible rfl⟩
        · assumption
        try go_simp
        refine wpAnyH_take (i := 26) (oi := ?_) (v := ?_) ?_ ?_ ?_ ?_ ?_ ?_ ?_ ?_
        rotate_left 2
        · simp only [List.getElem?_toArray, List.getElem?_cons_succ, List.getElem?_cons_zero]; rfl
        · kernel_rfl
        · kernel_rfl
        · kernel_rfl
        · exact fun _ _ _ h => h
        · exact Or.inl ⟨by kernel_rfl, by intro w hSw; (try dsimp only at hSw); go_simp; try with_reducible rfl⟩
        · assumption
        try go_simp
        refine wpAnyH_take (i := 27) (oi := ?_) (v := ?_) ?_ ?_ ?_ ?_ ?_ ?_ ?_ ?_
        rotate_left 2
        · simp only [List.getElem?_toArray, List.getElem?_cons_succ, List.getElem?_cons_zero]; rfl
        · kernel_rfl
        · kernel_rfl
        · kernel_rfl
        · exact fun _ _ _ h => h
        · exact Or.inl ⟨by kernel_rfl, by intro w hSw; (try dsimp only at hSw); go_simp; try with_reducible rfl⟩
        · assumption
        try go_simp
        refine wpAnyH_take (i := 28) (oi := ?_) (v := ?_) ?_ ?_ ?_ ?_ ?_ ?_ ?_ ?_
        rotate_left 2
        · simp only [List.getElem?_toArray, List.getElem?_cons_succ, List.getElem?_cons_zero]; rfl
        · kernel_rfl
        · kernel_rfl
        · kernel_rfl
        · exact fun _ _ _ h => h
        · exact Or.inl ⟨by kernel_rfl, by intro w hSw; (try dsimp only at hSw); go_simp; try with_reducible rfl⟩
        · assumption
        try go_simp
        refine wpAnyH_take (i := 29) (oi := ?_) (v := ?_) ?_ ?_ ?_ ?_ ?_ ?_ ?_ ?_
        rotate_left 2
        · simp only [List.getElem?_toArray, List.getElem?_cons_succ, List.getElem?_cons_zero]; rfl
        · kernel_rfl
        · kernel_rfl
        · kernel_rfl
        · exact fun _ _ _ h => h
        · exact Or.inl ⟨by kernel_rfl, by intro w hSw; (try dsimp only at hSw); go_simp; try with_reducible rfl⟩
        · assumption
        try go_simp
        refine wpAnyH_take (i := 30) (oi := ?_) (v := ?_) ?_ ?_ ?_ ?_ ?_ ?_ ?_ ?_
        rotate_left 2
        · simp only [List.getElem?_toArray, List.getElem?_cons_succ, List.getElem?_cons_zero]; rfl
        · kernel_rfl
        · kernel_rfl
        · kernel_rfl
        · exact fun _ _ _ h => h
        · exact Or.inl ⟨by kernel_rfl, by intro w hSw; (try dsimp only at hSw); go_simp; try with_reducible rfl⟩
        · assumption
        try go_simp
        refine wpAnyH_take (i := 31) (oi := ?_) (v := ?_) ?_ ?_ ?_ ?_ ?_ ?_ ?_ ?_
        rotate_left 2
        · simp only [List.getElem?_toArray, List.getElem?_cons_succ, List.getElem?_cons_zero]; rfl
        · kernel_rfl
        · kernel_rfl
        · kernel_rfl
        · exact fun _ _ _ h => h
        · exact Or.inl ⟨by kernel_rfl, by intro w hSw; (try dsimp only at hSw); go_simp; try with_reducible rfl⟩
        · assumption
        try go_simp
        refine wpAnyH_take (i := 32) (oi := ?_) (v := ?_) ?_ ?_ ?_ ?_ ?_ ?_ ?_ ?_
        rotate_left 2
        · simp only [List.getElem?_toArray, List.getElem?_cons_succ, List.getElem?_cons_zero]; rfl
        · kernel_rfl
        · kernel_rfl
        · kernel_rfl
        · exact fun _ _ _ h => h
        · exact Or.inl ⟨by kernel_rfl, by intro w hSw; (try dsimp only at hSw); go_simp; try with_reducible rfl⟩
        · assumption
        try go_simp
        refine wpAnyH_take (i := 33) (oi := ?_) (v := ?_) ?_ ?_ ?_ ?_ ?_ ?_ ?_ ?_
        rotate_left 2
        · simp only [List.getElem?_toArray, List.getElem?_cons_succ, List.getElem?_cons_zero]; rfl
        · kernel_rfl
        · kernel_rfl
        · kernel_rfl
        · exact fun _ _ _ h => h
        · exact Or.inl ⟨by kernel_rfl, by intro w hSw; (try dsimp only at hSw); go_simp; try with_reducible rfl⟩
        · assumption
        try go_simp
        refine wpAnyH_ready (rs := [34]) (by kernel_rfl) (by simp) ?_
        refine AllReadyH.cons (o := ?_) ?_ ?_ AllReadyH.nil
        rotate_left 1
        · simp only [List.getElem?_toArray, List.getElem?_cons_succ, List.getElem?_cons_zero]; rfl
        intro K hK
        go_simp
        refine (HA2.out w2 HGW2.out HS2.out).mono ?_
        rintro e w3 ⟨rfl, hs3, hb3⟩
        have hB : Below w.heap.size w2 w3 := hb3.mono HWG.out
        have g1 : w3.cell? ⟨b', o' + k * 2, none⟩ = some (.int .i64 x1) := (hB.cell (p := ⟨b', o' + k * 2, none⟩) hbl).trans f1
        have g2 : w3.cell? ⟨b', o' + k * 2 + 1, none⟩ = some (.int .u64 (x2 : Nat)) := (hB.cell (p := ⟨b', o' + k * 2 + 1, none⟩) hbl).trans f2
        have g3 : w3.cell? ⟨b', o' + r * 2, none⟩ = some (.int .i64 y1) := (hB.cell (p := ⟨b', o' + r * 2, none⟩) hbl).trans f3
        have g4 : w3.cell? ⟨b', o' + r * 2 + 1, none⟩ = some (.int .u64 (y2 : Nat)) := (hB.cell (p := ⟨b', o' + r * 2 + 1, none⟩) hbl).trans f4
        have hgw3 := Nat.le_trans HGW2.out hb3.size
        have HB3 := Lib.hid (HB2.out.trans hB)
        have HS3 := Lib.hid hs3
        have HGW3 := Lib.hid hgw3
        clear hs3 hb3 hB hgw3
        refine hK.out _ _ ?_ (fun hHeld => ?_)
        · exact ⟨g1, g2, g3, g4⟩
        clear hK K
        try go_simp
        refine wpAnyH_take (i := 35) (oi := ?_) (v := ?_) ?_ ?_ ?_ ?_ ?_ ?_ ?_ ?_
        rotate_left 2
        · simp only [List.getElem?_toArray, List.getElem?_cons_succ, List.getElem?_cons_zero]; rfl
        · kernel_rfl
        · kernel_rfl
        · kernel_rfl
        · exact fun _ _ _ h => h
        · exact Or.inl ⟨by kernel_rfl, by intro w hSw; (try dsimp only at hSw); go_simp; try with_reducible rfl⟩
        · assumption
        try go_simp
        refine wpAnyH_take (i := 36) (oi := ?_) (v := ?_) ?_ ?_ ?_ ?_ ?_ ?_ ?_ ?_
        rotate_left 2
        · simp only [List.getElem?_toArray, List.getElem?_cons_succ, List.getElem?_cons_zero]; rfl
        · kernel_rfl
        · kernel_rfl
        · kernel_rfl
        · exact fun _ _ _ h => h
        · exact Or.inl ⟨by kernel_rfl, by intro w hSw; (try dsimp only at hSw); go_simp; try with_reducible rfl⟩
        · assumption
        try go_simp
        refine wpAnyH_done (by kernel_rfl) ?_ _
        refine NoPanic.normal ?_
        go_wp2_with fail
        go_roundw
        case rel => exact ⟨k + 1, HL.out, by go_num, HS3.out, HB3.out, HGW3.out⟩
        case measure => have h1 := HL.out; simp [intOf]; omega
      · obtain rfl : k = l.length := by omega
        have x1 : I.take l.length = I := by rw [← HIl.out, List.take_length]
        have x2 : I.reverse.take l.length = I.reverse := by rw [← HIl.out, ← List.length_reverse, List.take_length]
        rw [x1, x2] at hsts
        obtain ⟨_, y2, y3⟩ := adds0_tight HIk.out HIt.out
        obtain ⟨_, z2, z3⟩ := adds0_tight (L := I.reverse) (fun q hq => HIk.out q (by simpa using hq)) (by rw [tot_reverse]; exact HIt.out)
        have hpp : prs (adds e0 I).1 (adds e0 I).2.1 = prs (adds e0 I.reverse).1 (adds e0 I.reverse).2.1 := prs_same (fun j => by rw [y3, z3, sumk_reverse])
        have hll : (prs (adds e0 I.reverse).1 (adds e0 I.reverse).2.1).length ≤ maxLen := by
          have h1 := prs_len (f := (adds e0 I.reverse).1) (l := (adds e0 I.reverse).2.1)
          have h2 := (hsts.inv (g := g + 1) (by simp)).len
          rw [S2_2] at h2
          unfold maxLen; omega
        have hP1 := fun W h => spairs_t (ids := [g + 1, g]) (S := S2 g (g + 1) (adds e0 I) (adds e0 I.reverse)) (base := g) g W h (by simp)
        have hP2 := fun W h => spairs_t (ids := [g + 1, g]) (S := S2 g (g + 1) (adds e0 I) (adds e0 I.reverse)) (base := g) (g + 1) W h (by simp)
        have hT1 := fun W h => stotal_t (ids := [g + 1, g]) (S := S2 g (g + 1) (adds e0 I) (adds e0 I.reverse)) (base := g) g W h (by simp)
        have hT2 := fun W h => stotal_t (ids := [g + 1, g]) (S := S2 g (g + 1) (adds e0 I) (adds e0 I.reverse)) (base := g) (g + 1) W h (by simp)
        simp only [S2_1 (show g ≠ g + 1 by omega), S2_2] at hP1 hP2 hT1 hT2
        rw [hpp] at hP1
        rw [y2] at hT1
        rw [z2, tot_reverse] at hT2
        have HP1 := Lib.hid hP1
        have HP2 := Lib.hid hP2
        have HT1 := Lib.hid hT1
        have HT2 := Lib.hid hT2
        have HS := Lib.hid hsts
        have HB := Lib.hid hbel
        have HGW := Lib.hid hgw
        clear hP1 hP2 hT1 hT2 hsts hbel hgw x1 x2 y2 y3 z2 z3 hpp
        generalize prs (adds e0 I.reverse).1 (adds e0 I.reverse).2.1 = R at *
        have HLL := Lib.hid hll
        clear hll
        go_wp2_with fail
        refine (HP1.out _ HS.out).mono ?_
        rintro e w2 ⟨A2, c2, rfl, ho2, hb2⟩
        have HB2 := Lib.hid (nextB HB.out hb2)
        have HS2 := Lib.hid (HS.out.below hb2)
        have HR2 := Lib.hid ho2.reads
        clear ho2 hb2
        go_wp2_with fail
        refine (HP2.out _ HS2.out).mono ?_
        rintro e w3 ⟨A3, c3, rfl, ho3, hb3⟩
        have HB3 := Lib.hid (nextB HB2.out hb3)
        have HS3 := Lib.hid (HS2.out.below hb3)
        have HR3 := Lib.hid ho3.reads
        have HR23 := Lib.hid (HR2.out.at_below hb3)
        clear ho3 hb3
        go_wp2_with fail
        refine (same13_t A2 A3 c2 c3 _ _ R _ HR23.out HR3.out HLL.out).mono ?_
        rintro e w4 ⟨rfl, n4, rfl⟩
        go_wp2_with fail
        refine (HT1.out _ (HS3.out.drewN n4)).mono ?_
        rintro e w5 ⟨rfl, rfl⟩
        go_wp2_with fail
        refine (HT2.out _ (HS3.out.drewN n4)).mono ?_
        rintro e w5 ⟨rfl, rfl⟩
        go_wp2_with fail
        go_ret
        exact ⟨rfl, below_drewN HB3.out n4⟩

end Go.Proofs.Ytknimekfkkihpaa
