/- DenseOwn walked. -/
import Derived.Test.YtknimekfkkihpaaDenseTakes
import Derived.Test.YtknimekfkkihpaaDenseRef
namespace Go.Proofs.Ytknimekfkkihpaa
open Go.RowKit
open Ds Pl

theorem sadd2_t {base : Nat} {ids : List Nat} {S : Nat → St} (g : Nat) (k : Int) (n : Nat) (w : World) (hbase : base ≤ w.heap.size) (h : Sts w base ids S) (hg : g ∈ ids) (k0 : -9223372036854775808 ≤ k) (k1 : k ≤ 9223372036854775807) (hn : n ≤ 18446744073709551615) :
    Calls Try.prog 8 #[.pointer (some ⟨g, 0, Option.none⟩), .int .i64 k, .int .u64 (n : Int)] w fun e w' => e = .returned (.int .i64 (chk (S g).1 (S g).2.1 (S g).2.2 k n)) ∧ Sts w' base ids (upd S g (addS (S g) (k, n))) ∧ Below base w w' ∧ Turned g w w' := by
  have hinv := fun g' hg' => h.inv (g := g') hg'
  obtain ⟨A, h1, h2⟩ := h
  refine (add_t g _ _ base _ k _ _ n w (h1 g hg).2.2 (h1 g hg).2.1 hbase k0 k1 hn).mono ?_
  rintro e w' ⟨rfl, hp⟩
  obtain ⟨a, b⟩ := Sts.step (s' := addS (S g) (k, n)) (fun g' hg' => ⟨(h1 g' hg').1, hinv g' hg'⟩) (fun g' hg' => (h1 g' hg').2.2) h2 hg (inv_add (h1 g hg).2.1) hbase hp
  exact ⟨rfl, a, b, turned_of (s := S g) (s' := addS (S g) (k, n)) (h1 g hg).2.2 hp⟩
/-- Of one store. -/
def S1 (s : St) : Nat → St := fun _ => s
theorem S1_upd {s s' : St} {w : World} {base g : Nat} (h : Sts w base [g] (upd (S1 s) g s')) : Sts w base [g] (S1 s') := h.congr fun i hi => by
  obtain rfl : i = g := by simpa using hi
  exact upd_same _ _ _
theorem oadd_t {base : Nat} {s : St} (g : Nat) (p : Pr) (w : World) (hbase : base ≤ w.heap.size) (h : Sts w base [g] (S1 s)) (hp : PairOk p) :
    Calls Try.prog 8 #[.pointer (some ⟨g, 0, Option.none⟩), .int .i64 p.1, .int .u64 (p.2 : Nat)] w fun e w' => e = .returned (.int .i64 (chk s.1 s.2.1 s.2.2 p.1 p.2)) ∧ Sts w' base [g] (S1 (addS s p)) ∧ Below base w w' ∧ Turned g w w' := by
  obtain ⟨h0, h1, h2⟩ := hp
  refine (sadd2_t g p.1 p.2 w hbase h (by simp) h0 h1 h2).mono ?_
  rintro e w' ⟨rfl, hs, hb, ht⟩
  exact ⟨rfl, S1_upd hs, hb, ht⟩
theorem one_new (w : World) : Sts (w.alloc (.cells #[.int .i64 0, .slice none 0 0, .int .u64 0] 28)) w.heap.size [w.heap.size] (S1 e0) := S1_upd (Sts.new (Sts.none w w.heap.size (S1 e0)) (Nat.le_refl _))
set_option maxHeartbeats 6400000 in
set_option maxRecDepth 100000 in
theorem denseOwn_walk (w : World) (A : Option Addr) (c : Nat) (l : List Pr) (_m : l.length ≤ maxLen) (s : Pairs w A l) :
    Calls Try.prog 4 #[.slice A l.length c] w fun e w' => e = .returned (.bool true) ∧ Below w.heap.size w w' := by
  obtain ⟨hok, hp⟩ := s
  have HA := alive_t
  have HP := Lib.hid hp
  have HOK := Lib.hid hok
  clear hp hok
  go_enter Try.func4, Try.ntmps4
  go_wp2_with fail
  refine (HA _).mono ?_
  rintro e w1 ⟨rfl, hb1⟩
  have HB1 := Lib.hid hb1
  clear hb1
  go_wp2_with fail
  have hs0 := one_new w1
  have hb0 : Below w1.heap.size w1 (w1.alloc (.cells #[.int .i64 0, .slice none 0 0, .int .u64 0] 28)) := (Below.refl _ _).alloc (Nat.le_refl _) _
  have hz0 := hb0.size
  have hb00 := nextB HB1.out hb0
  have hwg := HB1.out.size
  generalize w1.alloc (.cells #[.int .i64 0, .slice none 0 0, .int .u64 0] 28) = w0 at *
  generalize w1.heap.size = g at *
  have HS0 := Lib.hid hs0
  have HWG := Lib.hid hwg
  have HB0 := Lib.hid hb00
  clear hs0 hb0 hb00 HB1
  go_loopw [4, 5] (fun v i wr => ∃ (k : Nat) (Aw : Option Addr) (cw : Nat) (s : St), k ≤ l.length ∧ k ≤ 60 ∧ i = .int .i64 k ∧ v = .slice Aw (prs s.1 s.2.1).length cw ∧ OwnP wr g Aw cw (prs s.1 s.2.1) ∧ EndsS s ∧ Sts wr g [g] (S1 s) ∧ Below w.heap.size w wr ∧ g ≤ wr.heap.size) (fun _ i _ => l.length - (intOf i).toNat)
  case atStart => exact ⟨0, none, 0, e0, Nat.zero_le _, Nat.zero_le _, rfl, rfl, Own.nil _ _ _ _, fun h => absurd rfl h, HS0.out, HB0.out, hz0⟩
  case round =>
    obtain ⟨k, Aw, cw, s, hk, hk60, rfl, rfl, hown, hends, hsts, hbel, hgw⟩ := hrel
    by_cases hlt : k < l.length ∧ k < 60
    · obtain ⟨hlt, hlt60⟩ := hlt
      obtain ⟨p, hp⟩ : ∃ p, l[k]? = some p := ⟨l[k], by simp [hlt]⟩
      obtain ⟨b, o, hA, hbl, c1, c2⟩ := prs_cells HP.out hp
      subst hA
      have o1 := HOK.out p (List.mem_of_getElem? hp)
      have hinv : InvS s := by have := hsts.inv (g := g) (by simp); exact this
      have hra := radd_prs hinv hends p.1 p.2
      have hend2 := ends_addS (p := p) hends
      have hinv2 : InvS (addS s p) := inv_add hinv
      have HADD := fun W hb h => oadd_t (base := g) (s := s) g p W hb h o1
      have HRA := fun W hz h => add13_t Aw cw g (prs s.1 s.2.1) p.1 p.2 8192 W h (by decide) o1.2.2 (by have := prs_mlen hinv; omega) (by rw [prs_tot, hinv.sum]; exact hinv.cap) (prs_in hinv) hz
      rw [hra] at HRA
      have HPA := fun W h => spairs_t (ids := [g]) (S := S1 (addS s p)) (base := g) g W h (by simp)
      have hml : (prs (addS s p).1 (addS s p).2.1).length ≤ 8192 := prs_mlen hinv2
      obtain ⟨x1, x2⟩ := p
      obtain ⟨o11, o12, o13⟩ := o1
      simp only at c1 c2 o11 o12 o13
      simp only [S1] at HPA
      have hkk : (k : Int) < (l.length : Int) := by omega
      have hk6 : (k : Int) < 60 := by omega
      have hk0 : (0 : Int) ≤ (k : Int) := by omega
      have d1 : wr.cell? ⟨b, o + k * 2, none⟩ = some (.int .i64 x1) := (hbel.cell (p := ⟨b, o + k * 2, none⟩) hbl).trans c1
      have d2 : wr.cell? ⟨b, o + k * 2 + 1, none⟩ = some (.int .u64 (x2 : Nat)) := (hbel.cell (p := ⟨b, o + k * 2 + 1, none⟩) hbl).trans c2
      have HL := Lib.hid hlt
      have HL6 := Lib.hid hlt60
      have HS := Lib.hid hsts
      have HB := Lib.hid hbel
      have HZ := Lib.hid hgw
      have HO := Lib.hid hown
      have HE2 := Lib.hid hend2
      replace HADD := Lib.hid HADD
      replace HRA := Lib.hid HRA
      replace HPA := Lib.hid HPA
      have HML := Lib.hid hml
      clear hk hk60 hp hlt hlt60 hsts hbel hown hends hinv hinv2 hra hend2 c1 c2 hgw hml
      go_wp2_with fail
      refine wp_region_noPanic ?_
      refine wp_region_held_drew (S := (fun w' => w'.cell? ⟨b, o + k * 2, none⟩ = some (.int .i64 x1) ∧ w'.cell? ⟨b, o + k * 2 + 1, none⟩ = some (.int .u64 (x2 : Nat)))) (by kernel_rfl) ⟨d1, d2⟩ (fun hHeld => ?_)
      refine wpAnyH_take (i := 0) (oi := ?_) (v := ?_) ?_ ?_ ?_ ?_ ?_ ?_ ?_ ?_
      rotate_left 2
      · simp only [List.getElem?_toArray, List.getElem?_cons_zero]; rfl
      · kernel_rfl
      · kernel_rfl
      · kernel_rfl
      · exact fun _ _ _ h => h
      · exact Or.inl ⟨by kernel_rfl, by intro w hSw; (try dsimp only at hSw); go_simp; try with_reducible rfl⟩
      · assumption
      try go_simp
      refine wpAnyH_take (i := 1) (oi := ?_) (v := ?_) ?_ ?_ ?_ ?_ ?_ ?_ ?_ ?_
      rotate_left 2
      · simp only [List.getElem?_toArray, List.getElem?_cons_succ, List.getElem?_cons_zero]; rfl
      · kernel_rfl
      · kernel_rfl
      · kernel_rfl
      · exact fun _ _ _ h => h
      · exact Or.inl ⟨by kernel_rfl, by intro w hSw; (try dsimp only at hSw); go_simp; try with_reducible rfl⟩
      · assumption
      try go_simp
      refine wpAnyH_take (i := 2) (oi := ?_) (v := ?_) ?_ ?_ ?_ ?_ ?_ ?_ ?_ ?_
      rotate_left 2
      · simp only [List.getElem?_toArray, List.getElem?_cons_succ, List.getElem?_cons_zero]; rfl
      · kernel_rfl
      · kernel_rfl
      · kernel_rfl
      · exact fun _ _ _ h => h
      · exact Or.inl ⟨by kernel_rfl, by intro w hSw; (try dsimp only at hSw); go_simp; try with_reducible rfl⟩
      · assumption
      try go_simp
      refine wpAnyH_take (i := 3) (oi := ?_) (v := ?_) ?_ ?_ ?_ ?_ ?_ ?_ ?_ ?_
      rotate_left 2
      · simp only [List.getElem?_toArray, List.getElem?_cons_succ, List.getElem?_cons_zero]; rfl
      · kernel_rfl
      · kernel_rfl
      · kernel_rfl
      · exact fun _ _ _ h => h
      · exact Or.inl ⟨by kernel_rfl, by intro w hSw; (try dsimp only at hSw); go_simp; try with_reducible rfl⟩
      · assumption
      try go_simp
      refine wpAnyH_take (i := 4) (oi := ?_) (v := ?_) ?_ ?_ ?_ ?_ ?_ ?_ ?_ ?_
      rotate_left 2
      · simp only [List.getElem?_toArray, List.getElem?_cons_succ, List.getElem?_cons_zero]; rfl
      · kernel_rfl
      · kernel_rfl
      · kernel_rfl
      · exact fun _ _ _ h => h
      · exact Or.inl ⟨by kernel_rfl, by intro w hSw; (try dsimp only at hSw); go_simp; try with_reducible rfl⟩
      · assumption
      try go_simp
      refine wpAnyH_take (i := 5) (oi := ?_) (v := ?_) ?_ ?_ ?_ ?_ ?_ ?_ ?_ ?_
      rotate_left 2
      · simp only [List.getElem?_toArray, List.getElem?_cons_succ, List.getElem?_cons_zero]; rfl
      · kernel_rfl
      · kernel_rfl
      · kernel_rfl
      · exact fun _ _ _ h => h
      · exact Or.inl ⟨by kernel_rfl, by intro w hSw; (try dsimp only at hSw); go_simp; try with_reducible rfl⟩
      · assumption
      try go_simp
      refine wpAnyH_take (i := 6) (oi := ?_) (v := ?_) ?_ ?_ ?_ ?_ ?_ ?_ ?_ ?_
      rotate_left 2
      · simp only [List.getElem?_toArray, List.getElem?_cons_succ, List.getElem?_cons_zero]; rfl
      · kernel_rfl
      · kernel_rfl
      · kernel_rfl
      · exact fun _ _ _ h => h
      · exact Or.inl ⟨by kernel_rfl, by intro w hSw; (try dsimp only at hSw); go_simp; try with_reducible rfl⟩
      · assumption
      try go_simp
      refine wpAnyH_take (i := 7) (oi := ?_) (v := ?_) ?_ ?_ ?_ ?_ ?_ ?_ ?_ ?_
      rotate_left 2
      · simp only [List.getElem?_toArray, List.getElem?_cons_succ, List.getElem?_cons_zero]; rfl
      · kernel_rfl
      · kernel_rfl
      · kernel_rfl
      · exact fun _ _ _ h => h
      · exact Or.inl ⟨by kernel_rfl, by intro w hSw; (try dsimp only at hSw); go_simp; try with_reducible rfl⟩
      · assumption
      try go_simp
      refine wpAnyH_take (i := 8) (oi := ?_) (v := ?_) ?_ ?_ ?_ ?_ ?_ ?_ ?_ ?_
      rotate_left 2
      · simp only [List.getElem?_toArray, List.getElem?_cons_succ, List.getElem?_cons_zero]; rfl
      · kernel_rfl
      · kernel_rfl
      · kernel_rfl
      · exact fun _ _ _ h => h
      · exact Or.inl ⟨by kernel_rfl, by intro w hSw; (try dsimp only at hSw); go_simp; try with_reducible rfl⟩
      · assumption
      try go_simp
      refine wpAnyH_take (i := 9) (oi := ?_) (v := ?_) ?_ ?_ ?_ ?_ ?_ ?_ ?_ ?_
      rotate_left 2
      · simp only [List.getElem?_toArray, List.getElem?_cons_succ, List.getElem?_cons_zero]; rfl
      · kernel_rfl
      · kernel_rfl
      · kernel_rfl
      · exact fun _ _ _ h => h
      · exact Or.inl ⟨by kernel_rfl, by intro w hSw; (try dsimp only at hSw); go_simp; try with_reducible rfl⟩
      · assumption
      try go_simp
      refine wpAnyH_take (i := 10) (oi := ?_) (v := ?_) ?_ ?_ ?_ ?_ ?_ ?_ ?_ ?_
      rotate_left 2
      · simp only [List.getElem?_toArray, List.getElem?_cons_succ, List.getElem?_cons_zero]; rfl
      · kernel_rfl
      · kernel_rfl
      · kernel_rfl
      · exact fun _ _ _ h => h
      · exact Or.inl ⟨by kernel_rfl, by intro w hSw; (try dsimp only at hSw); go_simp; try with_reducible rfl⟩
      · assumption
      try go_simp
      refine wpAnyH_ready (rs := [11]) (by kernel_rfl) (by simp) ?_
      refine AllReadyH.cons (o := ?_) ?_ ?_ AllReadyH.nil
      rotate_left 1
      · simp only [List.getElem?_toArray, List.getElem?_cons_succ, List.getElem?_cons_zero]; rfl
      intro K hK
      go_simp
      refine (HADD.out wr.drew HZ.out HS.out).mono ?_
      rintro e w2 ⟨rfl, hs2, hb2, ht2⟩
      have ho2 : OwnP w2 g Aw cw (prs s.1 s.2.1) := by
        obtain ⟨Ag, cg, hg⟩ := HS.out.get (g := g) (by simp)
        exact OwnP.turned (w := wr.drew) HO.out hg.1 ht2
      have hB : Below w.heap.size wr.drew w2 := hb2.mono HWG.out
      have f1 : w2.cell? ⟨b, o + k * 2, none⟩ = some (.int .i64 x1) := (hB.cell (p := ⟨b, o + k * 2, none⟩) hbl).trans d1
      have f2 : w2.cell? ⟨b, o + k * 2 + 1, none⟩ = some (.int .u64 (x2 : Nat)) := (hB.cell (p := ⟨b, o + k * 2 + 1, none⟩) hbl).trans d2
      have HO2 := Lib.hid ho2
      have HZ2 := Lib.hid (Nat.le_trans HZ.out hb2.size)
      have HB2 := Lib.hid (HB.out.trans (show Below w.heap.size wr w2 from ⟨hB.os, hB.tape, hB.output, hB.size, hB.block⟩))
      have HS2 := Lib.hid hs2
      clear hs2 hb2 ht2 ho2 hB
      refine hK.out _ _ ?_ (fun hHeld => ?_)
      · exact ⟨f1, f2⟩
      clear hK K
      try go_simp
      refine wpAnyH_done (by kernel_rfl) ?_ _
      refine NoPanic.normal ?_
      go_wp2_with fail
      refine wp_region_noPanic ?_
      refine wp_region_held_drew (S := (fun w' => w'.cell? ⟨b, o + k * 2, none⟩ = some (.int .i64 x1) ∧ w'.cell? ⟨b, o + k * 2 + 1, none⟩ = some (.int .u64 (x2 : Nat)))) (by kernel_rfl) ⟨f1, f2⟩ (fun hHeld => ?_)
      refine wpAnyH_take (i := 0) (oi := ?_) (v := ?_) ?_ ?_ ?_ ?_ ?_ ?_ ?_ ?_
      rotate_left 2
      · simp only [List.getElem?_toArray, List.getElem?_cons_zero]; rfl
      · kernel_rfl
      · kernel_rfl
      · kernel_rfl
      · exact fun _ _ _ h => h
      · exact Or.inl ⟨by kernel_rfl, by intro w hSw; (try dsimp only at hSw); go_simp; try with_reducible rfl⟩
      · assumption
      try go_simp
      refine wpAnyH_take (i := 1) (oi := ?_) (v := ?_) ?_ ?_ ?_ ?_ ?_ ?_ ?_ ?_
      rotate_left 2
      · simp only [List.getElem?_toArray, List.getElem?_cons_succ, List.getElem?_cons_zero]; rfl
      · kernel_rfl
      · kernel_rfl
      · kernel_rfl
      · exact fun _ _ _ h => h
      · exact Or.inl ⟨by kernel_rfl, by intro w hSw; (try dsimp only at hSw); go_simp; try with_reducible rfl⟩
      · assumption
      try go_simp
      refine wpAnyH_take (i := 2) (oi := ?_) (v := ?_) ?_ ?_ ?_ ?_ ?_ ?_ ?_ ?_
      rotate_left 2
      · simp only [List.getElem?_toArray, List.getElem?_cons_succ, List.getElem?_cons_zero]; rfl
      · kernel_rfl
      · kernel_rfl
      · kernel_rfl
      · exact fun _ _ _ h => h
      · exact Or.inl ⟨by kernel_rfl, by intro w hSw; (try dsimp only at hSw); go_simp; try with_reducible rfl⟩
      · assumption
      try go_simp
      refine wpAnyH_take (i := 3) (oi := ?_) (v := ?_) ?_ ?_ ?_ ?_ ?_ ?_ ?_ ?_
      rotate_left 2
      · simp only [List.getElem?_toArray, List.getElem?_cons_succ, List.getElem?_cons_zero]; rfl
      · kernel_rfl
      · kernel_rfl
      · kernel_rfl
      · exact fun _ _ _ h => h
      · exact Or.inl ⟨by kernel_rfl, by intro w hSw; (try dsimp only at hSw); go_simp; try with_reducible rfl⟩
      · assumption
      try go_simp
      refine wpAnyH_take (i := 4) (oi := ?_) (v := ?_) ?_ ?_ ?_ ?_ ?_ ?_ ?_ ?_
      rotate_left 2
      · simp only [List.getElem?_toArray, List.getElem?_cons_succ, List.getElem?_cons_zero]; rfl
      · kernel_rfl
      · kernel_rfl
      · kernel_rfl
      · exact fun _ _ _ h => h
      · exact Or.inl ⟨by kernel_rfl, by intro w hSw; (try dsimp only at hSw); go_simp; try with_reducible rfl⟩
      · assumption
      try go_simp
      refine wpAnyH_take (i := 5) (oi := ?_) (v := ?_) ?_ ?_ ?_ ?_ ?_ ?_ ?_ ?_
      rotate_left 2
      · simp only [List.getElem?_toArray, List.getElem?_cons_succ, List.getElem?_cons_zero]; rfl
      · kernel_rfl
      · kernel_rfl
      · kernel_rfl
      · exact fun _ _ _ h => h
      · exact Or.inl ⟨by kernel_rfl, by intro w hSw; (try dsimp only at hSw); go_simp; try with_reducible rfl⟩
      · assumption
      try go_simp
      refine wpAnyH_take (i := 6) (oi := ?_) (v := ?_) ?_ ?_ ?_ ?_ ?_ ?_ ?_ ?_
      rotate_left 2
      · simp only [List.getElem?_toArray, List.getElem?_cons_succ, List.getElem?_cons_zero]; rfl
      · kernel_rfl
      · kernel_rfl
      · kernel_rfl
      · exact fun _ _ _ h => h
      · exact Or.inl ⟨by kernel_rfl, by intro w hSw; (try dsimp only at hSw); go_simp; try with_reducible rfl⟩
      · assumption
      try go_simp
      refine wpAnyH_take (i := 7) (oi := ?_) (v := ?_) ?_ ?_ ?_ ?_ ?_ ?_ ?_ ?_
      rotate_left 2
      · simp only [List.getElem?_toArray, List.getElem?_cons_succ, List.getElem?_cons_zero]; rfl
      · kernel_rfl
      · kernel_rfl
      · kernel_rfl
      · exact fun _ _ _ h => h
      · exact Or.inl ⟨by kernel_rfl, by intro w hSw; (try dsimp only at hSw); go_simp; try with_reducible rfl⟩
      · assumption
      try go_simp
      refine wpAnyH_take (i := 8) (oi := ?_) (v := ?_) ?_ ?_ ?_ ?_ ?_ ?_ ?_ ?_
      rotate_left 2
      · simp only [List.getElem?_toArray, List.getElem?_cons_succ, List.getElem?_cons_zero]; rfl
      · kernel_rfl
      · kernel_rfl
      · kernel_rfl
      · exact fun _ _ _ h => h
      · exact Or.inl ⟨by kernel_rfl, by intro w hSw; (try dsimp only at hSw); go_simp; try with_reducible rfl⟩
      · assumption
      try go_simp
      refine wpAnyH_take (i := 9) (oi := ?_) (v := ?_) ?_ ?_ ?_ ?_ ?_ ?_ ?_ ?_
      rotate_left 2
      · simp only [List.getElem?_toArray, List.getElem?_cons_succ, List.getElem?_cons_zero]; rfl
      · kernel_rfl
      · kernel_rfl
      · kernel_rfl
      · exact fun _ _ _ h => h
      · exact Or.inl ⟨by kernel_rfl, by intro w hSw; (try dsimp only at hSw); go_simp; try with_reducible rfl⟩
      · assumption
      try go_simp
      refine wpAnyH_take (i := 10) (oi := ?_) (v := ?_) ?_ ?_ ?_ ?_ ?_ ?_ ?_ ?_
      rotate_left 2
      · simp only [List.getElem?_toArray, List.getElem?_cons_succ, List.getElem?_cons_zero]; rfl
      · kernel_rfl
      · kernel_rfl
      · kernel_rfl
      · exact fun _ _ _ h => h
      · exact Or.inl ⟨by kernel_rfl, by intro w hSw; (try dsimp only at hSw); go_simp; try with_reducible rfl⟩
      · assumption
      try go_simp
      refine wpAnyH_ready (rs := [11]) (by kernel_rfl) (by simp) ?_
      refine AllReadyH.cons (o := ?_) ?_ ?_ AllReadyH.nil
      rotate_left 1
      · simp only [List.getElem?_toArray, List.getElem?_cons_succ, List.getElem?_cons_zero]; rfl
      intro K hK
      go_simp
      refine (HRA.out w2.drew HZ2.out HO2.out).mono ?_
      rintro e w3 ⟨A3, c3, rfl, ho3, hb3⟩
      have hB : Below w.heap.size w2.drew w3 := hb3.mono (by have := HB2.out.size; exact this)
      have g1 : w3.cell? ⟨b, o + k * 2, none⟩ = some (.int .i64 x1) := (hB.cell (p := ⟨b, o + k * 2, none⟩) hbl).trans f1
      have g2 : w3.cell? ⟨b, o + k * 2 + 1, none⟩ = some (.int .u64 (x2 : Nat)) := (hB.cell (p := ⟨b, o + k * 2 + 1, none⟩) hbl).trans f2
      have HO3 := Lib.hid ho3
      have HZ3 := Lib.hid (Nat.le_trans HZ2.out hb3.size)
      have HB3 := Lib.hid (HB2.out.trans (show Below w.heap.size w2 w3 from ⟨hB.os, hB.tape, hB.output, hB.size, hB.block⟩))
      have HS3 := Lib.hid ((HS2.out.drewN 1).below hb3)
      clear hb3 ho3 hB
      refine hK.out _ _ ?_ (fun hHeld => ?_)
      · exact ⟨g1, g2⟩
      clear hK K
      try go_simp
      refine wpAnyH_take (i := 12) (oi := ?_) (v := ?_) ?_ ?_ ?_ ?_ ?_ ?_ ?_ ?_
      rotate_left 2
      · simp only [List.getElem?_toArray, List.getElem?_cons_succ, List.getElem?_cons_zero]; rfl
      · kernel_rfl
      · kernel_rfl
      · kernel_rfl
      · exact fun _ _ _ h => h
      · exact Or.inl ⟨by kernel_rfl, by intro w hSw; (try dsimp only at hSw); go_simp; try with_reducible rfl⟩
      · assumption
      try go_simp
      refine wpAnyH_take (i := 13) (oi := ?_) (v := ?_) ?_ ?_ ?_ ?_ ?_ ?_ ?_ ?_
      rotate_left 2
      · simp only [List.getElem?_toArray, List.getElem?_cons_succ, List.getElem?_cons_zero]; rfl
      · kernel_rfl
      · kernel_rfl
      · kernel_rfl
      · exact fun _ _ _ h => h
      · exact Or.inl ⟨by kernel_rfl, by intro w hSw; (try dsimp only at hSw); go_simp; try with_reducible rfl⟩
      · assumption
      try go_simp
      refine wpAnyH_take (i := 14) (oi := ?_) (v := ?_) ?_ ?_ ?_ ?_ ?_ ?_ ?_ ?_
      rotate_left 2
      · simp only [List.getElem?_toArray, List.getElem?_cons_succ, List.getElem?_cons_zero]; rfl
      · kernel_rfl
      · kernel_rfl
      · kernel_rfl
      · exact fun _ _ _ h => h
      · exact Or.inl ⟨by kernel_rfl, by intro w hSw; (try dsimp only at hSw); go_simp; try with_reducible rfl⟩
      · assumption
      try go_simp
      refine wpAnyH_take (i := 15) (oi := ?_) (v := ?_) ?_ ?_ ?_ ?_ ?_ ?_ ?_ ?_
      rotate_left 2
      · simp only [List.getElem?_toArray, List.getElem?_cons_succ, List.getElem?_cons_zero]; rfl
      · kernel_rfl
      · kernel_rfl
      · kernel_rfl
      · exact fun _ _ _ h => h
      · exact Or.inl ⟨by kernel_rfl, by intro w hSw; (try dsimp only at hSw); go_simp; try with_reducible rfl⟩
      · assumption
      try go_simp
      refine wpAnyH_take (i := 16) (oi := ?_) (v := ?_) ?_ ?_ ?_ ?_ ?_ ?_ ?_ ?_
      rotate_left 2
      · simp only [List.getElem?_toArray, List.getElem?_cons_succ, List.getElem?_cons_zero]; rfl
      · kernel_rfl
      · kernel_rfl
      · kernel_rfl
      · exact fun _ _ _ h => h
      · exact Or.inl ⟨by kernel_rfl, by intro w hSw; (try dsimp only at hSw); go_simp; try with_reducible rfl⟩
      · assumption
      try go_simp
      refine wpAnyH_done (by kernel_rfl) ?_ _
      refine NoPanic.normal ?_
      go_wp2_with fail
      refine (HPA.out _ HS3.out).mono ?_
      rintro e w4 ⟨A4, c4, rfl, ho4, hb4⟩
      have HO4 := Lib.hid (show Own w4 w3.heap.size 30 2 A4 (prs (addS s (x1, x2)).1 (addS s (x1, x2)).2.1).length c4 (pcs (prs (addS s (x1, x2)).1 (addS s (x1, x2)).2.1)) from ho4)
      have HB4 := Lib.hid hb4
      clear ho4 hb4
      obtain ⟨N, hN⟩ : ∃ N, N = (prs (addS s (x1, x2)).1 (addS s (x1, x2)).2.1).length := ⟨_, rfl⟩
      have hN2 : (N : Int) ≤ 8192 := by have := HML.out; omega
      have HN := Lib.hid hN
      rw [← hN] at HO4
      rw [← hN]
      clear hN
      go_wp2_with fail
      go_loopw [9] (fun i wi => ∃ (j : Nat) (xs : List Value), j ≤ N ∧ i = .int .i64 j ∧ Own wi w3.heap.size 30 2 A4 N c4 xs ∧ Below w3.heap.size w3 wi) (fun i _ => N - (intOf i).toNat)
      case atStart => exact ⟨0, _, Nat.zero_le _, rfl, HO4.out, HB4.out⟩
      case round =>
        obtain ⟨j, xs, hj, rfl, hox, hbx⟩ := hrel
        by_cases hjl : j < N
        · obtain ⟨q, rfl, hq1, hq2, hq3, hq4, hq5⟩ := hox.form (by omega)
          have hxl := hox.len
          obtain ⟨u0, hu0⟩ : ∃ u, xs[j * 2]? = some u := ⟨xs[j * 2]'(by omega), by simp⟩
          obtain ⟨u1, hu1⟩ : ∃ u, xs[j * 2 + 1]? = some u := ⟨xs[j * 2 + 1]'(by omega), by simp⟩
          have y0 := hq4 _ _ hu0
          have y1 := hq4 _ _ hu1
          have z0 := hq5 (j * 2)
          have z1 := hq5 (j * 2 + 1)
          have hjj : (j : Int) < (N : Int) := by omega
          have hj0 : (0 : Int) ≤ (j : Int) := by omega
          have HOX := Lib.hid hox
          have HBX := Lib.hid hbx
          have HJ := Lib.hid hjl
          have HQ := Lib.hid hq1
          clear hox hbx hjl hq1 hq3 hq4 hq5 hu0 hu1 hxl hj
          go_wp2_with fail
          go_roundw
          case rel => exact ⟨j + 1, _, HJ.out, by go_num, (HOX.out.stored (j * 2 + 1) _).stored (j * 2) _, (HBX.out.setCell HQ.out _).setCell HQ.out _⟩
          case measure => have h1 := HJ.out; simp [intOf]; omega
        · have HBX := Lib.hid hbx
          clear hox hbx
          go_wp2_with fail
          have hB5 : Below w3.heap.size w3 wr := HBX.out
          go_roundw
          case rel => exact ⟨k + 1, A3, c3, addS s (x1, x2), HL.out, HL6.out, by go_num, by rw [← HN.out], Own.below HO3.out hB5, HE2.out, HS3.out.below hB5, nextB HB3.out hB5, Nat.le_trans HZ3.out hB5.size⟩
          case measure => have h1 := HL.out; simp [intOf]; omega
    · have hinv : InvS s := by have := hsts.inv (g := g) (by simp); exact this
      have hml : (prs s.1 s.2.1).length ≤ maxLen := by have := prs_mlen hinv; unfold maxLen; omega
      have HPA := fun W h => spairs_t (ids := [g]) (S := S1 s) (base := g) g W h (by simp)
      simp only [S1] at HPA
      replace HPA := Lib.hid HPA
      have HML := Lib.hid hml
      have HS := Lib.hid hsts
      have HB := Lib.hid hbel
      have HO := Lib.hid hown
      clear hsts hbel hown hends hinv hml hgw
      generalize prs s.1 s.2.1 = R at *
      by_cases h60 : k < l.length
      all_goals
        go_wp2_with fail
        refine (HPA.out _ HS.out).mono ?_
        rintro e w4 ⟨A4, c4, rfl, ho4, hb4⟩
        have HB4 := Lib.hid (nextB HB.out hb4)
        have HR4 := Lib.hid ho4.reads
        have HR := Lib.hid (HO.out.reads.at_below hb4)
        clear ho4 hb4
        go_wp2_with fail
        refine (same13_t A4 Aw c4 cw _ _ R _ HR4.out HR.out HML.out).mono ?_
        rintro e w5 ⟨rfl, n5, rfl⟩
        go_wp2_with fail
        go_ret
        exact ⟨rfl, below_drewN HB4.out n5⟩
end Go.Proofs.Ytknimekfkkihpaa
