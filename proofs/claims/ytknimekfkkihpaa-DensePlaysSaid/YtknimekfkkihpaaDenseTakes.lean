/- DenseTakes walked. -/
import Derived.Test.YtknimekfkkihpaaDenseOrder
namespace Go.Proofs.Ytknimekfkkihpaa
open Go.RowKit
open Ds Pl

def S4 (g : Nat) (s t u v : St) (i : Nat) : St := if i = g then s else if i = g + 1 then t else if i = g + 2 then u else v
theorem S4_0 {g : Nat} {s t u v : St} : S4 g s t u v g = s := by simp [S4]
theorem S4_1 {g : Nat} {s t u v : St} : S4 g s t u v (g + 1) = t := by simp [S4]
theorem S4_2 {g : Nat} {s t u v : St} : S4 g s t u v (g + 2) = u := by simp [S4]
theorem S4_3 {g : Nat} {s t u v : St} : S4 g s t u v (g + 3) = v := by simp [S4]
theorem S4_u0 {g : Nat} {s t u v x : St} : upd (S4 g s t u v) g x = S4 g x t u v := by
  funext i; unfold upd S4; by_cases h : i = g <;> simp [h]
theorem S4_u1 {g : Nat} {s t u v x : St} : upd (S4 g s t u v) (g + 1) x = S4 g s x u v := by
  funext i; unfold upd S4
  by_cases h : i = g + 1
  · subst h; simp
  · by_cases h2 : i = g <;> simp [h, h2]
theorem S4_u2 {g : Nat} {s t u v x : St} : upd (S4 g s t u v) (g + 2) x = S4 g s t x v := by
  funext i; unfold upd S4
  by_cases h : i = g + 2
  · subst h; simp
  · by_cases h2 : i = g <;> by_cases h3 : i = g + 1 <;> simp [h, h2, h3]
def ids4 (g : Nat) : List Nat := [g + 3, g + 2, g + 1, g]
theorem S4_u3 {g : Nat} {s t u v x : St} {w : World} {base : Nat} (h : Sts w base (ids4 g) (upd (S4 g s t u v) (g + 3) x)) : Sts w base (ids4 g) (S4 g s t u x) :=
  h.congr fun i hi => by
    simp [ids4] at hi
    rcases hi with rfl | rfl | rfl | rfl <;> simp [upd, S4]
theorem four_new (w1 : World) : Sts ((((w1.alloc (.cells #[.int .i64 0, .slice none 0 0, .int .u64 0] 28)).alloc (.cells #[.int .i64 0, .slice none 0 0, .int .u64 0] 28)).alloc (.cells #[.int .i64 0, .slice none 0 0, .int .u64 0] 28)).alloc (.cells #[.int .i64 0, .slice none 0 0, .int .u64 0] 28)) w1.heap.size (ids4 w1.heap.size) (S4 w1.heap.size e0 e0 e0 e0) := by
  have h1 := Sts.new (Sts.none w1 w1.heap.size (fun _ => e0)) (Nat.le_refl _)
  have h2 := Sts.new h1 (by simp)
  have h3 := Sts.new h2 (by simp; omega)
  have h4 := Sts.new h3 (by simp; omega)
  simp only [World.size_alloc] at h4
  refine h4.congr fun i hi => ?_
  simp at hi
  rcases hi with rfl | rfl | rfl | rfl <;> simp [upd, S4, e0]
def item5 (p : Pr) : Pr := item 100000 p
theorem tkc_tight {s s2 : St} (h : Tight s) (h2 : Tight s2) (ht : s.2.2 + s2.2.2 ≤ 4611686018427387904) : tkc s.1 s.2.1 s.2.2 s2.1 s2.2.1 s2.2.2 = 0 := by
  unfold tkc
  by_cases hl : s2.2.1.length = 0
  · rw [if_pos hl]
  · rw [if_neg hl, if_neg, if_neg (by omega)]
    unfold Tight at h h2
    omega
theorem prs_tight {s : St} (h : Tight s) : ∀ p ∈ prs s.1 s.2.1, KeyOk p := by
  intro p hp
  have h1 := prs_ge p hp
  unfold Tight at h
  unfold KeyOk
  omega
theorem take_tight {s s2 : St} (h : Tight s) (h2 : Tight s2) (hi : InvS s2) (ht : s.2.2 + s2.2.2 ≤ 4611686018427387904) :
    Tight (takeS s s2) ∧ (takeS s s2).2.2 = s.2.2 + s2.2.2 ∧ ∀ j, cntS (takeS s s2).1 (takeS s s2).2.1 j = cntS s.1 s.2.1 j + cntS s2.1 s2.2.1 j := by
  unfold takeS
  rw [if_pos (tkc_tight h h2 ht)]
  obtain ⟨a, b, c⟩ := adds_tight (L := prs s2.1 s2.2.1) h (prs_tight h2) (by rw [prs_tot, hi.sum]; exact ht)
  refine ⟨a, by rw [b, prs_tot, hi.sum], fun j => by rw [c, sumk_srt prs_srt, prs_cnt]⟩
theorem items5 (l : List Pr) (h : l.length ≤ 100) : (∀ q ∈ l.map item5, KeyOk q) ∧ tot (l.map item5) ≤ 10000000 := by
  refine ⟨fun q hq => ?_, ?_⟩
  · obtain ⟨r, _, rfl⟩ := List.mem_map.1 hq
    exact item_ok _ r
  · have := tot_map_le (f := item5) (m := 100000) (fun p => by unfold item5 item; simp only; omega) l
    omega
theorem adds_app (s : St) (L M : List Pr) : adds s (L ++ M) = adds (adds s L) M := by simp [adds]
/-- But for store g and the rows of numbers nothing has turned. -/
def Turned (g : Nat) (w w' : World) : Prop := Only (fun i => i = g ∨ ∃ cur, w.heap[i]? = some (.cells cur 26 (0, 0))) w w'
theorem OwnP.turned {w w' : World} {base g : Nat} {A : Option Addr} {c : Nat} {L : List Pr} (h : OwnP w base A c L) {cs : Array Value} (hg : Blk w g 28 cs) (ht : Turned g w w') : OwnP w' base A c L := by
  refine Own.only h ht fun b hb hK => ?_
  rcases h.2 with ⟨hv, _⟩ | ⟨g', cap, cur, hv, _, hh, _⟩
  · injection hv with hA _ _
    subst hA
    simp [blockOf] at hb
  · injection hv with hA _ _
    subst hA
    have : g' = b := by simpa [blockOf] using hb
    subst this
    rcases hK with hK | ⟨cur', hK⟩
    · subst hK
      unfold Blk at hg
      rw [hh] at hg
      injection hg with hg
      injection hg with _ ht2
      exact absurd ht2 (by decide)
    · rw [hh] at hK
      injection hK with hK
      injection hK with _ ht2
      exact absurd ht2 (by decide)
theorem turned_of {w w' : World} {base g : Nat} {A : Option Addr} {c : Nat} {s s' : St} (h : Sto w base g A c s.1 s.2.1 s.2.2) (hp : StoPost base g A s'.1 s'.2.1 s'.2.2 w w') : Turned g w w' := by
  obtain ⟨A', c', _, _, honly⟩ := hp
  refine honly.mono fun i hi => ?_
  rcases hi with hi | hi
  · exact .inl hi
  · rcases h.2.2 with ⟨hA, _, _⟩ | ⟨g', o, cur, hA, _, hh, _⟩
    · rw [hA] at hi; simp [blockOf] at hi
    · rw [hA] at hi
      have : g' = i := by simpa [blockOf] using hi
      subst this
      exact .inr ⟨cur, hh⟩
theorem stake2_t {base : Nat} {ids : List Nat} {S : Nat → St} (g g2 : Nat) (w : World) (hbase : base ≤ w.heap.size) (h : Sts w base ids S) (hg : g ∈ ids) (hg2 : g2 ∈ ids) :
    Calls Try.prog 13 #[.pointer (some ⟨g, 0, Option.none⟩), .pointer (some ⟨g2, 0, Option.none⟩)] w fun e w' => e = .returned (.int .i64 (tkc (S g).1 (S g).2.1 (S g).2.2 (S g2).1 (S g2).2.1 (S g2).2.2)) ∧ Sts w' base ids (upd S g (takeS (S g) (S g2))) ∧ Below base w w' ∧ Turned g w w' := by
  have hinv := fun g' hg' => h.inv (g := g') hg'
  obtain ⟨A, h1, h2⟩ := h
  refine (take_t g g2 _ _ _ _ base base (S g) (S g2) w (h1 g2 hg2).2.2 (h1 g2 hg2).2.1 (h1 g hg).2.2 (h1 g hg).2.1 hbase).mono ?_
  rintro e w' ⟨rfl, hp⟩
  obtain ⟨a, b⟩ := Sts.step (s' := takeS (S g) (S g2)) (fun g' hg' => ⟨(h1 g' hg').1, hinv g' hg'⟩) (fun g' hg' => (h1 g' hg').2.2) h2 hg (inv_take (h1 g hg).2.1) hbase hp
  exact ⟨rfl, a, b, turned_of (s := S g) (s' := takeS (S g) (S g2)) (h1 g hg).2.2 hp⟩
/-- One Add to one of four. -/
theorem sadd4 {S : Nat → St} {base g : Nat} (i : Nat) (hi : i ∈ ids4 g) (p : Pr) (w : World) (hbase : base ≤ w.heap.size) (h : Sts w base (ids4 g) S) (hk : KeyOk p) (hn : p.2 ≤ 100000) :
    Calls Try.prog 8 #[.pointer (some ⟨i, 0, none⟩), .int .i64 p.1, .int .u64 (p.2 : Nat)] w fun e w' => ∃ r, e = .returned (.int .i64 r) ∧ Sts w' base (ids4 g) (upd S i (addS (S i) p)) ∧ Below base w w' := by
  obtain ⟨k0, k1⟩ := hk
  refine (sadd_t i p.1 p.2 w hbase h hi (by omega) (by omega) (by omega)).mono ?_
  rintro e w' ⟨rfl, hs, hb⟩
  exact ⟨_, rfl, hs, hb⟩
set_option maxHeartbeats 6400000 in
set_option maxRecDepth 100000 in
theorem denseTakes_walk (w : World) (A : Option Addr) (c : Nat) (l : List Pr) (m : l.length ≤ maxLen) (s : Pairs w A l) (A' : Option Addr) (c' : Nat) (l' : List Pr) (m' : l'.length ≤ maxLen) (s' : Pairs w A' l') :
    Calls Try.prog 5 #[.slice A l.length c, .slice A' l'.length c'] w fun e w' => e = .returned (.bool true) ∧ Below w.heap.size w w' := by
  obtain ⟨hok, hp⟩ := s
  obtain ⟨hok', hp'⟩ := s'
  unfold maxLen at m m'
  have HA := alive_t
  have HP := Lib.hid hp
  have HOK := Lib.hid hok
  have HP' := Lib.hid hp'
  have HOK' := Lib.hid hok'
  clear hp hok hp' hok'
  by_cases hbig : 100 < l.length
  · go_enter Try.func5, Try.ntmps5
    go_wp2_with fail
    refine (HA _).mono ?_
    rintro e w1 ⟨rfl, hb1⟩
    have HB1 := Lib.hid hb1
    clear hb1
    go_wp2_with fail
    go_ret
    exact ⟨rfl, HB1.out⟩
  by_cases hbig' : 100 < l'.length
  · go_enter Try.func5, Try.ntmps5
    go_wp2_with fail
    refine (HA _).mono ?_
    rintro e w1 ⟨rfl, hb1⟩
    have HB1 := Lib.hid hb1
    clear hb1
    go_wp2_with fail
    go_ret
    exact ⟨rfl, HB1.out⟩
  have hl : (l.length : Int) ≤ 100 := by omega
  have hl' : (l'.length : Int) ≤ 100 := by omega
  go_enter Try.func5, Try.ntmps5
  go_wp2_with fail
  refine (HA _).mono ?_
  rintro e w1 ⟨rfl, hb1⟩
  have HB1 := Lib.hid hb1
  clear hb1
  go_wp2_with fail
  have hs0 := four_new w1
  have hb0 : Below w1.heap.size w1 ((((w1.alloc (.cells #[.int .i64 0, .slice none 0 0, .int .u64 0] 28)).alloc (.cells #[.int .i64 0, .slice none 0 0, .int .u64 0] 28)).alloc (.cells #[.int .i64 0, .slice none 0 0, .int .u64 0] 28)).alloc (.cells #[.int .i64 0, .slice none 0 0, .int .u64 0] 28)) := ((((Below.refl _ _).alloc (Nat.le_refl _) _).alloc (by simp) _).alloc (by simp; omega) _).alloc (by simp; omega) _
  have hz0 := hb0.size
  have hb00 := nextB HB1.out hb0
  have hwg := HB1.out.size
  generalize ((((w1.alloc (.cells #[.int .i64 0, .slice none 0 0, .int .u64 0] 28)).alloc (.cells #[.int .i64 0, .slice none 0 0, .int .u64 0] 28)).alloc (.cells #[.int .i64 0, .slice none 0 0, .int .u64 0] 28)).alloc (.cells #[.int .i64 0, .slice none 0 0, .int .u64 0] 28)) = w0 at *
  generalize w1.heap.size = g at *
  have HS0 := Lib.hid hs0
  have HWG := Lib.hid hwg
  have HB0 := Lib.hid hb00
  clear hs0 hb0 hb00 HB1
  obtain ⟨I, hI⟩ : ∃ I, I = l.map item5 := ⟨_, rfl⟩
  obtain ⟨J, hJ⟩ : ∃ J, J = l'.map item5 := ⟨_, rfl⟩
  obtain ⟨ik, it⟩ := items5 l (by omega)
  obtain ⟨jk, jt⟩ := items5 l' (by omega)
  have il : I.length = l.length := by rw [hI, List.length_map]
  have jl : J.length = l'.length := by rw [hJ, List.length_map]
  rw [← hI] at ik it
  rw [← hJ] at jk jt
  have HI := Lib.hid hI
  have HJ := Lib.hid hJ
  have HIK := Lib.hid ik
  have HJK := Lib.hid jk
  have HIL := Lib.hid il
  have HJL := Lib.hid jl
  have HIT := Lib.hid it
  have HJT := Lib.hid jt
  clear hI hJ ik jk il jl it jt
  go_loopw [9] (fun i wr => ∃ k : Nat, k ≤ l.length ∧ i = .int .i64 k ∧ Sts wr g (ids4 g) (S4 g (adds e0 (I.take k)) e0 (adds e0 (I.take k)) (adds e0 (I.take k))) ∧ Below w.heap.size w wr ∧ g ≤ wr.heap.size) (fun i _ => l.length - (intOf i).toNat)
  case atStart => exact ⟨0, Nat.zero_le _, rfl, HS0.out, HB0.out, hz0⟩
  case round =>
    obtain ⟨k, hk, rfl, hsts, hbel, hgw⟩ := hrel
    by_cases hlt : k < l.length
    · obtain ⟨p, hp⟩ : ∃ p, l[k]? = some p := ⟨l[k], by simp [hlt]⟩
      obtain ⟨b, o, hA, hbl, c1, c2⟩ := prs_cells HP.out hp
      subst hA
      have i1 : I[k]? = some (item5 p) := by rw [HI.out]; exact map_get hp
      have o1 := HOK.out p (List.mem_of_getElem? hp)
      have hkey := item_ok 100000 p
      have q0 : (item5 p).1 = p.1.tmod 4000 := rfl
      have q1 : (item5 p).2 = p.2 % 100000 := rfl
      have t1 := tmod_range p.1
      obtain ⟨y, hy⟩ : ∃ y, y = item5 p := ⟨_, rfl⟩
      rw [← hy] at i1 q0 q1
      obtain ⟨y1, y2⟩ := y
      obtain ⟨x1, x2⟩ := p
      simp only at c1 c2 t1 o1 q0 q1
      have hky : KeyOk (y1, y2) := by unfold KeyOk; simp only; omega
      have hny : ((y1, y2) : Pr).2 ≤ 100000 := by simp only; omega
      have hkk : (k : Int) < (l.length : Int) := by omega
      have hk0 : (0 : Int) ≤ (k : Int) := by omega
      have m0 : x1.tmod 4000 = y1 := q0.symm
      have m1 : (x2 : Int).tmod 100000 = (y2 : Int) := by rw [Int.tmod_eq_emod_of_nonneg (by omega)]; omega
      have m2 : (x2 : Int) % 100000 = (y2 : Int) := by omega
      obtain ⟨o11, o12, o13⟩ := o1
      simp only at o11 o12 o13
      have f11 : wr.cell? ⟨b, o + k * 2, none⟩ = some (.int .i64 x1) := (hbel.cell (p := ⟨b, o + k * 2, none⟩) hbl).trans c1
      have f12 : wr.cell? ⟨b, o + k * 2 + 1, none⟩ = some (.int .u64 (x2 : Nat)) := (hbel.cell (p := ⟨b, o + k * 2 + 1, none⟩) hbl).trans c2
      have HL := Lib.hid hlt
      have HB1 := Lib.hid hbel
      have HZ1 := Lib.hid hgw
      have n1 := adds_take (s := e0) i1
      have HS1 := Lib.hid hsts
      have HN := Lib.hid n1
      clear hk hp hlt hsts hbel c1 c2 hgw i1 n1 q0 q1 hy hkey
      go_wp2_with fail
      refine wp_region_noPanic ?_
      refine wp_region_held_drew (S := (fun w' => w'.cell? ⟨b, o + k * 2, none⟩ = some (.int .i64 x1) ∧ w'.cell? ⟨b, o + k * 2 + 1, none⟩ = some (.int .u64 (x2 : Nat)))) (by kernel_rfl) ⟨f11, f12⟩ (fun hHeld => ?_)
      refine wpAnyH_take (i := 0) (oi := ?_) (v := ?_) ?_ ?_ ?_ ?_ ?_ ?_ ?_ ?_
      rotate_left 2
      · simp only [List.getElem?_toArray, List.getElem?_cons_zero]; rfl
      · kernel_rfl
      · kernel_rfl
      · kernel_rfl
      · exact fun _ _ _ h => h
      · exact Or.inl ⟨by kernel_rfl, by intro w hSw; (try dsimp only at hSw); go_simp; try with_reducible rfl⟩
      · assumption
      try go_simp
      refine wpAnyH_take (i := 1) (oi := ?_) (v := ?_) ?_ ?_ ?_ ?_ ?_ ?_ ?_ ?_
      rotate_left 2
      · simp only [List.getElem?_toArray, List.getElem?_cons_succ, List.getElem?_cons_zero]; rfl
      · kernel_rfl
      · kernel_rfl
      · kernel_rfl
      · exact fun _ _ _ h => h
      · exact Or.inl ⟨by kernel_rfl, by intro w hSw; (try dsimp only at hSw); go_simp; try with_reducible rfl⟩
      · assumption
      try go_simp
      refine wpAnyH_take (i := 2) (oi := ?_) (v := ?_) ?_ ?_ ?_ ?_ ?_ ?_ ?_ ?_
      rotate_left 2
      · simp only [List.getElem?_toArray, List.getElem?_cons_succ, List.getElem?_cons_zero]; rfl
      · kernel_rfl
      · kernel_rfl
      · kernel_rfl
      · exact fun _ _ _ h => h
      · exact Or.inl ⟨by kernel_rfl, by intro w hSw; (try dsimp only at hSw); go_simp; try with_reducible rfl⟩
      · assumption
      try go_simp
      refine wpAnyH_take (i := 3) (oi := ?_) (v := ?_) ?_ ?_ ?_ ?_ ?_ ?_ ?_ ?_
      rotate_left 2
      · simp only [List.getElem?_toArray, List.getElem?_cons_succ, List.getElem?_cons_zero]; rfl
      · kernel_rfl
      · kernel_rfl
      · kernel_rfl
      · exact fun _ _ _ h => h
      · exact Or.inl ⟨by kernel_rfl, by intro w hSw; (try dsimp only at hSw); go_simp; try with_reducible rfl⟩
      · assumption
      try go_simp
      refine wpAnyH_take (i := 4) (oi := ?_) (v := ?_) ?_ ?_ ?_ ?_ ?_ ?_ ?_ ?_
      rotate_left 2
      · simp only [List.getElem?_toArray, List.getElem?_cons_succ, List.getElem?_cons_zero]; rfl
      · kernel_rfl
      · kernel_rfl
      · kernel_rfl
      · exact fun _ _ _ h => h
      · exact Or.inl ⟨by kernel_rfl, by intro w hSw; (try dsimp only at hSw); go_simp; try with_reducible rfl⟩
      · assumption
      try go_simp
      refine wpAnyH_take (i := 5) (oi := ?_) (v := ?_) ?_ ?_ ?_ ?_ ?_ ?_ ?_ ?_
      rotate_left 2
      · simp only [List.getElem?_toArray, List.getElem?_cons_succ, List.getElem?_cons_zero]; rfl
      · kernel_rfl
      · kernel_rfl
      · kernel_rfl
      · exact fun _ _ _ h => h
      · exact Or.inl ⟨by kernel_rfl, by intro w hSw; (try dsimp only at hSw); go_simp; try with_reducible rfl⟩
      · assumption
      try go_simp
      refine wpAnyH_take (i := 6) (oi := ?_) (v := ?_) ?_ ?_ ?_ ?_ ?_ ?_ ?_ ?_
      rotate_left 2
      · simp only [List.getElem?_toArray, List.getElem?_cons_succ, List.getElem?_cons_zero]; rfl
      · kernel_rfl
      · kernel_rfl
      · kernel_rfl
      · exact fun _ _ _ h => h
      · exact Or.inl ⟨by kernel_rfl, by intro w hSw; (try dsimp only at hSw); go_simp; try with_reducible rfl⟩
      · assumption
      try go_simp
      refine wpAnyH_take (i := 7) (oi := ?_) (v := ?_) ?_ ?_ ?_ ?_ ?_ ?_ ?_ ?_
      rotate_left 2
      · simp only [List.getElem?_toArray, List.getElem?_cons_succ, List.getElem?_cons_zero]; rfl
      · kernel_rfl
      · kernel_rfl
      · kernel_rfl
      · exact fun _ _ _ h => h
      · exact Or.inl ⟨by kernel_rfl, by intro w hSw; (try dsimp only at hSw); go_simp; try with_reducible rfl⟩
      · assumption
      try go_simp
      refine wpAnyH_take (i := 8) (oi := ?_) (v := ?_) ?_ ?_ ?_ ?_ ?_ ?_ ?_ ?_
      rotate_left 2
      · simp only [List.getElem?_toArray, List.getElem?_cons_succ, List.getElem?_cons_zero]; rfl
      · kernel_rfl
      · kernel_rfl
      · kernel_rfl
      · exact fun _ _ _ h => h
      · exact Or.inl ⟨by kernel_rfl, by intro w hSw; (try dsimp only at hSw); go_simp; try with_reducible rfl⟩
      · assumption
      try go_simp
      refine wpAnyH_take (i := 9) (oi := ?_) (v := ?_) ?_ ?_ ?_ ?_ ?_ ?_ ?_ ?_
      rotate_left 2
      · simp only [List.getElem?_toArray, List.getElem?_cons_succ, List.getElem?_cons_zero]; rfl
      · kernel_rfl
      · kernel_rfl
      · kernel_rfl
      · exact fun _ _ _ h => h
      · exact Or.inl ⟨by kernel_rfl, by intro w hSw; (try dsimp only at hSw); go_simp; try with_reducible rfl⟩
      · assumption
      try go_simp
      refine wpAnyH_take (i := 10) (oi := ?_) (v := ?_) ?_ ?_ ?_ ?_ ?_ ?_ ?_ ?_
      rotate_left 2
      · simp only [List.getElem?_toArray, List.getElem?_cons_succ, List.getElem?_cons_zero]; rfl
      · kernel_rfl
      · kernel_rfl
      · kernel_rfl
      · exact fun _ _ _ h => h
      · exact Or.inl ⟨by kernel_rfl, by intro w hSw; (try dsimp only at hSw); go_simp; try with_reducible rfl⟩
      · assumption
      try go_simp
      refine wpAnyH_take (i := 11) (oi := ?_) (v := ?_) ?_ ?_ ?_ ?_ ?_ ?_ ?_ ?_
      rotate_left 2
      · simp only [List.getElem?_toArray, List.getElem?_cons_succ, List.getElem?_cons_zero]; rfl
      · kernel_rfl
      · kernel_rfl
      · kernel_rfl
      · exact fun _ _ _ h => h
      · exact Or.inl ⟨by kernel_rfl, by intro w hSw; (try dsimp only at hSw); go_simp; try with_reducible rfl⟩
      · assumption
      try go_simp
      refine wpAnyH_take (i := 12) (oi := ?_) (v := ?_) ?_ ?_ ?_ ?_ ?_ ?_ ?_ ?_
      rotate_left 2
      · simp only [List.getElem?_toArray, List.getElem?_cons_succ, List.getElem?_cons_zero]; rfl
      · kernel_rfl
      · kernel_rfl
      · kernel_rfl
      · exact fun _ _ _ h => h
      · exact Or.inl ⟨by kernel_rfl, by intro w hSw; (try dsimp only at hSw); go_simp; try with_reducible rfl⟩
      · assumption
      try go_simp
      refine wpAnyH_ready (rs := [13]) (by kernel_rfl) (by simp) ?_
      refine AllReadyH.cons (o := ?_) ?_ ?_ AllReadyH.nil
      rotate_left 1
      · simp only [List.getElem?_toArray, List.getElem?_cons_succ, List.getElem?_cons_zero]; rfl
      intro K hK
      go_simp
      refine (sadd4 (g := g) g (by simp [ids4]) (y1, y2) wr.drew HZ1.out HS1.out hky hny).mono ?_
      rintro e w2 ⟨r2, rfl, hs2, hb2⟩
      rw [S4_0, S4_u0] at hs2
      have hB : Below w.heap.size wr.drew w2 := hb2.mono HWG.out
      have f21 : w2.cell? ⟨b, o + k * 2, none⟩ = some (.int .i64 x1) := (hB.cell (p := ⟨b, o + k * 2, none⟩) hbl).trans f11
      have f22 : w2.cell? ⟨b, o + k * 2 + 1, none⟩ = some (.int .u64 (x2 : Nat)) := (hB.cell (p := ⟨b, o + k * 2 + 1, none⟩) hbl).trans f12
      have HZ2 := Lib.hid (Nat.le_trans HZ1.out hb2.size)
      have HB2 := Lib.hid (HB1.out.trans (show Below w.heap.size wr w2 from ⟨hB.os, hB.tape, hB.output, hB.size, hB.block⟩))
      have HS2 := Lib.hid hs2
      clear hs2 hb2 hB
      refine hK.out _ _ ?_ (fun hHeld => ?_)
      · exact ⟨f21, f22⟩
      clear hK K
      try go_simp
      refine wpAnyH_done (by kernel_rfl) ?_ _
      refine NoPanic.normal ?_
      go_wp2_with fail
      refine wp_region_noPanic ?_
      refine wp_region_held_drew (S := (fun w' => w'.cell? ⟨b, o + k * 2, none⟩ = some (.int .i64 x1) ∧ w'.cell? ⟨b, o + k * 2 + 1, none⟩ = some (.int .u64 (x2 : Nat)))) (by kernel_rfl) ⟨f21, f22⟩ (fun hHeld => ?_)
      refine wpAnyH_take (i := 0) (oi := ?_) (v := ?_) ?_ ?_ ?_ ?_ ?_ ?_ ?_ ?_
      rotate_left 2
      · simp only [List.getElem?_toArray, List.getElem?_cons_zero]; rfl
      · kernel_rfl
      · kernel_rfl
      · kernel_rfl
      · exact fun _ _ _ h => h
      · exact Or.inl ⟨by kernel_rfl, by intro w hSw; (try dsimp only at hSw); go_simp; try with_reducible rfl⟩
      · assumption
      try go_simp
      refine wpAnyH_take (i := 1) (oi := ?_) (v := ?_) ?_ ?_ ?_ ?_ ?_ ?_ ?_ ?_
      rotate_left 2
      · simp only [List.getElem?_toArray, List.getElem?_cons_succ, List.getElem?_cons_zero]; rfl
      · kernel_rfl
      · kernel_rfl
      · kernel_rfl
      · exact fun _ _ _ h => h
      · exact Or.inl ⟨by kernel_rfl, by intro w hSw; (try dsimp only at hSw); go_simp; try with_reducible rfl⟩
      · assumption
      try go_simp
      refine wpAnyH_take (i := 2) (oi := ?_) (v := ?_) ?_ ?_ ?_ ?_ ?_ ?_ ?_ ?_
      rotate_left 2
      · simp only [List.getElem?_toArray, List.getElem?_cons_succ, List.getElem?_cons_zero]; rfl
      · kernel_rfl
      · kernel_rfl
      · kernel_rfl
      · exact fun _ _ _ h => h
      · exact Or.inl ⟨by kernel_rfl, by intro w hSw; (try dsimp only at hSw); go_simp; try with_reducible rfl⟩
      · assumption
      try go_simp
      refine wpAnyH_take (i := 3) (oi := ?_) (v := ?_) ?_ ?_ ?_ ?_ ?_ ?_ ?_ ?_
      rotate_left 2
      · simp only [List.getElem?_toArray, List.getElem?_cons_succ, List.getElem?_cons_zero]; rfl
      · kernel_rfl
      · kernel_rfl
      · kernel_rfl
      · exact fun _ _ _ h => h
      · exact Or.inl ⟨by kernel_rfl, by intro w hSw; (try dsimp only at hSw); go_simp; try with_reducible rfl⟩
      · assumption
      try go_simp
      refine wpAnyH_take (i := 4) (oi := ?_) (v := ?_) ?_ ?_ ?_ ?_ ?_ ?_ ?_ ?_
      rotate_left 2
      · simp only [List.getElem?_toArray, List.getElem?_cons_succ, List.getElem?_cons_zero]; rfl
      · kernel_rfl
      · kernel_rfl
      · kernel_rfl
      · exact fun _ _ _ h => h
      · exact Or.inl ⟨by kernel_rfl, by intro w hSw; (try dsimp only at hSw); go_simp; try with_reducible rfl⟩
      · assumption
      try go_simp
      refine wpAnyH_take (i := 5) (oi := ?_) (v := ?_) ?_ ?_ ?_ ?_ ?_ ?_ ?_ ?_
      rotate_left 2
      · simp only [List.getElem?_toArray, List.getElem?_cons_succ, List.getElem?_cons_zero]; rfl
      · kernel_rfl
      · kernel_rfl
      · kernel_rfl
      · exact fun _ _ _ h => h
      · exact Or.inl ⟨by kernel_rfl, by intro w hSw; (try dsimp only at hSw); go_simp; try with_reducible rfl⟩
      · assumption
      try go_simp
      refine wpAnyH_take (i := 6) (oi := ?_) (v := ?_) ?_ ?_ ?_ ?_ ?_ ?_ ?_ ?_
      rotate_left 2
      · simp only [List.getElem?_toArray, List.getElem?_cons_succ, List.getElem?_cons_zero]; rfl
      · kernel_rfl
      · kernel_rfl
      · kernel_rfl
      · exact fun _ _ _ h => h
      · exact Or.inl ⟨by kernel_rfl, by intro w hSw; (try dsimp only at hSw); go_simp; try with_reducible rfl⟩
      · assumption
      try go_simp
      refine wpAnyH_take (i := 7) (oi := ?_) (v := ?_) ?_ ?_ ?_ ?_ ?_ ?_ ?_ ?_
      rotate_left 2
      · simp only [List.getElem?_toArray, List.getElem?_cons_succ, List.getElem?_cons_zero]; rfl
      · kernel_rfl
      · kernel_rfl
      · kernel_rfl
      · exact fun _ _ _ h => h
      · exact Or.inl ⟨by kernel_rfl, by intro w hSw; (try dsimp only at hSw); go_simp; try with_reducible rfl⟩
      · assumption
      try go_simp
      refine wpAnyH_take (i := 8) (oi := ?_) (v := ?_) ?_ ?_ ?_ ?_ ?_ ?_ ?_ ?_
      rotate_left 2
      · simp only [List.getElem?_toArray, List.getElem?_cons_succ, List.getElem?_cons_zero]; rfl
      · kernel_rfl
      · kernel_rfl
      · kernel_rfl
      · exact fun _ _ _ h => h
      · exact Or.inl ⟨by kernel_rfl, by intro w hSw; (try dsimp only at hSw); go_simp; try with_reducible rfl⟩
      · assumption
      try go_simp
      refine wpAnyH_take (i := 9) (oi := ?_) (v := ?_) ?_ ?_ ?_ ?_ ?_ ?_ ?_ ?_
      rotate_left 2
      · simp only [List.getElem?_toArray, List.getElem?_cons_succ, List.getElem?_cons_zero]; rfl
      · kernel_rfl
      · kernel_rfl
      · kernel_rfl
      · exact fun _ _ _ h => h
      · exact Or.inl ⟨by kernel_rfl, by intro w hSw; (try dsimp only at hSw); go_simp; try with_reducible rfl⟩
      · assumption
      try go_simp
      refine wpAnyH_take (i := 10) (oi := ?_) (v := ?_) ?_ ?_ ?_ ?_ ?_ ?_ ?_ ?_
      rotate_left 2
      · simp only [List.getElem?_toArray, List.getElem?_cons_succ, List.getElem?_cons_zero]; rfl
      · kernel_rfl
      · kernel_rfl
      · kernel_rfl
      · exact fun _ _ _ h => h
      · exact Or.inl ⟨by kernel_rfl, by intro w hSw; (try dsimp only at hSw); go_simp; try with_reducible rfl⟩
      · assumption
      try go_simp
      refine wpAnyH_take (i := 11) (oi := ?_) (v := ?_) ?_ ?_ ?_ ?_ ?_ ?_ ?_ ?_
      rotate_left 2
      · simp only [List.getElem?_toArray, List.getElem?_cons_succ, List.getElem?_cons_zero]; rfl
      · kernel_rfl
      · kernel_rfl
      · kernel_rfl
      · exact fun _ _ _ h => h
      · exact Or.inl ⟨by kernel_rfl, by intro w hSw; (try dsimp only at hSw); go_simp; try with_reducible rfl⟩
      · assumption
      try go_simp
      refine wpAnyH_take (i := 12) (oi := ?_) (v := ?_) ?_ ?_ ?_ ?_ ?_ ?_ ?_ ?_
      rotate_left 2
      · simp only [List.getElem?_toArray, List.getElem?_cons_succ, List.getElem?_cons_zero]; rfl
      · kernel_rfl
      · kernel_rfl
      · kernel_rfl
      · exact fun _ _ _ h => h
      · exact Or.inl ⟨by kernel_rfl, by intro w hSw; (try dsimp only at hSw); go_simp; try with_reducible rfl⟩
      · assumption
      try go_simp
      refine wpAnyH_ready (rs := [13]) (by kernel_rfl) (by simp) ?_
      refine AllReadyH.cons (o := ?_) ?_ ?_ AllReadyH.nil
      rotate_left 1
      · simp only [List.getElem?_toArray, List.getElem?_cons_succ, List.getElem?_cons_zero]; rfl
      intro K hK
      go_simp
      refine (sadd4 (g := g) (g + 2) (by simp [ids4]) (y1, y2) w2.drew HZ2.out HS2.out hky hny).mono ?_
      rintro e w3 ⟨r3, rfl, hs3, hb3⟩
      rw [S4_2, S4_u2] at hs3
      have hB : Below w.heap.size w2.drew w3 := hb3.mono HWG.out
      have f31 : w3.cell? ⟨b, o + k * 2, none⟩ = some (.int .i64 x1) := (hB.cell (p := ⟨b, o + k * 2, none⟩) hbl).trans f21
      have f32 : w3.cell? ⟨b, o + k * 2 + 1, none⟩ = some (.int .u64 (x2 : Nat)) := (hB.cell (p := ⟨b, o + k * 2 + 1, none⟩) hbl).trans f22
      have HZ3 := Lib.hid (Nat.le_trans HZ2.out hb3.size)
      have HB3 := Lib.hid (HB2.out.trans (show Below w.heap.size w2 w3 from ⟨hB.os, hB.tape, hB.output, hB.size, hB.block⟩))
      have HS3 := Lib.hid hs3
      clear hs3 hb3 hB
      refine hK.out _ _ ?_ (fun hHeld => ?_)
      · exact ⟨f31, f32⟩
      clear hK K
      try go_simp
      refine wpAnyH_done (by kernel_rfl) ?_ _
      refine NoPanic.normal ?_
      go_wp2_with fail
      refine wp_region_noPanic ?_
      refine wp_region_held_drew (S := (fun w' => w'.cell? ⟨b, o + k * 2, none⟩ = some (.int .i64 x1) ∧ w'.cell? ⟨b, o + k * 2 + 1, none⟩ = some (.int .u64 (x2 : Nat)))) (by kernel_rfl) ⟨f31, f32⟩ (fun hHeld => ?_)
      refine wpAnyH_take (i := 0) (oi := ?_) (v := ?_) ?_ ?_ ?_ ?_ ?_ ?_ ?_ ?_
      rotate_left 2
      · simp only [List.getElem?_toArray, List.getElem?_cons_zero]; rfl
      · kernel_rfl
      · kernel_rfl
      · kernel_rfl
      · exact fun _ _ _ h => h
      · exact Or.inl ⟨by kernel_rfl, by intro w hSw; (try dsimp only at hSw); go_simp; try with_reducible rfl⟩
      · assumption
      try go_simp
      refine wpAnyH_take (i := 1) (oi := ?_) (v := ?_) ?_ ?_ ?_ ?_ ?_ ?_ ?_ ?_
      rotate_left 2
      · simp only [List.getElem?_toArray, List.getElem?_cons_succ, List.getElem?_cons_zero]; rfl
      · kernel_rfl
      · kernel_rfl
      · kernel_rfl
      · exact fun _ _ _ h => h
      · exact Or.inl ⟨by kernel_rfl, by intro w hSw; (try dsimp only at hSw); go_simp; try with_reducible rfl⟩
      · assumption
      try go_simp
      refine wpAnyH_take (i := 2) (oi := ?_) (v := ?_) ?_ ?_ ?_ ?_ ?_ ?_ ?_ ?_
      rotate_left 2
      · simp only [List.getElem?_toArray, List.getElem?_cons_succ, List.getElem?_cons_zero]; rfl
      · kernel_rfl
      · kernel_rfl
      · kernel_rfl
      · exact fun _ _ _ h => h
      · exact Or.inl ⟨by kernel_rfl, by intro w hSw; (try dsimp only at hSw); go_simp; try with_reducible rfl⟩
      · assumption
      try go_simp
      refine wpAnyH_take (i := 3) (oi := ?_) (v := ?_) ?_ ?_ ?_ ?_ ?_ ?_ ?_ ?_
      rotate_left 2
      · simp only [List.getElem?_toArray, List.getElem?_cons_succ, List.getElem?_cons_zero]; rfl
      · kernel_rfl
      · kernel_rfl
      · kernel_rfl
      · exact fun _ _ _ h => h
      · exact Or.inl ⟨by kernel_rfl, by intro w hSw; (try dsimp only at hSw); go_simp; try with_reducible rfl⟩
      · assumption
      try go_simp
      refine wpAnyH_take (i := 4) (oi := ?_) (v := ?_) ?_ ?_ ?_ ?_ ?_ ?_ ?_ ?_
      rotate_left 2
      · simp only [List.getElem?_toArray, List.getElem?_cons_succ, List.getElem?_cons_zero]; rfl
      · kernel_rfl
      · kernel_rfl
      · kernel_rfl
      · exact fun _ _ _ h => h
      · exact Or.inl ⟨by kernel_rfl, by intro w hSw; (try dsimp only at hSw); go_simp; try with_reducible rfl⟩
      · assumption
      try go_simp
      refine wpAnyH_take (i := 5) (oi := ?_) (v := ?_) ?_ ?_ ?_ ?_ ?_ ?_ ?_ ?_
      rotate_left 2
      · simp only [List.getElem?_toArray, List.getElem?_cons_succ, List.getElem?_cons_zero]; rfl
      · kernel_rfl
      · kernel_rfl
      · kernel_rfl
      · exact fun _ _ _ h => h
      · exact Or.inl ⟨by kernel_rfl, by intro w hSw; (try dsimp only at hSw); go_simp; try with_reducible rfl⟩
      · assumption
      try go_simp
      refine wpAnyH_take (i := 6) (oi := ?_) (v := ?_) ?_ ?_ ?_ ?_ ?_ ?_ ?_ ?_
      rotate_left 2
      · simp only [List.getElem?_toArray, List.getElem?_cons_succ, List.getElem?_cons_zero]; rfl
      · kernel_rfl
      · kernel_rfl
      · kernel_rfl
      · exact fun _ _ _ h => h
      · exact Or.inl ⟨by kernel_rfl, by intro w hSw; (try dsimp only at hSw); go_simp; try with_reducible rfl⟩
      · assumption
      try go_simp
      refine wpAnyH_take (i := 7) (oi := ?_) (v := ?_) ?_ ?_ ?_ ?_ ?_ ?_ ?_ ?_
      rotate_left 2
      · simp only [List.getElem?_toArray, List.getElem?_cons_succ, List.getElem?_cons_zero]; rfl
      · kernel_rfl
      · kernel_rfl
      · kernel_rfl
      · exact fun _ _ _ h => h
      · exact Or.inl ⟨by kernel_rfl, by intro w hSw; (try dsimp only at hSw); go_simp; try with_reducible rfl⟩
      · assumption
      try go_simp
      refine wpAnyH_take (i := 8) (oi := ?_) (v := ?_) ?_ ?_ ?_ ?_ ?_ ?_ ?_ ?_
      rotate_left 2
      · simp only [List.getElem?_toArray, List.getElem?_cons_succ, List.getElem?_cons_zero]; rfl
      · kernel_rfl
      · kernel_rfl
      · kernel_rfl
      · exact fun _ _ _ h => h
      · exact Or.inl ⟨by kernel_rfl, by intro w hSw; (try dsimp only at hSw); go_simp; try with_reducible rfl⟩
      · assumption
      try go_simp
      refine wpAnyH_take (i := 9) (oi := ?_) (v := ?_) ?_ ?_ ?_ ?_ ?_ ?_ ?_ ?_
      rotate_left 2
      · simp only [List.getElem?_toArray, List.getElem?_cons_succ, List.getElem?_cons_zero]; rfl
      · kernel_rfl
      · kernel_rfl
      · kernel_rfl
      · exact fun _ _ _ h => h
      · exact Or.inl ⟨by kernel_rfl, by intro w hSw; (try dsimp only at hSw); go_simp; try with_reducible rfl⟩
      · assumption
      try go_simp
      refine wpAnyH_take (i := 10) (oi := ?_) (v := ?_) ?_ ?_ ?_ ?_ ?_ ?_ ?_ ?_
      rotate_left 2
      · simp only [List.getElem?_toArray, List.getElem?_cons_succ, List.getElem?_cons_zero]; rfl
      · kernel_rfl
      · kernel_rfl
      · kernel_rfl
      · exact fun _ _ _ h => h
      · exact Or.inl ⟨by kernel_rfl, by intro w hSw; (try dsimp only at hSw); go_simp; try with_reducible rfl⟩
      · assumption
      try go_simp
      refine wpAnyH_take (i := 11) (oi := ?_) (v := ?_) ?_ ?_ ?_ ?_ ?_ ?_ ?_ ?_
      rotate_left 2
      · simp only [List.getElem?_toArray, List.getElem?_cons_succ, List.getElem?_cons_zero]; rfl
      · kernel_rfl
      · kernel_rfl
      · kernel_rfl
      · exact fun _ _ _ h => h
      · exact Or.inl ⟨by kernel_rfl, by intro w hSw; (try dsimp only at hSw); go_simp; try with_reducible rfl⟩
      · assumption
      try go_simp
      refine wpAnyH_take (i := 12) (oi := ?_) (v := ?_) ?_ ?_ ?_ ?_ ?_ ?_ ?_ ?_
      rotate_left 2
      · simp only [List.getElem?_toArray, List.getElem?_cons_succ, List.getElem?_cons_zero]; rfl
      · kernel_rfl
      · kernel_rfl
      · kernel_rfl
      · exact fun _ _ _ h => h
      · exact Or.inl ⟨by kernel_rfl, by intro w hSw; (try dsimp only at hSw); go_simp; try with_reducible rfl⟩
      · assumption
      try go_simp
      refine wpAnyH_ready (rs := [13]) (by kernel_rfl) (by simp) ?_
      refine AllReadyH.cons (o := ?_) ?_ ?_ AllReadyH.nil
      rotate_left 1
      · simp only [List.getElem?_toArray, List.getElem?_cons_succ, List.getElem?_cons_zero]; rfl
      intro K hK
      go_simp
      refine (sadd4 (g := g) (g + 3) (by simp [ids4]) (y1, y2) w3.drew HZ3.out HS3.out hky hny).mono ?_
      rintro e w4 ⟨r4, rfl, hs4, hb4⟩
      rw [S4_3] at hs4
      have hB : Below w.heap.size w3.drew w4 := hb4.mono HWG.out
      have f41 : w4.cell? ⟨b, o + k * 2, none⟩ = some (.int .i64 x1) := (hB.cell (p := ⟨b, o + k * 2, none⟩) hbl).trans f31
      have f42 : w4.cell? ⟨b, o + k * 2 + 1, none⟩ = some (.int .u64 (x2 : Nat)) := (hB.cell (p := ⟨b, o + k * 2 + 1, none⟩) hbl).trans f32
      have HZ4 := Lib.hid (Nat.le_trans HZ3.out hb4.size)
      have HB4 := Lib.hid (HB3.out.trans (show Below w.heap.size w3 w4 from ⟨hB.os, hB.tape, hB.output, hB.size, hB.block⟩))
      have HS4 := Lib.hid hs4
      replace HS4 := Lib.hid (S4_u3 HS4.out)
      clear hs4 hb4 hB
      refine hK.out _ _ ?_ (fun hHeld => ?_)
      · exact ⟨f41, f42⟩
      clear hK K
      try go_simp
      refine wpAnyH_done (by kernel_rfl) ?_ _
      refine NoPanic.normal ?_
      go_wp2_with fail
      go_roundw
      case rel => exact ⟨k + 1, HL.out, by go_num, by rw [HN.out]; exact HS4.out, HB4.out, HZ4.out⟩
      case measure => have h1 := HL.out; simp [intOf]; omega
    · obtain rfl : k = l.length := by omega
      have x1 : I.take l.length = I := by rw [← HIL.out, List.take_length]
      rw [x1] at hsts
      clear x1
      have HSA := Lib.hid hsts
      have HBA := Lib.hid hbel
      have HZA := Lib.hid hgw
      clear hsts hbel hgw
      go_wp2_with fail
      go_loopw [10] (fun i wr => ∃ k : Nat, k ≤ l'.length ∧ i = .int .i64 k ∧ Sts wr g (ids4 g) (S4 g (adds e0 I) (adds e0 (J.take k)) (adds e0 I) (adds (adds e0 I) (J.take k))) ∧ Below w.heap.size w wr ∧ g ≤ wr.heap.size) (fun i _ => l'.length - (intOf i).toNat)
      case atStart => exact ⟨0, Nat.zero_le _, rfl, HSA.out, HBA.out, HZA.out⟩
      case round =>
        obtain ⟨k, hk, rfl, hsts, hbel, hgw⟩ := hrel
        by_cases hlt : k < l'.length
        · obtain ⟨p, hp⟩ : ∃ p, l'[k]? = some p := ⟨l'[k], by simp [hlt]⟩
          obtain ⟨b, o, hA, hbl, c1, c2⟩ := prs_cells HP'.out hp
          subst hA
          have i1 : J[k]? = some (item5 p) := by rw [HJ.out]; exact map_get hp
          have o1 := HOK'.out p (List.mem_of_getElem? hp)
          have hkey := item_ok 100000 p
          have q0 : (item5 p).1 = p.1.tmod 4000 := rfl
          have q1 : (item5 p).2 = p.2 % 100000 := rfl
          have t1 := tmod_range p.1
          obtain ⟨y, hy⟩ : ∃ y, y = item5 p := ⟨_, rfl⟩
          rw [← hy] at i1 q0 q1
          obtain ⟨y1, y2⟩ := y
          obtain ⟨x1, x2⟩ := p
          simp only at c1 c2 t1 o1 q0 q1
          have hky : KeyOk (y1, y2) := by unfold KeyOk; simp only; omega
          have hny : ((y1, y2) : Pr).2 ≤ 100000 := by simp only; omega
          have hkk : (k : Int) < (l'.length : Int) := by omega
          have hk0 : (0 : Int) ≤ (k : Int) := by omega
          have m0 : x1.tmod 4000 = y1 := q0.symm
          have m1 : (x2 : Int).tmod 100000 = (y2 : Int) := by rw [Int.tmod_eq_emod_of_nonneg (by omega)]; omega
          have m2 : (x2 : Int) % 100000 = (y2 : Int) := by omega
          obtain ⟨o11, o12, o13⟩ := o1
          simp only at o11 o12 o13
          have f11 : wr.cell? ⟨b, o + k * 2, none⟩ = some (.int .i64 x1) := (hbel.cell (p := ⟨b, o + k * 2, none⟩) hbl).trans c1
          have f12 : wr.cell? ⟨b, o + k * 2 + 1, none⟩ = some (.int .u64 (x2 : Nat)) := (hbel.cell (p := ⟨b, o + k * 2 + 1, none⟩) hbl).trans c2
          have HL := Lib.hid hlt
          have HB1 := Lib.hid hbel
          have HZ1 := Lib.hid hgw
          have n1 := adds_take (s := e0) i1
          have n2 := adds_take (s := adds e0 I) i1
          have HS1 := Lib.hid hsts
          have HN := Lib.hid n1
          have HN2 := Lib.hid n2
          clear hk hp hlt hsts hbel c1 c2 hgw i1 n1 n2 q0 q1 hy hkey
          go_wp2_with fail
          refine wp_region_noPanic ?_
          refine wp_region_held_drew (S := (fun w' => w'.cell? ⟨b, o + k * 2, none⟩ = some (.int .i64 x1) ∧ w'.cell? ⟨b, o + k * 2 + 1, none⟩ = some (.int .u64 (x2 : Nat)))) (by kernel_rfl) ⟨f11, f12⟩ (fun hHeld => ?_)
          refine wpAnyH_take (i := 0) (oi := ?_) (v := ?_) ?_ ?_ ?_ ?_ ?_ ?_ ?_ ?_
          rotate_left 2
          · simp only [List.getElem?_toArray, List.getElem?_cons_zero]; rfl
          · kernel_rfl
          · kernel_rfl
          · kernel_rfl
          · exact fun _ _ _ h => h
          · exact Or.inl ⟨by kernel_rfl, by intro w hSw; (try dsimp only at hSw); go_simp; try with_reducible rfl⟩
          · assumption
          try go_simp
          refine wpAnyH_take (i := 1) (oi := ?_) (v := ?_) ?_ ?_ ?_ ?_ ?_ ?_ ?_ ?_
          rotate_left 2
          · simp only [List.getElem?_toArray, List.getElem?_cons_succ, List.getElem?_cons_zero]; rfl
          · kernel_rfl
          · kernel_rfl
          · kernel_rfl
          · exact fun _ _ _ h => h
          · exact Or.inl ⟨by kernel_rfl, by intro w hSw; (try dsimp only at hSw); go_simp; try with_reducible rfl⟩
          · assumption
          try go_simp
          refine wpAnyH_take (i := 2) (oi := ?_) (v := ?_) ?_ ?_ ?_ ?_ ?_ ?_ ?_ ?_
          rotate_left 2
          · simp only [List.getElem?_toArray, List.getElem?_cons_succ, List.getElem?_cons_zero]; rfl
          · kernel_rfl
          · kernel_rfl
          · kernel_rfl
          · exact fun _ _ _ h => h
          · exact Or.inl ⟨by kernel_rfl, by intro w hSw; (try dsimp only at hSw); go_simp; try with_reducible rfl⟩
          · assumption
          try go_simp
          refine wpAnyH_take (i := 3) (oi := ?_) (v := ?_) ?_ ?_ ?_ ?_ ?_ ?_ ?_ ?_
          rotate_left 2
          · simp only [List.getElem?_toArray, List.getElem?_cons_succ, List.getElem?_cons_zero]; rfl
          · kernel_rfl
          · kernel_rfl
          · kernel_rfl
          · exact fun _ _ _ h => h
          · exact Or.inl ⟨by kernel_rfl, by intro w hSw; (try dsimp only at hSw); go_simp; try with_reducible rfl⟩
          · assumption
          try go_simp
          refine wpAnyH_take (i := 4) (oi := ?_) (v := ?_) ?_ ?_ ?_ ?_ ?_ ?_ ?_ ?_
          rotate_left 2
          · simp only [List.getElem?_toArray, List.getElem?_cons_succ, List.getElem?_cons_zero]; rfl
          · kernel_rfl
          · kernel_rfl
          · kernel_rfl
          · exact fun _ _ _ h => h
          · exact Or.inl ⟨by kernel_rfl, by intro w hSw; (try dsimp only at hSw); go_simp; try with_reducible rfl⟩
          · assumption
          try go_simp
          refine wpAnyH_take (i := 5) (oi := ?_) (v := ?_) ?_ ?_ ?_ ?_ ?_ ?_ ?_ ?_
          rotate_left 2
          · simp only [List.getElem?_toArray, List.getElem?_cons_succ, List.getElem?_cons_zero]; rfl
          · kernel_rfl
          · kernel_rfl
          · kernel_rfl
          · exact fun _ _ _ h => h
          · exact Or.inl ⟨by kernel_rfl, by intro w hSw; (try dsimp only at hSw); go_simp; try with_reducible rfl⟩
          · assumption
          try go_simp
          refine wpAnyH_take (i := 6) (oi := ?_) (v := ?_) ?_ ?_ ?_ ?_ ?_ ?_ ?_ ?_
          rotate_left 2
          · simp only [List.getElem?_toArray, List.getElem?_cons_succ, List.getElem?_cons_zero]; rfl
          · kernel_rfl
          · kernel_rfl
          · kernel_rfl
          · exact fun _ _ _ h => h
          · exact Or.inl ⟨by kernel_rfl, by intro w hSw; (try dsimp only at hSw); go_simp; try with_reducible rfl⟩
          · assumption
          try go_simp
          refine wpAnyH_take (i := 7) (oi := ?_) (v := ?_) ?_ ?_ ?_ ?_ ?_ ?_ ?_ ?_
          rotate_left 2
          · simp only [List.getElem?_toArray, List.getElem?_cons_succ, List.getElem?_cons_zero]; rfl
          · kernel_rfl
          · kernel_rfl
          · kernel_rfl
          · exact fun _ _ _ h => h
          · exact Or.inl ⟨by kernel_rfl, by intro w hSw; (try dsimp only at hSw); go_simp; try with_reducible rfl⟩
          · assumption
          try go_simp
          refine wpAnyH_take (i := 8) (oi := ?_) (v := ?_) ?_ ?_ ?_ ?_ ?_ ?_ ?_ ?_
          rotate_left 2
          · simp only [List.getElem?_toArray, List.getElem?_cons_succ, List.getElem?_cons_zero]; rfl
          · kernel_rfl
          · kernel_rfl
          · kernel_rfl
          · exact fun _ _ _ h => h
          · exact Or.inl ⟨by kernel_rfl, by intro w hSw; (try dsimp only at hSw); go_simp; try with_reducible rfl⟩
          · assumption
          try go_simp
          refine wpAnyH_take (i := 9) (oi := ?_) (v := ?_) ?_ ?_ ?_ ?_ ?_ ?_ ?_ ?_
          rotate_left 2
          · simp only [List.getElem?_toArray, List.getElem?_cons_succ, List.getElem?_cons_zero]; rfl
          · kernel_rfl
          · kernel_rfl
          · kernel_rfl
          · exact fun _ _ _ h => h
          · exact Or.inl ⟨by kernel_rfl, by intro w hSw; (try dsimp only at hSw); go_simp; try with_reducible rfl⟩
          · assumption
          try go_simp
          refine wpAnyH_take (i := 10) (oi := ?_) (v := ?_) ?_ ?_ ?_ ?_ ?_ ?_ ?_ ?_
          rotate_left 2
          · simp only [List.getElem?_toArray, List.getElem?_cons_succ, List.getElem?_cons_zero]; rfl
          · kernel_rfl
          · kernel_rfl
          · kernel_rfl
          · exact fun _ _ _ h => h
          · exact Or.inl ⟨by kernel_rfl, by intro w hSw; (try dsimp only at hSw); go_simp; try with_reducible rfl⟩
          · assumption
          try go_simp
          refine wpAnyH_take (i := 11) (oi := ?_) (v := ?_) ?_ ?_ ?_ ?_ ?_ ?_ ?_ ?_
          rotate_left 2
          · simp only [List.getElem?_toArray, List.getElem?_cons_succ, List.getElem?_cons_zero]; rfl
          · kernel_rfl
          · kernel_rfl
          · kernel_rfl
          · exact fun _ _ _ h => h
          · exact Or.inl ⟨by kernel_rfl, by intro w hSw; (try dsimp only at hSw); go_simp; try with_reducible rfl⟩
          · assumption
          try go_simp
          refine wpAnyH_take (i := 12) (oi := ?_) (v := ?_) ?_ ?_ ?_ ?_ ?_ ?_ ?_ ?_
          rotate_left 2
          · simp only [List.getElem?_toArray, List.getElem?_cons_succ, List.getElem?_cons_zero]; rfl
          · kernel_rfl
          · kernel_rfl
          · kernel_rfl
          · exact fun _ _ _ h => h
          · exact Or.inl ⟨by kernel_rfl, by intro w hSw; (try dsimp only at hSw); go_simp; try with_reducible rfl⟩
          · assumption
          try go_simp
          refine wpAnyH_ready (rs := [13]) (by kernel_rfl) (by simp) ?_
          refine AllReadyH.cons (o := ?_) ?_ ?_ AllReadyH.nil
          rotate_left 1
          · simp only [List.getElem?_toArray, List.getElem?_cons_succ, List.getElem?_cons_zero]; rfl
          intro K hK
          go_simp
          refine (sadd4 (g := g) (g + 1) (by simp [ids4]) (y1, y2) wr.drew HZ1.out HS1.out hky hny).mono ?_
          rintro e w2 ⟨r2, rfl, hs2, hb2⟩
          rw [S4_1, S4_u1] at hs2
          have hB : Below w.heap.size wr.drew w2 := hb2.mono HWG.out
          have f21 : w2.cell? ⟨b, o + k * 2, none⟩ = some (.int .i64 x1) := (hB.cell (p := ⟨b, o + k * 2, none⟩) hbl).trans f11
          have f22 : w2.cell? ⟨b, o + k * 2 + 1, none⟩ = some (.int .u64 (x2 : Nat)) := (hB.cell (p := ⟨b, o + k * 2 + 1, none⟩) hbl).trans f12
          have HZ2 := Lib.hid (Nat.le_trans HZ1.out hb2.size)
          have HB2 := Lib.hid (HB1.out.trans (show Below w.heap.size wr w2 from ⟨hB.os, hB.tape, hB.output, hB.size, hB.block⟩))
          have HS2 := Lib.hid hs2
          clear hs2 hb2 hB
          refine hK.out _ _ ?_ (fun hHeld => ?_)
          · exact ⟨f21, f22⟩
          clear hK K
          try go_simp
          refine wpAnyH_done (by kernel_rfl) ?_ _
          refine NoPanic.normal ?_
          go_wp2_with fail
          refine wp_region_noPanic ?_
          refine wp_region_held_drew (S := (fun w' => w'.cell? ⟨b, o + k * 2, none⟩ = some (.int .i64 x1) ∧ w'.cell? ⟨b, o + k * 2 + 1, none⟩ = some (.int .u64 (x2 : Nat)))) (by kernel_rfl) ⟨f21, f22⟩ (fun hHeld => ?_)
          refine wpAnyH_take (i := 0) (oi := ?_) (v := ?_) ?_ ?_ ?_ ?_ ?_ ?_ ?_ ?_
          rotate_left 2
          · simp only [List.getElem?_toArray, List.getElem?_cons_zero]; rfl
          · kernel_rfl
          · kernel_rfl
          · kernel_rfl
          · exact fun _ _ _ h => h
          · exact Or.inl ⟨by kernel_rfl, by intro w hSw; (try dsimp only at hSw); go_simp; try with_reducible rfl⟩
          · assumption
          try go_simp
          refine wpAnyH_take (i := 1) (oi := ?_) (v := ?_) ?_ ?_ ?_ ?_ ?_ ?_ ?_ ?_
          rotate_left 2
          · simp only [List.getElem?_toArray, List.getElem?_cons_succ, List.getElem?_cons_zero]; rfl
          · kernel_rfl
          · kernel_rfl
          · kernel_rfl
          · exact fun _ _ _ h => h
          · exact Or.inl ⟨by kernel_rfl, by intro w hSw; (try dsimp only at hSw); go_simp; try with_reducible rfl⟩
          · assumption
          try go_simp
          refine wpAnyH_take (i := 2) (oi := ?_) (v := ?_) ?_ ?_ ?_ ?_ ?_ ?_ ?_ ?_
          rotate_left 2
          · simp only [List.getElem?_toArray, List.getElem?_cons_succ, List.getElem?_cons_zero]; rfl
          · kernel_rfl
          · kernel_rfl
          · kernel_rfl
          · exact fun _ _ _ h => h
          · exact Or.inl ⟨by kernel_rfl, by intro w hSw; (try dsimp only at hSw); go_simp; try with_reducible rfl⟩
          · assumption
          try go_simp
          refine wpAnyH_take (i := 3) (oi := ?_) (v := ?_) ?_ ?_ ?_ ?_ ?_ ?_ ?_ ?_
          rotate_left 2
          · simp only [List.getElem?_toArray, List.getElem?_cons_succ, List.getElem?_cons_zero]; rfl
          · kernel_rfl
          · kernel_rfl
          · kernel_rfl
          · exact fun _ _ _ h => h
          · exact Or.inl ⟨by kernel_rfl, by intro w hSw; (try dsimp only at hSw); go_simp; try with_reducible rfl⟩
          · assumption
          try go_simp
          refine wpAnyH_take (i := 4) (oi := ?_) (v := ?_) ?_ ?_ ?_ ?_ ?_ ?_ ?_ ?_
          rotate_left 2
          · simp only [List.getElem?_toArray, List.getElem?_cons_succ, List.getElem?_cons_zero]; rfl
          · kernel_rfl
          · kernel_rfl
          · kernel_rfl
          · exact fun _ _ _ h => h
          · exact Or.inl ⟨by kernel_rfl, by intro w hSw; (try dsimp only at hSw); go_simp; try with_reducible rfl⟩
          · assumption
          try go_simp
          refine wpAnyH_take (i := 5) (oi := ?_) (v := ?_) ?_ ?_ ?_ ?_ ?_ ?_ ?_ ?_
          rotate_left 2
          · simp only [List.getElem?_toArray, List.getElem?_cons_succ, List.getElem?_cons_zero]; rfl
          · kernel_rfl
          · kernel_rfl
          · kernel_rfl
          · exact fun _ _ _ h => h
          · exact Or.inl ⟨by kernel_rfl, by intro w hSw; (try dsimp only at hSw); go_simp; try with_reducible rfl⟩
          · assumption
          try go_simp
          refine wpAnyH_take (i := 6) (oi := ?_) (v := ?_) ?_ ?_ ?_ ?_ ?_ ?_ ?_ ?_
          rotate_left 2
          · simp only [List.getElem?_toArray, List.getElem?_cons_succ, List.getElem?_cons_zero]; rfl
          · kernel_rfl
          · kernel_rfl
          · kernel_rfl
          · exact fun _ _ _ h => h
          · exact Or.inl ⟨by kernel_rfl, by intro w hSw; (try dsimp only at hSw); go_simp; try with_reducible rfl⟩
          · assumption
          try go_simp
          refine wpAnyH_take (i := 7) (oi := ?_) (v := ?_) ?_ ?_ ?_ ?_ ?_ ?_ ?_ ?_
          rotate_left 2
          · simp only [List.getElem?_toArray, List.getElem?_cons_succ, List.getElem?_cons_zero]; rfl
          · kernel_rfl
          · kernel_rfl
          · kernel_rfl
          · exact fun _ _ _ h => h
          · exact Or.inl ⟨by kernel_rfl, by intro w hSw; (try dsimp only at hSw); go_simp; try with_reducible rfl⟩
          · assumption
          try go_simp
          refine wpAnyH_take (i := 8) (oi := ?_) (v := ?_) ?_ ?_ ?_ ?_ ?_ ?_ ?_ ?_
          rotate_left 2
          · simp only [List.getElem?_toArray, List.getElem?_cons_succ, List.getElem?_cons_zero]; rfl
          · kernel_rfl
          · kernel_rfl
          · kernel_rfl
          · exact fun _ _ _ h => h
          · exact Or.inl ⟨by kernel_rfl, by intro w hSw; (try dsimp only at hSw); go_simp; try with_reducible rfl⟩
          · assumption
          try go_simp
          refine wpAnyH_take (i := 9) (oi := ?_) (v := ?_) ?_ ?_ ?_ ?_ ?_ ?_ ?_ ?_
          rotate_left 2
          · simp only [List.getElem?_toArray, List.getElem?_cons_succ, List.getElem?_cons_zero]; rfl
          · kernel_rfl
          · kernel_rfl
          · kernel_rfl
          · exact fun _ _ _ h => h
          · exact Or.inl ⟨by kernel_rfl, by intro w hSw; (try dsimp only at hSw); go_simp; try with_reducible rfl⟩
          · assumption
          try go_simp
          refine wpAnyH_take (i := 10) (oi := ?_) (v := ?_) ?_ ?_ ?_ ?_ ?_ ?_ ?_ ?_
          rotate_left 2
          · simp only [List.getElem?_toArray, List.getElem?_cons_succ, List.getElem?_cons_zero]; rfl
          · kernel_rfl
          · kernel_rfl
          · kernel_rfl
          · exact fun _ _ _ h => h
          · exact Or.inl ⟨by kernel_rfl, by intro w hSw; (try dsimp only at hSw); go_simp; try with_reducible rfl⟩
          · assumption
          try go_simp
          refine wpAnyH_take (i := 11) (oi := ?_) (v := ?_) ?_ ?_ ?_ ?_ ?_ ?_ ?_ ?_
          rotate_left 2
          · simp only [List.getElem?_toArray, List.getElem?_cons_succ, List.getElem?_cons_zero]; rfl
          · kernel_rfl
          · kernel_rfl
          · kernel_rfl
          · exact fun _ _ _ h => h
          · exact Or.inl ⟨by kernel_rfl, by intro w hSw; (try dsimp only at hSw); go_simp; try with_reducible rfl⟩
          · assumption
          try go_simp
          refine wpAnyH_take (i := 12) (oi := ?_) (v := ?_) ?_ ?_ ?_ ?_ ?_ ?_ ?_ ?_
          rotate_left 2
          · simp only [List.getElem?_toArray, List.getElem?_cons_succ, List.getElem?_cons_zero]; rfl
          · kernel_rfl
          · kernel_rfl
          · kernel_rfl
          · exact fun _ _ _ h => h
          · exact Or.inl ⟨by kernel_rfl, by intro w hSw; (try dsimp only at hSw); go_simp; try with_reducible rfl⟩
          · assumption
          try go_simp
          refine wpAnyH_ready (rs := [13]) (by kernel_rfl) (by simp) ?_
          refine AllReadyH.cons (o := ?_) ?_ ?_ AllReadyH.nil
          rotate_left 1
          · simp only [List.getElem?_toArray, List.getElem?_cons_succ, List.getElem?_cons_zero]; rfl
          intro K hK
          go_simp
          refine (sadd4 (g := g) (g + 3) (by simp [ids4]) (y1, y2) w2.drew HZ2.out HS2.out hky hny).mono ?_
          rintro e w3 ⟨r3, rfl, hs3, hb3⟩
          rw [S4_3] at hs3
          have hB : Below w.heap.size w2.drew w3 := hb3.mono HWG.out
          have f31 : w3.cell? ⟨b, o + k * 2, none⟩ = some (.int .i64 x1) := (hB.cell (p := ⟨b, o + k * 2, none⟩) hbl).trans f21
          have f32 : w3.cell? ⟨b, o + k * 2 + 1, none⟩ = some (.int .u64 (x2 : Nat)) := (hB.cell (p := ⟨b, o + k * 2 + 1, none⟩) hbl).trans f22
          have HZ3 := Lib.hid (Nat.le_trans HZ2.out hb3.size)
          have HB3 := Lib.hid (HB2.out.trans (show Below w.heap.size w2 w3 from ⟨hB.os, hB.tape, hB.output, hB.size, hB.block⟩))
          have HS3 := Lib.hid hs3
          replace HS3 := Lib.hid (S4_u3 HS3.out)
          clear hs3 hb3 hB
          refine hK.out _ _ ?_ (fun hHeld => ?_)
          · exact ⟨f31, f32⟩
          clear hK K
          try go_simp
          refine wpAnyH_done (by kernel_rfl) ?_ _
          refine NoPanic.normal ?_
          go_wp2_with fail
          go_roundw
          case rel => exact ⟨k + 1, HL.out, by go_num, by rw [HN.out, HN2.out]; exact HS3.out, HB3.out, HZ3.out⟩
          case measure => have h1 := HL.out; simp [intOf]; omega
        · obtain rfl : k = l'.length := by omega
          have x1 : J.take l'.length = J := by rw [← HJL.out, List.take_length]
          rw [x1, ← adds_app] at hsts
          clear x1
          have it := HIT.out
          have jt := HJT.out
          obtain ⟨a1, a2, a3⟩ := adds0_tight HIK.out (by omega)
          obtain ⟨b1, b2, b3⟩ := adds0_tight HJK.out (by omega)
          obtain ⟨v1, v2, v3⟩ := adds0_tight (L := I ++ J) (fun q hq => (List.mem_append.1 hq).elim (HIK.out q) (HJK.out q)) (by rw [tot_append]; omega)
          have ai : InvS (adds e0 I) := by have := hsts.inv (g := g) (by simp [ids4]); rwa [S4_0] at this
          have bi : InvS (adds e0 J) := by have := hsts.inv (g := g + 1) (by simp [ids4]); rwa [S4_1] at this
          have vi : InvS (adds e0 (I ++ J)) := by have := hsts.inv (g := g + 3) (by simp [ids4]); rwa [S4_3] at this
          obtain ⟨t1, t2, t3⟩ := take_tight a1 b1 bi (by omega)
          obtain ⟨u1, u2, u3⟩ := take_tight b1 a1 ai (by omega)
          have k1 := tkc_tight a1 b1 (by omega)
          have k2 := tkc_tight b1 a1 (by omega)
          have p1 : prs (takeS (adds e0 I) (adds e0 J)).1 (takeS (adds e0 I) (adds e0 J)).2.1 = prs (adds e0 (I ++ J)).1 (adds e0 (I ++ J)).2.1 := prs_same fun j => by rw [t3, a3, b3, v3, sumk_append]
          have p2 : prs (takeS (adds e0 J) (adds e0 I)).1 (takeS (adds e0 J) (adds e0 I)).2.1 = prs (adds e0 (I ++ J)).1 (adds e0 (I ++ J)).2.1 := prs_same fun j => by rw [u3, a3, b3, v3, sumk_append]; omega
          have hml : ∀ s : St, InvS s → (prs s.1 s.2.1).length ≤ maxLen := fun s hs => by
            have h1 := prs_len (f := s.1) (l := s.2.1)
            have h2 := hs.len
            unfold maxLen; omega
          have r1 := hml _ bi
          have r2 := hml _ vi
          generalize adds e0 (I ++ J) = V at *
          generalize adds e0 I = a at *
          generalize adds e0 J = b at *
          generalize hts : takeS a b = s1 at *
          generalize htt : takeS b a = s2 at *
          have HWA := fun W h => spairs_t (ids := ids4 g) (S := S4 g a b a V) (base := g) (g + 1) W h (by simp [ids4])
          have HT1 := fun W hb h => stake2_t (ids := ids4 g) (S := S4 g a b a V) (base := g) g (g + 1) W hb h (by simp [ids4]) (by simp [ids4])
          have HPT := fun W h => spairs_t (ids := ids4 g) (S := S4 g s1 b a V) (base := g) (g + 1) W h (by simp [ids4])
          have HT2 := fun W hb h => stake2_t (ids := ids4 g) (S := S4 g s1 b a V) (base := g) (g + 1) (g + 2) W hb h (by simp [ids4]) (by simp [ids4])
          have HP1 := fun W h => spairs_t (ids := ids4 g) (S := S4 g s1 s2 a V) (base := g) g W h (by simp [ids4])
          have HP2 := fun W h => spairs_t (ids := ids4 g) (S := S4 g s1 s2 a V) (base := g) (g + 1) W h (by simp [ids4])
          have HP3 := fun W h => spairs_t (ids := ids4 g) (S := S4 g s1 s2 a V) (base := g) (g + 3) W h (by simp [ids4])
          simp only [S4_0, S4_1, S4_2, S4_3, S4_u0, S4_u1] at HWA HT1 HPT HT2 HP1 HP2 HP3
          rw [k1, hts] at HT1
          rw [k2, htt] at HT2
          rw [p1] at HP1
          rw [p2] at HP2
          generalize prs V.1 V.2.1 = R at *
          generalize prs b.1 b.2.1 = Q at *
          have R1 := Lib.hid r1
          have R2 := Lib.hid r2
          have HS := Lib.hid hsts
          have HB := Lib.hid hbel
          have HZ := Lib.hid hgw
          replace HWA := Lib.hid HWA
          replace HT1 := Lib.hid HT1
          replace HPT := Lib.hid HPT
          replace HT2 := Lib.hid HT2
          replace HP1 := Lib.hid HP1
          replace HP2 := Lib.hid HP2
          replace HP3 := Lib.hid HP3
          clear hts htt k1 k2 p1 p2 hml r1 r2 a1 a2 a3 b1 b2 b3 v1 v2 v3 t1 t2 t3 u1 u2 u3 ai bi vi hsts hbel hgw it jt
          go_wp2_with fail
          refine (HWA.out _ HS.out).mono ?_
          rintro e w2 ⟨A2, c2, rfl, ho2, hb2⟩
          have HB2 := Lib.hid (nextB HB.out hb2)
          have HS2 := Lib.hid (HS.out.below hb2)
          have HZ2 := Lib.hid (Nat.le_trans HZ.out hb2.size)
          have HO2 := Lib.hid ho2
          clear ho2 hb2
          go_wp2_with fail
          refine (HT1.out _ HZ2.out HS2.out).mono ?_
          rintro e w3 ⟨rfl, hs3, hb3, ht3⟩
          have ho3 : OwnP w3 wr.heap.size A2 c2 Q := by
            obtain ⟨Ag, cg, hg⟩ := HS2.out.get (g := g) (by simp [ids4])
            exact HO2.out.turned hg.1 ht3
          have HO3 := Lib.hid ho3
          have HB3 := Lib.hid (HB2.out.trans (hb3.mono HWG.out))
          have HS3 := Lib.hid hs3
          have HZ3 := Lib.hid (Nat.le_trans HZ2.out hb3.size)
          clear hs3 hb3 ht3 ho3
          go_wp2_with fail
          refine (HPT.out _ HS3.out).mono ?_
          rintro e w4 ⟨A4, c4, rfl, ho4, hb4⟩
          have HB4 := Lib.hid (nextB HB3.out hb4)
          have HS4 := Lib.hid (HS3.out.below hb4)
          have HZ4 := Lib.hid (Nat.le_trans HZ3.out hb4.size)
          have HW4 := Lib.hid (HO3.out.reads.at_below hb4)
          have HR4 := Lib.hid ho4.reads
          clear ho4 hb4
          go_wp2_with fail
          refine (same13_t A4 A2 c4 c2 _ _ Q _ HR4.out HW4.out R1.out).mono ?_
          rintro e w5 ⟨rfl, n5, rfl⟩
          have HB5 := Lib.hid (below_drewN HB4.out n5)
          have HS5 := Lib.hid (HS4.out.drewN n5)
          have HZ5 : Hid (g ≤ (w4.drewN n5).heap.size) := Lib.hid HZ4.out
          go_wp2_with fail
          refine (HT2.out _ HZ5.out HS5.out).mono ?_
          rintro e w6 ⟨rfl, hs6, hb6, ht6⟩
          have HB6 := Lib.hid (HB5.out.trans (hb6.mono HWG.out))
          have HS6 := Lib.hid hs6
          have HZ6 := Lib.hid (Nat.le_trans HZ5.out hb6.size)
          clear hs6 hb6 ht6
          go_wp2_with fail
          refine (HP1.out _ HS6.out).mono ?_
          rintro e w7 ⟨A7, c7, rfl, ho7, hb7⟩
          have HB7 := Lib.hid (nextB HB6.out hb7)
          have HS7 := Lib.hid (HS6.out.below hb7)
          have HZ7 := Lib.hid (Nat.le_trans HZ6.out hb7.size)
          have HR7 := Lib.hid ho7.reads
          clear ho7 hb7
          go_wp2_with fail
          refine (HP2.out _ HS7.out).mono ?_
          rintro e w8 ⟨A8, c8, rfl, ho8, hb8⟩
          have HB8 := Lib.hid (nextB HB7.out hb8)
          have HS8 := Lib.hid (HS7.out.below hb8)
          have HZ8 := Lib.hid (Nat.le_trans HZ7.out hb8.size)
          have HR78 := Lib.hid (HR7.out.at_below hb8)
          have HR8 := Lib.hid ho8.reads
          clear ho8 hb8
          go_wp2_with fail
          refine (same13_t A7 A8 c7 c8 _ _ R _ HR78.out HR8.out R2.out).mono ?_
          rintro e w9 ⟨rfl, n9, rfl⟩
          have HB9 := Lib.hid (below_drewN HB8.out n9)
          have HS9 := Lib.hid (HS8.out.drewN n9)
          have HZ9 : Hid (g ≤ (w8.drewN n9).heap.size) := Lib.hid HZ8.out
          go_wp2_with fail
          refine (HP1.out _ HS9.out).mono ?_
          rintro e w10 ⟨A10, c10, rfl, ho10, hb10⟩
          have HB10 := Lib.hid (nextB HB9.out hb10)
          have HS10 := Lib.hid (HS9.out.below hb10)
          have HZ10 := Lib.hid (Nat.le_trans HZ9.out hb10.size)
          have HR10 := Lib.hid ho10.reads
          clear ho10 hb10
          go_wp2_with fail
          refine (HP3.out _ HS10.out).mono ?_
          rintro e w11 ⟨A11, c11, rfl, ho11, hb11⟩
          have HB11 := Lib.hid (nextB HB10.out hb11)
          have HS11 := Lib.hid (HS10.out.below hb11)
          have HZ11 := Lib.hid (Nat.le_trans HZ10.out hb11.size)
          have HR1011 := Lib.hid (HR10.out.at_below hb11)
          have HR11 := Lib.hid ho11.reads
          clear ho11 hb11
          go_wp2_with fail
          refine (same13_t A10 A11 c10 c11 _ _ R _ HR1011.out HR11.out R2.out).mono ?_
          rintro e w12 ⟨rfl, n12, rfl⟩
          go_wp2_with fail
          go_ret
          exact ⟨rfl, below_drewN HB11.out n12⟩
end Go.Proofs.Ytknimekfkkihpaa
