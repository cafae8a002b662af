/- Reading a sketch, walked. -/
import Derived.Test.YtbfhiegbgkkgiaaGreatC25
import Derived.Test.YtbfhiegbgkkgiaaGreatC22
namespace Go.Proofs.YtbfhiegbgkkgiaaGreat
open Go.RowKit
open Pl
open Sc
open Wi
theorem rd_held {w W : World} {v : Value} {z : Int} (h : RdS w W v z) : W.cell? ⟨w.heap.size + 1, 0, none⟩ = some (.int .i64 z) ∧ RdS w W v z := ⟨by rw [h.e.cell]; rfl, h⟩
theorem leaves_tmps {P : Program} {fn : Func} {t1 t2 : Array Value} {R : Ending → World → Prop} (h : ∀ w, (results fn t1).run P w = (results fn t2).run P w) : ∀ (ds : List Deferred) (u : FrameMode) (w : World), Leaves P fn t1 R ds u w → Leaves P fn t2 R ds u w
  | [], .returning, w, hh => by
    obtain ⟨v, h1, h2⟩ := hh
    exact ⟨v, by rw [← h]; exact h1, h2⟩
  | [], .panicking _, _, hh => hh
  | [], .run, _, hh => hh
  | d :: ds, u, w, hh => by
    obtain ⟨hu, fv, cap, f, args, h1, h2, h3⟩ := hh
    refine ⟨hu, fv, cap, f, args, h1, h2, h3.mono ?_⟩
    intro e u' w' hq
    cases e with
    | returned v => exact leaves_tmps h ds _ _ hq
    | panicked c => exact leaves_tmps h ds _ _ hq
    | outgrown => exact hq
theorem rd_put {k : Nat} (hk : 3 < k) {v : Value} {R : Ending → World → Prop} {c : List PanicEntry} {a : Act} {w : World} (h : bodyPostD Tryz.prog Tryz.f9 R (.panic c) (a.put (some k) v) w) : bodyPostD Tryz.prog Tryz.f9 R (.panic c) a w := by
  refine leaves_tmps (t1 := (a.put (some k) v).tmps) (fun W => ?_) _ _ _ h
  have e2 : (a.put (some k) v).tmps.getD 2 undef = a.tmps.getD 2 undef := by
    simp only [Act.put, Array.getD_eq_getD_getElem?]
    rw [Array.getElem?_setIfInBounds_ne (by omega)]
  have e3 : (a.put (some k) v).tmps.getD 3 undef = a.tmps.getD 3 undef := by
    simp only [Act.put, Array.getD_eq_getD_getElem?]
    rw [Array.getElem?_setIfInBounds_ne (by omega)]
  simp only [results, Tryz.results9]
  simp only [Array.getD_eq_getD_getElem?] at e2 e3
  simp [e2, e3]
def ReadPost (w : World) (r : Option (Nat × Nat × List Pr × Nat)) (e : Ending) (w' : World) : Prop := match r with
  | none => e = .returned (.tuple #[.pointer none, .int .i64 9]) ∧ Below w.heap.size w w'
  | some (a, m, L, f) => ∃ p q As cs g gl A c, e = .returned (.tuple #[.pointer (some ⟨p, 0, none⟩), .int .i64 0]) ∧ Skt w' p q As cs a g gl A c (m : Int) (allOf L f) ∧ Below w.heap.size w w'
def ReadPostG (w : World) (r : Option (Nat × Nat × List Pr × Nat)) (e : Ending) (w' : World) : Prop := match r with
  | none => e = .returned (.tuple #[.pointer none, .int .i64 9]) ∧ Below w.heap.size w w'
  | some (a, m, L, f) => ∃ p q As cs g gl A c, e = .returned (.tuple #[.pointer (some ⟨p, 0, none⟩), .int .i64 0]) ∧ Skt w' p q As cs a g gl A c (m : Int) (allOf L f) ∧ Below w.heap.size w w' ∧ w.heap.size ≤ g ∧ w.heap.size ≤ gl
/-- While Read goes on: its results, its reader, and the reader's struct. -/
structure RdM (w W : World) (base g : Nat) (A : Option Addr) (c : Nat) (l : List UInt8) (NR p : Nat) : Prop where
  rs : RdS w W (.pointer none) 0
  rd : Rdr W base g A c l p
  nr : Blk W NR 72 #[nextV g]
  hg : w.heap.size ≤ g
theorem RdM.num {w W W' : World} {base g : Nat} {A : Option Addr} {c : Nat} {l : List UInt8} {NR p p' : Nat} (h : RdM w W base g A c l NR p) (hr : Rdr W' base g A c l p') (k : Only (RK g) W W') : RdM w W' base g A c l NR p' :=
  ⟨h.rs.step h.rd h.hg k, hr, h.nr.only k (fun e => Blk.ne h.nr h.rd.1 (by decide) e), h.hg⟩
theorem RdM.drew {w W : World} {base g : Nat} {A : Option Addr} {c : Nat} {l : List UInt8} {NR p : Nat} (h : RdM w W base g A c l NR p) : RdM w W.drew base g A c l NR p :=
  ⟨⟨h.rs.s, h.rs.e, h.rs.below.drew⟩, h.rd, h.nr, h.hg⟩
theorem RdM.z {w W : World} {base g : Nat} {A : Option Addr} {c : Nat} {l : List UInt8} {NR p : Nat} (h : RdM w W base g A c l NR p) : W.cell? ⟨NR, 0, none⟩ = some (.func (Fn.func 32) #[.pointer (some ⟨g, 0, none⟩)] #[]) := by rw [h.nr.cell]; rfl
set_option maxHeartbeats 3200000 in
set_option maxRecDepth 100000 in
theorem read_g (A : Option Addr) (c : Nat) (l : List UInt8) (w : World) (hb : Bts w w.heap.size A l) (hl : l.length ≤ 100000000) :
    Calls Tryz.prog 9 #[.slice A l.length c] w (ReadPostG w (readF l)) := by
  have HNEW := Lib.hid (fun W (hb : Bts W W.heap.size A l) => new_t A c l W hb hl)
  have HNUM := Lib.hid (fun W base g A c p lo hi (h : Rdr W base g A c l p) (hp : p ≤ l.length) => num_t base g A c l p lo hi W h hp hl)
  have HB := Lib.hid hb
  have HL := Lib.hid hl
  have hmf : ∀ (fn : Fn) (first cap : Array Value) (w : World), (Instr.makeFunc fn first cap).run Tryz.prog w = .ok (.func fn first cap) w := fun _ _ _ _ => rfl
  obtain ⟨R, hR⟩ : ∃ R, R = readF l := ⟨_, rfl⟩
  rw [← hR]
  have HR := Lib.hid hR
  clear hb hl hR
  go_enter_defers Tryz.func9, Tryz.ntmps9
  go_wp2_with fail
  have s0 : RdS w ((w.alloc (.cells #[.pointer none] 26)).alloc (.cells #[.int .i64 0] 30)) (.pointer none) 0 := by
    have h1 := Blk.new w 26 #[.pointer none]
    have h2 := Blk.new (w.alloc (.cells #[.pointer none] 26)) 30 #[.int .i64 0]
    simp only [World.size_alloc] at h2
    exact ⟨h1.alloc _, h2, ((Below.refl _ _).alloc (Nat.le_refl _) _).alloc (by simp) _⟩
  refine (HNEW.out _ (HB.out.at_below s0.below)).mono ?_
  rintro e w2 ⟨g, A2, c2, rfl, hg, r2, b2⟩
  have S2 := Lib.hid (s0.next b2)
  have R2 := Lib.hid r2
  have HG : Hid (w.heap.size ≤ g) := Lib.hid (Nat.le_trans s0.below.size hg)
  clear s0 b2 r2 hg
  generalize ((w.alloc (.cells #[.pointer none] 26)).alloc (.cells #[.int .i64 0] 30)) = W0 at *
  go_wp2_with fail
  have hb3 : Below w2.heap.size w2 (w2.alloc (.cells #[nextV g] 72)) := (Below.refl _ _).alloc (Nat.le_refl _) _
  obtain ⟨NR, hNR⟩ : ∃ NR, NR = w2.heap.size := ⟨_, rfl⟩
  have M3 : Hid (RdM w (w2.alloc (.cells #[nextV g] 72)) W0.heap.size g A2 c2 l NR 0) := Lib.hid ⟨S2.out.next hb3, R2.out.below hb3, by rw [hNR]; exact Blk.new _ _ _, HG.out⟩
  have z3 := M3.out.z
  rw [← hNR]
  clear hb3 S2 R2 hNR
  unfold nextV at *
  generalize w2.alloc (.cells #[.func (Fn.func 32) #[.pointer (some ⟨g, 0, none⟩)] #[]] 72) = W3 at *
  obtain ⟨r1, hr1⟩ : ∃ r, r = numF 100 5000 l 0 := ⟨_, rfl⟩
  have HN1 := Lib.hid (fun W (h : Rdr W W0.heap.size g A2 c2 l 0) => HNUM.out W W0.heap.size g A2 c2 0 100 5000 h (Nat.zero_le _))
  rw [← hr1] at HN1
  have HR1 := Lib.hid hr1
  cases r1 with
  | none =>
    have hRe : R = none := by rw [HR.out]; unfold readF; rw [← hr1]
    subst hRe
    clear hr1
    refine wp_region_held_drew (S := (fun W => W.cell? ⟨NR, 0, none⟩ = some (.func (Fn.func 32) #[.pointer (some ⟨g, 0, none⟩)] #[]))) (by kernel_rfl) z3 (fun hHeld => ?_)
    refine wpAnyH_take (i := 0) (oi := ?_) (v := ?_) ?_ ?_ ?_ ?_ ?_ ?_ ?_ ?_
    rotate_left 2
    · simp only [List.getElem?_toArray, List.getElem?_cons_zero]; rfl
    · kernel_rfl
    · kernel_rfl
    · kernel_rfl
    · exact fun _ _ _ h => rd_put (by decide) h
    · exact Or.inl ⟨by kernel_rfl, by intro w hSw; (try dsimp only at hSw); go_simp; try with_reducible rfl⟩
    · assumption
    try go_simp
    refine wpAnyH_take (i := 3) (oi := ?_) (v := ?_) ?_ ?_ ?_ ?_ ?_ ?_ ?_ ?_
    rotate_left 2
    · simp only [List.getElem?_toArray, List.getElem?_cons_succ, List.getElem?_cons_zero]; rfl
    · kernel_rfl
    · kernel_rfl
    · kernel_rfl
    · exact fun _ _ _ h => rd_put (by decide) h
    · exact Or.inl ⟨by kernel_rfl, by intro w hSw; (try dsimp only at hSw); go_simp; try with_reducible rfl⟩
    · assumption
    try go_simp
    refine wpAnyH_ready (rs := [1]) (by kernel_rfl) (by simp) ?_
    refine AllReadyH.cons (o := ?_) ?_ ?_ AllReadyH.nil
    rotate_left 1
    · simp only [List.getElem?_toArray, List.getElem?_cons_succ, List.getElem?_cons_zero]; rfl
    intro K hK
    go_simp
    refine (HN1.out _ M3.out.drew.rd).mono ?_
    rintro e w4 ⟨rfl, k4⟩
    exact rd_gone (M3.out.drew.num (M3.out.drew.rd) (Only.refl _ _) |>.rs.step M3.out.drew.rd M3.out.hg k4) _ rfl rfl _ (fun W' hW => ⟨rfl, hW⟩)
  | some r1 =>
    obtain ⟨a, p1⟩ := r1
    obtain ⟨ha0, ha1, _, hp1⟩ := numF_some hr1.symm (Nat.zero_le _)
    have ha' : (a : Int) ≤ 5000 := by omega
    have HA := Lib.hid (And.intro ha0 (And.intro ha1 hp1))
    obtain ⟨r2, hr2⟩ : ∃ r, r = numF 2 4096 l p1 := ⟨_, rfl⟩
    have HN2 := Lib.hid (fun W (h : Rdr W W0.heap.size g A2 c2 l p1) => HNUM.out W W0.heap.size g A2 c2 p1 2 4096 h HA.out.2.2)
    rw [← hr2] at HN2
    have HR2 := Lib.hid hr2
    clear ha0 ha1 hp1 hr1
    cases r2 with
    | none =>
      have hRe : R = none := by rw [HR.out]; unfold readF; rw [← HR1.out]; dsimp only; rw [← hr2]
      subst hRe
      clear hr2
      refine wp_region_held_drew (S := (fun W => W.cell? ⟨NR, 0, none⟩ = some (.func (Fn.func 32) #[.pointer (some ⟨g, 0, none⟩)] #[]))) (by kernel_rfl) z3 (fun hHeld => ?_)
      refine wpAnyH_take (i := 0) (oi := ?_) (v := ?_) ?_ ?_ ?_ ?_ ?_ ?_ ?_ ?_
      rotate_left 2
      · simp only [List.getElem?_toArray, List.getElem?_cons_zero]; rfl
      · kernel_rfl
      · kernel_rfl
      · kernel_rfl
      · exact fun _ _ _ h => rd_put (by decide) h
      · exact Or.inl ⟨by kernel_rfl, by intro w hSw; (try dsimp only at hSw); go_simp; try with_reducible rfl⟩
      · assumption
      try go_simp
      refine wpAnyH_take (i := 3) (oi := ?_) (v := ?_) ?_ ?_ ?_ ?_ ?_ ?_ ?_ ?_
      rotate_left 2
      · simp only [List.getElem?_toArray, List.getElem?_cons_succ, List.getElem?_cons_zero]; rfl
      · kernel_rfl
      · kernel_rfl
      · kernel_rfl
      · exact fun _ _ _ h => rd_put (by decide) h
      · exact Or.inl ⟨by kernel_rfl, by intro w hSw; (try dsimp only at hSw); go_simp; try with_reducible rfl⟩
      · assumption
      try go_simp
      refine wpAnyH_ready (rs := [1]) (by kernel_rfl) (by simp) ?_
      refine AllReadyH.cons (o := ?_) ?_ ?_ AllReadyH.nil
      rotate_left 1
      · simp only [List.getElem?_toArray, List.getElem?_cons_succ, List.getElem?_cons_zero]; rfl
      intro K hK
      go_simp
      refine (HN1.out _ M3.out.drew.rd).mono ?_
      rintro e w4 ⟨rfl, r4, k4⟩
      have M4 := Lib.hid (M3.out.drew.num r4 k4)
      clear r4 k4
      refine hK.out _ _ ?_ (fun hHeld => ?_)
      · exact M4.out.z
      clear hK K
      try go_simp
      refine wpAnyH_take (i := 2) (oi := ?_) (v := ?_) ?_ ?_ ?_ ?_ ?_ ?_ ?_ ?_
      rotate_left 2
      · simp only [List.getElem?_toArray, List.getElem?_cons_succ, List.getElem?_cons_zero]; rfl
      · kernel_rfl
      · kernel_rfl
      · kernel_rfl
      · exact fun _ _ _ h => rd_put (by decide) h
      · exact Or.inl ⟨by kernel_rfl, by intro w hSw; (try dsimp only at hSw); go_simp; try with_reducible rfl⟩
      · assumption
      try go_simp
      refine wpAnyH_ready (rs := [4]) (by kernel_rfl) (by simp) ?_
      refine AllReadyH.cons (o := ?_) ?_ ?_ AllReadyH.nil
      rotate_left 1
      · simp only [List.getElem?_toArray, List.getElem?_cons_succ, List.getElem?_cons_zero]; rfl
      intro K hK
      go_simp
      refine (HN2.out _ M4.out.rd).mono ?_
      rintro e w5 ⟨rfl, k5⟩
      exact rd_gone (M4.out.rs.step M4.out.rd M4.out.hg k5) _ rfl rfl _ (fun W' hW => ⟨rfl, hW⟩)
    | some r2 =>
      obtain ⟨m, p2⟩ := r2
      obtain ⟨hm0, hm1, _, hp2⟩ := numF_some hr2.symm HA.out.2.2
      have hm' : (m : Int) ≤ 4096 := by omega
      have HM := Lib.hid (And.intro hm0 (And.intro hm1 hp2))
      have hwa : IntKind.i64.wrap (a : Int) = (a : Int) := IntWalk.i64_in _ ⟨by omega, by omega⟩
      have hwm : IntKind.i64.wrap (m : Int) = (m : Int) := IntWalk.i64_in _ ⟨by omega, by omega⟩
      clear hm0 hm1 hp2 hr2
      refine wp_region_held_drew (S := (fun W => W.cell? ⟨NR, 0, none⟩ = some (.func (Fn.func 32) #[.pointer (some ⟨g, 0, none⟩)] #[]))) (by kernel_rfl) z3 (fun hHeld => ?_)
      refine wpAnyH_take (i := 0) (oi := ?_) (v := ?_) ?_ ?_ ?_ ?_ ?_ ?_ ?_ ?_
      rotate_left 2
      · simp only [List.getElem?_toArray, List.getElem?_cons_zero]; rfl
      · kernel_rfl
      · kernel_rfl
      · kernel_rfl
      · exact fun _ _ _ h => rd_put (by decide) h
      · exact Or.inl ⟨by kernel_rfl, by intro w hSw; (try dsimp only at hSw); go_simp; try with_reducible rfl⟩
      · assumption
      try go_simp
      refine wpAnyH_take (i := 3) (oi := ?_) (v := ?_) ?_ ?_ ?_ ?_ ?_ ?_ ?_ ?_
      rotate_left 2
      · simp only [List.getElem?_toArray, List.getElem?_cons_succ, List.getElem?_cons_zero]; rfl
      · kernel_rfl
      · kernel_rfl
      · kernel_rfl
      · exact fun _ _ _ h => rd_put (by decide) h
      · exact Or.inl ⟨by kernel_rfl, by intro w hSw; (try dsimp only at hSw); go_simp; try with_reducible rfl⟩
      · assumption
      try go_simp
      refine wpAnyH_ready (rs := [1]) (by kernel_rfl) (by simp) ?_
      refine AllReadyH.cons (o := ?_) ?_ ?_ AllReadyH.nil
      rotate_left 1
      · simp only [List.getElem?_toArray, List.getElem?_cons_succ, List.getElem?_cons_zero]; rfl
      intro K hK
      go_simp
      refine (HN1.out _ M3.out.drew.rd).mono ?_
      rintro e w4 ⟨rfl, r4, k4⟩
      have M4 := Lib.hid (M3.out.drew.num r4 k4)
      clear r4 k4
      refine hK.out _ _ ?_ (fun hHeld => ?_)
      · exact M4.out.z
      clear hK K
      try go_simp
      refine wpAnyH_take (i := 2) (oi := ?_) (v := ?_) ?_ ?_ ?_ ?_ ?_ ?_ ?_ ?_
      rotate_left 2
      · simp only [List.getElem?_toArray, List.getElem?_cons_succ, List.getElem?_cons_zero]; rfl
      · kernel_rfl
      · kernel_rfl
      · kernel_rfl
      · exact fun _ _ _ h => rd_put (by decide) h
      · exact Or.inl ⟨by kernel_rfl, by intro w hSw; (try dsimp only at hSw); go_simp; try with_reducible rfl⟩
      · assumption
      try go_simp
      refine wpAnyH_ready (rs := [4]) (by kernel_rfl) (by simp) ?_
      refine AllReadyH.cons (o := ?_) ?_ ?_ AllReadyH.nil
      rotate_left 1
      · simp only [List.getElem?_toArray, List.getElem?_cons_succ, List.getElem?_cons_zero]; rfl
      intro K hK
      go_simp
      refine (HN2.out _ M4.out.rd).mono ?_
      rintro e w5 ⟨rfl, r5, k5⟩
      have M5 := Lib.hid (M4.out.num r5 k5)
      clear r5 k5
      refine hK.out _ _ ?_ (fun hHeld => ?_)
      · exact M5.out.z
      clear hK K
      try go_simp
      refine wpAnyH_take (i := 5) (oi := ?_) (v := ?_) ?_ ?_ ?_ ?_ ?_ ?_ ?_ ?_
      rotate_left 2
      · simp only [List.getElem?_toArray, List.getElem?_cons_succ, List.getElem?_cons_zero]; rfl
      · kernel_rfl
      · kernel_rfl
      · kernel_rfl
      · exact fun _ _ _ h => rd_put (by decide) h
      · exact Or.inl ⟨by kernel_rfl, by intro w hSw; (try dsimp only at hSw); go_simp; try with_reducible rfl⟩
      · assumption
      try go_simp
      refine wpAnyH_take (i := 6) (oi := ?_) (v := ?_) ?_ ?_ ?_ ?_ ?_ ?_ ?_ ?_
      rotate_left 2
      · simp only [List.getElem?_toArray, List.getElem?_cons_succ, List.getElem?_cons_zero]; rfl
      · kernel_rfl
      · kernel_rfl
      · kernel_rfl
      · exact fun _ _ _ h => rd_put (by decide) h
      · exact Or.inl ⟨by kernel_rfl, by intro w hSw; (try dsimp only at hSw); go_simp; try with_reducible rfl⟩
      · assumption
      try go_simp
      refine wpAnyH_take (i := 7) (oi := ?_) (v := ?_) ?_ ?_ ?_ ?_ ?_ ?_ ?_ ?_
      rotate_left 2
      · simp only [List.getElem?_toArray, List.getElem?_cons_succ, List.getElem?_cons_zero]; rfl
      · kernel_rfl
      · kernel_rfl
      · kernel_rfl
      · exact fun _ _ _ h => rd_put (by decide) h
      · exact Or.inl ⟨by kernel_rfl, by intro w hSw; (try dsimp only at hSw); go_simp; try with_reducible rfl⟩
      · assumption
      try go_simp
      refine wpAnyH_done (by kernel_rfl) ?_ _
      clear hHeld
      have z5 := M5.out.z
      obtain ⟨r3, hr3⟩ : ∃ r, r = numF 0 m l p2 := ⟨_, rfl⟩
      have HN3 := Lib.hid (fun W (h : Rdr W W0.heap.size g A2 c2 l p2) => HNUM.out W W0.heap.size g A2 c2 p2 0 m h HM.out.2.2)
      rw [← hr3] at HN3
      have HR3 := Lib.hid hr3
      clear hr3
      go_wp2_with fail
      refine (HN3.out _ M5.out.rd).mono ?_
      cases r3 with
      | none =>
        have hRe : R = none := by rw [HR.out]; unfold readF; rw [← HR1.out]; dsimp only; rw [← HR2.out]; dsimp only; rw [← HR3.out]
        subst hRe
        rintro e w6 ⟨rfl, k6⟩
        exact rd_gone (M5.out.rs.step M5.out.rd M5.out.hg k6) _ rfl rfl _ (fun W' hW => ⟨rfl, hW⟩)
      | some r3 =>
        obtain ⟨n, p3⟩ := r3
        obtain ⟨_, hn1, _, hp3⟩ := numF_some HR3.out.symm HM.out.2.2
        have hn4 : n ≤ 4096 := Nat.le_trans hn1 HM.out.2.1
        have hn' : (n : Int) ≤ 4096 := by omega
        have HN := Lib.hid (And.intro hn1 (And.intro hn4 hp3))
        have hwn : IntKind.i64.wrap (n : Int) = (n : Int) := IntWalk.i64_in _ ⟨by omega, by omega⟩
        clear hn1 hn4 hp3
        rintro e w6 ⟨rfl, r6, k6⟩
        have M6 := Lib.hid (M5.out.num r6 k6)
        have z6 := M6.out.z
        clear r6 k6 z5
        obtain ⟨r4, hr4⟩ : ∃ r, r = numF 0 4611686018427387904 l p3 := ⟨_, rfl⟩
        have HN4 := Lib.hid (fun W (h : Rdr W W0.heap.size g A2 c2 l p3) => HNUM.out W W0.heap.size g A2 c2 p3 0 4611686018427387904 h HN.out.2.2)
        rw [← hr4] at HN4
        have HR4 := Lib.hid hr4
        clear hr4
        go_wp2_with fail
        refine (HN4.out _ M6.out.rd).mono ?_
        cases r4 with
        | none =>
          have hRe : R = none := by rw [HR.out]; unfold readF; rw [← HR1.out]; dsimp only; rw [← HR2.out]; dsimp only; rw [← HR3.out]; dsimp only; rw [← HR4.out]
          subst hRe
          rintro e w7 ⟨rfl, k7⟩
          exact rd_gone (M6.out.rs.step M6.out.rd M6.out.hg k7) _ rfl rfl _ (fun W' hW => ⟨rfl, hW⟩)
        | some r4 =>
          obtain ⟨f, p4⟩ := r4
          obtain ⟨_, hf1, _, hp4⟩ := numF_some HR4.out.symm HN.out.2.2
          have HF := Lib.hid (And.intro hf1 hp4)
          clear hf1 hp4
          rintro e w7 ⟨rfl, r7, k7⟩
          have M7 := Lib.hid (M6.out.num r7 k7)
          have z7 := M7.out.z
          clear r7 k7 z6
          obtain ⟨r5, hr5⟩ : ∃ r, r = pairsF n none l p4 := ⟨_, rfl⟩
          have HPR := Lib.hid (fun W (h : Rdr W W0.heap.size g A2 c2 l p4) => pairs_rd W0.heap.size g A2 c2 l p4 n W h HF.out.2 HL.out HN.out.2.1)
          rw [← hr5] at HPR
          have HR5 := Lib.hid hr5
          clear hr5
          go_wp2_with fail
          refine (HPR.out _ M7.out.rd).mono ?_
          cases r5 with
          | none =>
            have hRe : R = none := by rw [HR.out]; unfold readF; rw [← HR1.out]; dsimp only; rw [← HR2.out]; dsimp only; rw [← HR3.out]; dsimp only; rw [← HR4.out]; dsimp only; rw [← HR5.out]
            subst hRe
            rintro e w8 ⟨rfl, k8⟩
            exact rd_gone (M7.out.rs.step M7.out.rd M7.out.hg k8) _ rfl rfl _ (fun W' hW => ⟨rfl, hW⟩)
          | some r5 =>
            obtain ⟨LP, p5⟩ := r5
            rintro e w8 ⟨A8, c8, rfl, o8, r8, k8⟩
            have M8 := Lib.hid (M7.out.num r8 k8)
            have O8 := Lib.hid o8
            clear r8 k8 o8 z7
            obtain ⟨q1, q2, q3, q4, _⟩ := pairsF_facts n none l p4 LP p5 HR5.out.symm HF.out.2
            obtain ⟨k, hk⟩ : ∃ k, p5 + k = l.length := ⟨l.length - p5, by omega⟩
            have HQ := Lib.hid (And.intro q1 (And.intro q2 (And.intro q3 q4)))
            have HK := Lib.hid hk
            have HLT := Lib.hid (fun W (h : Rdr W W0.heap.size g A2 c2 l p5) => left_t W0.heap.size g A2 c2 l p5 k W h HK.out HL.out)
            have hkl : (k : Int) ≤ 100000000 := by have := HL.out; omega
            clear q1 q2 q3 q4 hk
            go_wp2_with fail
            refine (HLT.out _ M8.out.rd).mono ?_
            rintro e w9 ⟨rfl, qq, hw9⟩
            have M9 : Hid (RdS w w9 (.pointer none) 0) := Lib.hid (by rw [hw9]; exact ⟨M8.out.rs.s, M8.out.rs.e, below_drewN M8.out.rs.below _⟩)
            have B9 : Hid (Below w8.heap.size w8 w9) := Lib.hid (by rw [hw9]; exact below_drewN (Below.refl _ _) _)
            clear hw9
            by_cases hk0 : k = 0
            · have hp5 : p5 = l.length := by have := HK.out; omega
              have HP5 := Lib.hid hp5
              have hkp : decide ((0 : Int) < (k : Int)) = false := by simp; omega
              have hkp2 : decide (0 < k) = false := by simp; omega
              have HLD := Lib.hid (fun W (h : Prs W W.heap.size A8 LP) => dload_t a m A8 c8 LP f W h HA.out.1 HA.out.2.1 HM.out.1 HM.out.2.1 HQ.out.2.2.1 HQ.out.2.2.2 (by have h1 := HQ.out.2.1; have h2 := HN.out.1; omega))
              have HRY : Hid (Keeps a m LP f → docW a m LP f = l → R = some (a, m, LP, f)) := Lib.hid (fun h1 h2 => by
                rw [HR.out]; unfold readF; rw [← HR1.out]; dsimp only; rw [← HR2.out]; dsimp only; rw [← HR3.out]; dsimp only; rw [← HR4.out]; dsimp only; rw [← HR5.out]; dsimp only
                rw [if_pos ⟨HP5.out, h1, h2⟩])
              have HRX : Hid (¬ (Keeps a m LP f ∧ docW a m LP f = l) → R = none) := Lib.hid (fun hn => by
                rw [HR.out]; unfold readF; rw [← HR1.out]; dsimp only; rw [← HR2.out]; dsimp only; rw [← HR3.out]; dsimp only; rw [← HR4.out]; dsimp only; rw [← HR5.out]; dsimp only
                rw [if_neg (fun hh => hn hh.2)])
              clear hk0 hp5
              go_wp2_with fail
              refine (HLD.out _ ((OwnP.reads O8.out).at_below B9.out)).mono ?_
              rintro e w10 (⟨hke, ⟨p, q, As, cs, gg, gl, AA, cc, rfl, hpp, hgg, hgl, sk⟩, b10⟩ | ⟨hnk, rfl, b10⟩)
              · have m10 := M9.out.next b10
                have x1 : w10.cell? ⟨w.heap.size, 0, none⟩ = some (.pointer none) := by rw [m10.s.cell]; rfl
                have x2 := m10.s.free 0
                have he1 := m10.e.far (p := ⟨w.heap.size, 0, none⟩) (by simp) (.pointer (some ⟨p, 0, none⟩))
                have x3 : (w10.setCell ⟨w.heap.size, 0, none⟩ (.pointer (some ⟨p, 0, none⟩))).cell? ⟨w.heap.size + 1, 0, none⟩ = some (.int .i64 0) := by rw [he1.cell]; rfl
                have x4 := he1.free 0
                have HGG : Hid (w.heap.size ≤ gg ∧ w.heap.size ≤ gl) := Lib.hid ⟨Nat.le_trans M9.out.below.size hgg, Nat.le_trans M9.out.below.size hgl⟩
                have HKE := Lib.hid hke
                have SK := Lib.hid sk
                have M10 := Lib.hid m10
                clear hke sk m10 b10 hpp hgg hgl he1
                go_wp2_with fail
                have he1 := M10.out.e.far (p := ⟨w.heap.size, 0, none⟩) (by simp) (.pointer (some ⟨p, 0, none⟩))
                have sk1 := (SK.out.set M10.out.s (by decide) (by decide) (by decide) (by decide) (by decide) (by decide) 0 (.pointer (some ⟨p, 0, none⟩))).set he1 (by decide) (by decide) (by decide) (by decide) (by decide) (by decide) 0 (.int .i64 0)
                have m11 : RdS w ((w10.setCell ⟨w.heap.size, 0, none⟩ (.pointer (some ⟨p, 0, none⟩))).setCell ⟨w.heap.size + 1, 0, none⟩ (.int .i64 0)) (.pointer (some ⟨p, 0, none⟩)) 0 := ⟨(M10.out.s.put 0 (.pointer (some ⟨p, 0, none⟩))).far (p := ⟨w.heap.size + 1, 0, none⟩) (by simp) _, he1.put 0 _, (M10.out.below.setCell (by simp) _).setCell (by simp) _⟩
                refine (write_sk sk1 HA.out.2.1 HM.out.1 HM.out.2.1 HKE.out HQ.out.2.2.1 HQ.out.2.2.2 (by have h1 := HQ.out.2.1; have h2 := HN.out.1; omega)).mono ?_
                rintro e w12 ⟨A9, c9, rfl, o9, b12⟩
                have M12 := Lib.hid (m11.next b12)
                have SK12 := Lib.hid (sk1.below b12)
                have O9 := Lib.hid o9
                clear he1 sk1 m11 o9 x1 x2 x3 x4
                have y1 : w12.cell? ⟨w.heap.size + 1, 0, none⟩ = some (.int .i64 0) := by rw [M12.out.e.cell]; rfl
                have y2 := M12.out.e.free 0
                have he3 := M12.out.e.put 0 (.int .i64 0)
                have y3 : (w12.setCell ⟨w.heap.size + 1, 0, none⟩ (.int .i64 0)).cell? ⟨w.heap.size + 1, 0, none⟩ = some (.int .i64 0) := by rw [he3.cell]; rfl
                have m13 : RdS w (w12.setCell ⟨w.heap.size + 1, 0, none⟩ (.int .i64 0)) (.pointer (some ⟨p, 0, none⟩)) 0 := ⟨M12.out.s.far (p := ⟨w.heap.size + 1, 0, none⟩) (by simp) _, he3, M12.out.below.setCell (by simp) _⟩
                have bA : Bts (w12.setCell ⟨w.heap.size + 1, 0, none⟩ (.int .i64 0)) (w12.setCell ⟨w.heap.size + 1, 0, none⟩ (.int .i64 0)).heap.size A l := HB.out.at_below m13.below
                have M13 := Lib.hid m13
                have BA := Lib.hid bA
                have o13 : OwnB (w12.setCell ⟨w.heap.size + 1, 0, none⟩ (.int .i64 0)) _ A9 c9 (docW a m LP f) := Own.setOther O9.out (p := ⟨w.heap.size + 1, 0, none⟩) (Own.ne_blk O9.out M12.out.e (by decide)) _
                have SK13 := Lib.hid (SK12.out.set M12.out.e (by decide) (by decide) (by decide) (by decide) (by decide) (by decide) 0 (.int .i64 0))
                have O13 := Lib.hid (OwnB.reads o13)
                clear he3 m13 bA b12 o13
                go_wp2_with fail
                refine (equal_t A9 A c9 c (docW a m LP f) l _ O13.out BA.out HL.out).mono ?_
                rintro e w14 ⟨rfl, qe, hw14⟩
                have M14 : Hid (RdS w w14 (.pointer (some ⟨p, 0, none⟩)) 0) := Lib.hid (by rw [hw14]; exact M13.out.next (below_drewN (Below.refl _ _) _))
                have SK14 : Hid (Skt w14 p q As cs a gg gl AA cc (m : Int) (allOf LP f)) := Lib.hid (by rw [hw14]; exact SK13.out.below (below_drewN (Below.refl _ _) _))
                clear hw14 y1 y2 y3
                have x1 : w14.cell? ⟨w.heap.size, 0, none⟩ = some (.pointer (some ⟨p, 0, none⟩)) := by rw [M14.out.s.cell]; rfl
                have x2 := M14.out.s.free 0
                by_cases hd : docW a m LP f = l
                · have hb : (docW a m LP f == l) = true := by rw [hd]; simp
                  rw [hb]
                  have hRe := HRY.out HKE.out hd
                  subst hRe
                  have he1 := M14.out.e.far (p := ⟨w.heap.size, 0, none⟩) (by simp) (.pointer (some ⟨p, 0, none⟩))
                  have x3 : (w14.setCell ⟨w.heap.size, 0, none⟩ (.pointer (some ⟨p, 0, none⟩))).cell? ⟨w.heap.size + 1, 0, none⟩ = some (.int .i64 0) := by rw [he1.cell]; rfl
                  have x4 := he1.free 0
                  have M15 : Hid (RdS w ((w14.setCell ⟨w.heap.size, 0, none⟩ (.pointer (some ⟨p, 0, none⟩))).setCell ⟨w.heap.size + 1, 0, none⟩ (.int .i64 0)) (.pointer (some ⟨p, 0, none⟩)) 0) := Lib.hid ⟨(M14.out.s.put 0 (.pointer (some ⟨p, 0, none⟩))).far (p := ⟨w.heap.size + 1, 0, none⟩) (by simp) _, he1.put 0 _, (M14.out.below.setCell (by simp) _).setCell (by simp) _⟩
                  have SK15 := Lib.hid ((SK14.out.set M14.out.s (by decide) (by decide) (by decide) (by decide) (by decide) (by decide) 0 (.pointer (some ⟨p, 0, none⟩))).set he1 (by decide) (by decide) (by decide) (by decide) (by decide) (by decide) 0 (.int .i64 0))
                  clear hd hb he1
                  go_wp2_with fail
                  exact rd_back M15.out _ rfl rfl _ ⟨p, q, As, cs, gg, gl, AA, cc, rfl, SK15.out, M15.out.below, HGG.out.1, HGG.out.2⟩
                · have hb : (docW a m LP f == l) = false := by simpa using hd
                  rw [hb]
                  have hRe := HRX.out (fun hh => hd hh.2)
                  subst hRe
                  have he1 := M14.out.e.far (p := ⟨w.heap.size, 0, none⟩) (by simp) (.pointer none)
                  have x3 : (w14.setCell ⟨w.heap.size, 0, none⟩ (.pointer none)).cell? ⟨w.heap.size + 1, 0, none⟩ = some (.int .i64 0) := by rw [he1.cell]; rfl
                  have x4 := he1.free 0
                  have M15 : Hid (RdS w ((w14.setCell ⟨w.heap.size, 0, none⟩ (.pointer none)).setCell ⟨w.heap.size + 1, 0, none⟩ (.int .i64 9)) (.pointer none) 9) := Lib.hid ⟨(M14.out.s.put 0 (.pointer none)).far (p := ⟨w.heap.size + 1, 0, none⟩) (by simp) _, he1.put 0 _, (M14.out.below.setCell (by simp) _).setCell (by simp) _⟩
                  clear hd hb he1
                  go_wp2_with fail
                  exact rd_no M15.out (by decide) _ rfl rfl _ (fun W' hW => ⟨rfl, hW⟩)
              · have hRe := HRX.out (fun hh => hnk hh.1)
                subst hRe
                have m10 := M9.out.next b10
                have x1 : w10.cell? ⟨w.heap.size, 0, none⟩ = some (.pointer none) := by rw [m10.s.cell]; rfl
                have x2 := m10.s.free 0
                have he1 := m10.e.far (p := ⟨w.heap.size, 0, none⟩) (by simp) (.pointer none)
                have x3 : (w10.setCell ⟨w.heap.size, 0, none⟩ (.pointer none)).cell? ⟨w.heap.size + 1, 0, none⟩ = some (.int .i64 0) := by rw [he1.cell]; rfl
                have x4 := he1.free 0
                have m11 : RdS w ((w10.setCell ⟨w.heap.size, 0, none⟩ (.pointer none)).setCell ⟨w.heap.size + 1, 0, none⟩ (.int .i64 1)) (.pointer none) 1 := ⟨(m10.s.put 0 (.pointer none)).far (p := ⟨w.heap.size + 1, 0, none⟩) (by simp) _, he1.put 0 _, (m10.below.setCell (by simp) _).setCell (by simp) _⟩
                have x5 : ((w10.setCell ⟨w.heap.size, 0, none⟩ (.pointer none)).setCell ⟨w.heap.size + 1, 0, none⟩ (.int .i64 1)).cell? ⟨w.heap.size + 1, 0, none⟩ = some (.int .i64 1) := by rw [m11.e.cell]; rfl
                have M11 := Lib.hid m11
                clear m10 he1 m11 hnk b10
                go_wp2_with fail
                refine wp_region_noPanic ?_
                refine wp_region_held_drew (S := (fun W => W.cell? ⟨w.heap.size + 1, 0, none⟩ = some (.int .i64 1) ∧ RdS w W (.pointer none) 1)) (by kernel_rfl) ⟨x5, ⟨M11.out.s, M11.out.e, M11.out.below.drew⟩⟩ (fun hHeld => ?_)
                refine wpAnyH_take (i := 0) (oi := ?_) (v := ?_) ?_ ?_ ?_ ?_ ?_ ?_ ?_ ?_
                rotate_left 2
                · simp only [List.getElem?_toArray, List.getElem?_cons_zero]; rfl
                · kernel_rfl
                · kernel_rfl
                · kernel_rfl
                · exact fun _ _ _ h => h
                · exact Or.inl ⟨by kernel_rfl, by intro w hSw; (try dsimp only at hSw); go_simp; try with_reducible rfl⟩
                · assumption
                try go_simp
                refine wpAnyH_ready (rs := [1]) (by kernel_rfl) (by simp) ?_
                refine AllReadyH.cons (o := ?_) ?_ ?_ AllReadyH.nil
                rotate_left 1
                · simp only [List.getElem?_toArray, List.getElem?_cons_succ, List.getElem?_cons_zero]; rfl
                intro K hK
                have q1 := hHeld.2.s.cell 0
                have q2 := hHeld.2.s.free 0
                simp only [List.getElem?_toArray, List.getElem?_cons_zero] at q1
                go_simp
                refine hK.out _ _ ?_ (fun hHeld => ?_)
                · have hq := hHeld.2.e.far (p := ⟨w.heap.size, 0, none⟩) (by simp) (.pointer none); exact rd_held ⟨hHeld.2.s.put 0 _, hq, hHeld.2.below.setCell (by simp) _⟩
                clear hK K q1 q2
                try go_simp
                refine wpAnyH_ready (rs := [2]) (by kernel_rfl) (by simp) ?_
                refine AllReadyH.cons (o := ?_) ?_ ?_ AllReadyH.nil
                rotate_left 1
                · simp only [List.getElem?_toArray, List.getElem?_cons_succ, List.getElem?_cons_zero]; rfl
                intro K hK
                have q1 := hHeld.2.e.cell 0
                have q2 := hHeld.2.e.free 0
                simp only [List.getElem?_toArray, List.getElem?_cons_zero] at q1
                go_simp
                refine hK.out _ _ ?_ (fun hHeld => ?_)
                · have hq := hHeld.2.e.put 0 (.int .i64 1); exact rd_held ⟨hHeld.2.s.far (p := ⟨w.heap.size + 1, 0, none⟩) (by simp) _, hq, hHeld.2.below.setCell (by simp) _⟩
                clear hK K q1 q2
                try go_simp
                refine wpAnyH_done (by kernel_rfl) ?_ _
                refine NoPanic.normal ?_
                go_wp2_with fail
                exact rd_no hHeld.2 (by decide) _ rfl rfl _ (fun W' hW => ⟨rfl, hW⟩)
            · have hRe : R = none := by
                rw [HR.out]; unfold readF; rw [← HR1.out]; dsimp only; rw [← HR2.out]; dsimp only; rw [← HR3.out]; dsimp only; rw [← HR4.out]; dsimp only; rw [← HR5.out]; dsimp only
                rw [if_neg (fun hh => hk0 (by have := HK.out; omega))]
              subst hRe
              have hkp : decide ((0 : Int) < (k : Int)) = true := by simp; omega
              have hkp2 : decide (0 < k) = true := by simp; omega
              have x1 : w9.cell? ⟨w.heap.size, 0, none⟩ = some (.pointer none) := by rw [M9.out.s.cell]; rfl
              have x2 := M9.out.s.free 0
              have he1 := M9.out.e.far (p := ⟨w.heap.size, 0, none⟩) (by simp) (.pointer none)
              have x3 : (w9.setCell ⟨w.heap.size, 0, none⟩ (.pointer none)).cell? ⟨w.heap.size + 1, 0, none⟩ = some (.int .i64 0) := by rw [he1.cell]; rfl
              have x4 := he1.free 0
              have M10 : Hid (RdS w ((w9.setCell ⟨w.heap.size, 0, none⟩ (.pointer none)).setCell ⟨w.heap.size + 1, 0, none⟩ (.int .i64 9)) (.pointer none) 9) := Lib.hid ⟨(M9.out.s.put 0 (.pointer none)).far (p := ⟨w.heap.size + 1, 0, none⟩) (by simp) _, he1.put 0 _, (M9.out.below.setCell (by simp) _).setCell (by simp) _⟩
              clear hk0 he1
              go_wp2_with fail
              exact rd_no M10.out (by decide) _ rfl rfl _ (fun W' hW => ⟨rfl, hW⟩)
theorem read_t (A : Option Addr) (c : Nat) (l : List UInt8) (w : World) (hb : Bts w w.heap.size A l) (hl : l.length ≤ 100000000) :
    Calls Tryz.prog 9 #[.slice A l.length c] w (ReadPost w (readF l)) := by
  refine (read_g A c l w hb hl).mono ?_
  intro e w' h
  cases hr : readF l with
  | none => rw [hr] at h; exact h
  | some r =>
    rw [hr] at h
    obtain ⟨a, m, L, f⟩ := r
    obtain ⟨p, q, As, cs, g, gl, A2, c2, h1, h2, h3, _, _⟩ := h
    exact ⟨p, q, As, cs, g, gl, A2, c2, h1, h2, h3⟩
end Go.Proofs.YtbfhiegbgkkgiaaGreat
/- What is written of a sketch is read as it was, plain. -/

namespace Go.Proofs.YtbfhiegbgkkgiaaGreat
open Go.RowKit
open Pl
open Sc
open Wi
theorem numF_app (pre rest : List UInt8) {lo hi n : Nat} (h1 : lo ≤ n) (h2 : n ≤ hi) (h3 : n < 18446744073709551616) : numF lo hi (pre ++ (leb n ++ rest)) pre.length = some (n, (pre ++ leb n).length) := by
  have hd := dleb_back 9 0 0 n rfl (by omega) (by unfold room; omega) (by omega) rest
  unfold numF
  rw [List.drop_left, hd]
  dsimp only
  rw [if_pos ⟨rfl, by omega, by omega⟩, List.length_append]
  simp
theorem sg_zk {k : Int} (h0 : -1048576 ≤ k) (h1 : k ≤ 1048576) : sg (zk k) = k := by unfold sg zk; split <;> omega
theorem keyF_none_app (pre rest : List UInt8) {k : Int} (h0 : -1048576 ≤ k) (h1 : k ≤ 1048576) : keyF none (pre ++ (dkey none k ++ rest)) pre.length = some (k, (pre ++ dkey none k).length) := by
  have hz := zk_lt k
  have hs := sign_lt hz
  have hd := dleb_back 9 0 0 (sign (zk k)) rfl (by omega) (by unfold room; omega) (by omega) rest
  rw [Nat.zero_add, Nat.zero_add, Nat.pow_zero, Nat.mul_one] at hd
  unfold keyF
  dsimp only
  rw [List.drop_left]
  unfold dkey dzig
  rw [hd]
  dsimp only
  rw [unsign_sign hz, sg_zk h0 h1, if_pos ⟨rfl, h0, h1⟩, List.length_append]
theorem keyF_some_app (pre rest : List UInt8) {q k : Int} (hq : -1048576 ≤ q) (h0 : q < k) (h1 : k ≤ 1048576) : keyF (some q) (pre ++ (dkey (some q) k ++ rest)) pre.length = some (k, (pre ++ dkey (some q) k).length) := by
  unfold keyF dkey
  dsimp only
  rw [numF_app pre rest (Nat.zero_le _) (by omega) (by omega)]
  dsimp only
  rw [show q + 1 + (((k - q - 1).toNat : Nat) : Int) = k by omega]
theorem pairF_app (pre rest : List UInt8) {pv : Option Int} {x : Pr} (hq : ∀ q, pv = some q → -1048576 ≤ q ∧ q < x.1) (h0 : -1048576 ≤ x.1) (h1 : x.1 ≤ 1048576) (h2 : 0 < x.2) (h3 : x.2 ≤ 4611686018427387904) : pairF pv (pre ++ (dkey pv x.1 ++ (leb x.2 ++ rest))) pre.length = some (x, (pre ++ (dkey pv x.1 ++ leb x.2)).length) := by
  have hk : keyF pv (pre ++ (dkey pv x.1 ++ (leb x.2 ++ rest))) pre.length = some (x.1, (pre ++ dkey pv x.1).length) := by
    cases pv with
    | none => exact keyF_none_app pre _ h0 h1
    | some q => exact keyF_some_app pre _ (hq q rfl).1 (hq q rfl).2 h1
  unfold pairF
  rw [hk]
  dsimp only
  rw [← List.append_assoc, numF_app (pre ++ dkey pv x.1) rest (by omega) h3 (by omega)]
  dsimp only
  rw [List.append_assoc]
theorem pairsF_app : ∀ (L : List Pr) (pv : Option Int) (pre rest : List UInt8), Srt L → Pos L → KeysIn L → (∀ p ∈ L, p.2 ≤ 4611686018427387904) → (∀ q, pv = some q → -1048576 ≤ q ∧ ∀ x ∈ L, q < x.1) → pairsF L.length pv (pre ++ (prsW pv L ++ rest)) pre.length = some (L, (pre ++ prsW pv L).length)
  | [], pv, pre, rest, _, _, _, _, _ => by
    unfold pairsF prsW
    simp
  | x :: L, pv, pre, rest, hs, hp, hk, hn, hq => by
    obtain ⟨s1, s2⟩ := List.pairwise_cons.1 hs
    have hx := hk x (by simp)
    have hpx := (pos_cons.1 hp).1
    have hnx := hn x (by simp)
    have e1 : prsW pv (x :: L) = dkey pv x.1 ++ (leb x.2 ++ prsW (some x.1) L) := by
      rw [show prsW pv (x :: L) = dkey pv x.1 ++ leb x.2 ++ prsW (some x.1) L from rfl, List.append_assoc]
    rw [e1, List.length_cons, pairsF_succ, List.append_assoc, List.append_assoc, pairF_app pre (prsW (some x.1) L ++ rest) (fun q h => ⟨(hq q h).1, (hq q h).2 x (by simp)⟩) hx.1 hx.2 hpx hnx]
    dsimp only
    have e2 : pre ++ (dkey pv x.1 ++ (leb x.2 ++ (prsW (some x.1) L ++ rest))) = (pre ++ (dkey pv x.1 ++ leb x.2)) ++ (prsW (some x.1) L ++ rest) := by simp only [List.append_assoc]
    rw [e2, pairsF_app L (some x.1) (pre ++ (dkey pv x.1 ++ leb x.2)) rest s2 (pos_cons.1 hp).2 (fun q h => hk q (by simp [h])) (fun q h => hn q (by simp [h])) (fun q h => by injection h with h; subst h; exact ⟨hx.1, fun y hy => s1 y hy⟩)]
    simp only [List.append_assoc]
theorem le_tot {L : List Pr} {p : Pr} (h : p ∈ L) : p.2 ≤ tot L := by
  induction L with
  | nil => cases h
  | cons x L ih =>
    rw [tot_cons]
    rcases List.mem_cons.1 h with rfl | h
    · omega
    · have := ih h; omega
/-- What is written is read. -/
theorem readF_docW {a m f : Nat} {L : List Pr} (hk : Keeps a m L f) (hs : Srt L) (hp : Pos L) (hl : L.length ≤ m) (ha0 : 100 ≤ a) (ha : a ≤ 5000) (hm0 : 2 ≤ m) (hm1 : m ≤ 4096) : readF (docW a m L f) = some (a, m, L, f) := by
  have hF : f ≤ 4611686018427387904 := by
    rcases hk.fold with h0 | ⟨_, x, R, hx, h2⟩
    · omega
    · have := hk.tot
      rw [hx, tot_cons] at this
      omega
  have hD : docW a m L f = leb a ++ (leb m ++ (leb L.length ++ (leb f ++ prsW none L))) := by
    unfold docW headW; simp only [List.append_assoc]
  have hsl := spans_len' a
  have hki : KeysIn L := fun q hq => by have := hk.keys q hq; omega
  obtain ⟨D, hDD⟩ : ∃ D, D = docW a m L f := ⟨_, rfl⟩
  rw [← hDD] at hD ⊢
  have n1 : numF 100 5000 D 0 = some (a, (leb a).length) := by
    have := numF_app [] (leb m ++ (leb L.length ++ (leb f ++ prsW none L))) (lo := 100) (hi := 5000) ha0 ha (by omega)
    rw [hD]; simpa using this
  have n2 : numF 2 4096 D (leb a).length = some (m, (leb a ++ leb m).length) := by
    have := numF_app (leb a) (leb L.length ++ (leb f ++ prsW none L)) (lo := 2) (hi := 4096) hm0 hm1 (by omega)
    rw [hD]; exact this
  have n3 : numF 0 m D (leb a ++ leb m).length = some (L.length, (leb a ++ leb m ++ leb L.length).length) := by
    have := numF_app (leb a ++ leb m) (leb f ++ prsW none L) (lo := 0) (hi := m) (n := L.length) (by omega) hl (by omega)
    rw [hD, ← this]; simp only [List.append_assoc]
  have n4 : numF 0 4611686018427387904 D (leb a ++ leb m ++ leb L.length).length = some (f, (leb a ++ leb m ++ leb L.length ++ leb f).length) := by
    have := numF_app (leb a ++ leb m ++ leb L.length) (prsW none L) (lo := 0) (hi := 4611686018427387904) (n := f) (by omega) hF (by omega)
    rw [hD, ← this]; simp only [List.append_assoc]
  have n5 : pairsF L.length none D (leb a ++ leb m ++ leb L.length ++ leb f).length = some (L, D.length) := by
    have := pairsF_app L none (leb a ++ leb m ++ leb L.length ++ leb f) [] hs hp hki (fun p h => Nat.le_trans (le_tot h) hk.tot) (fun q h => by cases h)
    rw [List.append_nil] at this
    rw [hD]; simp only [List.append_assoc] at this ⊢; exact this
  unfold readF
  rw [n1]; dsimp only
  rw [n2]; dsimp only
  rw [n3]; dsimp only
  rw [n4]; dsimp only
  rw [n5]; dsimp only
  rw [if_pos ⟨rfl, hk, hDD.symm⟩]
theorem peekF_docW {a m f : Nat} {L : List Pr} (ha0 : 100 ≤ a) (ha : a ≤ 5000) (hm0 : 2 ≤ m) (hm1 : m ≤ 4096) : peekF (docW a m L f) = some (a, m) := by
  have hD : docW a m L f = leb a ++ (leb m ++ (leb L.length ++ (leb f ++ prsW none L))) := by
    unfold docW headW; simp only [List.append_assoc]
  rw [hD]
  unfold peekF
  have n1 := numF_app [] (leb m ++ (leb L.length ++ (leb f ++ prsW none L))) (lo := 100) (hi := 5000) ha0 ha (by omega)
  rw [List.nil_append, List.nil_append, List.length_nil] at n1
  rw [n1]
  dsimp only
  rw [numF_app (leb a) (leb L.length ++ (leb f ++ prsW none L)) (lo := 2) (hi := 4096) hm0 hm1 (by omega)]
/-- What is read: what was written. -/
theorem readF_some {b : List UInt8} {a m f : Nat} {L : List Pr} (h : readF b = some (a, m, L, f)) : 100 ≤ a ∧ a ≤ 5000 ∧ 2 ≤ m ∧ m ≤ 4096 ∧ L.length ≤ m ∧ Srt L ∧ Pos L ∧ Keeps a m L f ∧ docW a m L f = b ∧ peekF b = some (a, m) := by
  unfold readF at h
  split at h
  · cases h
  rename_i a' p1 e1
  have f1 := numF_some e1 (Nat.zero_le _)
  split at h
  · cases h
  rename_i m' p2 e2
  have f2 := numF_some e2 f1.2.2.2
  split at h
  · cases h
  rename_i n' p3 e3
  have f3 := numF_some e3 f2.2.2.2
  split at h
  · cases h
  rename_i f' p4 e4
  have f4 := numF_some e4 f3.2.2.2
  split at h
  · cases h
  rename_i L' p5 e5
  have f5 := pairsF_facts n' none b p4 L' p5 e5 f4.2.2.2
  split at h
  · rename_i hc
    injection h with h
    injection h with g1 h
    injection h with g2 h
    injection h with g3 g4
    subst g1 g2 g3 g4
    refine ⟨f1.1, f1.2.1, f2.1, f2.2.1, by rw [f5.2.1]; exact f3.2.1, f5.2.2.1, f5.2.2.2.1, hc.2.1, hc.2.2, ?_⟩
    unfold peekF
    rw [e1]; dsimp only
    rw [e2]
  · cases h
end Go.Proofs.YtbfhiegbgkkgiaaGreat
