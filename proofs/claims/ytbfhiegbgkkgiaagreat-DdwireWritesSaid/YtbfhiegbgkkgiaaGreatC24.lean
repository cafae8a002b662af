/- Pairs of bytes that may be a sketch's: read, walked. -/
import Derived.Test.YtbfhiegbgkkgiaaGreatC23
import Derived.Test.YtbfhiegbgkkgiaaGreatC20
import Derived.BigQuiet
import Derived.Deep.QuietTactic
namespace Go.Proofs.YtbfhiegbgkkgiaaGreat
open Go.RowKit
open Pl
open Sc
open Wi
/-- A key, and where the reader stands then. -/
def keyF (pv : Option Int) (l : List UInt8) (p : Nat) : Option (Int × Nat) := match pv with
  | none => if (dzig (l.drop p)).1 = 0 ∧ -1048576 ≤ sg (dzig (l.drop p)).2.1 ∧ sg (dzig (l.drop p)).2.1 ≤ 1048576 then some (sg (dzig (l.drop p)).2.1, p + (dzig (l.drop p)).2.2) else none
  | some q => match numF 0 2097152 l p with
    | some (d, p1) => some (q + 1 + (d : Int), p1)
    | none => none
def pairF (pv : Option Int) (l : List UInt8) (p : Nat) : Option (Pr × Nat) := match keyF pv l p with
  | some (k, p1) => (match numF 1 4611686018427387904 l p1 with
    | some (n, p2) => some ((k, n), p2)
    | none => none)
  | none => none
def pairsF : Nat → Option Int → List UInt8 → Nat → Option (List Pr × Nat)
  | 0, _, _, p => some ([], p)
  | n + 1, pv, l, p => match pairF pv l p with
    | some (x, p1) => (match pairsF n (some x.1) l p1 with
      | some (L, p2) => some (x :: L, p2)
      | none => none)
    | none => none
theorem keyF_some {pv : Option Int} {l : List UInt8} {p : Nat} {k : Int} {p1 : Nat} (h : keyF pv l p = some (k, p1)) (hp : p ≤ l.length) : p1 ≤ l.length ∧ (pv = none → -1048576 ≤ k ∧ k ≤ 1048576) ∧ ∀ q, pv = some q → q < k ∧ k ≤ q + 2097153 := by
  unfold keyF at h
  cases pv with
  | none =>
    dsimp only at h
    split at h
    · rename_i hc
      injection h with h
      injection h with h1 h2
      have hu : (dzig (l.drop p)).2.2 ≤ 0 + (l.drop p).length := (dleb_used (l.drop p) 0 0 hc.1).1
      rw [List.length_drop] at hu
      exact ⟨by omega, fun _ => by omega, fun q hq => by cases hq⟩
    · cases h
  | some q =>
    dsimp only at h
    cases hn : numF 0 2097152 l p with
    | none => rw [hn] at h; cases h
    | some r =>
      obtain ⟨d, p2⟩ := r
      rw [hn] at h
      injection h with h
      injection h with h1 h2
      have := numF_some hn hp
      exact ⟨by omega, fun e => (by cases e), fun q' hq => by injection hq with hq; omega⟩
theorem pairsF_succ (n : Nat) (pv : Option Int) (l : List UInt8) (p : Nat) : pairsF (n + 1) pv l p = match pairF pv l p with
    | some (x, p1) => (match pairsF n (some x.1) l p1 with
      | some (L, p2) => some (x :: L, p2)
      | none => none)
    | none => none := rfl
theorem pairsF_step {n i : Nat} (hi : i < n) {S : List Pr} (hS : S.length = i) {l : List UInt8} {p : Nat} (pv : Option Int) : (pairsF (n - i) pv l p).map (fun r => (S ++ r.1, r.2)) = match pairF pv l p with
    | some (x, p1) => (pairsF (n - (i + 1)) (prevK (S ++ [x]) (i + 1)) l p1).map (fun r => ((S ++ [x]) ++ r.1, r.2))
    | none => none := by
  obtain ⟨m, hm⟩ : ∃ m, n - i = m + 1 := ⟨n - i - 1, by omega⟩
  rw [hm, show n - (i + 1) = m by omega]
  rw [pairsF_succ]
  cases pairF pv l p with
  | none => rfl
  | some r =>
    obtain ⟨x, p1⟩ := r
    dsimp only
    rw [prevK_next (l := S ++ [x]) (j := i) (q := x) (by rw [← hS, List.getElem?_append_right (Nat.le_refl _), Nat.sub_self]; rfl)]
    cases pairsF m (some x.1) l p1 with
    | none => rfl
    | some r2 => obtain ⟨L, p2⟩ := r2; simp
def PairsPost (base g : Nat) (A : Option Addr) (c : Nat) (l : List UInt8) (w : World) (r : Option (List Pr × Nat)) (e : Ending) (w' : World) : Prop := match r with
  | some (L, p') => ∃ A' c', e = .returned (.slice A' L.length c') ∧ OwnP w' w.heap.size A' c' L ∧ Rdr w' base g A c l p' ∧ Only (RK g) w w'
  | none => e = .panicked gone ∧ Only (RK g) w w'
theorem i64_sg {n : Nat} (h : n < 18446744073709551616) : IntKind.i64.wrap (n : Int) = sg n := by
  rw [IntKind.wrap_i64]
  unfold sg
  split <;> omega
/-- While a pair is read: block m is the pair. -/
structure MidS (w W : World) (base g : Nat) (A : Option Addr) (c : Nat) (l : List UInt8) (p : Nat) (Ap : Option Addr) (cp : Nat) (S : List Pr) (m : Nat) (xs : Array Value) : Prop where
  bk : Blk W m 64 xs
  nb : Blk W w.heap.size 72 #[nextV g]
  row : OwnP W w.heap.size Ap cp S
  rd : Rdr W base g A c l p
  only : Only (RK g) w W
  low : w.heap.size < m
  far : ∀ x, blockOf Ap = some x → x < m
section
variable {w W W' : World} {base g c cp m : Nat} {A Ap : Option Addr} {l : List UInt8} {p p' : Nat} {S : List Pr} {xs : Array Value}
theorem MidS.num (h : MidS w W base g A c l p Ap cp S m xs) (hr : Rdr W' base g A c l p') (k : Only (RK g) W W') : MidS w W' base g A c l p' Ap cp S m xs :=
  ⟨h.bk.only k (fun e => Blk.ne h.bk h.rd.1 (by decide) e), h.nb.only k (fun e => Blk.ne h.nb h.rd.1 (by decide) e), Own.only (show Own W _ 64 2 Ap S.length cp (pcs S) from h.row) k (fun i hi e => Own.ne_blk (show Own W _ 64 2 Ap S.length cp (pcs S) from h.row) h.rd.1 (by decide) (by rw [hi]; exact congrArg some e)), hr, h.only.trans k, h.low, h.far⟩
theorem MidS.store (h : MidS w W base g A c l p Ap cp S m xs) (i : Nat) (u : Value) : MidS w (W.setCell ⟨m, i, none⟩ u) base g A c l p Ap cp S m (xs.setIfInBounds i u) :=
  ⟨h.bk.put i u, h.nb.far (p := ⟨m, i, none⟩) (by have := h.low; dsimp only; omega) u, Own.setOther (show Own W _ 64 2 Ap S.length cp (pcs S) from h.row) (p := ⟨m, i, none⟩) (fun e => by have := h.far m e; omega) u,
    ⟨h.rd.1.far (p := ⟨m, i, none⟩) (fun e => Blk.ne h.rd.1 h.bk (by decide) e) u, Own.setOther h.rd.2 (p := ⟨m, i, none⟩) (Own.ne_blk h.rd.2 h.bk (by decide)) u⟩, h.only.set (.inr (Nat.le_of_lt h.low)) u, h.low, h.far⟩
theorem MidS.drewM (h : MidS w W base g A c l p Ap cp S m xs) : MidS w W.drew base g A c l p Ap cp S m xs := ⟨h.bk, h.nb, h.row, h.rd, h.only.drew, h.low, h.far⟩
theorem MidS.z (h : MidS w W base g A c l p Ap cp S m xs) : W.cell? ⟨w.heap.size, 0, none⟩ = some (.func (Fn.func 32) #[.pointer (some ⟨g, 0, none⟩)] #[]) := by rw [h.nb.cell]; rfl
end
set_option maxHeartbeats 3200000 in
set_option maxRecDepth 100000 in
theorem pairs_rd (base g : Nat) (A : Option Addr) (c : Nat) (l : List UInt8) (p0 n : Nat) (w : World) (h : Rdr w base g A c l p0) (hp : p0 ≤ l.length) (hl : l.length ≤ 100000000) (hn : n ≤ 4096) :
    Calls Tryz.prog 34 #[.agg #[nextV g], .int .i64 (n : Int)] w (PairsPost base g A c l w (pairsF n none l p0)) := by
  have HNZ := Lib.hid (fun W p (h : Rdr W base g A c l p) (hp : p ≤ l.length) => next_t base g A c l p 122 W h hp hl frm_z)
  have HZD : ∀ l, decF (122, 0, 110, 111) l = dzig l := fun _ => rfl
  simp only [HZD] at HNZ
  have HNUM := Lib.hid (fun lo hi W p (h : Rdr W base g A c l p) (hp : p ≤ l.length) => num_t base g A c l p lo hi W h hp hl)
  have HLL := Lib.hid hl
  have HR := Lib.hid h
  have HP0 := Lib.hid hp
  have hn' : (n : Int) ≤ 4096 := by omega
  obtain ⟨R, hR⟩ : ∃ R, R = pairsF n none l p0 := ⟨_, rfl⟩
  rw [← hR]
  have HRR := Lib.hid hR
  clear h hp hl hn hR HZD
  unfold nextV
  go_enter Tryz.func34, Tryz.ntmps34
  go_wp2_with fail
  have hb0 : Below w.heap.size w (w.alloc (.cells #[nextV g] 72)) := (Below.refl _ _).alloc (Nat.le_refl _) _
  have HB0 := Lib.hid hb0
  have HN0 := Lib.hid (Blk.new w 72 #[nextV g])
  clear hb0
  go_loopw [12, 5] (fun v u wr => ∃ (i : Nat) (S : List Pr) (Ap : Option Addr) (cp p : Nat), v = .int .i64 (i : Int) ∧ u = .slice Ap S.length cp ∧ i ≤ n ∧ S.length = i ∧ p ≤ l.length ∧ R = (pairsF (n - i) (prevK S i) l p).map (fun r => (S ++ r.1, r.2)) ∧ OwnP wr w.heap.size Ap cp S ∧ Rdr wr base g A c l p ∧ Only (RK g) w wr ∧ Blk wr w.heap.size 72 #[nextV g] ∧ (∀ q, prevK S i = some q → -1048576 ≤ q ∧ q ≤ 1048576 + 2097153 * (i : Int))) (fun v _ _ => n - (intOf v).toNat)
  case atStart => exact ⟨0, [], none, 0, p0, rfl, rfl, Nat.zero_le _, rfl, HP0.out, by rw [HRR.out, Nat.sub_zero, prevK_zero]; cases pairsF n none l p0 <;> rfl, Own.nil _ _ _ _, HR.out.below HB0.out, Only.of_below HB0.out, HN0.out, fun q hq => by cases hq⟩
  case round =>
    obtain ⟨i, S, Ap, cp, p, rfl, rfl, hi, hSl, hp, hRi, ho, hr, hk, hn0, hq⟩ := hrel
    obtain ⟨wo, rfl⟩ : ∃ wo : World, wo = wr := ⟨_, rfl⟩
    have HO := Lib.hid ho
    have HRD := Lib.hid hr
    have HK := Lib.hid hk
    have HNB := Lib.hid hn0
    have HQ := Lib.hid hq
    have HSL := Lib.hid hSl
    have HP := Lib.hid hp
    have HRI := Lib.hid hRi
    clear ho hr hk hn0 hq hSl hp hRi
    by_cases hlt : i < n
    · have hii : (i : Int) < (n : Int) := by omega
      have hi0 : (0 : Int) ≤ (i : Int) := by omega
      have HI := Lib.hid hlt
      have HRN := Lib.hid (HRI.out.trans (pairsF_step hlt HSL.out (prevK S i)))
      have hb1 : Below wo.heap.size wo (wo.alloc (.cells #[.int .i64 0, .int .u64 0] 64)) := (Below.refl _ _).alloc (Nat.le_refl _) _
      have MS0 : Hid (MidS w (wo.alloc (.cells #[.int .i64 0, .int .u64 0] 64)) base g A c l p Ap cp S wo.heap.size #[.int .i64 0, .int .u64 0]) := Lib.hid ⟨Blk.new _ _ _, HNB.out.below hb1 HNB.out.lt, Own.below (show Own wo _ 64 2 Ap S.length cp (pcs S) from HO.out) hb1, HRD.out.below hb1, HK.out.alloc _, HNB.out.lt, fun x hx => (Own.block (show Own wo _ 64 2 Ap S.length cp (pcs S) from HO.out) hx).2⟩
      have z1 := MS0.out.z
      obtain ⟨N1, hN1⟩ : ∃ N1, N1 = wo.heap.size := ⟨_, rfl⟩
      rw [← hN1] at MS0
      have HNE := Lib.hid hN1
      clear hb1 hi hN1
      by_cases hz : i = 0
      · have hi1 : ((i : Int) == 0) = true := by simp; omega
        have hi1b : (i == 0) = true := by simp; omega
        have hpv : prevK S i = none := by rw [hz]; rfl
        rw [hpv] at HRN
        clear hz hpv hlt
        obtain ⟨D, hD⟩ : ∃ D, D = dzig (l.drop p) := ⟨_, rfl⟩
        have hv64 : D.2.1 < 18446744073709551616 := by rw [hD]; exact dec_lt (122, 0, 110, 111) (l.drop p) (by decide)
        have hsg := i64_sg hv64
        have HZ := Lib.hid (fun W (h : Rdr W base g A c l p) => HNZ.out W p h HP.out)
        rw [← hD] at HZ
        have hkey : keyF none l p = if D.1 = 0 ∧ -1048576 ≤ sg D.2.1 ∧ sg D.2.1 ≤ 1048576 then some (sg D.2.1, p + D.2.2) else none := by rw [hD]; rfl
        have hu : D.1 = 0 → p + D.2.2 ≤ l.length := fun h0 => by
          have h1 := (dleb_used (l.drop p) 0 0 (show (dleb 0 0 (l.drop p)).1 = 0 by rw [hD] at h0; exact h0)).1
          have h2 := HP.out
          rw [List.length_drop] at h1
          rw [hD]
          show p + (dleb 0 0 (l.drop p)).2.2 ≤ l.length
          omega
        clear hD hv64
        obtain ⟨er, val, us⟩ := D
        dsimp only at HZ hkey hsg hu
        generalize sg val = k at *
        by_cases hc : er = 0 ∧ -1048576 ≤ k ∧ k ≤ 1048576
        · rw [if_pos hc] at hkey
          obtain ⟨rfl, hk0, hk1⟩ := hc
          have HKB : Hid (-1048576 ≤ k ∧ k ≤ 1048576 + 2097153 * ((i + 1 : Nat) : Int)) := Lib.hid ⟨hk0, by omega⟩
          have HP1 := Lib.hid (hu rfl)
          clear hu
          have e1 : decide (k < -1048576) = false := by simpa using hk0
          have e2 : decide (1048576 < k) = false := by simpa using hk1
          clear hk0 hk1
          obtain ⟨p1, hp1⟩ : ∃ p1, p1 = p + us := ⟨_, rfl⟩
          rw [← hp1] at hkey HP1
          have HPE := Lib.hid hp1
          clear hp1
          have hpair : pairF none l p = match numF 1 4611686018427387904 l p1 with
            | some (n, p2) => some ((k, n), p2)
            | none => none := by unfold pairF; rw [hkey]
          rw [hpair] at HRN
          clear hkey hpair
          go_wp2_with fail
          rw [← HNE.out]
          refine (HZ.out _ MS0.out.rd).mono ?_
          rintro e w2 ⟨rfl, r2, k2⟩
          dsimp only at r2
          rw [← HPE.out] at r2
          have ms2 := MS0.out.num r2 k2
          have y2 : w2.cell? ⟨N1, 0, none⟩ = some (.int .i64 0) := by rw [ms2.bk.cell]; rfl
          have f2 := ms2.bk.free 0
          have MS3 := Lib.hid (ms2.store 0 (.int .i64 k))
          have z3 := MS3.out.z
          clear r2 k2 ms2
          dsimp only
          go_wp2_with fail
          have HNM := Lib.hid (fun W (h : Rdr W base g A c l p1) => HNUM.out 1 4611686018427387904 W p1 h HP1.out)
          obtain ⟨r4, hr4⟩ : ∃ r, r = numF 1 4611686018427387904 l p1 := ⟨_, rfl⟩
          have HNS := Lib.hid (fun n p2 (h : numF 1 4611686018427387904 l p1 = some (n, p2)) => numF_some h HP1.out)
          rw [← hr4] at HNM HRN HNS
          clear hr4
          cases r4 with
          | none =>
            have hRe := HRN.out
            dsimp only at hRe
            subst hRe
            refine (HNM.out _ MS3.out.rd).mono ?_
            rintro e w4 ⟨rfl, k4⟩
            exact ⟨rfl, rfl, MS3.out.only.trans k4⟩
          | some r4 =>
            obtain ⟨nn, p2⟩ := r4
            have hp2 := (HNS.out nn p2 rfl).2.2.2
            have HP2 := Lib.hid hp2
            clear hp2
            refine (HNM.out _ MS3.out.rd).mono ?_
            rintro e w4 ⟨rfl, r4, k4⟩
            have ms4 := MS3.out.num r4 k4
            have y4 : w4.cell? ⟨N1, 1, none⟩ = some (.int .u64 0) := by rw [ms4.bk.cell]; rfl
            have f4 := ms4.bk.free 1
            have ms5 := ms4.store 1 (.int .u64 (nn : Nat))
            have y5 : (w4.setCell ⟨N1, 1, none⟩ (.int .u64 (nn : Nat))).cell? ⟨N1, 0, none⟩ = some (.int .i64 k) := by rw [ms5.bk.cell]; rfl
            have y6 : (w4.setCell ⟨N1, 1, none⟩ (.int .u64 (nn : Nat))).cell? ⟨N1, 1, none⟩ = some (.int .u64 (nn : Nat)) := by rw [ms5.bk.cell]; rfl
            have MS5 := Lib.hid ms5
            clear r4 k4 ms4 ms5
            go_wp2_with (at_builtin; refine Hid.out ?_)
            have hrow := Own.alloc (show Own _ w.heap.size 64 2 _ S.length cp (pcs S) from MS5.out.row) (.cells #[.int .i64 k, .int .u64 (nn : Nat)] 64)
            refine wpList_app (xs := pcs S) rfl rfl elem_pair rfl hrow rfl (by have h := pair_new (w4.setCell ⟨N1, 1, none⟩ (.int .u64 (nn : Nat))) k nn; rw [World.size_setCell] at h; exact h) (pcs_one _) (S.length + 1) rfl (pcs (S ++ [(k, nn)])) (pcs_append _ _).symm (by have := HSL.out; unfold maxLen; omega) (by have := HSL.out; omega) (by have := MS5.out.only.size; rw [World.size_alloc]; omega) ?_
            intro A6 c6 w6 o6 g6 q6
            have O6 : Hid (OwnP w6 w.heap.size A6 c6 (S ++ [(k, nn)])) := Lib.hid (own_snoc o6 rfl)
            have NB6 : Hid (Blk w6 w.heap.size 72 #[nextV g]) := Lib.hid ((MS5.out.nb.alloc _).grown g6 (fun e => Own.ne_blk hrow (MS5.out.nb.alloc _) (by decide) e.symm))
            have R6 : Hid (Rdr w6 base g A c l p2) := Lib.hid ⟨(MS5.out.rd.1.alloc _).grown g6 (fun e => Own.ne_blk hrow (MS5.out.rd.1.alloc _) (by decide) e.symm), Own.kept (Own.alloc MS5.out.rd.2 _) g6 (by
              cases hA : blockOf A with
              | none => exact .inl rfl
              | some x => exact .inr (fun e => Own.ne_own (Own.alloc MS5.out.rd.2 _) hrow (by decide) x hA e.symm))⟩
            have K6 : Hid (Only (RK g) w w6) := Lib.hid ((MS5.out.only.alloc _).step (Only.of_grown g6) (fun j hj => .inr (Own.block hrow hj).1))
            clear o6 g6 q6 hrow
            go_wp2_with fail
            go_roundw
            case rel => exact ⟨i + 1, S ++ [(k, nn)], A6, c6, p2, by go_num, by rw [List.length_append]; rfl, HI.out, by rw [List.length_append, HSL.out]; rfl, HP2.out, HRN.out, O6.out, R6.out, K6.out, NB6.out, fun q hq => by
              rw [prevK_next (l := S ++ [(k, nn)]) (j := i) (q := (k, nn)) (by rw [← HSL.out, List.getElem?_append_right (Nat.le_refl _), Nat.sub_self]; rfl)] at hq
              injection hq with hq
              rw [← hq]
              exact HKB.out⟩
            case measure => have := HI.out; simp [intOf]; omega
        · rw [if_neg hc] at hkey
          have hpair : pairF none l p = none := by unfold pairF; rw [hkey]
          rw [hpair] at HRN
          have hRe := HRN.out
          dsimp only at hRe
          have hcc : ((er : Int) == 0) = false ∧ (er == 0) = false ∨ er = 0 ∧ decide (k < -1048576) = true ∨ er = 0 ∧ decide (k < -1048576) = false ∧ decide (1048576 < k) = true := by
            by_cases e0 : er = 0
            · by_cases e1 : k < -1048576
              · exact .inr (.inl ⟨e0, by simpa using e1⟩)
              · exact .inr (.inr ⟨e0, by simpa using e1, by simp; omega⟩)
            · exact .inl ⟨by simp; omega, by simp; omega⟩
          subst hRe
          clear hc hkey hpair hu HRN HRI HRR
          rcases hcc with ⟨x1, x2⟩ | ⟨rfl, x1⟩ | ⟨rfl, x1, x2⟩
          all_goals
            go_wp2_with fail
            rw [← HNE.out]
            refine (HZ.out _ MS0.out.rd).mono ?_
            rintro e w2 ⟨rfl, r2, k2⟩
            have K2 := Lib.hid (MS0.out.only.trans k2)
            clear r2 k2
            dsimp only
            go_wp2_with fail
            all_goals first
              | exact (show ([] : List _) = [] ∧ Ending.panicked gone = Ending.panicked gone ∧ Only (RK g) w w2 from ⟨rfl, rfl, K2.out⟩)
              | (exfalso; simp_all; done)
      · obtain ⟨j, hj⟩ : ∃ j, i = j + 1 := ⟨i - 1, by omega⟩
        have hw : IntKind.i64.wrap ((i : Int) - 1) = (j : Int) := by have := HLL.out; rw [IntWalk.i64_in _ ⟨by omega, by omega⟩]; omega
        have hj0 : (0 : Int) ≤ (j : Int) := by omega
        have hSl := HSL.out
        have hj2 : (j : Int) < (S.length : Int) := by omega
        have hS4 : (S.length : Int) ≤ 4096 := by omega
        have hwj : IntKind.i64.wrap (j : Int) = (j : Int) := IntWalk.i64_in _ ⟨by omega, by omega⟩
        have hi1 : ((i : Int) == 0) = false := by simp; omega
        have hi1b : (i == 0) = false := by simp; omega
        obtain ⟨y, hy⟩ : ∃ y, S[j]? = some y := ⟨_, List.getElem?_eq_getElem (by omega)⟩
        have hpv : prevK S i = some y.1 := by rw [hj]; exact prevK_next hy
        have hqb := HQ.out y.1 hpv
        rw [hpv] at HRN
        obtain ⟨bp, op, rfl, hbp, hcp⟩ := (OwnP.reads HO.out).at_ (by omega)
        have dq0 := (hcp j y hy).1
        have hfar := MS0.out.far bp rfl
        have dq1 : (wo.alloc (.cells #[.int .i64 0, .int .u64 0] 64)).cell? ⟨bp, op + j * 2, none⟩ = some (.int .i64 y.1) := (World.cell?_alloc_lt wo _ _ hbp).trans dq0
        have HFAR := Lib.hid hfar
        have HBP := Lib.hid hbp
        have HJ := Lib.hid hj
        obtain ⟨y, ny⟩ := y
        dsimp only at dq1 hqb HRN
        obtain ⟨r5, hr5⟩ : ∃ r, r = numF 0 2097152 l p := ⟨_, rfl⟩
        have HN5 := Lib.hid (fun W (h : Rdr W base g A c l p) => HNUM.out 0 2097152 W p h HP.out)
        rw [← hr5] at HN5
        clear hz hlt hSl hy hpv hcp dq0 hfar hbp
        cases r5 with
        | none =>
          have hkey : keyF (some y) l p = none := by unfold keyF; rw [← hr5]
          have hpair : pairF (some y) l p = none := by unfold pairF; rw [hkey]
          rw [hpair] at HRN
          have hRe := HRN.out
          dsimp only at hRe
          subst hRe
          clear hr5 hkey hpair HRN HRI HRR hqb
          go_wp2_with fail
          rw [← HNE.out]
          refine wp_region_held_drew (S := (fun W => W.cell? ⟨bp, op + j * 2, none⟩ = some (.int .i64 y) ∧ W.cell? ⟨w.heap.size, 0, none⟩ = some (.func (Fn.func 32) #[.pointer (some ⟨g, 0, none⟩)] #[]))) (by kernel_rfl) ⟨dq1, z1⟩ (fun hHeld => ?_)
          refine wpAnyH_take (i := 0) (oi := ?_) (v := ?_) ?_ ?_ ?_ ?_ ?_ ?_ ?_ ?_
          rotate_left 2
          · simp only [List.getElem?_toArray, List.getElem?_cons_zero]; rfl
          · kernel_rfl
          · kernel_rfl
          · kernel_rfl
          · exact fun _ _ _ h => h
          · exact Or.inl ⟨by kernel_rfl, by intro w hSw; (try dsimp only at hSw); go_simp; try with_reducible rfl⟩
          · assumption
          try go_simp
          refine wpAnyH_take (i := 1) (oi := ?_) (v := ?_) ?_ ?_ ?_ ?_ ?_ ?_ ?_ ?_
          rotate_left 2
          · simp only [List.getElem?_toArray, List.getElem?_cons_succ, List.getElem?_cons_zero]; rfl
          · kernel_rfl
          · kernel_rfl
          · kernel_rfl
          · exact fun _ _ _ h => h
          · exact Or.inl ⟨by kernel_rfl, by intro w hSw; (try dsimp only at hSw); go_simp; try with_reducible rfl⟩
          · assumption
          try go_simp
          refine wpAnyH_take (i := 2) (oi := ?_) (v := ?_) ?_ ?_ ?_ ?_ ?_ ?_ ?_ ?_
          rotate_left 2
          · simp only [List.getElem?_toArray, List.getElem?_cons_succ, List.getElem?_cons_zero]; rfl
          · kernel_rfl
          · kernel_rfl
          · kernel_rfl
          · exact fun _ _ _ h => h
          · exact Or.inl ⟨by kernel_rfl, by intro w hSw; (try dsimp only at hSw); go_simp; try with_reducible rfl⟩
          · assumption
          try go_simp
          refine wpAnyH_take (i := 3) (oi := ?_) (v := ?_) ?_ ?_ ?_ ?_ ?_ ?_ ?_ ?_
          rotate_left 2
          · simp only [List.getElem?_toArray, List.getElem?_cons_succ, List.getElem?_cons_zero]; rfl
          · kernel_rfl
          · kernel_rfl
          · kernel_rfl
          · exact fun _ _ _ h => h
          · exact Or.inl ⟨by kernel_rfl, by intro w hSw; (try dsimp only at hSw); go_simp; try with_reducible rfl⟩
          · assumption
          try go_simp
          refine wpAnyH_take (i := 4) (oi := ?_) (v := ?_) ?_ ?_ ?_ ?_ ?_ ?_ ?_ ?_
          rotate_left 2
          · simp only [List.getElem?_toArray, List.getElem?_cons_succ, List.getElem?_cons_zero]; rfl
          · kernel_rfl
          · kernel_rfl
          · kernel_rfl
          · exact fun _ _ _ h => h
          · exact Or.inl ⟨by kernel_rfl, by intro w hSw; (try dsimp only at hSw); go_simp; try with_reducible rfl⟩
          · assumption
          try go_simp
          refine wpAnyH_take (i := 5) (oi := ?_) (v := ?_) ?_ ?_ ?_ ?_ ?_ ?_ ?_ ?_
          rotate_left 2
          · simp only [List.getElem?_toArray, List.getElem?_cons_succ, List.getElem?_cons_zero]; rfl
          · kernel_rfl
          · kernel_rfl
          · kernel_rfl
          · exact fun _ _ _ h => h
          · exact Or.inl ⟨by kernel_rfl, by intro w hSw; (try dsimp only at hSw); go_simp; try with_reducible rfl⟩
          · assumption
          try go_simp
          refine wpAnyH_take (i := 6) (oi := ?_) (v := ?_) ?_ ?_ ?_ ?_ ?_ ?_ ?_ ?_
          rotate_left 2
          · simp only [List.getElem?_toArray, List.getElem?_cons_succ, List.getElem?_cons_zero]; rfl
          · kernel_rfl
          · kernel_rfl
          · kernel_rfl
          · exact fun _ _ _ h => h
          · exact Or.inl ⟨by kernel_rfl, by intro w hSw; (try dsimp only at hSw); go_simp; try with_reducible rfl⟩
          · assumption
          try go_simp
          refine wpAnyH_take (i := 7) (oi := ?_) (v := ?_) ?_ ?_ ?_ ?_ ?_ ?_ ?_ ?_
          rotate_left 2
          · simp only [List.getElem?_toArray, List.getElem?_cons_succ, List.getElem?_cons_zero]; rfl
          · kernel_rfl
          · kernel_rfl
          · kernel_rfl
          · exact fun _ _ _ h => h
          · exact Or.inl ⟨by kernel_rfl, by intro w hSw; (try dsimp only at hSw); go_simp; try with_reducible rfl⟩
          · assumption
          try go_simp
          refine wpAnyH_ready (rs := [8]) (by kernel_rfl) (by simp) ?_
          refine AllReadyH.cons (o := ?_) ?_ ?_ AllReadyH.nil
          rotate_left 1
          · simp only [List.getElem?_toArray, List.getElem?_cons_succ, List.getElem?_cons_zero]; rfl
          intro K hK
          go_simp
          refine (HN5.out _ MS0.out.drewM.rd).mono ?_
          rintro e w3 ⟨rfl, k3⟩
          exact ⟨rfl, rfl, MS0.out.drewM.only.trans k3⟩
        | some r5 =>
          obtain ⟨d, p1⟩ := r5
          have hns := numF_some hr5.symm HP.out
          obtain ⟨k, hk⟩ : ∃ k, k = y + 1 + (d : Int) := ⟨_, rfl⟩
          have hkey : keyF (some y) l p = some (k, p1) := by unfold keyF; rw [← hr5, hk]
          have hd1 : IntKind.i64.wrap (y + 1) = y + 1 := IntWalk.i64_in _ ⟨by omega, by omega⟩
          have hd2 : IntKind.i64.wrap (d : Int) = (d : Int) := IntWalk.i64_in _ ⟨by omega, by omega⟩
          have hd3 : IntKind.i64.wrap (y + 1 + (d : Int)) = k := by rw [IntWalk.i64_in _ ⟨by omega, by omega⟩, hk]
          have HKB : Hid (-1048576 ≤ k ∧ k ≤ 1048576 + 2097153 * ((i + 1 : Nat) : Int)) := Lib.hid ⟨by omega, by omega⟩
          have HP1 : Hid (p1 ≤ l.length) := Lib.hid hns.2.2.2
          have hpair : pairF (some y) l p = match numF 1 4611686018427387904 l p1 with
            | some (n, p2) => some ((k, n), p2)
            | none => none := by unfold pairF; rw [hkey]
          rw [hpair] at HRN
          have HBG : Hid (bp ≠ g) := Lib.hid (fun e => Own.ne_blk (show Own _ w.heap.size 64 2 (some ⟨bp, op, none⟩) S.length cp (pcs S) from MS0.out.row) MS0.out.rd.1 (by decide) (congrArg some e))
          clear hr5 hkey hpair hns hqb hk
          go_wp2_with fail
          rw [← HNE.out]
          refine wp_region_held_drew (S := (fun W => W.cell? ⟨bp, op + j * 2, none⟩ = some (.int .i64 y) ∧ W.cell? ⟨w.heap.size, 0, none⟩ = some (.func (Fn.func 32) #[.pointer (some ⟨g, 0, none⟩)] #[]))) (by kernel_rfl) ⟨dq1, z1⟩ (fun hHeld => ?_)
          refine wpAnyH_take (i := 0) (oi := ?_) (v := ?_) ?_ ?_ ?_ ?_ ?_ ?_ ?_ ?_
          rotate_left 2
          · simp only [List.getElem?_toArray, List.getElem?_cons_zero]; rfl
          · kernel_rfl
          · kernel_rfl
          · kernel_rfl
          · exact fun _ _ _ h => h
          · exact Or.inl ⟨by kernel_rfl, by intro w hSw; (try dsimp only at hSw); go_simp; try with_reducible rfl⟩
          · assumption
          try go_simp
          refine wpAnyH_take (i := 1) (oi := ?_) (v := ?_) ?_ ?_ ?_ ?_ ?_ ?_ ?_ ?_
          rotate_left 2
          · simp only [List.getElem?_toArray, List.getElem?_cons_succ, List.getElem?_cons_zero]; rfl
          · kernel_rfl
          · kernel_rfl
          · kernel_rfl
          · exact fun _ _ _ h => h
          · exact Or.inl ⟨by kernel_rfl, by intro w hSw; (try dsimp only at hSw); go_simp; try with_reducible rfl⟩
          · assumption
          try go_simp
          refine wpAnyH_take (i := 2) (oi := ?_) (v := ?_) ?_ ?_ ?_ ?_ ?_ ?_ ?_ ?_
          rotate_left 2
          · simp only [List.getElem?_toArray, List.getElem?_cons_succ, List.getElem?_cons_zero]; rfl
          · kernel_rfl
          · kernel_rfl
          · kernel_rfl
          · exact fun _ _ _ h => h
          · exact Or.inl ⟨by kernel_rfl, by intro w hSw; (try dsimp only at hSw); go_simp; try with_reducible rfl⟩
          · assumption
          try go_simp
          refine wpAnyH_take (i := 3) (oi := ?_) (v := ?_) ?_ ?_ ?_ ?_ ?_ ?_ ?_ ?_
          rotate_left 2
          · simp only [List.getElem?_toArray, List.getElem?_cons_succ, List.getElem?_cons_zero]; rfl
          · kernel_rfl
          · kernel_rfl
          · kernel_rfl
          · exact fun _ _ _ h => h
          · exact Or.inl ⟨by kernel_rfl, by intro w hSw; (try dsimp only at hSw); go_simp; try with_reducible rfl⟩
          · assumption
          try go_simp
          refine wpAnyH_take (i := 4) (oi := ?_) (v := ?_) ?_ ?_ ?_ ?_ ?_ ?_ ?_ ?_
          rotate_left 2
          · simp only [List.getElem?_toArray, List.getElem?_cons_succ, List.getElem?_cons_zero]; rfl
          · kernel_rfl
          · kernel_rfl
          · kernel_rfl
          · exact fun _ _ _ h => h
          · exact Or.inl ⟨by kernel_rfl, by intro w hSw; (try dsimp only at hSw); go_simp; try with_reducible rfl⟩
          · assumption
          try go_simp
          refine wpAnyH_take (i := 5) (oi := ?_) (v := ?_) ?_ ?_ ?_ ?_ ?_ ?_ ?_ ?_
          rotate_left 2
          · simp only [List.getElem?_toArray, List.getElem?_cons_succ, List.getElem?_cons_zero]; rfl
          · kernel_rfl
          · kernel_rfl
          · kernel_rfl
          · exact fun _ _ _ h => h
          · exact Or.inl ⟨by kernel_rfl, by intro w hSw; (try dsimp only at hSw); go_simp; try with_reducible rfl⟩
          · assumption
          try go_simp
          refine wpAnyH_take (i := 6) (oi := ?_) (v := ?_) ?_ ?_ ?_ ?_ ?_ ?_ ?_ ?_
          rotate_left 2
          · simp only [List.getElem?_toArray, List.getElem?_cons_succ, List.getElem?_cons_zero]; rfl
          · kernel_rfl
          · kernel_rfl
          · kernel_rfl
          · exact fun _ _ _ h => h
          · exact Or.inl ⟨by kernel_rfl, by intro w hSw; (try dsimp only at hSw); go_simp; try with_reducible rfl⟩
          · assumption
          try go_simp
          refine wpAnyH_take (i := 7) (oi := ?_) (v := ?_) ?_ ?_ ?_ ?_ ?_ ?_ ?_ ?_
          rotate_left 2
          · simp only [List.getElem?_toArray, List.getElem?_cons_succ, List.getElem?_cons_zero]; rfl
          · kernel_rfl
          · kernel_rfl
          · kernel_rfl
          · exact fun _ _ _ h => h
          · exact Or.inl ⟨by kernel_rfl, by intro w hSw; (try dsimp only at hSw); go_simp; try with_reducible rfl⟩
          · assumption
          try go_simp
          refine wpAnyH_ready (rs := [8]) (by kernel_rfl) (by simp) ?_
          refine AllReadyH.cons (o := ?_) ?_ ?_ AllReadyH.nil
          rotate_left 1
          · simp only [List.getElem?_toArray, List.getElem?_cons_succ, List.getElem?_cons_zero]; rfl
          intro K hK
          go_simp
          refine (HN5.out _ MS0.out.drewM.rd).mono ?_
          rintro e w3 ⟨rfl, r3, k3⟩
          have ms3 := MS0.out.drewM.num r3 k3
          refine hK.out _ _ ?_ (fun hHeld => ?_)
          · exact ⟨(World.cell?_of_block (k3.block bp (by have := HBP.out; show bp < (wo.alloc _).heap.size; rw [World.size_alloc]; omega) (fun e => HBG.out e))).trans hHeld.1, ms3.z⟩
          clear hK K
          try go_simp
          refine wpAnyH_take (i := 9) (oi := ?_) (v := ?_) ?_ ?_ ?_ ?_ ?_ ?_ ?_ ?_
          rotate_left 2
          · simp only [List.getElem?_toArray, List.getElem?_cons_succ, List.getElem?_cons_zero]; rfl
          · kernel_rfl
          · kernel_rfl
          · kernel_rfl
          · exact fun _ _ _ h => h
          · exact Or.inl ⟨by kernel_rfl, by intro w hSw; (try dsimp only at hSw); go_simp; try with_reducible rfl⟩
          · assumption
          try go_simp
          refine wpAnyH_take (i := 10) (oi := ?_) (v := ?_) ?_ ?_ ?_ ?_ ?_ ?_ ?_ ?_
          rotate_left 2
          · simp only [List.getElem?_toArray, List.getElem?_cons_succ, List.getElem?_cons_zero]; rfl
          · kernel_rfl
          · kernel_rfl
          · kernel_rfl
          · exact fun _ _ _ h => h
          · exact Or.inl ⟨by kernel_rfl, by intro w hSw; (try dsimp only at hSw); go_simp; try with_reducible rfl⟩
          · assumption
          try go_simp
          refine wpAnyH_take (i := 11) (oi := ?_) (v := ?_) ?_ ?_ ?_ ?_ ?_ ?_ ?_ ?_
          rotate_left 2
          · simp only [List.getElem?_toArray, List.getElem?_cons_succ, List.getElem?_cons_zero]; rfl
          · kernel_rfl
          · kernel_rfl
          · kernel_rfl
          · exact fun _ _ _ h => h
          · exact Or.inl ⟨by kernel_rfl, by intro w hSw; (try dsimp only at hSw); go_simp; try with_reducible rfl⟩
          · assumption
          try go_simp
          refine wpAnyH_ready (rs := [12]) (by kernel_rfl) (by simp) ?_
          refine AllReadyH.cons (o := ?_) ?_ ?_ AllReadyH.nil
          rotate_left 1
          · simp only [List.getElem?_toArray, List.getElem?_cons_succ, List.getElem?_cons_zero]; rfl
          intro K hK
          have y2 : w3.cell? ⟨N1, 0, none⟩ = some (.int .i64 0) := by rw [ms3.bk.cell]; rfl
          have f2 := ms3.bk.free 0
          go_simp
          refine hK.out _ _ ?_ (fun hHeld => ?_)
          · exact ⟨(World.cell?_of_block (Below.heap_setCell _ _ _ _ (by have := HFAR.out; dsimp only; omega))).trans hHeld.1, (ms3.store 0 _).z⟩
          clear hK K y2 f2
          try go_simp
          refine wpAnyH_done (by kernel_rfl) ?_ _
          clear hHeld
          have MS3 := Lib.hid (ms3.store 0 (.int .i64 k))
          have z3 := MS3.out.z
          clear ms3 r3 k3 dq1
          go_wp2_with fail
          have HNM := Lib.hid (fun W (h : Rdr W base g A c l p1) => HNUM.out 1 4611686018427387904 W p1 h HP1.out)
          obtain ⟨r4, hr4⟩ : ∃ r, r = numF 1 4611686018427387904 l p1 := ⟨_, rfl⟩
          have HNS := Lib.hid (fun n p2 (h : numF 1 4611686018427387904 l p1 = some (n, p2)) => numF_some h HP1.out)
          rw [← hr4] at HNM HRN HNS
          clear hr4
          cases r4 with
          | none =>
            have hRe := HRN.out
            dsimp only at hRe
            subst hRe
            refine (HNM.out _ MS3.out.rd).mono ?_
            rintro e w4 ⟨rfl, k4⟩
            exact ⟨rfl, rfl, MS3.out.only.trans k4⟩
          | some r4 =>
            obtain ⟨nn, p2⟩ := r4
            have hp2 := (HNS.out nn p2 rfl).2.2.2
            have HP2 := Lib.hid hp2
            clear hp2
            refine (HNM.out _ MS3.out.rd).mono ?_
            rintro e w4 ⟨rfl, r4, k4⟩
            have ms4 := MS3.out.num r4 k4
            have y4 : w4.cell? ⟨N1, 1, none⟩ = some (.int .u64 0) := by rw [ms4.bk.cell]; rfl
            have f4 := ms4.bk.free 1
            have ms5 := ms4.store 1 (.int .u64 (nn : Nat))
            have y5 : (w4.setCell ⟨N1, 1, none⟩ (.int .u64 (nn : Nat))).cell? ⟨N1, 0, none⟩ = some (.int .i64 k) := by rw [ms5.bk.cell]; rfl
            have y6 : (w4.setCell ⟨N1, 1, none⟩ (.int .u64 (nn : Nat))).cell? ⟨N1, 1, none⟩ = some (.int .u64 (nn : Nat)) := by rw [ms5.bk.cell]; rfl
            have MS5 := Lib.hid ms5
            clear r4 k4 ms4 ms5
            go_wp2_with (at_builtin; refine Hid.out ?_)
            have hrow := Own.alloc (show Own _ w.heap.size 64 2 _ S.length cp (pcs S) from MS5.out.row) (.cells #[.int .i64 k, .int .u64 (nn : Nat)] 64)
            refine wpList_app (xs := pcs S) rfl rfl elem_pair rfl hrow rfl (by have h := pair_new (w4.setCell ⟨N1, 1, none⟩ (.int .u64 (nn : Nat))) k nn; rw [World.size_setCell] at h; exact h) (pcs_one _) (S.length + 1) rfl (pcs (S ++ [(k, nn)])) (pcs_append _ _).symm (by have := HSL.out; unfold maxLen; omega) (by have := HSL.out; omega) (by have := MS5.out.only.size; rw [World.size_alloc]; omega) ?_
            intro A6 c6 w6 o6 g6 q6
            have O6 : Hid (OwnP w6 w.heap.size A6 c6 (S ++ [(k, nn)])) := Lib.hid (own_snoc o6 rfl)
            have NB6 : Hid (Blk w6 w.heap.size 72 #[nextV g]) := Lib.hid ((MS5.out.nb.alloc _).grown g6 (fun e => Own.ne_blk hrow (MS5.out.nb.alloc _) (by decide) e.symm))
            have R6 : Hid (Rdr w6 base g A c l p2) := Lib.hid ⟨(MS5.out.rd.1.alloc _).grown g6 (fun e => Own.ne_blk hrow (MS5.out.rd.1.alloc _) (by decide) e.symm), Own.kept (Own.alloc MS5.out.rd.2 _) g6 (by
              cases hA : blockOf A with
              | none => exact .inl rfl
              | some x => exact .inr (fun e => Own.ne_own (Own.alloc MS5.out.rd.2 _) hrow (by decide) x hA e.symm))⟩
            have K6 : Hid (Only (RK g) w w6) := Lib.hid ((MS5.out.only.alloc _).step (Only.of_grown g6) (fun j hj => .inr (Own.block hrow hj).1))
            clear o6 g6 q6 hrow
            go_wp2_with fail
            go_roundw
            case rel => exact ⟨i + 1, S ++ [(k, nn)], A6, c6, p2, by go_num, by rw [List.length_append]; rfl, HI.out, by rw [List.length_append, HSL.out]; rfl, HP2.out, HRN.out, O6.out, R6.out, K6.out, NB6.out, fun q hq => by
              rw [prevK_next (l := S ++ [(k, nn)]) (j := i) (q := (k, nn)) (by rw [← HSL.out, List.getElem?_append_right (Nat.le_refl _), Nat.sub_self]; rfl)] at hq
              injection hq with hq
              rw [← hq]
              exact HKB.out⟩
            case measure => have := HI.out; simp [intOf]; omega
    · have hge : ¬ (i : Int) < (n : Int) := by omega
      have hin : n - i = 0 := by omega
      have hRe : R = some (S, p) := by rw [HRI.out, hin]; unfold pairsF; simp
      have HRE := Lib.hid hRe
      clear hi hlt hin hRe
      go_wp2_with fail
      go_ret
      rw [HRE.out]
      exact ⟨Ap, cp, rfl, HO.out, HRD.out, HK.out⟩
end Go.Proofs.YtbfhiegbgkkgiaaGreat
/- Two rows of bytes compared; walked. -/

namespace Go.Proofs.YtbfhiegbgkkgiaaGreat
open Go.RowKit
open Wi
theorem eqb_at {a b : List UInt8} {i : Nat} {x y : UInt8} (hx : a[i]? = some x) (hy : b[i]? = some y) (hne : x ≠ y) : (a == b) = false := by
  cases h : a == b with
  | false => rfl
  | true => rw [eq_of_beq h, hy] at hx; injection hx with hx; exact absurd hx.symm hne
set_option maxHeartbeats 1600000 in
set_option maxRecDepth 100000 in
theorem equal_t (A1 A2 : Option Addr) (c1 c2 : Nat) (a b : List UInt8) (w : World) (h1 : Bts w w.heap.size A1 a) (h2 : Bts w w.heap.size A2 b) (hl : b.length ≤ 100000000) :
    Calls Tryz.prog 37 #[.slice A1 a.length c1, .slice A2 b.length c2] w fun e w' => e = .returned (.bool (a == b)) ∧ ∃ q, w' = w.drewN q := by
  by_cases hne : a.length = b.length
  · obtain ⟨B, hB⟩ : ∃ B, B = (a == b) := ⟨_, rfl⟩
    rw [← hB, ← hne]
    have HB := Lib.hid hB
    have H1 := Lib.hid h1
    have H2 := Lib.hid h2
    have HN := Lib.hid hne
    have hla : (a.length : Int) ≤ 100000000 := by omega
    clear h1 h2 hl hB hne
    obtain ⟨n, hn⟩ : ∃ n, n = a.length := ⟨_, rfl⟩
    rw [← hn] at hla ⊢
    have HNN := Lib.hid hn
    clear hn
    go_enter Tryz.func37, Tryz.ntmps37
    go_wp2_with fail
    go_loopw [13] (fun v wr => ∃ i : Nat, v = .int .i64 (i : Int) ∧ i ≤ n ∧ a.take i = b.take i ∧ ∃ q, wr = w.drewN q) (fun v _ => n - (intOf v).toNat)
    case atStart => exact ⟨0, rfl, Nat.zero_le _, rfl, 0, rfl⟩
    case round =>
      obtain ⟨i, rfl, hi, htk, q, rfl⟩ := hrel
      by_cases hlt : i < n
      · have hii : (i : Int) < (n : Int) := by omega
        have hi0 : (0 : Int) ≤ (i : Int) := by omega
        have hia : i < a.length := by rw [← HNN.out]; exact hlt
        have hib : i < b.length := by rw [← HN.out]; exact hia
        obtain ⟨g1, o1, rfl, hb1, hc1⟩ := H1.out.at_ (by omega)
        obtain ⟨g2, o2, rfl, hb2, hc2⟩ := H2.out.at_ (by omega)
        have d1 := hc1 i hia
        have d2 := hc2 i hib
        have HT : Hid (a[i] = b[i] → a.take (i + 1) = b.take (i + 1)) := Lib.hid (fun e => by rw [List.take_succ_eq_append_getElem hia, List.take_succ_eq_append_getElem hib, htk, e])
        have HF : Hid (a[i] ≠ b[i] → B = false) := Lib.hid (fun e => by rw [HB.out]; exact eqb_at (List.getElem?_eq_getElem hia) (List.getElem?_eq_getElem hib) e)
        have HI := Lib.hid hlt
        generalize a[i] = x at *
        generalize b[i] = y at *
        have hxl : (x.toNat : Int) < 256 := by have := x.toNat_lt; omega
        have hyl : (y.toNat : Int) < 256 := by have := y.toNat_lt; omega
        by_cases hxy : x = y
        · have e1 : ((x.toNat : Int) == (y.toNat : Int)) = true := by rw [hxy]; simp
          have e1b : (x.toNat == y.toNat) = true := by rw [hxy]; simp
          have HT2 := Lib.hid (HT.out hxy)
          clear hc1 hc2 hb1 hb2 hia hib htk hi hlt HT HF hxy
          go_wp2_with fail
          go_quiet (fail)
          go_wp2_with fail
          go_roundw
          case rel => exact ⟨i + 1, by go_num, HI.out, HT2.out, q + nq, by first | rfl | simp | go_simp⟩
          case measure => have := HI.out; simp [intOf]; omega
        · have e1 : ((x.toNat : Int) == (y.toNat : Int)) = false := by
            rw [beq_eq_false_iff_ne]
            exact fun e => hxy (UInt8.toNat_inj.1 (by omega))
          have e1b : (x.toNat == y.toNat) = false := by
            rw [beq_eq_false_iff_ne]
            exact fun e => hxy (UInt8.toNat_inj.1 e)
          have HF2 := Lib.hid (HF.out hxy)
          clear hc1 hc2 hb1 hb2 hia hib htk hi hlt HT HF hxy
          go_wp2_with fail
          go_quiet (fail)
          go_wp2_with fail
          go_ret
          exact ⟨by rw [HF2.out]; rfl, q + nq, by first | rfl | simp | go_simp⟩
      · have hin : i = n := by omega
        have hBt : B = true := by
          rw [HB.out, beq_iff_eq]
          rw [hin, HNN.out, List.take_length, HN.out, List.take_length] at htk
          exact htk
        have HX := Lib.hid hBt
        have hge : ¬ (i : Int) < (n : Int) := by omega
        clear hi hlt hin hBt htk
        go_wp2_with fail
        go_ret
        exact ⟨by rw [HX.out]; rfl, q, rfl⟩
  · have hbf : (a == b) = false := by
      cases h : a == b with
      | false => rfl
      | true => exact absurd (congrArg List.length (eq_of_beq h)) hne
    have e1 : ((a.length : Int) == (b.length : Int)) = false := by simp; omega
    have e2 : (a.length == b.length) = false := by simpa using hne
    rw [hbf]
    clear h1 h2 hne hbf
    generalize a.length = n at *
    generalize b.length = m at *
    go_enter Tryz.func37, Tryz.ntmps37
    go_wp2_with fail
    go_ret
    exact ⟨rfl, 0, rfl⟩
end Go.Proofs.YtbfhiegbgkkgiaaGreat
