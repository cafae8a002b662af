/- Dense: the store in memory; the small methods walked. -/
import Derived.Test.YtknimekfkkihpaaChecked
import Derived.Test.YtknimekfkkihpaaRegion
import Derived.Test.YtknimekfkkihpaaOff
import Derived.Test.YtknimekfkkihpaaDensePlain
import Derived.RegionTactic
import Derived.BigRegion
import Derived.Deep.QuietTactic
import Derived.BigQuiet
import Derived.Deep.LoopGhost
import Derived.Deep.RegionHeld3
import Derived.Deep.RegionLaw
namespace Go.Proofs.Ytknimekfkkihpaa
open Go.RowKit
open Ds

def u64s (l : List Nat) : List Value := l.map fun n : Nat => Value.int .u64 (n : Int)
theorem u64s_length (l : List Nat) : (u64s l).length = l.length := by simp [u64s]
theorem u64s_one (l : List Nat) : ∀ u ∈ u64s l, u.oneCell' = true := by
  intro u hu
  obtain ⟨_, _, rfl⟩ := List.mem_map.1 hu
  rfl
/-- What a store counts may be: where its window lies, how long it is, the total. -/
structure Inv (f : Int) (l : List Nat) (t : Nat) : Prop where
  lo : -1048576 ≤ f
  hi : f + (l.length : Int) ≤ 1048577
  len : l.length ≤ 8192
  sum : l.sum = t
  cap : t ≤ 4611686018427387904
/-- The store's block g, its row in block R (none where nothing is counted). -/
def Sto (w : World) (base g : Nat) (A : Option Addr) (c : Nat) (f : Int) (l : List Nat) (t : Nat) : Prop :=
  Blk w g 28 #[.int .i64 f, .slice A l.length c, .int .u64 (t : Int)] ∧ OwnO w base 26 A l.length c (u64s l)

section
variable {w : World} {base g : Nat} {A : Option Addr} {c : Nat} {f : Int} {l : List Nat} {t : Nat}
theorem Sto.c0 (h : Sto w base g A c f l t) : w.cell? ⟨g, 0, none⟩ = some (.int .i64 f) := by rw [h.1.cell]; rfl
theorem Sto.c1 (h : Sto w base g A c f l t) : w.cell? ⟨g, 1, none⟩ = some (.slice A l.length c) := by rw [h.1.cell]; rfl
theorem Sto.c2 (h : Sto w base g A c f l t) : w.cell? ⟨g, 2, none⟩ = some (.int .u64 (t : Int)) := by rw [h.1.cell]; rfl
end

set_option maxHeartbeats 400000 in
theorem wide_t (g : Nat) (A : Option Addr) (c base : Nat) (f k : Int) (l : List Nat) (t : Nat) (w : World) (h : Sto w base g A c f l t) (hi : Inv f l t) (k0 : -1048576 ≤ k) (k1 : k ≤ 1048576) :
    Calls Try.prog 30 #[.pointer (some ⟨g, 0, none⟩), .int .i64 k] w fun e w' => e = .returned (.int .i64 (wide f l k)) ∧ ∃ n, w' = w.drewN n := by
  have c0 := h.c0
  have c1 := h.c1
  obtain ⟨lo, hi, len, -, -⟩ := hi
  clear h
  unfold wide
  by_cases hl : l.length = 0
  · have hz : ((l.length : Int) == 0) = true := by simp; exact List.length_eq_zero_iff.1 hl
    rw [if_pos hl]
    go_enter Try.func30, Try.ntmps30
    go_wp2
    go_ret
    exact ⟨rfl, 0, rfl⟩
  · have hz : ((l.length : Int) == 0) = false := by simp; intro e; exact hl (by rw [e]; rfl)
    rw [if_neg hl]
    clear hl
    go_enter Try.func30, Try.ntmps30
    go_wp2
    go_quiet (fail)
    go_wp2
    all_goals (go_ret; exact ⟨ret_int (by omega), _, rfl⟩)

set_option maxHeartbeats 800000 in
theorem check_t (g : Nat) (A : Option Addr) (c base : Nat) (f k : Int) (l : List Nat) (t n : Nat) (w : World) (h : Sto w base g A c f l t) (hi : Inv f l t) (k0 : -9223372036854775808 ≤ k) (k1 : k ≤ 9223372036854775807) (hn : n ≤ 18446744073709551615) :
    Calls Try.prog 21 #[.pointer (some ⟨g, 0, none⟩), .int .i64 k, .int .u64 (n : Int)] w fun e w' => e = .returned (.int .i64 (chk f l t k n)) ∧ ∃ m, w' = w.drewN m := by
  have c2 := h.c2
  have cap := hi.cap
  have HH := Lib.hid h
  have HI := Lib.hid hi
  clear h hi
  by_cases hn0 : n = 0
  · subst hn0
    have e : chk f l t k 0 = 4 := by simp [chk]
    rw [e]
    go_enter Try.func21, Try.ntmps21
    go_wp2_with fail
    go_ret
    exact ⟨rfl, 0, rfl⟩
  have b0 : ((n : Int) == 0) = false := by simp; omega
  by_cases hk1 : k < -1048576
  · have e : chk f l t k n = 5 := by unfold chk; rw [if_neg hn0, if_pos (.inl hk1)]
    have b1 : decide (k < -1048576) = true := by simpa using hk1
    rw [e]
    go_enter Try.func21, Try.ntmps21
    go_wp2_with fail
    go_ret
    exact ⟨rfl, 0, rfl⟩
  have b1 : decide (k < -1048576) = false := by simpa using hk1
  by_cases hk2 : 1048576 < k
  · have e : chk f l t k n = 5 := by unfold chk; rw [if_neg hn0, if_pos (.inr hk2)]
    have b2 : decide (1048576 < k) = true := by simpa using hk2
    rw [e]
    go_enter Try.func21, Try.ntmps21
    go_wp2_with fail
    go_ret
    exact ⟨rfl, 0, rfl⟩
  have b2 : decide (1048576 < k) = false := by simpa using hk2
  by_cases hw : 8192 < wide f l k
  · have e : chk f l t k n = 130 := by unfold chk; rw [if_neg hn0, if_neg (by omega), if_pos hw]
    have b3 : decide (8192 < wide f l k) = true := by simpa using hw
    rw [e]
    go_enter Try.func21, Try.ntmps21
    go_wp2_with fail
    refine (wide_t g A c base f k l t _ HH.out HI.out (by omega) (by omega)).mono ?_
    rintro e w1 ⟨rfl, m, rfl⟩
    go_wp2_with fail
    go_ret
    exact ⟨rfl, m, rfl⟩
  have b3 : decide (8192 < wide f l k) = false := by simpa using hw
  by_cases hc : 4611686018427387904 - t < n
  · have e : chk f l t k n = 6 := by unfold chk; rw [if_neg hn0, if_neg (by omega), if_neg hw, if_pos hc]
    have b4 : decide (4611686018427387904 - (t : Int) < (n : Int)) = true := by simp; omega
    rw [e]
    go_enter Try.func21, Try.ntmps21
    go_wp2_with fail
    refine (wide_t g A c base f k l t _ HH.out HI.out (by omega) (by omega)).mono ?_
    rintro e w1 ⟨rfl, m, rfl⟩
    go_wp2_with fail
    go_ret
    exact ⟨rfl, m, rfl⟩
  have e : chk f l t k n = 0 := by unfold chk; rw [if_neg hn0, if_neg (by omega), if_neg hw, if_neg hc]
  have b4 : decide (4611686018427387904 - (t : Int) < (n : Int)) = false := by simp; omega
  rw [e]
  go_enter Try.func21, Try.ntmps21
  go_wp2_with fail
  refine (wide_t g A c base f k l t _ HH.out HI.out (by omega) (by omega)).mono ?_
  rintro e w1 ⟨rfl, m, rfl⟩
  go_wp2_with fail
  go_ret
  exact ⟨rfl, m, rfl⟩

theorem elem_u64 : Elem Try.prog 25 26 1 8 := elem_of Try.underlying25 (z := .int .u64 0) (by kernel_rfl) (by decide) (by decide)
theorem u64s_zeros (l : List Nat) (n : Nat) : u64s (l ++ List.replicate n 0) = u64s l ++ List.replicate n (.int .u64 0) := by simp [u64s]
def ReachPost (base g : Nat) (A : Option Addr) (f : Int) (l : List Nat) (t : Nat) (w : World) (e : Ending) (w' : World) : Prop :=
  ∃ A' c', e = .returned (.tuple #[]) ∧ Sto w' base g A' c' f l t ∧ (blockOf A' = blockOf A ∨ ∃ b, blockOf A' = some b ∧ w.heap.size ≤ b) ∧ Only (fun i => i = g ∨ blockOf A = some i) w w'
set_option maxHeartbeats 800000 in
theorem reach_t (g : Nat) (A : Option Addr) (c base : Nat) (f k : Int) (l : List Nat) (t : Nat) (w : World) (h : Sto w base g A c f l t) (hi : Inv f l t) (hbase : base ≤ w.heap.size) (k0 : -1048576 ≤ k) (k1 : k ≤ 1048576) (hw : wide f l k ≤ 8192) :
    Calls Try.prog 22 #[.pointer (some ⟨g, 0, none⟩), .int .i64 k] w (ReachPost base g A (reachF f l k) (reachL f l k) t w) := by
  have c0 := h.c0
  have c1 := h.c1
  have c2 := h.c2
  have f0 := h.1.free 0
  have f1 := h.1.free 1
  have hgl := h.1.lt
  have HH := Lib.hid h
  obtain ⟨lo, hi, len, -, -⟩ := hi
  clear h
  by_cases hl : l.length = 0
  · have hz : ((l.length : Int) == 0) = true := by simp; exact List.length_eq_zero_iff.1 hl
    have e1 : reachF f l k = k := by unfold reachF; rw [if_pos hl]
    have e2 : reachL f l k = [0] := by unfold reachL; rw [if_pos hl]
    rw [e1, e2]
    clear e1 e2 hl
    go_enter Try.func22, Try.ntmps22
    go_wp2
    refine bodyPost_end (v := .tuple #[]) (results_none Try.results22 _ _ _) rfl ⟨some ⟨w.heap.size, 0, none⟩, 1, rfl, ⟨?_, ?_⟩, .inr ⟨_, rfl, Nat.le_refl _⟩, ?_⟩
    · exact ((HH.out.1.put 0 _).put 1 _).alloc _
    · exact OwnO.of_own (Own.made' base 26 1 #[.int .u64 0] 1 (by simp [World.setCell]) hbase (by unfold maxLen; omega) rfl)
    · exact (((Only.refl _ w).set (Or.inl (Or.inl rfl)) _).set (Or.inl (Or.inl rfl)) _).alloc _
  have hz : ((l.length : Int) == 0) = false := by simp; intro e; exact hl (by rw [e]; rfl)
  by_cases hkf : k < f
  · have e1 : reachF f l k = k := by unfold reachF; rw [if_neg hl, if_pos hkf]
    have e2 : reachL f l k = List.replicate (f - k).toNat 0 ++ l := by unfold reachL; rw [if_neg hl, if_pos hkf]
    rw [e1, e2]
    clear e1 e2
    have hb : decide (k < f) = true := by simpa using hkf
    obtain ⟨n, hn⟩ : ∃ n : Nat, (n : Int) = f - k := ⟨(f - k).toNat, by omega⟩
    have hn2 : (f - k).toNat = n := by omega
    rw [hn2]
    have hw2 : n + l.length ≤ 8192 := by unfold wide at hw; rw [if_neg hl] at hw; omega
    have hsub : IntKind.i64.wrap (f - k) = (n : Int) := by rw [hn]; exact IntWalk.i64_in _ ⟨by omega, by omega⟩
    have hmk := run_makeN (P := Try.prog) (t := 25) (e := 26) (z := .int .u64 0) (size := 1) (bytes := 8) Try.underlying25 (by kernel_rfl) .i64 .i64 n (by omega) (by omega)
    have HRD := Lib.hid (HH.out.2.reads)
    have hown : ∀ W : World, W.heap.size = w.heap.size → Own (W.alloc (.cells (madeCells #[Value.int .u64 0] n) 26)) base 26 1 (some ⟨w.heap.size, 0, none⟩) n n (u64s (List.replicate n 0)) := fun W hW => by
      have := Own.made' (W := W) base 26 1 (madeCells #[Value.int .u64 0] n) n hW hbase (by unfold maxLen; omega) (by simp [madeCells])
      have e : (madeCells #[Value.int .u64 0] n).toList = u64s (List.replicate n 0) := by
        rw [toList_madeCells_one]
        simp [u64s]
      rw [e] at this
      exact this
    have HO := Lib.hid hown
    have hcap : n + l.length ≤ maxLen := by unfold maxLen; omega
    clear hn hn2 hown
    go_enter Try.func22, Try.ntmps22
    go_wp2_with fail
    refine wp_region_noPanic ?_
    refine wp_region_T (S := fun w' => w'.cell? ⟨g, 0, none⟩ = some (.int .i64 f) ∧ w'.cell? ⟨g, 1, none⟩ = some (.slice A l.length c)) (L := 15) (by kernel_rfl) ⟨by simpa using c0, by simpa using c1⟩ (fun hHeld => ?_)
    refine wpAnyT_take (i := 0) (oi := ?_) (v := ?_) ?_ ?_ ?_ ?_ ?_ ?_ ?_ ?_ ?_
    rotate_left 2
    · simp only [List.getElem?_toArray, List.getElem?_cons_zero]; rfl
    · kernel_rfl
    · kernel_rfl
    · kernel_rfl
    · kernel_rfl
    · exact fun _ _ _ h => h
    · exact Or.inl ⟨by kernel_rfl, by intro w hSw; (try dsimp only at hSw); go_simp; try with_reducible rfl⟩
    · assumption
    try go_simp
    refine wpAnyT_take (i := 1) (oi := ?_) (v := ?_) ?_ ?_ ?_ ?_ ?_ ?_ ?_ ?_ ?_
    rotate_left 2
    · simp only [List.getElem?_toArray, List.getElem?_cons_succ, List.getElem?_cons_zero]; rfl
    · kernel_rfl
    · kernel_rfl
    · kernel_rfl
    · kernel_rfl
    · exact fun _ _ _ h => h
    · exact Or.inl ⟨by kernel_rfl, by intro w hSw; (try dsimp only at hSw); go_simp; try with_reducible rfl⟩
    · assumption
    try go_simp
    refine wpAnyT_take (i := 2) (oi := ?_) (v := ?_) ?_ ?_ ?_ ?_ ?_ ?_ ?_ ?_ ?_
    rotate_left 2
    · simp only [List.getElem?_toArray, List.getElem?_cons_succ, List.getElem?_cons_zero]; rfl
    · kernel_rfl
    · kernel_rfl
    · kernel_rfl
    · kernel_rfl
    · exact fun _ _ _ h => h
    · exact Or.inl ⟨by kernel_rfl, by intro w hSw; (try dsimp only at hSw); go_simp; try with_reducible rfl⟩
    · assumption
    try go_simp
    refine wpAnyT_take (i := 3) (oi := ?_) (v := ?_) ?_ ?_ ?_ ?_ ?_ ?_ ?_ ?_ ?_
    rotate_left 2
    · simp only [List.getElem?_toArray, List.getElem?_cons_succ, List.getElem?_cons_zero]; rfl
    · kernel_rfl
    · kernel_rfl
    · kernel_rfl
    · kernel_rfl
    · exact fun _ _ _ h => h
    · exact Or.inl ⟨by kernel_rfl, by intro w hSw; (try dsimp only at hSw); go_simp; try with_reducible rfl⟩
    · assumption
    try go_simp
    refine wpAnyT_take (i := 4) (oi := ?_) (v := ?_) ?_ ?_ ?_ ?_ ?_ ?_ ?_ ?_ ?_
    rotate_left 2
    · simp only [List.getElem?_toArray, List.getElem?_cons_succ, List.getElem?_cons_zero]; rfl
    · kernel_rfl
    · kernel_rfl
    · kernel_rfl
    · kernel_rfl
    · exact fun _ _ _ h => h
    · exact Or.inl ⟨by kernel_rfl, by intro w hSw; (try dsimp only at hSw); go_simp; try with_reducible rfl⟩
    · assumption
    try go_simp
    refine wpAnyT_take (i := 5) (oi := ?_) (v := ?_) ?_ ?_ ?_ ?_ ?_ ?_ ?_ ?_ ?_
    rotate_left 2
    · simp only [List.getElem?_toArray, List.getElem?_cons_succ, List.getElem?_cons_zero]; rfl
    · kernel_rfl
    · kernel_rfl
    · kernel_rfl
    · kernel_rfl
    · exact fun _ _ _ h => h
    · exact Or.inl ⟨by kernel_rfl, by intro w hSw; (try dsimp only at hSw); go_simp; try with_reducible rfl⟩
    · assumption
    try go_simp
    refine wpAnyT_take (i := 6) (oi := ?_) (v := ?_) ?_ ?_ ?_ ?_ ?_ ?_ ?_ ?_ ?_
    rotate_left 2
    · simp only [List.getElem?_toArray, List.getElem?_cons_succ, List.getElem?_cons_zero]; rfl
    · kernel_rfl
    · kernel_rfl
    · kernel_rfl
    · kernel_rfl
    · exact fun _ _ _ h => h
    · exact Or.inl ⟨by kernel_rfl, by intro w hSw; (try dsimp only at hSw); go_simp; try with_reducible rfl⟩
    · assumption
    try go_simp
    refine wpAnyT_take (i := 8) (oi := ?_) (v := ?_) ?_ ?_ ?_ ?_ ?_ ?_ ?_ ?_ ?_
    rotate_left 2
    · simp only [List.getElem?_toArray, List.getElem?_cons_succ, List.getElem?_cons_zero]; rfl
    · kernel_rfl
    · kernel_rfl
    · kernel_rfl
    · kernel_rfl
    · exact fun _ _ _ h => h
    · exact Or.inl ⟨by kernel_rfl, by intro w hSw; (try dsimp only at hSw); go_simp; try with_reducible rfl⟩
    · assumption
    try go_simp
    refine wpAnyT_take (i := 9) (oi := ?_) (v := ?_) ?_ ?_ ?_ ?_ ?_ ?_ ?_ ?_ ?_
    rotate_left 2
    · simp only [List.getElem?_toArray, List.getElem?_cons_succ, List.getElem?_cons_zero]; rfl
    · kernel_rfl
    · kernel_rfl
    · kernel_rfl
    · kernel_rfl
    · exact fun _ _ _ h => h
    · exact Or.inl ⟨by kernel_rfl, by intro w hSw; (try dsimp only at hSw); go_simp; try with_reducible rfl⟩
    · assumption
    try go_simp
    refine wpAnyT_take (i := 10) (oi := ?_) (v := ?_) ?_ ?_ ?_ ?_ ?_ ?_ ?_ ?_ ?_
    rotate_left 2
    · simp only [List.getElem?_toArray, List.getElem?_cons_succ, List.getElem?_cons_zero]; rfl
    · kernel_rfl
    · kernel_rfl
    · kernel_rfl
    · kernel_rfl
    · exact fun _ _ _ h => h
    · exact Or.inl ⟨by kernel_rfl, by intro w hSw; (try dsimp only at hSw); go_simp; try with_reducible rfl⟩
    · assumption
    try go_simp
    refine wpAnyT_take (i := 11) (oi := ?_) (v := ?_) ?_ ?_ ?_ ?_ ?_ ?_ ?_ ?_ ?_
    rotate_left 2
    · simp only [List.getElem?_toArray, List.getElem?_cons_succ, List.getElem?_cons_zero]; rfl
    · kernel_rfl
    · kernel_rfl
    · kernel_rfl
    · kernel_rfl
    · exact fun _ _ _ h => h
    · exact Or.inl ⟨by kernel_rfl, by intro w hSw; (try dsimp only at hSw); go_simp; try with_reducible rfl⟩
    · assumption
    try go_simp
    refine wpAnyT_one (i := 7) (o := ?_) ?_ ?_ ?_
    rotate_left 1
    · simp only [List.getElem?_toArray, List.getElem?_cons_succ, List.getElem?_cons_zero]; rfl
    · kernel_rfl
    intro K hK
    go_simp
    refine hK.out _ _ ?_ (fun hHeld => ?_)
    · exact fun _ => ⟨by simpa using (World.cell?_alloc_lt w _ ⟨g, 0, none⟩ hgl).trans c0, by simpa using (World.cell?_alloc_lt w _ ⟨g, 1, none⟩ hgl).trans c1⟩
    clear hK K
    replace hHeld := hHeld (by decide)
    try go_simp
    refine wpAnyT_one (i := 12) (o := ?_) ?_ ?_ ?_
    rotate_left 1
    · simp only [List.getElem?_toArray, List.getElem?_cons_succ, List.getElem?_cons_zero]; rfl
    · kernel_rfl
    intro K hK
    refine step_app (s := .tmp 33) (x := .tmp 37) (t := 25) (base := base) (A := some ⟨w.heap.size, 0, none⟩) (n := n) (c := n) (xs := u64s (List.replicate n 0)) (B := w.heap.size) (D := A) (m := l.length) (c2 := c) (news := u64s l) (by rfl) (by rfl) elem_u64 (by rfl) (HO.out w rfl).drew (by rfl) (HRD.out.alloc (Nat.le_refl _) _).drew (u64s_one _) (n + l.length) rfl (u64s (List.replicate n 0 ++ l)) (by simp [u64s]) hcap (by omega) (by simp; omega) ?_
    intro A2 p2 w2 o2 g2 q2
    have hb2 : Blk w2 g 28 #[.int .i64 f, .slice A l.length c, .int .u64 (t : Int)] := Blk.grown ((HH.out.1.alloc _).drew) g2 (by simp [blockOf]; omega)
    have d0 : w2.cell? ⟨g, 0, none⟩ = some (.int .i64 f) := by rw [hb2.cell]; rfl
    have d1 : w2.cell? ⟨g, 1, none⟩ = some (.slice A l.length c) := by rw [hb2.cell]; rfl
    have fr0 : w2.frozen? ⟨g, 0, none⟩ = false := hb2.free 0
    have fr1 : w2.frozen? ⟨g, 1, none⟩ = false := hb2.free 1
    have OO := Lib.hid o2
    have GG := Lib.hid g2
    have QQ := Lib.hid q2
    have BB := Lib.hid hb2
    clear o2 g2 q2 hb2
    refine hK.out _ _ ?_ (fun hHeld => ?_)
    · exact fun _ => ⟨d0, d1⟩
    clear hK K
    replace hHeld := hHeld (by decide)
    try go_simp
    refine wpAnyT_take (i := 13) (oi := ?_) (v := ?_) ?_ ?_ ?_ ?_ ?_ ?_ ?_ ?_ ?_
    rotate_left 2
    · simp only [List.getElem?_toArray, List.getElem?_cons_succ, List.getElem?_cons_zero]; rfl
    · kernel_rfl
    · kernel_rfl
    · kernel_rfl
    · kernel_rfl
    · exact fun _ _ _ h => h
    · exact Or.inl ⟨by kernel_rfl, by intro w hSw; (try dsimp only at hSw); go_simp; try with_reducible rfl⟩
    · assumption
    try go_simp
    refine wpAnyT_take (i := 14) (oi := ?_) (v := ?_) ?_ ?_ ?_ ?_ ?_ ?_ ?_ ?_ ?_
    rotate_left 2
    · simp only [List.getElem?_toArray, List.getElem?_cons_succ, List.getElem?_cons_zero]; rfl
    · kernel_rfl
    · kernel_rfl
    · kernel_rfl
    · kernel_rfl
    · exact fun _ _ _ h => h
    · exact Or.inl ⟨by kernel_rfl, by intro w hSw; (try dsimp only at hSw); go_simp; try with_reducible rfl⟩
    · assumption
    try go_simp
    refine wpAnyT_one (i := 15) (o := ?_) ?_ ?_ ?_
    rotate_left 1
    · simp only [List.getElem?_toArray, List.getElem?_cons_succ, List.getElem?_cons_zero]; rfl
    · kernel_rfl
    intro K hK
    go_simp
    refine hK.out _ _ ?_ (fun hHeld => ?_)
    · exact fun h => absurd rfl h
    clear hK K
    try go_simp
    refine wpAnyT_done (by kernel_rfl) ?_ _
    refine NoPanic.normal ?_
    go_wp2_with fail
    have hne : blockOf A2 ≠ some g := OO.out.ne_blk BB.out (by decide)
    refine bodyPost_end (v := .tuple #[]) (results_none Try.results22 _ _ _) rfl ⟨A2, p2, rfl, ⟨?_, ?_⟩, ?_, ?_⟩
    · have h := (BB.out.put 1 (.slice A2 (n + l.length) p2)).put 0 (.int .i64 k)
      rw [List.length_append, List.length_replicate]
      exact h
    · have h : OwnO w2 base 26 A2 (n + l.length) p2 (u64s (List.replicate n 0 ++ l)) := OwnO.of_own OO.out
      rw [List.length_append, List.length_replicate]
      exact (h.setOther hne _).setOther hne _
    · rcases QQ.out with h | h
      · exact .inr ⟨w.heap.size, h, Nat.le_refl _⟩
      · exact .inr ⟨_, h, by simp⟩
    · refine ((((Only.refl _ w).alloc _).drew.step (Only.of_grown GG.out) (fun i hi => .inr ?_)).set (.inl (.inl rfl)) _).set (.inl (.inl rfl)) _
      have : w.heap.size = i := by simpa [blockOf] using hi
      omega
  have e1 : reachF f l k = f := by unfold reachF; rw [if_neg hl, if_neg hkf]
  rw [e1]
  clear e1
  have hb : decide (k < f) = false := by simpa using hkf
  have HNE := Lib.hid (HH.out.2.ne_blk HH.out.1 (by decide))
  have HOW := Lib.hid HH.out.2
  by_cases hfar : f + l.length ≤ k
  · have e2 : reachL f l k = l ++ List.replicate (k - f - l.length + 1).toNat 0 := by unfold reachL; rw [if_neg hl, if_neg hkf, if_pos hfar]
    rw [e2]
    clear e2
    have hg : decide (f + (l.length : Int) ≤ k) = true := by simpa using hfar
    obtain ⟨q, hq⟩ : ∃ q : Nat, (q : Int) = k - f - l.length + 1 := ⟨(k - f - l.length + 1).toNat, by omega⟩
    have hq2 : (k - f - l.length + 1).toNat = q := by omega
    rw [hq2]
    have hq1 : 1 ≤ q := by omega
    have hw2 : l.length + q ≤ 8192 := by unfold wide at hw; rw [if_neg hl] at hw; omega
    have s0 : IntKind.i64.wrap (f + (l.length : Int)) = f + l.length := IntWalk.i64_in _ ⟨by omega, by omega⟩
    have s1 : IntKind.i64.wrap (k - f) = k - f := IntWalk.i64_in _ ⟨by omega, by omega⟩
    have s2 : IntKind.i64.wrap (k - f - (l.length : Int)) = k - f - l.length := IntWalk.i64_in _ ⟨by omega, by omega⟩
    have s3 : IntKind.i64.wrap (k - f - (l.length : Int) + 1) = q := by rw [hq]; exact IntWalk.i64_in _ ⟨by omega, by omega⟩
    obtain ⟨i0, hi0, hz0, hz1, hz2⟩ := info_parts (show (Try.prog.info? 26).map (fun i => (i.zero, i.size, i.bytes)) = some (some (.int .u64 0), 1, 8) by kernel_rfl)
    clear hq hq2
    go_enter Try.func22, Try.ntmps22
    go_wp2_with fail
    go_quiet (fail)
    go_wp2_with fail
    refine wp_region_noPanic ?_
    refine wp_region_T (S := fun w' => w'.cell? ⟨g, 0, none⟩ = some (.int .i64 f) ∧ w'.cell? ⟨g, 1, none⟩ = some (.slice A l.length c)) (L := 21) (by kernel_rfl) ⟨by simpa using c0, by simpa using c1⟩ (fun hHeld => ?_)
    refine wpAnyT_take (i := 0) (oi := ?_) (v := ?_) ?_ ?_ ?_ ?_ ?_ ?_ ?_ ?_ ?_
    rotate_left 2
    · simp only [List.getElem?_toArray, List.getElem?_cons_zero]; rfl
    · kernel_rfl
    · kernel_rfl
    · kernel_rfl
    · kernel_rfl
    · exact fun _ _ _ h => h
    · exact Or.inl ⟨by kernel_rfl, by intro w hSw; (try dsimp only at hSw); go_simp; try with_reducible rfl⟩
    · assumption
    try go_simp
    refine wpAnyT_take (i := 1) (oi := ?_) (v := ?_) ?_ ?_ ?_ ?_ ?_ ?_ ?_ ?_ ?_
    rotate_left 2
    · simp only [List.getElem?_toArray, List.getElem?_cons_succ, List.getElem?_cons_zero]; rfl
    · kernel_rfl
    · kernel_rfl
    · kernel_rfl
    · kernel_rfl
    · exact fun _ _ _ h => h
    · exact Or.inl ⟨by kernel_rfl, by intro w hSw; (try dsimp only at hSw); go_simp; try with_reducible rfl⟩
    · assumption
    try go_simp
    refine wpAnyT_take (i := 2) (oi := ?_) (v := ?_) ?_ ?_ ?_ ?_ ?_ ?_ ?_ ?_ ?_
    rotate_left 2
    · simp only [List.getElem?_toArray, List.getElem?_cons_succ, List.getElem?_cons_zero]; rfl
    · kernel_rfl
    · kernel_rfl
    · kernel_rfl
    · kernel_rfl
    · exact fun _ _ _ h => h
    · exact Or.inl ⟨by kernel_rfl, by intro w hSw; (try dsimp only at hSw); go_simp; try with_reducible rfl⟩
    · assumption
    try go_simp
    refine wpAnyT_take (i := 3) (oi := ?_) (v := ?_) ?_ ?_ ?_ ?_ ?_ ?_ ?_ ?_ ?_
    rotate_left 2
    · simp only [List.getElem?_toArray, List.getElem?_cons_succ, List.getElem?_cons_zero]; rfl
    · kernel_rfl
    · kernel_rfl
    · kernel_rfl
    · kernel_rfl
    · exact fun _ _ _ h => h
    · exact Or.inl ⟨by kernel_rfl, by intro w hSw; (try dsimp only at hSw); go_simp; try with_reducible rfl⟩
    · assumption
    try go_simp
    refine wpAnyT_take (i := 4) (oi := ?_) (v := ?_) ?_ ?_ ?_ ?_ ?_ ?_ ?_ ?_ ?_
    rotate_left 2
    · simp only [List.getElem?_toArray, List.getElem?_cons_succ, List.getElem?_cons_zero]; rfl
    · kernel_rfl
    · kernel_rfl
    · kernel_rfl
    · kernel_rfl
    · exact fun _ _ _ h => h
    · exact Or.inl ⟨by kernel_rfl, by intro w hSw; (try dsimp only at hSw); go_simp; try with_reducible rfl⟩
    · assumption
    try go_simp
    refine wpAnyT_take (i := 5) (oi := ?_) (v := ?_) ?_ ?_ ?_ ?_ ?_ ?_ ?_ ?_ ?_
    rotate_left 2
    · simp only [List.getElem?_toArray, List.getElem?_cons_succ, List.getElem?_cons_zero]; rfl
    · kernel_rfl
    · kernel_rfl
    · kernel_rfl
    · kernel_rfl
    · exact fun _ _ _ h => h
    · exact Or.inl ⟨by kernel_rfl, by intro w hSw; (try dsimp only at hSw); go_simp; try with_reducible rfl⟩
    · assumption
    try go_simp
    refine wpAnyT_take (i := 6) (oi := ?_) (v := ?_) ?_ ?_ ?_ ?_ ?_ ?_ ?_ ?_ ?_
    rotate_left 2
    · simp only [List.getElem?_toArray, List.getElem?_cons_succ, List.getElem?_cons_zero]; rfl
    · kernel_rfl
    · kernel_rfl
    · kernel_rfl
    · kernel_rfl
    · exact fun _ _ _ h => h
    · exact Or.inl ⟨by kernel_rfl, by intro w hSw; (try dsimp only at hSw); go_simp; try with_reducible rfl⟩
    · assumption
    try go_simp
    refine wpAnyT_take (i := 7) (oi := ?_) (v := ?_) ?_ ?_ ?_ ?_ ?_ ?_ ?_ ?_ ?_
    rotate_left 2
    · simp only [List.getElem?_toArray, List.getElem?_cons_succ, List.getElem?_cons_zero]; rfl
    · kernel_rfl
    · kernel_rfl
    · kernel_rfl
    · kernel_rfl
    · exact fun _ _ _ h => h
    · exact Or.inl ⟨by kernel_rfl, by intro w hSw; (try dsimp only at hSw); go_simp; try with_reducible rfl⟩
    · assumption
    try go_simp
    refine wpAnyT_take (i := 8) (oi := ?_) (v := ?_) ?_ ?_ ?_ ?_ ?_ ?_ ?_ ?_ ?_
    rotate_left 2
    · simp only [List.getElem?_toArray, List.getElem?_cons_succ, List.getElem?_cons_zero]; rfl
    · kernel_rfl
    · kernel_rfl
    · kernel_rfl
    · kernel_rfl
    · exact fun _ _ _ h => h
    · exact Or.inl ⟨by kernel_rfl, by intro w hSw; (try dsimp only at hSw); go_simp; try with_reducible rfl⟩
    · assumption
    try go_simp
    refine wpAnyT_take (i := 9) (oi := ?_) (v := ?_) ?_ ?_ ?_ ?_ ?_ ?_ ?_ ?_ ?_
    rotate_left 2
    · simp only [List.getElem?_toArray, List.getElem?_cons_succ, List.getElem?_cons_zero]; rfl
    · kernel_rfl
    · kernel_rfl
    · kernel_rfl
    · kernel_rfl
    · exact fun _ _ _ h => h
    · exact Or.inl ⟨by kernel_rfl, by intro w hSw; (try dsimp only at hSw); go_simp; try with_reducible rfl⟩
    · assumption
    try go_simp
    refine wpAnyT_take (i := 10) (oi := ?_) (v := ?_) ?_ ?_ ?_ ?_ ?_ ?_ ?_ ?_ ?_
    rotate_left 2
    · simp only [List.getElem?_toArray, List.getElem?_cons_succ, List.getElem?_cons_zero]; rfl
    · kernel_rfl
    · kernel_rfl
    · kernel_rfl
    · kernel_rfl
    · exact fun _ _ _ h => h
    · exact Or.inl ⟨by kernel_rfl, by intro w hSw; (try dsimp only at hSw); go_simp; try with_reducible rfl⟩
    · assumption
    try go_simp
    refine wpAnyT_take (i := 11) (oi := ?_) (v := ?_) ?_ ?_ ?_ ?_ ?_ ?_ ?_ ?_ ?_
    rotate_left 2
    · simp only [List.getElem?_toArray, List.getElem?_cons_succ, List.getElem?_cons_zero]; rfl
    · kernel_rfl
    · kernel_rfl
    · kernel_rfl
    · kernel_rfl
    · exact fun _ _ _ h => h
    · exact Or.inl ⟨by kernel_rfl, by intro w hSw; (try dsimp only at hSw); go_simp; try with_reducible rfl⟩
    · assumption
    try go_simp
    refine wpAnyT_take (i := 12) (oi := ?_) (v := ?_) ?_ ?_ ?_ ?_ ?_ ?_ ?_ ?_ ?_
    rotate_left 2
    · simp only [List.getElem?_toArray, List.getElem?_cons_succ, List.getElem?_cons_zero]; rfl
    · kernel_rfl
    · kernel_rfl
    · kernel_rfl
    · kernel_rfl
    · exact fun _ _ _ h => h
    · exact Or.inl ⟨by kernel_rfl, by intro w hSw; (try dsimp only at hSw); go_simp; try with_reducible rfl⟩
    · assumption
    try go_simp
    refine wpAnyT_take (i := 13) (oi := ?_) (v := ?_) ?_ ?_ ?_ ?_ ?_ ?_ ?_ ?_ ?_
    rotate_left 2
    · simp only [List.getElem?_toArray, List.getElem?_cons_succ, List.getElem?_cons_zero]; rfl
    · kernel_rfl
    · kernel_rfl
    · kernel_rfl
    · kernel_rfl
    · exact fun _ _ _ h => h
    · exact Or.inl ⟨by kernel_rfl, by intro w hSw; (try dsimp only at hSw); go_simp; try with_reducible rfl⟩
    · assumption
    try go_simp
    refine wpAnyT_take (i := 14) (oi := ?_) (v := ?_) ?_ ?_ ?_ ?_ ?_ ?_ ?_ ?_ ?_
    rotate_left 2
    · simp only [List.getElem?_toArray, List.getElem?_cons_succ, List.getElem?_cons_zero]; rfl
    · kernel_rfl
    · kernel_rfl
    · kernel_rfl
    · kernel_rfl
    · exact fun _ _ _ h => h
    · exact Or.inl ⟨by kernel_rfl, by intro w hSw; (try dsimp only at hSw); go_simp; try with_reducible rfl⟩
    · assumption
    try go_simp
    refine wpAnyT_take (i := 15) (oi := ?_) (v := ?_) ?_ ?_ ?_ ?_ ?_ ?_ ?_ ?_ ?_
    rotate_left 2
    · simp only [List.getElem?_toArray, List.getElem?_cons_succ, List.getElem?_cons_zero]; rfl
    · kernel_rfl
    · kernel_rfl
    · kernel_rfl
    · kernel_rfl
    · exact fun _ _ _ h => h
    · exact Or.inl ⟨by kernel_rfl, by intro w hSw; (try dsimp only at hSw); go_simp; try with_reducible rfl⟩
    · assumption
    try go_simp
    refine wpAnyT_take (i := 16) (oi := ?_) (v := ?_) ?_ ?_ ?_ ?_ ?_ ?_ ?_ ?_ ?_
    rotate_left 2
    · simp only [List.getElem?_toArray, List.getElem?_cons_succ, List.getElem?_cons_zero]; rfl
    · kernel_rfl
    · kernel_rfl
    · kernel_rfl
    · kernel_rfl
    · exact fun _ _ _ h => h
    · exact Or.inl ⟨by kernel_rfl, by intro w hSw; (try dsimp only at hSw); go_simp; try with_reducible rfl⟩
    · assumption
    try go_simp
    refine wpAnyT_take (i := 17) (oi := ?_) (v := ?_) ?_ ?_ ?_ ?_ ?_ ?_ ?_ ?_ ?_
    rotate_left 2
    · simp only [List.getElem?_toArray, List.getElem?_cons_succ, List.getElem?_cons_zero]; rfl
    · kernel_rfl
    · kernel_rfl
    · kernel_rfl
    · kernel_rfl
    · exact fun _ _ _ h => h
    · exact Or.inl ⟨by kernel_rfl, by intro w hSw; (try dsimp only at hSw); go_simp; try with_reducible rfl⟩
    · assumption
    try go_simp
    refine wpAnyT_one (i := 18) (o := ?_) ?_ ?_ ?_
    rotate_left 1
    · simp only [List.getElem?_toArray, List.getElem?_cons_succ, List.getElem?_cons_zero]; rfl
    · kernel_rfl
    intro K hK
    refine stepO_zeros (w := (w.drewN nq).drew) (s := .tmp 62) (x := .tmp 75) (t := 25) (ti := 3) (base := base) (i := i0) (z := .int .u64 0) (bytes := 8) (A := A) (n := l.length) (c := c) (xs := u64s l) (by rfl) (by rfl) Try.underlying25 Try.underlying3 hi0 hz0 hz1 hz2 (by omega) (by rfl) (by rfl) (by rfl) (show OwnO (w.drewN nq).drew base 26 A l.length c (u64s l) from HOW.out) q (by rfl) hq1 (by omega) (by omega) (by simpa using hbase) ?_
    intro A2 p2 w2 o2 g2 q2
    have hb2 : Blk w2 g 28 #[.int .i64 f, .slice A l.length c, .int .u64 (t : Int)] := Blk.grown (show Blk (w.drewN nq).drew g 28 #[.int .i64 f, .slice A l.length c, .int .u64 (t : Int)] from HH.out.1) g2 (by intro e; exact HNE.out e.symm)
    have d0 : w2.cell? ⟨g, 0, none⟩ = some (.int .i64 f) := by rw [hb2.cell]; rfl
    have d1 : w2.cell? ⟨g, 1, none⟩ = some (.slice A l.length c) := by rw [hb2.cell]; rfl
    have fr1 : w2.frozen? ⟨g, 1, none⟩ = false := hb2.free 1
    have OO := Lib.hid o2
    have GG := Lib.hid g2
    have QQ := Lib.hid q2
    have BB := Lib.hid hb2
    clear o2 g2 q2 hb2
    refine hK.out _ _ ?_ (fun hHeld => ?_)
    · exact fun _ => ⟨d0, d1⟩
    clear hK K
    replace hHeld := hHeld (by decide)
    try go_simp
    refine wpAnyT_take (i := 19) (oi := ?_) (v := ?_) ?_ ?_ ?_ ?_ ?_ ?_ ?_ ?_ ?_
    rotate_left 2
    · simp only [List.getElem?_toArray, List.getElem?_cons_succ, List.getElem?_cons_zero]; rfl
    · kernel_rfl
    · kernel_rfl
    · kernel_rfl
    · kernel_rfl
    · exact fun _ _ _ h => h
    · exact Or.inl ⟨by kernel_rfl, by intro w hSw; (try dsimp only at hSw); go_simp; try with_reducible rfl⟩
    · assumption
    try go_simp
    refine wpAnyT_take (i := 20) (oi := ?_) (v := ?_) ?_ ?_ ?_ ?_ ?_ ?_ ?_ ?_ ?_
    rotate_left 2
    · simp only [List.getElem?_toArray, List.getElem?_cons_succ, List.getElem?_cons_zero]; rfl
    · kernel_rfl
    · kernel_rfl
    · kernel_rfl
    · kernel_rfl
    · exact fun _ _ _ h => h
    · exact Or.inl ⟨by kernel_rfl, by intro w hSw; (try dsimp only at hSw); go_simp; try with_reducible rfl⟩
    · assumption
    try go_simp
    refine wpAnyT_one (i := 21) (o := ?_) ?_ ?_ ?_
    rotate_left 1
    · simp only [List.getElem?_toArray, List.getElem?_cons_succ, List.getElem?_cons_zero]; rfl
    · kernel_rfl
    intro K hK
    go_simp
    refine hK.out _ _ ?_ (fun hHeld => ?_)
    · exact fun h => absurd rfl h
    clear hK K
    try go_simp
    refine wpAnyT_done (by kernel_rfl) ?_ _
    refine NoPanic.normal ?_
    go_wp2_with fail
    have hne : blockOf A2 ≠ some g := OO.out.ne_blk BB.out (by decide)
    refine bodyPost_end (v := .tuple #[]) (results_none Try.results22 _ _ _) rfl ⟨A2, p2, rfl, ⟨?_, ?_⟩, ?_, ?_⟩
    · have h := BB.out.put 1 (.slice A2 (l.length + q) p2)
      rw [List.length_append, List.length_replicate]
      exact h
    · have h : OwnO w2 base 26 A2 (l.length + q) p2 (u64s l ++ List.replicate q (.int .u64 0)) := OO.out
      rw [List.length_append, List.length_replicate, u64s_zeros]
      exact h.setOther hne _
    · rcases QQ.out with h | h
      · exact .inl h
      · exact .inr ⟨_, h, by simp⟩
    · exact (((Only.refl _ w).drewN nq).drew.step (Only.of_grown GG.out) (fun i hi => .inl (.inr hi))).set (.inl (.inl rfl)) _
  · have e2 : reachL f l k = l := by unfold reachL; rw [if_neg hl, if_neg hkf, if_neg hfar]
    rw [e2]
    clear e2
    have hg : decide (f + (l.length : Int) ≤ k) = false := by simpa using hfar
    go_enter Try.func22, Try.ntmps22
    go_wp2_with fail
    go_quiet (fail)
    go_wp2_with fail
    exact bodyPost_end (v := .tuple #[]) (results_none Try.results22 _ _ _) rfl ⟨A, c, rfl, HH.out, .inl rfl, (Only.refl _ w).drewN _⟩
end Go.Proofs.Ytknimekfkkihpaa
