/- Wire: the readers zig and nine walked. -/
import Derived.Test.YtbfhiegbgkkgiaaGreatC18
namespace Go.Proofs.YtbfhiegbgkkgiaaGreat
open Go.RowKit
open Wi
namespace Wi
theorem dleb_lt : ∀ (l : List UInt8) (i n : Nat), i ≤ 9 → n < 128 ^ i → (dleb i n l).2.1 < 18446744073709551616
  | [], _, _, _, _ => by simp [dleb]
  | x :: l, i, n, hi, hn => by
    have hx := x.toNat_lt
    unfold dleb
    split
    · decide
    · rename_i h9
      split
      · rename_i h127
        exact dleb_lt l (i + 1) _ (by
          rcases Nat.lt_or_ge i 9 with h | h
          · omega
          · exact absurd ⟨by omega, by omega⟩ h9) (leb_lt hn)
      · split
        · decide
        · show n + x.toNat % 128 * 128 ^ i < 18446744073709551616
          rcases Nat.lt_or_ge i 9 with h | h
          · have e2 : (128 : Nat) ^ i ≤ 128 ^ 8 := Nat.pow_le_pow_right (by decide) (by omega)
            have e4 : x.toNat % 128 * 128 ^ i ≤ 127 * 128 ^ 8 := Nat.mul_le_mul (by omega) e2
            omega
          · obtain rfl : i = 9 := by omega
            have e4 : x.toNat % 128 * 128 ^ 9 ≤ 1 * 128 ^ 9 := Nat.mul_le_mul (by omega) (Nat.le_refl _)
            omega
/-- The same for numbers with a sign. -/
def dzig (l : List UInt8) : Nat × Nat × Nat := ((dleb 0 0 l).1, unsign (dleb 0 0 l).2.1, (dleb 0 0 l).2.2)
/-- What the letter n is read as, from its byte i on. -/
def dnine (i n : Nat) : List UInt8 → Nat × Nat × Nat
  | [] => (20, 0, 0)
  | x :: l => if i = 8 then (if x.toNat = 0 then (21, 0, 0) else (0, unsign (n + x.toNat * 128 ^ 8), i + 1)) else if 127 < x.toNat then dnine (i + 1) (n + x.toNat % 128 * 128 ^ i) l else if x.toNat = 0 ∧ 0 < i then (21, 0, 0) else (0, unsign (n + x.toNat % 128 * 128 ^ i), i + 1)
end Wi
theorem u64_sg {n : Nat} (hn : n < 18446744073709551616) : IntKind.u64.wrap (sg n) = (n : Int) := by
  rw [IntKind.wrap_u64]
  unfold sg
  split <;> omega
set_option maxRecDepth 100000 in
theorem rzig_t (base g : Nat) (A : Option Addr) (c : Nat) (l : List UInt8) (p : Nat) (k : Int) (w : World) (h : Rdr w base g A c l p) (hp : p ≤ l.length) (hl : l.length ≤ 100000000) :
    Calls Tryz.prog 111 #[.pointer (some ⟨g, 0, none⟩), .int .i64 k] w (LebPost base g A c l p (dzig (l.drop p)) w) := by
  have HL := Lib.hid (rleb_t base g A c l p k w h hp hl)
  have hlt := dleb_lt (l.drop p) 0 0 (by decide) (by decide)
  unfold dzig
  generalize dleb 0 0 (l.drop p) = r at *
  have hsg := u64_sg (unsign_lt hlt)
  have HU := Lib.hid (fun W => unsign_t r.2.1 W hlt)
  clear h hp hlt
  obtain ⟨re, rn, ru⟩ := r
  dsimp only at hsg
  go_enter Tryz.func111, Tryz.ntmps111
  go_wp2_with fail
  refine HL.out.mono ?_
  rintro e w1 ⟨rfl, h1⟩
  have H1 := Lib.hid h1
  clear h1
  dsimp only
  go_wp2_with fail
  refine (HU.out _).mono ?_
  rintro e w2 ⟨rfl, rfl⟩
  dsimp only
  go_wp2_with fail
  go_ret2
  exact ⟨rfl, H1.out⟩
theorem nine_or {n y : Nat} (hn : n < 128 ^ 8) (hy : y < 256) : bits .or .u64 (n : Int) (IntKind.u64.wrap (IntKind.u64.wrap (y : Int) * 72057594037927936)) = ((n + y * 128 ^ 8 : Nat) : Int) := by
  have e4 : (y : Int) * 72057594037927936 = ((y * 128 ^ 8 : Nat) : Int) := by rw [Int.natCast_mul]; rfl
  rw [IntWalk.u64_in (y : Int) ⟨by omega, by omega⟩, e4, IntWalk.u64_in _ ⟨by omega, by omega⟩, u64_or_nat _ _ (by omega) (by omega), or_128 hn]
set_option maxRecDepth 100000 in
set_option maxHeartbeats 3200000 in
theorem rnine_t (base g : Nat) (A : Option Addr) (c : Nat) (l : List UInt8) (p : Nat) (k : Int) (w : World) (h : Rdr w base g A c l p) (hp : p ≤ l.length) (hl : l.length ≤ 100000000) :
    Calls Tryz.prog 113 #[.pointer (some ⟨g, 0, none⟩), .int .i64 k] w (LebPost base g A c l p (dnine 0 0 (l.drop p)) w) := by
  have H := Lib.hid h
  have HP := Lib.hid hp
  obtain ⟨R, hR⟩ : ∃ R, R = dnine 0 0 (l.drop p) := ⟨_, rfl⟩
  rw [← hR]
  have HR0 := Lib.hid hR
  clear h hR
  go_enter Tryz.func113, Tryz.ntmps113
  go_wp2_with fail
  go_loopw [6, 9] (fun u v wr => ∃ (i n q : Nat), v = .int .i64 (i : Int) ∧ u = .int .u64 (n : Int) ∧ i ≤ 8 ∧ n < 128 ^ i ∧ p + i ≤ l.length ∧ R = dnine i n (l.drop (p + i)) ∧ wr = w.drewN q) (fun _ v _ => 9 - (intOf v).toNat)
  case atStart => exact ⟨0, 0, 0, rfl, rfl, by omega, by decide, HP.out, HR0.out, rfl⟩
  case round =>
    obtain ⟨i, n, q, rfl, rfl, hi, hn, hpi, hR, rfl⟩ := hrel
    obtain ⟨wo, hwo⟩ : ∃ wo : World, wo = w.drewN q := ⟨_, rfl⟩
    have hRd : Rdr wo base g A c l p := by rw [hwo]; exact ⟨H.out.1.drewN q, H.out.2⟩
    rw [← hwo]
    have HWO := Lib.hid hwo
    clear hwo
    have c0 : wo.cell? ⟨g, 0, none⟩ = some (.slice A l.length c) := by rw [hRd.1.cell]; rfl
    have c1 : wo.cell? ⟨g, 1, none⟩ = some (.int .i64 (p : Int)) := by rw [hRd.1.cell]; rfl
    have fr := hRd.1.free
    obtain ⟨j, hj⟩ : ∃ j, j = p + i := ⟨_, rfl⟩
    have ej : IntKind.i64.wrap ((p : Int) + (i : Int)) = (j : Int) := by rw [IntWalk.i64_in _ ⟨by omega, by omega⟩]; omega
    have ej2 : (p : Int) + (i : Int) = (j : Int) := by omega
    have hj0 : (0 : Int) ≤ (j : Int) := by omega
    have hi9 : (i : Int) < 9 := by omega
    rw [← hj] at hR hpi
    have hjb : (j : Int) ≤ 100000000 := by omega
    by_cases hlt : j < l.length
    · have hlt0 : (j : Int) < (l.length : Int) := by omega
      obtain ⟨gb, hA, _, _, _, hcl, _⟩ := Own.form (show Own wo base 5 1 A l.length c (bvs l) from hRd.2) (by omega)
      subst hA
      obtain ⟨x, hx⟩ : ∃ x, l[j]? = some x := ⟨_, List.getElem?_eq_getElem hlt⟩
      have d0 := hcl j (.int .u8 (x.toNat : Int)) (by simp only [bvs, List.getElem?_map, hx, bv, Option.map_some])
      have hR2 : R = if i = 8 then (if x.toNat = 0 then (21, 0, 0) else (0, unsign (n + x.toNat * 128 ^ 8), i + 1)) else if 127 < x.toNat then dnine (i + 1) (n + x.toNat % 128 * 128 ^ i) (l.drop (j + 1)) else if x.toNat = 0 ∧ 0 < i then (21, 0, 0) else (0, unsign (n + x.toNat % 128 * 128 ^ i), i + 1) := by
        obtain ⟨hl2, e⟩ := List.getElem?_eq_some_iff.1 hx
        rw [hR, List.drop_eq_getElem_cons hl2, e]
        rfl
      have hx256 := x.toNat_lt
      generalize x.toNat = y at *
      have HRD := Lib.hid hRd
      have hpb : (p : Int) ≤ 100000000 := by omega
      clear hR hcl hx hRd hp
      by_cases h8 : i = 8
      · rw [if_pos h8] at hR2
        have e8 : ((i : Int) == 8) = true := by simp; omega
        have e8b : decide ((i : Int) < 8) = false := by simp; omega
        have e4 : decide ((0 : Int) < (i : Int)) = true := by simp; omega
        have e5 : decide (0 < i) = true := by simp; omega
        have hn8 : n < 128 ^ 8 := by rw [h8] at hn; exact hn
        have hlt64 : n + y * 128 ^ 8 < 18446744073709551616 := by omega
        have HOR := Lib.hid (nine_or hn8 hx256)
        by_cases hz : y = 0
        · rw [if_pos hz] at hR2
          have e3 : ((y : Int) == 0) = true := by simp; omega
          have HRE := Lib.hid hR2
          clear hR2 h8 hn hi hlt hj hpi hz hx256 hn8 hlt64
          go_wp2_with fail
          go_quiet (fail)
          go_wp2_with fail
          go_quiet (fail)
          go_wp2_with fail
          go_ret2
          rw [HRE.out]
          exact ⟨rfl, ⟨HRD.out.1.drewN _, HRD.out.2⟩, by rw [HWO.out]; exact ((Only.refl _ w).drewN q).drewN _⟩
        · rw [if_neg hz] at hR2
          have e3 : ((y : Int) == 0) = false := by simp; omega
          have HRE := Lib.hid hR2
          have HU := Lib.hid (fun W => unsign_t _ W hlt64)
          have HSG := Lib.hid (u64_sg (unsign_lt hlt64))
          clear hR2 h8 hn hi hlt hj hpi hz hx256 hn8 hlt64
          go_wp2_with fail
          go_quiet (fail)
          go_wp2_with fail
          go_quiet (fail)
          go_wp2_with fail
          rw [HOR.out]
          refine (HU.out _).mono ?_
          rintro e w2 ⟨rfl, rfl⟩
          go_wp2_with fail
          go_ret2
          rw [HRE.out]
          exact ⟨by rw [HSG.out]; rfl, rdr_end HRD.out HWO.out (i + 1) (by omega)⟩
      · rw [if_neg h8] at hR2
        have e8 : ((i : Int) == 8) = false := by simp; omega
        have e8b : decide ((i : Int) < 8) = true := by simp; omega
        have HOR := Lib.hid (leb_or hn hx256 (by omega) (fun h => by omega))
        have hlt64 : n + y % 128 * 128 ^ i < 18446744073709551616 := by
          have e2 : (128 : Nat) ^ i ≤ 128 ^ 8 := Nat.pow_le_pow_right (by decide) (by omega)
          have e4 : y % 128 * 128 ^ i ≤ 127 * 128 ^ 8 := Nat.mul_le_mul (by omega) e2
          omega
        by_cases hy : 127 < y
        · rw [if_pos hy] at hR2
          have e1 : decide ((127 : Int) < (y : Int)) = true := by simp; omega
          have HI := Lib.hid (show i < 8 by omega)
          have HRE := Lib.hid hR2
          have HN := Lib.hid (leb_lt (x := y) hn)
          have HJ := Lib.hid hj
          have HL := Lib.hid hlt
          clear hR2 h8 hn hi hj hpi hy hlt hx256 hlt64
          go_wp2_with fail
          go_quiet (fail)
          go_wp2_with fail
          go_quiet (fail)
          go_wp2_with fail
          go_roundw
          case rel => exact ⟨i + 1, n + y % 128 * 128 ^ i, q + _, by go_num, by rw [HOR.out], HI.out, HN.out, by have := HJ.out; have := HL.out; omega, by rw [HRE.out, HJ.out]; rfl, by rw [HWO.out, World.drewN_drewN]⟩
          case measure => have := HI.out; simp [intOf]; omega
        · rw [if_neg hy] at hR2
          have e1 : decide ((127 : Int) < (y : Int)) = false := by simp; omega
          by_cases hz : y = 0 ∧ 0 < i
          · rw [if_pos hz] at hR2
            have e3 : ((y : Int) == 0) = true := by simp; omega
            have e4 : decide ((0 : Int) < (i : Int)) = true := by simp; omega
            have e5 : decide (0 < i) = true := by simp; omega
            have HRE := Lib.hid hR2
            clear hR2 h8 hn hi hlt hj hpi hy hz hx256 hlt64
            go_wp2_with fail
            go_quiet (fail)
            go_wp2_with fail
            go_quiet (fail)
            go_wp2_with fail
            go_ret2
            rw [HRE.out]
            exact ⟨rfl, ⟨HRD.out.1.drewN _, HRD.out.2⟩, by rw [HWO.out]; exact ((Only.refl _ w).drewN q).drewN _⟩
          · rw [if_neg hz] at hR2
            have e3 : ((y : Int) == 0) = false ∨ (((y : Int) == 0) = true ∧ decide ((0 : Int) < (i : Int)) = false ∧ decide (0 < i) = false) := by
              by_cases hy0 : y = 0
              · exact .inr ⟨by simp; omega, by simp; omega, by simp; omega⟩
              · exact .inl (by simp; omega)
            have HRE := Lib.hid hR2
            have HU := Lib.hid (fun W => unsign_t _ W hlt64)
            have HSG := Lib.hid (u64_sg (unsign_lt hlt64))
            clear hR2 h8 hn hi hlt hj hpi hy hz hx256 hlt64
            rcases e3 with e3 | ⟨e3, e3b, e3c⟩
            all_goals
              go_wp2_with fail
              go_quiet (fail)
              go_wp2_with fail
              go_quiet (fail)
              go_wp2_with fail
              rw [HOR.out]
              refine (HU.out _).mono ?_
              rintro e w2 ⟨rfl, rfl⟩
              go_wp2_with fail
              go_ret2
              rw [HRE.out]
              exact ⟨by rw [HSG.out]; rfl, rdr_end HRD.out HWO.out (i + 1) (by omega)⟩
    · have hge : decide ((l.length : Int) ≤ (j : Int)) = true := by simp; omega
      have hge2 : decide (l.length ≤ j) = true := by simp; omega
      have hRe : R = (20, 0, 0) := by rw [hR, List.drop_of_length_le (by omega)]; rfl
      have HRE := Lib.hid hRe
      have HRD := Lib.hid hRd
      clear hR hlt hi hn hpi hj hRe hRd hp
      go_wp2_with fail
      go_quiet (fail)
      go_wp2_with fail
      go_ret2
      rw [HRE.out]
      exact ⟨rfl, ⟨HRD.out.1.drewN nq, HRD.out.2⟩, by rw [HWO.out]; exact ((Only.refl _ w).drewN q).drewN nq⟩
end Go.Proofs.YtbfhiegbgkkgiaaGreat
/- Wire: what every letter's reader reads; Next walked. -/

namespace Go.Proofs.YtbfhiegbgkkgiaaGreat
open Go.RowKit
open Wi
/-- What bytes are read as by a form: an error's number, the number, how many bytes. -/
def decF (f : Frm) (l : List UInt8) : Nat × Nat × Nat :=
  if f.2.2.2 = 105 then (if l.length < f.2.1 then (20, 0, 0) else (0, lov (l.take f.2.1), f.2.1))
  else if f.2.2.2 = 107 then (if l.length < f.2.1 then (20, 0, 0) else (0, hov (l.take f.2.1), f.2.1))
  else if f.2.2.2 = 109 then dleb 0 0 l
  else if f.2.2.2 = 111 then dzig l
  else dnine 0 0 l
set_option maxRecDepth 100000 in
theorem glow (base g : Nat) (A : Option Addr) (c : Nat) (l : List UInt8) (p k : Nat) (w : World) (h : Rdr w base g A c l p) (hp : p ≤ l.length) (hk : k ≤ 8) (hl : l.length ≤ 100000000) :
    Calls Tryz.prog 105 #[.pointer (some ⟨g, 0, none⟩), .int .i64 (k : Int)] w (LebPost base g A c l p (if (l.drop p).length < k then (20, 0, 0) else (0, lov ((l.drop p).take k), k)) w) := by
  have hd : (l.drop p).length = l.length - p := List.length_drop
  split
  · refine (rlow_end base g A c l p k w h hp (by omega) hl).mono ?_
    rintro e w' ⟨rfl, q, rfl⟩
    exact ⟨rfl, ⟨h.1.drewN q, h.2⟩, (Only.refl _ _).drewN q⟩
  · exact rlow_t base g A c l p k w h (by omega) hk hl
set_option maxRecDepth 100000 in
theorem ghigh (base g : Nat) (A : Option Addr) (c : Nat) (l : List UInt8) (p k : Nat) (w : World) (h : Rdr w base g A c l p) (hp : p ≤ l.length) (hk : k ≤ 8) (hl : l.length ≤ 100000000) :
    Calls Tryz.prog 107 #[.pointer (some ⟨g, 0, none⟩), .int .i64 (k : Int)] w (LebPost base g A c l p (if (l.drop p).length < k then (20, 0, 0) else (0, hov ((l.drop p).take k), k)) w) := by
  have hd : (l.drop p).length = l.length - p := List.length_drop
  split
  · refine (rhigh_end base g A c l p k w h hp (by omega) hl).mono ?_
    rintro e w' ⟨rfl, q, rfl⟩
    exact ⟨rfl, ⟨h.1.drewN q, h.2⟩, (Only.refl _ _).drewN q⟩
  · exact rhigh_t base g A c l p k w h (by omega) hk hl
set_option maxRecDepth 100000 in
theorem get_any {k : Nat} {f : Frm} (hf : frms[k]? = some f) (base g : Nat) (A : Option Addr) (c : Nat) (l : List UInt8) (p : Nat) (w : World) (h : Rdr w base g A c l p) (hp : p ≤ l.length) (hl : l.length ≤ 100000000) :
    Calls Tryz.prog f.2.2.2 #[.pointer (some ⟨g, 0, none⟩), .int .i64 (f.2.1 : Int)] w (LebPost base g A c l p (decF f (l.drop p)) w) := by
  have hk : k < 10 := (List.getElem?_eq_some_iff.1 hf).1
  rcases k with _ | _ | _ | _ | _ | _ | _ | _ | _ | _ | k
  · injection hf with hf; subst hf; exact glow base g A c l p 1 w h hp (by omega) hl
  · injection hf with hf; subst hf; exact glow base g A c l p 2 w h hp (by omega) hl
  · injection hf with hf; subst hf; exact ghigh base g A c l p 2 w h hp (by omega) hl
  · injection hf with hf; subst hf; exact glow base g A c l p 4 w h hp (by omega) hl
  · injection hf with hf; subst hf; exact ghigh base g A c l p 4 w h hp (by omega) hl
  · injection hf with hf; subst hf; exact glow base g A c l p 8 w h hp (by omega) hl
  · injection hf with hf; subst hf; exact ghigh base g A c l p 8 w h hp (by omega) hl
  · injection hf with hf; subst hf; exact rleb_t base g A c l p _ w h hp hl
  · injection hf with hf; subst hf; exact rzig_t base g A c l p _ w h hp hl
  · injection hf with hf; subst hf; exact rnine_t base g A c l p _ w h hp hl
  · omega
/-- The cells of a form that was stored in a new block. -/
theorem row_new {w w' : World} {cs0 cs : Array Value} {t : TypeId} (h : w' = (w.alloc (.cells cs0 t)).setRow w.heap.size cs) : Blk w' w.heap.size t cs := by
  rw [h]
  exact setRow_heap _ _ _ _ t _ (heap_alloc_new _ _)
theorem row_below {B : Nat} {a w : World} (h : Below B a w) (hB : B ≤ w.heap.size) (o : Obj) (cs : Array Value) : Below B a ((w.alloc o).setRow w.heap.size cs) :=
  below_setRow (h.alloc hB _) hB _
set_option maxRecDepth 100000 in
/-- What the table names is entered. -/
theorem enter_get {k : Nat} {f : Frm} (hf : frms[k]? = some f) : ∀ (args : Array Value) (w : World), (callFunc f.2.2.2 args).run Tryz.prog w = .ok (.enter f.2.2.2 args) w := by
  have hk : k < 10 := (List.getElem?_eq_some_iff.1 hf).1
  intro args w
  rcases k with _ | _ | _ | _ | _ | _ | _ | _ | _ | _ | k <;> first | omega | (injection hf with hf; subst hf; kernel_rfl)
set_option maxRecDepth 100000 in
theorem enter_put {k : Nat} {f : Frm} (hf : frms[k]? = some f) : ∀ (args : Array Value) (w : World), (callFunc f.2.2.1 args).run Tryz.prog w = .ok (.enter f.2.2.1 args) w := by
  have hk : k < 10 := (List.getElem?_eq_some_iff.1 hf).1
  intro args w
  rcases k with _ | _ | _ | _ | _ | _ | _ | _ | _ | _ | k <;> first | omega | (injection hf with hf; subst hf; kernel_rfl)
set_option maxRecDepth 100000 in
set_option maxHeartbeats 1600000 in
theorem next_t (base g : Nat) (A : Option Addr) (c : Nat) (l : List UInt8) (p : Nat) (x : Nat) (w : World) (h : Rdr w base g A c l p) (hp : p ≤ l.length) (hl : l.length ≤ 100000000) {f : Frm} (hf : frms[fi x]? = some f) :
    Calls Tryz.prog 32 #[.pointer (some ⟨g, 0, none⟩), .int .u8 (x : Int)] w (LebPost base g A c l p (decF f (l.drop p)) w) := by
  have H := Lib.hid h
  have HF := Lib.hid hf
  have HP := Lib.hid hp
  clear h hf hp
  go_enter Tryz.func32, Tryz.ntmps32
  go_wp2_with fail
  refine (formOf_t x w).mono ?_
  rintro e w1 ⟨hc, hb1⟩
  have HB1 := Lib.hid hb1
  clear hb1
  rcases hc with ⟨f', hf', rfl⟩ | ⟨h10, rfl⟩
  · obtain rfl : f' = f := by
      have := HF.out
      rw [hf'] at this
      injection this
    clear hf'
    obtain ⟨W2, hW2⟩ : ∃ W2, W2 = (w1.alloc (.cells zeroC.toArray 111)).setRow w1.heap.size (frmC f').toArray := ⟨_, rfl⟩
    have B2 := row_new hW2
    have c1 : W2.cell? ⟨w1.heap.size, 1, none⟩ = some (.int .i64 (f'.2.1 : Int)) := by rw [B2.cell]; rfl
    have c3 : W2.cell? ⟨w1.heap.size, 3, none⟩ = some (fn0 f'.2.2.2) := by rw [B2.cell]; rfl
    have hbw : Below w.heap.size w W2 := by rw [hW2]; exact row_below HB1.out HB1.out.size _ _
    have HG := Lib.hid (get_any HF.out base g A c l p W2 (H.out.below hbw) HP.out hl)
    have HON := Lib.hid (Only.of_below (K := RK g) hbw)
    rw [hW2] at c1 c3 HG HON
    unfold zeroC at c1 c3 HG HON
    unfold fn0 at c3
    have hent := enter_get HF.out
    clear B2 hbw hW2 W2
    unfold frmV
    go_wp2_with (first | (refine wpList_store_row rfl 111 _ _ rfl w1.heap.size (frmC f').toArray rfl rfl 111 _ (heap_alloc_new _ _) frm_info rfl (frmC_one _) ?_) | fail)
    refine HG.out.mono ?_
    rintro e w3 ⟨rfl, h3, h4⟩
    have H3 := Lib.hid h3
    have H4 := Lib.hid h4
    clear h3 h4 c1 c3
    go_wp2_with fail
    go_ret2
    exact ⟨rfl, H3.out, HON.out.trans H4.out⟩
  · exfalso
    have := (List.getElem?_eq_some_iff.1 HF.out).1
    have e : frms.length = 10 := rfl
    omega
end Go.Proofs.YtbfhiegbgkkgiaaGreat
/- Wire: Get walked. -/

namespace Go.Proofs.YtbfhiegbgkkgiaaGreat
open Go.RowKit
open Wi
theorem Own.ne_own {w : World} {base base' : Nat} {e e' : TypeId} {size size' n n' c c' : Nat} {A A' : Option Addr} {xs xs' : List Value} (h : Own w base e size A n c xs) (h' : Own w base' e' size' A' n' c' xs') (hne : e ≠ e') (g : Nat) (hg : blockOf A = some g) : blockOf A' ≠ some g := by
  rcases h.2 with ⟨hv, _⟩ | ⟨g1, cap, cur, hv, _, hh, _⟩
  · injection hv with hA _ _
    subst hA
    cases hg
  · injection hv with hA _ _
    subst hA
    have hg1 : g1 = g := by simpa [blockOf] using hg
    subst hg1
    exact Own.ne_blk h' (show Blk w g1 e cur from hh) (fun h => hne h.symm)
/-- Numbers without a sign, as values. -/
def uv (n : Nat) : Value := .int .u64 (n : Int)
def uvs (l : List Nat) : List Value := l.map uv
theorem uvs_append (l m : List Nat) : uvs (l ++ m) = uvs l ++ uvs m := by simp [uvs]
theorem uvs_length (l : List Nat) : (uvs l).length = l.length := by simp [uvs]
theorem uvs_one (l : List Nat) : ∀ u ∈ uvs l, u.oneCell' = true := by
  intro u hu
  obtain ⟨_, _, rfl⟩ := List.mem_map.1 hu
  rfl
set_option maxRecDepth 100000 in
theorem elem_u64 : Elem Tryz.prog 62 39 1 8 := elem_of Tryz.underlying62 (z := .int .u64 0) (by kernel_rfl) (by decide) (by decide)
theorem u64_new (w : World) (n : Nat) : Reads (w.alloc (.cells #[.int .u64 (n : Int)] 39)) (w.alloc (.cells #[.int .u64 (n : Int)] 39)).heap.size 1 (some ⟨w.heap.size, 0, none⟩) 1 (uvs [n]) :=
  Reads.lit (newest _ _) rfl rfl
/-- The slice '.slice A l.length c', the call's own, holds the numbers l. -/
def OwnU (w : World) (base : Nat) (A : Option Addr) (c : Nat) (l : List Nat) : Prop := Own w base 39 1 A l.length c (uvs l)
/-- A slice '.slice A l.length _' that holds the numbers l. -/
def Us (w : World) (B : Nat) (A : Option Addr) (l : List Nat) : Prop := Reads w B 1 A l.length (uvs l)
namespace Wi
theorem dleb_used : ∀ (l : List UInt8) (i n : Nat), (dleb i n l).1 = 0 → (dleb i n l).2.2 ≤ i + l.length ∧ i < (dleb i n l).2.2
  | [], i, n => by simp [dleb]
  | x :: l, i, n => by
    unfold dleb
    split
    · simp
    · split
      · intro h
        have := dleb_used l (i + 1) _ h
        rw [List.length_cons]
        omega
      · split
        · simp
        · intro _
          rw [List.length_cons]
          exact ⟨by dsimp only; omega, by dsimp only; omega⟩
theorem dleb_err : ∀ (l : List UInt8) (i n : Nat), (dleb i n l).1 ≠ 0 → (dleb i n l).2.2 = 0
  | [], i, n => by simp [dleb]
  | x :: l, i, n => by
    unfold dleb
    split
    · simp
    · split
      · exact dleb_err l (i + 1) _
      · split <;> simp
theorem dnine_used : ∀ (l : List UInt8) (i n : Nat), (dnine i n l).1 = 0 → (dnine i n l).2.2 ≤ i + l.length
  | [], i, n => by simp [dnine]
  | x :: l, i, n => by
    unfold dnine
    split
    · split
      · simp
      · intro _; rw [List.length_cons]; dsimp only; omega
    · split
      · intro h
        have := dnine_used l (i + 1) _ h
        rw [List.length_cons]
        omega
      · split
        · simp
        · intro _
          rw [List.length_cons]
          dsimp only; omega
theorem dnine_err : ∀ (l : List UInt8) (i n : Nat), (dnine i n l).1 ≠ 0 → (dnine i n l).2.2 = 0
  | [], i, n => by simp [dnine]
  | x :: l, i, n => by
    unfold dnine
    split
    · split <;> simp
    · split
      · exact dnine_err l (i + 1) _
      · split <;> simp
theorem dnine_lt : ∀ (l : List UInt8) (i n : Nat), i ≤ 8 → n < 128 ^ i → (dnine i n l).2.1 < 18446744073709551616
  | [], _, _, _, _ => by simp [dnine]
  | x :: l, i, n, hi, hn => by
    have hx := x.toNat_lt
    unfold dnine
    split
    · rename_i h8
      subst h8
      split
      · decide
      · exact unsign_lt (by omega)
    · split
      · exact dnine_lt l (i + 1) _ (by omega) (leb_lt hn)
      · split
        · decide
        · refine unsign_lt ?_
          have e2 : (128 : Nat) ^ i ≤ 128 ^ 7 := Nat.pow_le_pow_right (by decide) (by omega)
          have e4 : x.toNat % 128 * 128 ^ i ≤ 127 * 128 ^ 7 := Nat.mul_le_mul (by omega) e2
          omega
theorem lov_small8 {l : List UInt8} (h : l.length ≤ 8) : lov l < 18446744073709551616 := by
  have h1 := lov_lt l
  have e2 : (256 : Nat) ^ l.length ≤ 256 ^ 8 := Nat.pow_le_pow_right (by decide) h
  omega
end Wi
theorem frm_size {k : Nat} {f : Frm} (hf : frms[k]? = some f) : f.2.1 ≤ 8 := by
  have hk : k < 10 := (List.getElem?_eq_some_iff.1 hf).1
  rcases k with _ | _ | _ | _ | _ | _ | _ | _ | _ | _ | k <;> first | omega | (injection hf with hf; subst hf; decide)
theorem dec_lt (f : Frm) (l : List UInt8) (hs : f.2.1 ≤ 8) : (decF f l).2.1 < 18446744073709551616 := by
  unfold decF
  split
  · split
    · show 0 < _; decide
    · exact lov_small8 (by rw [List.length_take]; omega)
  split
  · split
    · show 0 < _; decide
    · exact lov_small8 (by rw [List.length_reverse, List.length_take]; omega)
  split
  · exact dleb_lt l 0 0 (by decide) (by decide)
  split
  · exact unsign_lt (dleb_lt l 0 0 (by decide) (by decide))
  · exact dnine_lt l 0 0 (by decide) (by decide)
theorem dec_used (f : Frm) (l : List UInt8) : (decF f l).2.2 ≤ l.length := by
  unfold decF
  split
  · split
    · exact Nat.zero_le _
    · show f.2.1 ≤ _; omega
  split
  · split
    · exact Nat.zero_le _
    · show f.2.1 ≤ _; omega
  split
  · rcases Nat.eq_zero_or_pos (dleb 0 0 l).1 with h | h
    · have := (dleb_used l 0 0 h).1; omega
    · rw [dleb_err l 0 0 (by omega)]; exact Nat.zero_le _
  split
  · show (dleb 0 0 l).2.2 ≤ _
    rcases Nat.eq_zero_or_pos (dleb 0 0 l).1 with h | h
    · have := (dleb_used l 0 0 h).1; omega
    · rw [dleb_err l 0 0 (by omega)]; exact Nat.zero_le _
  · rcases Nat.eq_zero_or_pos (dnine 0 0 l).1 with h | h
    · have := dnine_used l 0 0 h; omega
    · rw [dnine_err l 0 0 (by omega)]; exact Nat.zero_le _
/-- By a letter. -/
def decX (x : UInt8) (l : List UInt8) : Nat × Nat × Nat := match frms[fi x.toNat]? with
  | some f => decF f l
  | none => (22, 0, 0)
theorem decX_of {x : UInt8} {f : Frm} (h : frms[fi x.toNat]? = some f) (l : List UInt8) : decX x l = decF f l := by unfold decX; rw [h]
/-- By a pattern: behind the numbers ns and p bytes. -/
def goL : List UInt8 → List UInt8 → List Nat → Nat → Nat × List Nat × Nat
  | [], _, ns, p => (0, ns, p)
  | x :: pt, l, ns, p => if (decX x l).1 = 0 then goL pt (l.drop (decX x l).2.2) (ns ++ [(decX x l).2.1]) (p + (decX x l).2.2) else ((decX x l).1, [], 0)
def getW (pt l : List UInt8) : Nat × List Nat × Nat := if rightB pt then goL pt l [] 0 else (22, [], 0)
def GetPost (w : World) (r : Nat × List Nat × Nat) (e : Ending) (w' : World) : Prop := ∃ A c, e = .returned (.tuple #[.slice A r.2.1.length c, .int .i64 (r.2.2 : Nat), .int .i64 (r.1 : Nat)]) ∧ OwnU w' w.heap.size A c r.2.1 ∧ Below w.heap.size w w'
theorem ok_at {a : ByteArray} (h : a.data.toList.all okL = true) {i : Nat} (hi : i < a.size) : ∃ f, frms[fi a[i].toNat]? = some f := by
  rw [List.all_eq_true] at h
  have h1 := h a[i] (List.mem_of_getElem? (str_at a i hi))
  have h2 : fi a[i].toNat < 10 := of_decide_eq_true h1
  exact ⟨_, List.getElem?_eq_getElem h2⟩
theorem drop_str {a : ByteArray} {i : Nat} (hi : i < a.size) : a.data.toList.drop i = a[i] :: a.data.toList.drop (i + 1) := by
  have h := str_at a i hi
  obtain ⟨h1, h2⟩ := List.getElem?_eq_some_iff.1 h
  rw [List.drop_eq_getElem_cons h1, h2]
/-- Behind a step of the reader: the numbers are as they were. -/
theorem get_mid {w wo w1 : World} {base gr cr : Nat} {Ar : Option Addr} {l : List UInt8} {p p' c : Nat} {A : Option Addr} {ns : List Nat} (hr : Rdr wo base gr Ar cr l p) (hu : OwnU wo w.heap.size A c ns) (hbel : Below w.heap.size w wo) (hgr : w.heap.size ≤ gr)
    (_h1 : Rdr w1 base gr Ar cr l p') (h2 : Only (RK gr) wo w1) : OwnU w1 w.heap.size A c ns ∧ Below w.heap.size w w1 :=
  ⟨Own.only hu h2 (fun g hg e => Own.ne_blk hu hr.1 (by decide) (by rw [hg, e])), hbel.trans (h2.below hbel.size (fun i hi => by rw [hi]; exact hgr))⟩
/-- Behind the append: the reader is as it was. -/
theorem get_app {w1 w3 : World} {base base' gr cr : Nat} {Ar : Option Addr} {l : List UInt8} {p c : Nat} {A : Option Addr} {ns : List Nat} {cs : Array Value} (hr : Rdr w1 base gr Ar cr l p) (hu : OwnU w1 base' A c ns)
    (g3 : (w1.alloc (.cells cs 39)).grownBy w3 (blockOf A)) : Rdr w3 base gr Ar cr l p := by
  have hu2 := Own.alloc (show Own w1 base' 39 1 A ns.length c (uvs ns) from hu) (.cells cs 39)
  have hb2 := hr.1.alloc (.cells cs 39)
  have ho2 := Own.alloc (show Own w1 base 5 1 Ar l.length cr (bvs l) from hr.2) (.cells cs 39)
  refine ⟨hb2.grown g3 (fun e => Own.ne_blk hu2 hb2 (by decide) e.symm), Own.kept ho2 g3 ?_⟩
  cases hA : blockOf Ar with
  | none => exact .inl rfl
  | some g => exact .inr (fun e => Own.ne_own ho2 hu2 (by decide) g hA e.symm)
end Go.Proofs.YtbfhiegbgkkgiaaGreat
/- Wire: Put walked. -/

namespace Go.Proofs.YtbfhiegbgkkgiaaGreat
open Go.RowKit
open Wi
/-- Has a number room in a form? -/
def fitsF (f : Frm) (n : Nat) : Bool := decide (f.2.1 = 0) || decide (f.2.1 = 8) || decide (n < 256 ^ f.2.1)
/-- Numbers written by a pattern, behind the bytes S. -/
def putL : List UInt8 → List Nat → List UInt8 → Nat × List UInt8
  | x :: pt, n :: ns, S => match frms[fi x.toNat]? with
    | some f => if fitsF f n then putL pt ns (S ++ encF f n) else (5, [])
    | none => (5, [])
  | _, _, S => (0, S)
def putW (pt : List UInt8) (ns : List Nat) : Nat × List UInt8 := if rightB pt ∧ pt.length = ns.length then putL pt ns [] else (22, [])
def PutPost (w : World) (r : Nat × List UInt8) (e : Ending) (w' : World) : Prop := ∃ A c, e = .returned (.tuple #[.slice A r.2.length c, .int .i64 (r.1 : Nat)]) ∧ OwnB w' w.heap.size A c r.2 ∧ Below w.heap.size w w'
theorem Wr.below {w w' : World} {g : Nat} {A : Option Addr} {c : Nat} {L : List UInt8} (h : Wr w g A c L) (hb : Below w.heap.size w w') : Wr w' g A c L := ⟨h.1.below hb h.1.lt, Own.below h.2 hb⟩
theorem wr_out {w W2 w3 : World} {gw c : Nat} {A : Option Addr} {S L : List UInt8} (hbel : Below w.heap.size w W2) (hg : w.heap.size ≤ gw) (hw : Wr W2 gw A c S) (h3 : Wrote gw A L W2 w3) :
    ∃ A' c', Wr w3 gw A' c' L ∧ Below w.heap.size w w3 := by
  obtain ⟨A', c', h1, h2, _⟩ := h3
  refine ⟨A', c', h1, hbel.trans (h2.below hbel.size (fun i hi => ?_))⟩
  rcases hi with rfl | hi
  · exact hg
  · exact Nat.le_trans hg (Own.block hw.2 hi).1
theorem Us.at_ {w : World} {B : Nat} {A : Option Addr} {l : List Nat} (h : Us w B A l) (hn : 0 < l.length) : ∃ b o, A = some ⟨b, o, none⟩ ∧ b < B ∧ ∀ (j : Nat) (n : Nat), l[j]? = some n → w.cell? ⟨b, o + j, none⟩ = some (.int .u64 (n : Int)) := by
  obtain ⟨b, o, e, hb, hc⟩ := h.2 hn
  exact ⟨b, o, e, hb, fun j n hj => hc j _ (by simp [uvs, uv, hj])⟩
theorem shr_div (n s : Nat) : (n : Int) / 2 ^ (8 * s) = ((n / 256 ^ s : Nat) : Int) := by
  rw [show (256 : Nat) = 2 ^ 8 from rfl, ← Nat.pow_mul, Int.natCast_ediv, Int.natCast_pow]
  rfl
theorem fits_no {f : Frm} {n : Nat} (h1 : 0 < f.2.1) (h2 : (f.2.1 : Int) < 8) (h3 : 0 < (n : Int) / 2 ^ (8 * f.2.1)) : fitsF f n = false := by
  rw [shr_div] at h3
  have h4 : ¬ n < 256 ^ f.2.1 := fun h => by rw [Nat.div_eq_of_lt h] at h3; omega
  unfold fitsF
  rw [decide_eq_false (show ¬ f.2.1 = 0 by omega), decide_eq_false (show ¬ f.2.1 = 8 by omega), decide_eq_false h4]
  rfl
theorem fits_1 {f : Frm} {n : Nat} (h3 : (n : Int) / 2 ^ (8 * f.2.1) ≤ 0) : fitsF f n = true := by
  rw [shr_div] at h3
  have h4 : n < 256 ^ f.2.1 := by
    have hp : 0 < 256 ^ f.2.1 := Nat.pow_pos (by decide)
    rcases Nat.lt_or_ge n (256 ^ f.2.1) with h | h
    · exact h
    · have := Nat.div_pos h hp
      omega
  unfold fitsF
  rw [decide_eq_true h4, Bool.or_true]
theorem fits_2 {f : Frm} {n : Nat} (hs : f.2.1 ≤ 8) (h : (8 : Int) ≤ (f.2.1 : Int)) : fitsF f n = true := by
  unfold fitsF
  rw [decide_eq_true (show f.2.1 = 8 by omega), Bool.or_true, Bool.true_or]
theorem fits_3 {f : Frm} {n : Nat} (h : ¬ 0 < f.2.1) : fitsF f n = true := by
  unfold fitsF
  rw [decide_eq_true (show f.2.1 = 0 by omega), Bool.true_or, Bool.true_or]
set_option maxRecDepth 100000 in
set_option maxHeartbeats 3200000 in
theorem put_t (a : ByteArray) (A0 : Option Addr) (c0 : Nat) (l : List Nat) (w : World) (hb : Us w w.heap.size A0 l) (hl : l.length ≤ 100000000) (hn : ∀ n ∈ l, n < 18446744073709551616) :
    Calls Tryz.prog 27 #[.string a, .slice A0 l.length c0] w (PutPost w (putW a.data.toList l)) := by
  have hs : a.data.toList.length = a.size := by simp
  have HRT := Lib.hid (fun W => right_t a W)
  by_cases hR : rightB a.data.toList = true
  · rw [hR] at HRT
    by_cases hlen : a.size = l.length
    · have hall : a.data.toList.all okL = true := by
        unfold rightB at hR
        rw [Bool.and_eq_true] at hR
        exact hR.2
      have h64 : a.size ≤ 64 := by
        unfold rightB at hR
        rw [Bool.and_eq_true] at hR
        have := of_decide_eq_true hR.1
        omega
      have ha : (a.size : Int) ≤ 64 := by omega
      have e1 : ((a.size : Int) != (l.length : Int)) = false := by simp; omega
      have e2 : (a.size != l.length) = false := by simp; omega
      have e3 : ((a.size : Int) == (l.length : Int)) = true := by simp; omega
      have e4 : (a.size == l.length) = true := by simp; omega
      obtain ⟨R, hRe⟩ : ∃ R, R = putW a.data.toList l := ⟨_, rfl⟩
      rw [← hRe]
      have HRE : Hid (R = putL a.data.toList l []) := Lib.hid (by rw [hRe, putW, if_pos ⟨hR, by omega⟩])
      have HA := Lib.hid hall
      have HS := Lib.hid hs
      have HB := Lib.hid hb
      have HN := Lib.hid hn
      have HL := Lib.hid hlen
      clear hRe hR hall hs hb h64 hn hlen
      go_enter Tryz.func27, Tryz.ntmps27
      go_wp2_with fail
      refine (HRT.out _).mono ?_
      rintro e w1 ⟨rfl, h1⟩
      have H1 := Lib.hid h1
      clear h1
      go_wp2_with fail
      have HW1 := Lib.hid (show Wr (w1.alloc (.cells #[.slice none 0 0] 107)) w1.heap.size none 0 [] from ⟨Blk.new _ _ _, Own.nil _ _ _ _⟩)
      have HB1 := Lib.hid (newB H1.out (.cells #[.slice none 0 0] 107))
      have HG1 : Hid (w.heap.size ≤ w1.heap.size) := Lib.hid H1.out.size
      clear H1 e1 e2 e3 e4
      go_loopw [25] (fun v wr => ∃ (i : Nat) (S : List UInt8) (A : Option Addr) (c : Nat), v = .int .i64 (i : Int) ∧ i ≤ l.length ∧ S.length ≤ 10 * i ∧ R = putL (a.data.toList.drop i) (l.drop i) S ∧ Wr wr w1.heap.size A c S ∧ Below w.heap.size w wr) (fun v _ => l.length - (intOf v).toNat)
      case atStart => exact ⟨0, [], none, 0, rfl, Nat.zero_le _, Nat.zero_le _, HRE.out, HW1.out, HB1.out⟩
      case round =>
        obtain ⟨i, S, A, c, rfl, hi, hS, hRi, hwr, hbel⟩ := hrel
        obtain ⟨wo, rfl⟩ : ∃ wo : World, wo = wr := ⟨_, rfl⟩
        have HW := Lib.hid hwr
        have HBE := Lib.hid hbel
        have HRI := Lib.hid hRi
        clear hwr hbel hRi
        by_cases hlt : i < l.length
        · have hii : (i : Int) < (l.length : Int) := by omega
          have hia : i < a.size := by have := HL.out; omega
          have hia2 : (i : Int) < (a.size : Int) := by omega
          have hi0 : (0 : Int) ≤ (i : Int) := by omega
          obtain ⟨b, o, hA0, hbB, hcl⟩ := Us.at_ (show Us wo w.heap.size A0 l from Reads.keep HB.out fun q hq => HBE.out.cell hq) (by omega)
          subst hA0
          obtain ⟨n, hnn⟩ : ∃ n, l[i]? = some n := ⟨_, List.getElem?_eq_getElem hlt⟩
          have d0 := hcl i n hnn
          have hn64 := HN.out n (List.mem_of_getElem? hnn)
          obtain ⟨f, hf⟩ := ok_at HA.out hia
          have hRn : R = if fitsF f n then putL (a.data.toList.drop (i + 1)) (l.drop (i + 1)) (S ++ encF f n) else (5, []) := by
            obtain ⟨h1, h2⟩ := List.getElem?_eq_some_iff.1 hnn
            rw [HRI.out, drop_str hia, List.drop_eq_getElem_cons h1, h2, putL, hf]
          have hel := enc_len hf hn64
          have hs8 := frm_size hf
          have HRN := Lib.hid hRn
          have HF := Lib.hid hf
          have HI := Lib.hid hlt
          have HEL := Lib.hid hel
          clear hcl hnn hRn hf hi hel
          go_wp2_with fail
          refine (formOf_t _ wo).mono ?_
          rintro e w2 ⟨hc, hb1⟩
          have HB2 := Lib.hid hb1
          clear hb1
          rcases hc with ⟨f', hf', rfl⟩ | ⟨h10, rfl⟩
          · obtain rfl : f' = f := by
              have := HF.out
              rw [hf'] at this
              injection this
            clear hf'
            unfold frmV
            obtain ⟨W2, hW2⟩ : ∃ W2, W2 = (w2.alloc (.cells zeroC.toArray 111)).setRow w2.heap.size (frmC f').toArray := ⟨_, rfl⟩
            have B2 := row_new hW2
            have c1 : W2.cell? ⟨w2.heap.size, 1, none⟩ = some (.int .i64 (f'.2.1 : Int)) := by rw [B2.cell]; rfl
            have c2 : W2.cell? ⟨w2.heap.size, 2, none⟩ = some (fn0 f'.2.2.1) := by rw [B2.cell]; rfl
            have hbo : Below wo.heap.size wo W2 := by rw [hW2]; exact row_below HB2.out HB2.out.size _ _
            have hbw : Below w.heap.size w W2 := HBE.out.trans (hbo.mono HBE.out.size)
            have hwr2 := HW.out.below hbo
            have HG := Lib.hid (put_any HF.out w1.heap.size A c S n W2 hwr2 hn64 (by omega))
            have HOUT := Lib.hid (fun w3 (h3 : Wrote w1.heap.size A (S ++ encF f' n) W2 w3) => wr_out hbw HG1.out hwr2 h3)
            have HBW := Lib.hid hbw
            rw [hW2] at c1 c2 HG HOUT HBW
            unfold zeroC at c1 c2 HG HOUT HBW
            unfold fn0 at c2
            have hent := enter_put HF.out
            clear B2 hbw hbo hwr2 hW2 W2
            go_wp2_with (first | (refine wpList_store_row rfl 111 _ _ rfl w2.heap.size (frmC f').toArray rfl rfl 111 _ (heap_alloc_new _ _) frm_info rfl (frmC_one _) ?_) | fail)
            · have hfit : fitsF f' n = false := fits_no (by assumption) (by assumption) (by assumption)
              have HX : Hid (R = (5, [])) := Lib.hid (by rw [HRN.out, hfit]; rfl)
              go_ret2
              rw [HX.out]
              exact ⟨none, 0, rfl, Own.nil _ _ _ _, HBW.out⟩
            all_goals
              have hfit : fitsF f' n = true := by first | exact fits_1 (by assumption) | exact fits_2 hs8 (by assumption) | exact fits_3 (by assumption)
              have HX : Hid (R = putL (a.data.toList.drop (i + 1)) (l.drop (i + 1)) (S ++ encF f' n)) := Lib.hid (by rw [HRN.out, hfit]; rfl)
              refine HG.out.mono ?_
              rintro e w3 ⟨rfl, h3⟩
              obtain ⟨A3, c3, hw3, hb3⟩ := HOUT.out w3 h3
              have HW3 := Lib.hid hw3
              have HB3 := Lib.hid hb3
              clear h3 hw3 hb3 hfit c1 c2
              go_wp2_with fail
              go_roundw
              case rel => exact ⟨i + 1, S ++ encF f' n, A3, c3, by go_num, HI.out, by have := HEL.out; rw [List.length_append]; omega, HX.out, HW3.out, HB3.out⟩
              case measure => have := HI.out; simp [intOf]; omega
          · exfalso
            have := (List.getElem?_eq_some_iff.1 HF.out).1
            have e : frms.length = 10 := rfl
            omega
        · have hge : ¬ (i : Int) < (l.length : Int) := by omega
          have hge2 : decide (i < l.length) = false := by simp; omega
          have hX : R = (0, S) := by
            rw [HRI.out, List.drop_of_length_le (by rw [HS.out]; have := HL.out; omega), List.drop_of_length_le (by omega)]
            rfl
          have HX := Lib.hid hX
          have c0 : wo.cell? ⟨w1.heap.size, 0, none⟩ = some (.slice A S.length c) := by rw [HW.out.1.cell]; rfl
          clear hi hlt hX
          go_wp2_with fail
          go_ret2
          rw [HX.out]
          exact ⟨A, c, rfl, Own.mono HW.out.2 HG1.out, HBE.out⟩
    · have e1 : ((a.size : Int) != (l.length : Int)) = true := by simp; omega
      have e2 : (a.size != l.length) = true := by simp; omega
      have e3 : ((a.size : Int) == (l.length : Int)) = false := by simp; omega
      have e4 : (a.size == l.length) = false := by simp; omega
      have hg : putW a.data.toList l = (22, []) := by unfold putW; rw [if_neg]; omega
      rw [hg]
      clear hR hg hs hb hn hlen
      go_enter Tryz.func27, Tryz.ntmps27
      go_wp2_with fail
      refine (HRT.out _).mono ?_
      rintro e w1 ⟨rfl, h1⟩
      have H1 := Lib.hid h1
      clear h1
      go_wp2_with fail
      go_ret2
      exact ⟨none, 0, rfl, Own.nil _ _ _ _, H1.out⟩
  · have hR2 : rightB a.data.toList = false := by simpa using hR
    have hg : putW a.data.toList l = (22, []) := by unfold putW; rw [if_neg (by rw [hR2]; simp)]
    rw [hg]
    rw [hR2] at HRT
    clear hR hR2 hg hs hb hn
    go_enter Tryz.func27, Tryz.ntmps27
    go_wp2_with fail
    refine (HRT.out _).mono ?_
    rintro e w1 ⟨rfl, h1⟩
    have H1 := Lib.hid h1
    clear h1
    go_wp2_with fail
    go_ret2
    exact ⟨none, 0, rfl, Own.nil _ _ _ _, H1.out⟩
end Go.Proofs.YtbfhiegbgkkgiaaGreat
/- Wire: alive walked; WireSigns walked. -/

namespace Go.Proofs.YtbfhiegbgkkgiaaGreat
open Go.RowKit
open Wi
def PutIs (w : World) (n : Nat) (k : Int) (l : List UInt8) (e : Ending) (w' : World) : Prop := (∃ A c, e = .returned (.tuple #[.slice A n c, .int .i64 k]) ∧ Bts w' w'.heap.size A l) ∧ Below w.heap.size w w'
set_option maxRecDepth 100000 in
theorem put_is {a : ByteArray} {A0 : Option Addr} {c0 m : Nat} {ns : List Nat} {w : World} (hb : Us w w.heap.size A0 ns) (hm : ns.length = m) (hl : ns.length ≤ 100000000) (hn : ∀ n ∈ ns, n < 18446744073709551616) {n k : Nat} {l : List UInt8} (h : putW a.data.toList ns = (k, l)) (hn2 : l.length = n) :
    Calls Tryz.prog 27 #[.string a, .slice A0 m c0] w (PutIs w n (k : Int) l) := by
  subst hm
  refine (put_t a A0 c0 ns w hb hl hn).mono ?_
  rintro e w' ⟨A, c, rfl, h1, h2⟩
  rw [h] at h1 ⊢
  subst hn2
  exact ⟨⟨A, c, rfl, OwnB.reads h1⟩, h2⟩
set_option maxRecDepth 100000 in
theorem p1 (g : Nat) (w : World) {m : Nat × Nat} (h : w.heap[g]? = some (.cells #[.int .u64 1, .int .u64 2] 39 m)) : Calls Tryz.prog 27 #[.string ⟨#[98, 72]⟩, .slice (some ⟨g, 0, none⟩) 2 2] w (PutIs w 3 0 [1, 0, 2]) :=
  put_is (ns := [1, 2]) (Reads.lit h rfl rfl) rfl (by decide) (by decide) (by decide +kernel) rfl
theorem leb300 : leb 300 = [172, 2] := by rw [leb_more (by decide), leb_last (by decide)]; decide
set_option maxRecDepth 100000 in
theorem p2 (g : Nat) (w : World) {m : Nat × Nat} (h : w.heap[g]? = some (.cells #[.int .u64 300] 39 m)) : Calls Tryz.prog 27 #[.string ⟨#[118]⟩, .slice (some ⟨g, 0, none⟩) 1 1] w (PutIs w 2 0 [172, 2]) :=
  put_is (ns := [300]) (Reads.lit h rfl rfl) rfl (by decide) (by decide) ((by kernel_rfl : putW [118] [300] = (0, leb 300)).trans (by rw [leb300])) rfl
set_option maxRecDepth 100000 in
theorem p3 (g : Nat) (w : World) {m : Nat × Nat} (h : w.heap[g]? = some (.cells #[.int .u64 18446744073709551615] 39 m)) : Calls Tryz.prog 27 #[.string ⟨#[122]⟩, .slice (some ⟨g, 0, none⟩) 1 1] w (PutIs w 1 0 [1]) :=
  put_is (ns := [18446744073709551615]) (Reads.lit h rfl rfl) rfl (by decide) (by decide) ((by kernel_rfl : putW [122] [18446744073709551615] = (0, leb 1)).trans (by rw [leb_last (by decide)]; decide)) rfl
def GetBad (w : World) (k : Int) (e : Ending) (w' : World) : Prop := (∃ A c, e = .returned (.tuple #[.slice A 0 c, .int .i64 0, .int .i64 k])) ∧ Below w.heap.size w w'
def GetOne (w : World) (e : Ending) (w' : World) : Prop := (∃ g c, e = .returned (.tuple #[.slice (some ⟨g, 0, none⟩) 1 c, .int .i64 9, .int .i64 0]) ∧ w'.cell? ⟨g, 0, none⟩ = some (.int .u64 9223372036854775808)) ∧ Below w.heap.size w w'
set_option maxRecDepth 100000 in
theorem str_b {w : World} {A : Option Addr} {c n : Nat} {l : List UInt8} (h : Bts w w.heap.size A l) (hn : l.length = n) : (convert 24 9 (.slice A n c)).run Tryz.prog w = .ok (.string ⟨l.toArray⟩) w := by
  subst hn
  exact run_str Tryz.underlying24 Tryz.underlying5 Tryz.underlying9 h
theorem sg_big (n : Int) (h0 : -9223372036854775808 ≤ n) (h1 : n ≤ 9223372036854775807) : ∃ k : Nat, k < 18446744073709551616 ∧ n = sg k ∧ IntKind.u64.wrap n = (k : Int) := by
  by_cases h : n < 0
  · refine ⟨(n + 18446744073709551616).toNat, by omega, ?_, ?_⟩
    · unfold sg; rw [if_neg (by omega)]; omega
    · rw [IntKind.wrap_u64]; omega
  · refine ⟨n.toNat, by omega, ?_, ?_⟩
    · unfold sg; rw [if_pos (by omega)]; omega
    · rw [IntKind.wrap_u64]; omega
end Go.Proofs.YtbfhiegbgkkgiaaGreat
