/- CollapsePlays: what holds between the steps of a script; the law's same, walked. -/
import Derived.Test.YtmpmjgoipfgfoaaCoG
namespace Go.Proofs.Ytmpmjgoipfgfoaa
open Go.RowKit
open Pl
theorem new_e (m : Int) (w : World) (h0 : 2 ≤ m) (h1 : m ≤ 4096) : Calls Try.prog 20 #[.int .i64 m] w fun e w' => ∃ g gl, e = .returned (.tuple #[.pointer (some ⟨g, 0, none⟩), .int .i64 0]) ∧ w.heap.size ≤ g ∧ w.heap.size ≤ gl ∧ Sto w' g gl none 0 m [] ∧ Below w.heap.size w w' := by
  refine (new_t m w h0 h1).mono ?_
  rintro e w' ⟨rfl, h2, h3⟩
  exact ⟨_, _, rfl, by omega, Nat.le_refl _, h2, h3⟩
def two (x y a : Nat) : Nat := if a = 0 then x else y
/-- Two stores with a row each, and a third store of another budget. -/
structure CI (w0 : World) (m : Int) (bs bw g0 g1 gl0 gl1 g3 gl3 : Nat) (S R : Nat → List Pr) (AL : Nat → Option Addr) (CL : Nat → Nat) (AW : Nat → Option Addr) (CW : Nat → Nat) (wr : World) : Prop where
  ms : MS 2 w0 (fun _ => m) (two g0 g1) (two gl0 gl1) AL CL S wr
  own : ∀ a, a < 2 → OwnP wr w0.heap.size (AW a) (CW a) (R a)
  dlw : ∀ a b, a < 2 → b < 2 → Dj (AL a) (AW b)
  bsl : Blk wr bs 26 #[.pointer (some ⟨two g0 g1 0, 0, none⟩), .pointer (some ⟨two g0 g1 1, 0, none⟩)]
  bwl : Blk wr bw 23 #[.slice (AW 0) (R 0).length (CW 0), .slice (AW 1) (R 1).length (CW 1)]
  wlow : w0.heap.size ≤ bw
  oth : Sto wr g3 gl3 none 0 (m + 1) []
  ong : ∀ a, a < 2 → two g0 g1 a ≠ g3 ∧ two gl0 gl1 a ≠ gl3
section
variable {w0 wr w2 : World} {m : Int} {bs bw g0 g1 gl0 gl1 g3 gl3 : Nat} {S R : Nat → List Pr} {AL AW : Nat → Option Addr} {CL CW : Nat → Nat}
theorem CI.bel (h : CI w0 m bs bw g0 g1 gl0 gl1 g3 gl3 S R AL CL AW CW wr) : Below w0.heap.size w0 wr := h.ms.bel
theorem sto_blk {w w' : World} {g gl c i : Nat} {A : Option Addr} {m : Int} {all : List Pr} {t : TypeId} {cs : Array Value} (h : Sto w g gl A c m all) (hb : Blk w i t cs) (h1 : t ≠ 76) (h2 : t ≠ 38) (h3 : t ≠ 61) (k : Only (SK g gl A) w w') : Blk w' i t cs :=
  hb.only k (fun e => by
    rcases e with e | e
    · exact Blk.ne hb h.blk h3 e
    · exact h.lst.ne_blk hb h1 h2 e)
theorem CI.act (h : CI w0 m bs bw g0 g1 gl0 gl1 g3 gl3 S R AL CL AW CW wr) {a : Nat} (ha : a < 2) {L' : List Pr} {A' : Option Addr} {c' : Nat} (k : Stored (two g0 g1 a) (two gl0 gl1 a) (AL a) m L' wr w2 A' c') :
    CI w0 m bs bw g0 g1 gl0 gl1 g3 gl3 (upd S a L') R (upd AL a A') (upd CL a c') AW CW w2 := by
  have hs := h.ms.sto a ha
  have hr := fun b (hb : b < 2) => sto_row hs (h.own b hb) (h.dlw a b ha hb) k
  refine ⟨h.ms.act ha k, fun b hb => (hr b hb).1, fun b d hb hd => ?_, sto_blk hs h.bsl (by decide) (by decide) (by decide) k.only, sto_blk hs h.bwl (by decide) (by decide) (by decide) k.only, h.wlow, ?_, h.ong⟩
  · by_cases e1 : b = a
    · subst e1; rw [upd_same]; exact (hr d hd).2
    · rw [upd_ne _ _ e1]; exact h.dlw b d hb hd
  · exact sto_other hs h.oth (h.ong a ha).1 (h.ong a ha).2 (fun x _ hx => by cases hx) k.only
theorem CI.below (h : CI w0 m bs bw g0 g1 gl0 gl1 g3 gl3 S R AL CL AW CW wr) (hb : Below wr.heap.size wr w2) : CI w0 m bs bw g0 g1 gl0 gl1 g3 gl3 S R AL CL AW CW w2 :=
  ⟨h.ms.below hb, fun a ha => Own.below (h.own a ha) hb, h.dlw, h.bsl.below hb h.bsl.lt, h.bwl.below hb h.bwl.lt, h.wlow, h.oth.below hb, h.ong⟩
theorem CI.drewN (h : CI w0 m bs bw g0 g1 gl0 gl1 g3 gl3 S R AL CL AW CW wr) (n : Nat) : CI w0 m bs bw g0 g1 gl0 gl1 g3 gl3 S R AL CL AW CW (wr.drewN n) :=
  ⟨h.ms.drewN n, h.own, h.dlw, h.bsl, h.bwl, h.wlow, h.oth.drewN n, h.ong⟩
theorem sto_set {w : World} {g gl c i j : Nat} {A : Option Addr} {m : Int} {all : List Pr} {cs : Array Value} (h : Sto w g gl A c m all) (hb : Blk w i 23 cs) (u : Value) : Sto (w.setCell ⟨i, j, none⟩ u) g gl A c m all :=
  ⟨h.blk.far (p := ⟨i, j, none⟩) (Blk.ne h.blk hb (by decide)) u, h.lst.1.far (p := ⟨i, j, none⟩) (Blk.ne h.lst.1 hb (by decide)) u, Own.setOther h.lst.2 (p := ⟨i, j, none⟩) (Own.ne_blk (show Own w gl 38 2 A (cutL all m).1.length c (pcs (cutL all m).1) from h.lst.2) hb (by decide)) u⟩
theorem CI.put (h : CI w0 m bs bw g0 g1 gl0 gl1 g3 gl3 S R AL CL AW CW wr) {a : Nat} (ha : a < 2) {A3 : Option Addr} {c3 : Nat} {R3 : List Pr} (ho : OwnP wr w0.heap.size A3 c3 R3) (hd : ∀ b, b < 2 → Dj (AL b) A3) :
    CI w0 m bs bw g0 g1 gl0 gl1 g3 gl3 S (upd R a R3) AL CL (upd AW a A3) (upd CW a c3) (wr.setCell ⟨bw, a, none⟩ (.slice A3 R3.length c3)) := by
  have hbs : bs ≠ bw := Blk.ne h.bsl h.bwl (by decide)
  refine ⟨⟨fun b hb => sto_set (h.ms.sto b hb) h.bwl _, h.ms.ne, h.ms.low, h.bel.setCell h.wlow _⟩, fun b hb => ?_, fun b d hb hd2 => ?_, h.bsl.far (p := ⟨bw, a, none⟩) hbs _, ?_, h.wlow, sto_set h.oth h.bwl _, h.ong⟩
  · by_cases e : b = a
    · subst e
      rw [upd_same, upd_same, upd_same]
      exact Own.setOther ho (Own.ne_blk ho h.bwl (by decide)) _
    · rw [upd_ne _ _ e, upd_ne _ _ e, upd_ne _ _ e]
      exact Own.setOther (h.own b hb) (Own.ne_blk (h.own b hb) h.bwl (by decide)) _
  · by_cases e : d = a
    · subst e; rw [upd_same]; exact hd b hb
    · rw [upd_ne _ _ e]; exact h.dlw b d hb hd2
  · have h1 := h.bwl.put a (.slice A3 R3.length c3)
    rcases (by omega : a = 0 ∨ a = 1) with rfl | rfl
    · exact h1
    · exact h1
theorem CI.apart (h : CI w0 m bs bw g0 g1 gl0 gl1 g3 gl3 S R AL CL AW CW wr) {a : Nat} (ha : a < 2) {A3 : Option Addr} (hn : ∀ x, blockOf A3 = some x → blockOf (AW a) = some x ∨ wr.heap.size ≤ x) : ∀ b, b < 2 → Dj (AL b) A3 := fun b hb => (dj_new (h.dlw b a hb ha).symm (h.ms.sto b hb).lst.2 hn).symm
theorem CI.ptr (h : CI w0 m bs bw g0 g1 gl0 gl1 g3 gl3 S R AL CL AW CW wr) {a : Nat} (ha : a < 2) : wr.cell? ⟨bs, a, none⟩ = some (.pointer (some ⟨two g0 g1 a, 0, none⟩)) := by
  rw [h.bsl.cell]
  rcases (by omega : a = 0 ∨ a = 1) with rfl | rfl <;> rfl
theorem CI.row (h : CI w0 m bs bw g0 g1 gl0 gl1 g3 gl3 S R AL CL AW CW wr) {a : Nat} (ha : a < 2) : wr.cell? ⟨bw, a, none⟩ = some (.slice (AW a) (R a).length (CW a)) := by
  rw [h.bwl.cell]
  rcases (by omega : a = 0 ∨ a = 1) with rfl | rfl <;> rfl
end
set_option maxHeartbeats 3200000 in
set_option maxRecDepth 100000 in
theorem same_t (g gl : Nat) (A : Option Addr) (c : Nat) (m : Int) (all : List Pr) (A2 : Option Addr) (c2 base : Nat) (k : Int) (w : World) (h : Sto w g gl A c m all) (h2 : OwnP w base A2 c2 all) (hbase : base ≤ w.heap.size) (hf : Fine all) :
    Calls Try.prog 24 #[.pointer (some ⟨g, 0, none⟩), .slice A2 all.length c2, .int .i64 m, .int .i64 k] w fun e w' => e = .returned (.bool true) ∧ Below w.heap.size w w' := by
  have HK := Lib.hid (kept15_t base A2 c2 all m w h2 hbase (by have := hf.len; omega) hf.tot)
  have HPA := Lib.hid (fun W (h : Sto W g gl A c m all) => spairs_t g gl A c m all W h hf)
  have HFO := Lib.hid (fun W (h : Sto W g gl A c m all) => sfolded_t g gl A c m all W h)
  have HTO := Lib.hid (fun W (h : Sto W g gl A c m all) => stotal_t g gl A c m all W h hf)
  have HLE := Lib.hid (fun W (h : Sto W g gl A c m all) => slen_t g gl A c m all W h)
  have HBE := Lib.hid (fun W (h : Sto W g gl A c m all) => sbelow_t g gl A c m all W h hf k)
  have HUP := Lib.hid (fun W (h : Sto W g gl A c m all) => supto_t g gl A c m all W h hf k)
  have hfC := kept_fine hf m
  have hkl := hfC.len
  have HT13 := Lib.hid (fun B W h1 => total13_t A2 c2 B all W h1 (by have := hf.len; unfold maxLen; omega) (by have := hf.tot; omega))
  have HSA := Lib.hid (fun A1 A2 c1 c2 B1 B2 W h1 h2 => same15_t A1 A2 c1 c2 B1 B2 (cutL all m).1 W h1 h2 (by unfold maxLen; omega))
  have HRF := Lib.hid (fun A1 c1 W h1 => rbelow_t A1 c1 (cutL all m).1 k k false W h1 (by omega) hfC.tot rfl)
  have HRT := Lib.hid (fun A1 c1 W h1 => rbelow_t A1 c1 (cutL all m).1 k (k + 1) true W h1 (by omega) hfC.tot rfl)
  have HS := Lib.hid h
  have HO := Lib.hid (OwnP.reads h2)
  generalize cutL all m = R at *
  clear h h2 hbase hf hfC hkl
  go_enter Try.func24, Try.ntmps24
  go_wp2_with fail
  refine HK.out.mono ?_
  rintro e w1 ⟨A3, c3, rfl, ho3, hb3, _⟩
  have HS1 := Lib.hid (HS.out.below hb3)
  have HR1 := Lib.hid (OwnP.reads ho3)
  have HB1 := Lib.hid hb3
  clear ho3 hb3
  go_wp2_with fail
  refine (HPA.out w1 HS1.out).mono ?_
  rintro e w2 ⟨A4, c4, rfl, h4, hb4⟩
  have HS2 := Lib.hid (HS1.out.below hb4)
  have HR2 := Lib.hid (HR1.out.at_below hb4)
  have HP2 := Lib.hid (OwnP.reads h4)
  have HB2 := Lib.hid (nextB HB1.out hb4)
  clear h4 hb4
  go_wp2_with fail
  refine (HSA.out A4 A3 c4 c3 _ _ w2 HP2.out HR2.out).mono ?_
  rintro e w3 ⟨rfl, z, rfl⟩
  have HS3 := Lib.hid (HS2.out.drewN z)
  have HB3 := Lib.hid (below_drewN HB2.out z)
  have HR3 : Hid (Prs (w2.drewN z) (w2.drewN z).heap.size A3 R.1) := Lib.hid HR2.out
  generalize w2.drewN z = w3 at *
  go_wp2_with fail
  refine (HFO.out w3 HS3.out).mono ?_
  rintro e w4 ⟨rfl, rfl⟩
  go_wp2_with fail
  refine (HTO.out w3 HS3.out).mono ?_
  rintro e w4 ⟨rfl, rfl⟩
  go_wp2_with fail
  refine (HT13.out w.heap.size w3 (Reads.keep HO.out (fun _ hp => HB3.out.cell hp))).mono ?_
  rintro e w4 ⟨rfl, hw⟩
  obtain rfl := hw.symm
  go_wp2_with fail
  refine (HLE.out w3 HS3.out).mono ?_
  rintro e w4 ⟨rfl, rfl⟩
  go_wp2_with fail
  refine (HBE.out w3 HS3.out).mono ?_
  rintro e w5 ⟨rfl, hb5⟩
  have HS5 := Lib.hid (HS3.out.below hb5)
  have HR5 := Lib.hid (HR3.out.at_below hb5)
  have HB5 := Lib.hid (nextB HB3.out hb5)
  clear hb5
  go_wp2_with fail
  refine (HRF.out A3 c3 w5 HR5.out).mono ?_
  rintro e w6 ⟨rfl, rfl⟩
  go_wp2_with fail
  refine (HUP.out w5 HS5.out).mono ?_
  rintro e w7 ⟨rfl, hb7⟩
  have HR7 := Lib.hid (HR5.out.at_below hb7)
  have HB7 := Lib.hid (nextB HB5.out hb7)
  clear hb7
  go_wp2_with fail
  refine (HRT.out A3 c3 w7 HR7.out).mono ?_
  rintro e w8 ⟨rfl, rfl⟩
  go_wp2_with fail
  go_ret
  exact ⟨rfl, HB7.out⟩
end Go.Proofs.Ytmpmjgoipfgfoaa
