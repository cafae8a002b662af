/- Wire: what every letter's writer writes; right walked. -/
import Derived.Test.YtbfhiegbgkkgiaaGreatC17
namespace Go.Proofs.YtbfhiegbgkkgiaaGreat
open Go.RowKit
open Wi
/-- The bytes of a number by a form. -/
def encF (f : Frm) (n : Nat) : List UInt8 :=
  if f.2.2.1 = 104 then low f.2.1 n
  else if f.2.2.1 = 106 then high f.2.1 n
  else if f.2.2.1 = 108 then leb n
  else if f.2.2.1 = 110 then leb (sign n)
  else nine 8 (sign n)
set_option maxRecDepth 100000 in
theorem put_any {k : Nat} {f : Frm} (hf : frms[k]? = some f) (g : Nat) (A : Option Addr) (c : Nat) (L : List UInt8) (n : Nat) (w : World) (h : Wr w g A c L) (hn : n < 18446744073709551616) (hL : L.length ≤ 99999000) :
    Calls Tryz.prog f.2.2.1 #[.pointer (some ⟨g, 0, none⟩), .int .u64 (n : Int), .int .i64 (f.2.1 : Int)] w fun e w' => e = .returned (.tuple #[]) ∧ Wrote g A (L ++ encF f n) w w' := by
  have hk : k < 10 := (List.getElem?_eq_some_iff.1 hf).1
  have hll : (L ++ leb n).length ≤ 100000000 := by have := leb_len64 hn; rw [List.length_append]; omega
  rcases k with _ | _ | _ | _ | _ | _ | _ | _ | _ | _ | k
  · injection hf with hf; subst hf; exact wlow_t g A c L n 1 w h hn (by omega) hL
  · injection hf with hf; subst hf; exact wlow_t g A c L n 2 w h hn (by omega) hL
  · injection hf with hf; subst hf; exact whigh_t g A c L n 2 w h (by omega) hL
  · injection hf with hf; subst hf; exact wlow_t g A c L n 4 w h hn (by omega) hL
  · injection hf with hf; subst hf; exact whigh_t g A c L n 4 w h (by omega) hL
  · injection hf with hf; subst hf; exact wlow_t g A c L n 8 w h hn (by omega) hL
  · injection hf with hf; subst hf; exact whigh_t g A c L n 8 w h (by omega) hL
  · injection hf with hf; subst hf; exact wleb_t g A c L n _ w h hn hll
  · injection hf with hf; subst hf; exact wzig_t g A c L n _ w h hn hL
  · injection hf with hf; subst hf; exact wnine_t g A c L n _ w h hn hL
  · omega
theorem enc_len {k : Nat} {f : Frm} (hf : frms[k]? = some f) {n : Nat} (hn : n < 18446744073709551616) : (encF f n).length ≤ 10 := by
  have hk : k < 10 := (List.getElem?_eq_some_iff.1 hf).1
  have h1 := leb_len64 hn
  have h2 := leb_len64 (sign_lt hn)
  have h3 := nine_len 8 (sign n)
  rcases k with _ | _ | _ | _ | _ | _ | _ | _ | _ | _ | k
  · injection hf with hf; subst hf; exact Nat.le_trans (Nat.le_of_eq (low_len 1 n)) (by decide)
  · injection hf with hf; subst hf; exact Nat.le_trans (Nat.le_of_eq (low_len 2 n)) (by decide)
  · injection hf with hf; subst hf; exact Nat.le_trans (Nat.le_of_eq (high_len 2 n)) (by decide)
  · injection hf with hf; subst hf; exact Nat.le_trans (Nat.le_of_eq (low_len 4 n)) (by decide)
  · injection hf with hf; subst hf; exact Nat.le_trans (Nat.le_of_eq (high_len 4 n)) (by decide)
  · injection hf with hf; subst hf; exact Nat.le_trans (Nat.le_of_eq (low_len 8 n)) (by decide)
  · injection hf with hf; subst hf; exact Nat.le_trans (Nat.le_of_eq (high_len 8 n)) (by decide)
  · injection hf with hf; subst hf; exact h1
  · injection hf with hf; subst hf; exact h2
  · injection hf with hf; subst hf; exact Nat.le_trans h3 (by decide)
  · omega
/-- Is it a pattern? -/
def okL (x : UInt8) : Bool := decide (fi x.toNat < 10)
def rightB (l : List UInt8) : Bool := decide (l.length ≤ 64) && l.all okL
theorem str_at (a : ByteArray) (i : Nat) (h : i < a.size) : a.data.toList[i]? = some a[i] := by
  rw [Array.getElem?_toList, Array.getElem?_eq_getElem h]
  rfl
theorem take_all {a : ByteArray} {i : Nat} (h : i < a.size) : (a.data.toList.take (i + 1)).all okL = ((a.data.toList.take i).all okL && okL a[i]) := by
  rw [List.take_add_one, str_at a i h]
  simp
theorem all_no {a : ByteArray} {i : Nat} (h : i < a.size) (hno : okL a[i] = false) : a.data.toList.all okL = false := by
  rw [List.all_eq_false]
  exact ⟨a[i], List.mem_of_getElem? (str_at a i h), by simp [hno]⟩
set_option maxRecDepth 100000 in
set_option maxHeartbeats 1600000 in
theorem right_t (a : ByteArray) (w : World) :
    Calls Tryz.prog 59 #[.string a] w fun e w' => e = .returned (.bool (rightB a.data.toList)) ∧ Below w.heap.size w w' := by
  have hs : a.data.toList.length = a.size := by simp
  by_cases h64 : a.size ≤ 64
  · have hd : decide ((64 : Int) < (a.size : Int)) = false := by simp; omega
    have hR : rightB a.data.toList = a.data.toList.all okL := by unfold rightB; rw [hs, decide_eq_true h64, Bool.true_and]
    rw [hR]
    obtain ⟨R, hRe⟩ : ∃ R, R = a.data.toList.all okL := ⟨_, rfl⟩
    rw [← hRe]
    have HRE := Lib.hid hRe
    clear hRe
    have ha : (a.size : Int) ≤ 64 := by omega
    have HS := Lib.hid hs
    clear hs hR h64
    go_enter Tryz.func59, Tryz.ntmps59
    go_wp2_with fail
    go_loopw [11] (fun v wr => ∃ i : Nat, v = .int .i64 (i : Int) ∧ i ≤ a.size ∧ (a.data.toList.take i).all okL = true ∧ Below w.heap.size w wr) (fun v _ => a.size - (intOf v).toNat)
    case atStart => exact ⟨0, rfl, Nat.zero_le _, rfl, Below.refl _ _⟩
    case round =>
      obtain ⟨i, rfl, hi, hok, hbel⟩ := hrel
      obtain ⟨wo, rfl⟩ : ∃ wo : World, wo = wr := ⟨_, rfl⟩
      by_cases hlt : i < a.size
      · have hii : (i : Int) < (a.size : Int) := by omega
        have hi0 : (0 : Int) ≤ (i : Int) := by omega
        have HTA := Lib.hid (take_all hlt)
        have HNO := Lib.hid (all_no hlt)
        have HOK := Lib.hid hok
        have HI := Lib.hid hlt
        have HW := Lib.hid hbel
        clear hok hbel hi
        go_wp2_with fail
        refine (formOf_t _ wo).mono ?_
        rintro e w1 ⟨hc, hb1⟩
        have HB1 := Lib.hid hb1
        clear hb1
        have hokd : okL a[i] = decide (fi a[i].toNat < 10) := rfl
        generalize a[i] = x at *
        rcases hc with ⟨f, hf, rfl⟩ | ⟨h10, rfl⟩
        · have hx : okL x = true := by
            rw [hokd, decide_eq_true_iff]
            exact (List.getElem?_eq_some_iff.1 hf).1
          have HX := Lib.hid hx
          clear hf hx hokd
          unfold frmV
          go_wp2_with (first | (refine wpList_store_row rfl 111 _ _ rfl w1.heap.size (frmC f).toArray rfl rfl 111 _ (heap_alloc_new _ _) frm_info rfl (frmC_one _) ?_) | fail)
          go_roundw
          case rel => exact ⟨i + 1, by go_num, HI.out, by rw [HTA.out, HOK.out, HX.out]; rfl, below_setRow ((HW.out.trans (HB1.out.mono HW.out.size)).alloc (by have := HW.out.size; have := HB1.out.size; omega) _) (by have := HW.out.size; have := HB1.out.size; omega) _⟩
          case measure => have := HI.out; simp [intOf]; omega
        · have hx : okL x = false := by
            rw [hokd, h10]
            rfl
          have HX := Lib.hid (HRE.out.trans (HNO.out hx))
          clear h10 hx hokd
          go_wp2_with (first | (refine wpList_store_row rfl 111 _ _ rfl w1.heap.size zeroC.toArray rfl rfl 111 _ (heap_alloc_new _ _) frm_info rfl zeroC_one ?_) | fail)
          go_ret
          exact ⟨by rw [HX.out]; rfl, below_setRow ((HW.out.trans (HB1.out.mono HW.out.size)).alloc (by have := HW.out.size; have := HB1.out.size; omega) _) (by have := HW.out.size; have := HB1.out.size; omega) _⟩
      · have hi2 : a.size = i := by omega
        have hall : a.data.toList.all okL = true := by
          rw [List.take_of_length_le (by rw [HS.out]; omega)] at hok
          exact hok
        have HX := Lib.hid (HRE.out.trans hall)
        have hge : decide (i < a.size) = false := by simp; omega
        have hge2 : ¬ (i : Int) < (a.size : Int) := by omega
        clear hok hall hi hlt hi2
        go_wp2_with fail
        go_ret
        exact ⟨by rw [HX.out]; rfl, hbel⟩
  · have hd : decide ((64 : Int) < (a.size : Int)) = true := by simp; omega
    have hR : rightB a.data.toList = false := by unfold rightB; rw [hs, decide_eq_false h64, Bool.false_and]
    rw [hR]
    clear hs hR h64
    go_enter Tryz.func59, Tryz.ntmps59
    go_wp2_with fail
    go_ret
    exact ⟨rfl, Below.refl _ _⟩
end Go.Proofs.YtbfhiegbgkkgiaaGreat
/- Wire: the reader in memory. -/

namespace Go.Proofs.YtbfhiegbgkkgiaaGreat
open Go.RowKit
open Wi
def ClonePost (w : World) (l : List UInt8) (e : Ending) (w' : World) : Prop := ∃ A c, e = .returned (.slice A l.length c) ∧ OwnB w' w.heap.size A c l ∧ Below w.heap.size w w'
set_option maxRecDepth 100000 in
theorem clone_t (A : Option Addr) (c : Nat) (l : List UInt8) (w : World) (hb : Bts w w.heap.size A l) (hl : l.length ≤ 100000000) :
    Calls Tryz.prog 61 #[.slice A l.length c] w (ClonePost w l) := by
  rcases A with _ | a
  · have hl0 : l = [] := by
      rcases Nat.eq_zero_or_pos l.length with h0 | h0
      · exact List.length_eq_zero_iff.1 h0
      · obtain ⟨b, o, e, _⟩ := hb.at_ h0
        cases e
    subst hl0
    have hk : ∀ W : World, (binOp .eql 24 (.slice none 0 c) (.slice none 0 0)).run Tryz.prog W = .ok (.bool true) W := fun W => Lib.run_eql_slice_nil W 24 5 none 0 c 0 0 Tryz.underlying24
    simp only [List.length_nil]
    clear hb
    go_enter Tryz.func61, Tryz.ntmps61
    go_wp2_with fail
    go_ret
    exact ⟨none, 0, rfl, Own.nil _ _ _ _, Below.refl _ _⟩
  · have hk : ∀ W : World, (binOp .eql 24 (.slice (some a) l.length c) (.slice none 0 0)).run Tryz.prog W = .ok (.bool false) W := fun W => Lib.run_eql_slice_nil W 24 5 (some a) l.length c 0 0 Tryz.underlying24
    have HB := Lib.hid hb
    clear hb
    go_enter Tryz.func61, Tryz.ntmps61
    go_wp2_with (at_builtin; refine Hid.out ?_)
    have hO1 : Own (w.alloc (.cells #[] 5)) w.heap.size 5 1 (some ⟨w.heap.size, 0, none⟩) 0 0 [] := Own.made w _ _ _ #[] 0 (Nat.le_refl _) (Nat.zero_le _) rfl
    have hW1 : Below w.heap.size w (w.alloc (.cells #[] 5)) := (Below.refl _ _).alloc (Nat.le_refl _) _
    have hS1 := HB.out.at_below hW1
    refine wpList_app (xs := []) rfl rfl elem_u8 rfl hO1 rfl hS1 (bvs_one _) l.length (Nat.zero_add _) (bvs l) rfl (by unfold maxLen; omega) (by omega) hW1.size ?_
    intro A2 c2 w2 o2 g2 q2
    have HO2 : Hid (OwnB w2 w.heap.size A2 c2 l) := Lib.hid o2
    have HW2 := Lib.hid (appB hW1 hO1 g2 (Nat.le_refl _) hW1.size)
    clear hO1 hW1 hS1 o2 g2 q2
    go_wp2_with fail
    go_ret
    exact ⟨A2, c2, rfl, HO2.out, HW2.out⟩
/-- What a reader's act may turn: it alone. -/
def RK (g : Nat) (i : Nat) : Prop := i = g
/-- Block g is a reader of the bytes l that stands at a byte. -/
def Rdr (w : World) (base g : Nat) (A : Option Addr) (c : Nat) (l : List UInt8) (p : Nat) : Prop := Blk w g 118 #[.slice A l.length c, .int .i64 (p : Int)] ∧ OwnB w base A c l
theorem Rdr.moved {w w' : World} {base g : Nat} {A : Option Addr} {c : Nat} {l : List UInt8} {p p' : Nat} (h : Rdr w base g A c l p) (hb : Blk w' g 118 #[.slice A l.length c, .int .i64 (p' : Int)]) (ho : Only (RK g) w w') : Rdr w' base g A c l p' :=
  ⟨hb, Own.only h.2 ho (fun i hi e => Own.ne_blk h.2 h.1 (by decide) (by rw [hi, e]))⟩
theorem Rdr.below {w w' : World} {base g : Nat} {A : Option Addr} {c : Nat} {l : List UInt8} {p : Nat} (h : Rdr w base g A c l p) (hb : Below w.heap.size w w') : Rdr w' base g A c l p := ⟨h.1.below hb h.1.lt, Own.below h.2 hb⟩
def NewPost (w : World) (l : List UInt8) (e : Ending) (w' : World) : Prop := ∃ g A c, e = .returned (.pointer (some ⟨g, 0, none⟩)) ∧ w.heap.size ≤ g ∧ Rdr w' w.heap.size g A c l 0 ∧ Below w.heap.size w w'
set_option maxRecDepth 100000 in
theorem new_t (A : Option Addr) (c : Nat) (l : List UInt8) (w : World) (hb : Bts w w.heap.size A l) (hl : l.length ≤ 100000000) :
    Calls Tryz.prog 31 #[.slice A l.length c] w (NewPost w l) := by
  have HC := Lib.hid (clone_t A c l w hb hl)
  clear hb
  go_enter Tryz.func31, Tryz.ntmps31
  go_wp2_with fail
  refine HC.out.mono ?_
  rintro e w1 ⟨A1, c1, rfl, h1, h2⟩
  have H1 := Lib.hid h1
  have H2 := Lib.hid h2
  clear h1 h2
  go_wp2_with fail
  go_ret
  exact ⟨w1.heap.size, A1, c1, rfl, H2.out.size, ⟨Blk.new w1 _ _, Own.alloc H1.out _⟩, newB H2.out _⟩
set_option maxRecDepth 100000 in
theorem left_t (base g : Nat) (A : Option Addr) (c : Nat) (l : List UInt8) (p k : Nat) (w : World) (h : Rdr w base g A c l p) (hk : p + k = l.length) (hl : l.length ≤ 100000000) :
    Calls Tryz.prog 35 #[.pointer (some ⟨g, 0, none⟩)] w fun e w' => e = .returned (.int .i64 (k : Int)) ∧ ∃ q, w' = w.drewN q := by
  have c0 : w.cell? ⟨g, 0, none⟩ = some (.slice A l.length c) := by rw [h.1.cell]; rfl
  have c1 : w.cell? ⟨g, 1, none⟩ = some (.int .i64 (p : Int)) := by rw [h.1.cell]; rfl
  have e2 : IntKind.i64.wrap ((l.length : Int) - (p : Int)) = (k : Int) := by rw [show (l.length : Int) - (p : Int) = (k : Int) by omega]; exact IntWalk.i64_in _ ⟨by omega, by omega⟩
  clear h hk
  go_enter Tryz.func35, Tryz.ntmps35
  go_wp2_with fail
  go_quiet (fail)
  go_wp2_with fail
  go_ret
  exact ⟨rfl, nq, rfl⟩
end Go.Proofs.YtbfhiegbgkkgiaaGreat
/- Wire: the reader low walked. -/

namespace Go.Proofs.YtbfhiegbgkkgiaaGreat
open Go.RowKit
open Wi
namespace Wi
/-- The number that bytes are, the lowest first. -/
def lov : List UInt8 → Nat
  | [] => 0
  | b :: l => b.toNat + 256 * lov l
theorem lov_lt : ∀ l : List UInt8, lov l < 256 ^ l.length
  | [] => by simp [lov]
  | b :: l => by
    have h1 := b.toNat_lt
    have h2 := lov_lt l
    rw [lov, List.length_cons, Nat.pow_succ]
    omega
theorem lov_snoc : ∀ (l : List UInt8) (x : UInt8), lov (l ++ [x]) = lov l + x.toNat * 256 ^ l.length
  | [], x => by simp [lov]
  | b :: l, x => by
    rw [List.cons_append, lov, lov, lov_snoc l x, List.length_cons, Nat.pow_succ, Nat.mul_add, ← Nat.add_assoc]
    congr 1
    rw [Nat.mul_left_comm, Nat.mul_comm 256]
theorem or_256 {a b i : Nat} (ha : a < 256 ^ i) : a ||| b * 256 ^ i = a + b * 256 ^ i := by
  have e : (256 : Nat) ^ i = 2 ^ (8 * i) := by rw [show (256 : Nat) = 2 ^ 8 from rfl, ← Nat.pow_mul]
  rw [e] at ha ⊢
  have h := Nat.two_pow_add_eq_or_of_lt ha b
  rw [Nat.mul_comm, Nat.or_comm] at h
  rw [Nat.add_comm, Nat.mul_comm b, ← Nat.mul_comm b, h, Nat.or_comm]
end Wi
theorem take_next {l : List UInt8} {p i : Nat} {x : UInt8} (h : l[p + i]? = some x) : (l.drop p).take (i + 1) = (l.drop p).take i ++ [x] := by
  rw [List.take_add_one, List.getElem?_drop, h]
  rfl
theorem shl8 (x i : Nat) (hi : i < 8) (hx : x < 256) : Op.shift .shl .u64 (x : Int) .i64 (IntKind.i64.wrap (8 * (i : Int))) = pure (.int .u64 ((x * 256 ^ i : Nat) : Int)) := by
  rw [IntWalk.i64_in (8 * (i : Int)) ⟨by omega, by omega⟩, shift_shl_any _ _ _ _ (by omega)]
  have e1 : min (8 * (i : Int)).toNat IntKind.u64.bits = 8 * i := by
    have : IntKind.u64.bits = 64 := rfl
    omega
  have e2 : (256 : Nat) ^ i ≤ 256 ^ 7 := Nat.pow_le_pow_right (by decide) (by omega)
  have e3 : x * 256 ^ i ≤ 255 * 256 ^ 7 := Nat.mul_le_mul (by omega) e2
  have e4 : (x : Int) * 2 ^ (8 * i) = ((x * 256 ^ i : Nat) : Int) := by
    rw [show (256 : Nat) = 2 ^ 8 from rfl, ← Nat.pow_mul, Int.natCast_mul, Int.natCast_pow]
    rfl
  rw [e1, e4, IntWalk.u64_in _ ⟨by omega, by omega⟩]
set_option maxRecDepth 100000 in
theorem rlow_end (base g : Nat) (A : Option Addr) (c : Nat) (l : List UInt8) (p k : Nat) (w : World) (h : Rdr w base g A c l p) (hp : p ≤ l.length) (hk : l.length < p + k) (hl : l.length ≤ 100000000) :
    Calls Tryz.prog 105 #[.pointer (some ⟨g, 0, none⟩), .int .i64 (k : Int)] w fun e w' => e = .returned (.tuple #[.int .u64 0, .int .i64 20]) ∧ ∃ q, w' = w.drewN q := by
  obtain ⟨m, hm⟩ : ∃ m, p + m = l.length := ⟨l.length - p, by omega⟩
  have HL := Lib.hid (left_t base g A c l p m w h hm hl)
  have hd : decide ((m : Int) < (k : Int)) = true := by simp; omega
  have hd2 : decide (m < k) = true := by simp; omega
  clear h hp hk hm
  go_enter Tryz.func105, Tryz.ntmps105
  go_wp2_with fail
  refine HL.out.mono ?_
  rintro e w1 ⟨rfl, q, rfl⟩
  go_wp2_with fail
  go_ret2
  exact ⟨rfl, q, rfl⟩
theorem lov_next {l : List UInt8} {p i : Nat} {x : UInt8} (hx : l[p + i]? = some x) (hi : i < 8) : bits .or .u64 ((lov ((l.drop p).take i) : Nat) : Int) ((x.toNat * 256 ^ i : Nat) : Int) = ((lov ((l.drop p).take (i + 1)) : Nat) : Int) := by
  have hl : p + i < l.length := (List.getElem?_eq_some_iff.1 hx).1
  have hlen : ((l.drop p).take i).length = i := by rw [List.length_take, List.length_drop]; omega
  have h1 := lov_lt ((l.drop p).take i)
  rw [hlen] at h1
  have h2 := x.toNat_lt
  have e2 : (256 : Nat) ^ i ≤ 256 ^ 7 := Nat.pow_le_pow_right (by decide) (by omega)
  have e3 : x.toNat * 256 ^ i ≤ 255 * 256 ^ 7 := Nat.mul_le_mul (by omega) e2
  rw [u64_or_nat _ _ (by omega) (by omega), or_256 h1, take_next hx, lov_snoc, hlen]
theorem lov_small {l : List UInt8} {k : Nat} (hk : k ≤ 8) : lov (l.take k) < 18446744073709551616 := by
  have h1 := lov_lt (l.take k)
  have e2 : (256 : Nat) ^ (l.take k).length ≤ 256 ^ 8 := Nat.pow_le_pow_right (by decide) (by rw [List.length_take]; omega)
  omega
theorem shl_val (x i : Nat) (hi : i < 8) (hx : x < 256) : IntKind.u64.wrap (IntKind.u64.wrap (x : Int) * 2 ^ (8 * i)) = ((x * 256 ^ i : Nat) : Int) := by
  have e2 : (256 : Nat) ^ i ≤ 256 ^ 7 := Nat.pow_le_pow_right (by decide) (by omega)
  have e3 : x * 256 ^ i ≤ 255 * 256 ^ 7 := Nat.mul_le_mul (by omega) e2
  have e4 : (x : Int) * 2 ^ (8 * i) = ((x * 256 ^ i : Nat) : Int) := by
    rw [show (256 : Nat) = 2 ^ 8 from rfl, ← Nat.pow_mul, Int.natCast_mul, Int.natCast_pow]
    rfl
  rw [IntWalk.u64_in (x : Int) ⟨by omega, by omega⟩, e4, IntWalk.u64_in _ ⟨by omega, by omega⟩]
set_option maxRecDepth 100000 in
set_option maxHeartbeats 1600000 in
theorem rlow_t (base g : Nat) (A : Option Addr) (c : Nat) (l : List UInt8) (p k : Nat) (w : World) (h : Rdr w base g A c l p) (hp : p + k ≤ l.length) (hk : k ≤ 8) (hl : l.length ≤ 100000000) :
    Calls Tryz.prog 105 #[.pointer (some ⟨g, 0, none⟩), .int .i64 (k : Int)] w fun e w' => e = .returned (.tuple #[.int .u64 (lov ((l.drop p).take k) : Nat), .int .i64 0]) ∧ Rdr w' base g A c l (p + k) ∧ Only (RK g) w w' := by
  obtain ⟨m, hm⟩ : ∃ m, p + m = l.length := ⟨l.length - p, by omega⟩
  have HL := Lib.hid (left_t base g A c l p m w h hm hl)
  have hd : decide ((m : Int) < (k : Int)) = false := by simp; omega
  have hd2 : decide (m < k) = false := by simp; omega
  have hkk : (k : Int) ≤ 8 := by omega
  have H := Lib.hid h
  have HP := Lib.hid hp
  clear h hm
  go_enter Tryz.func105, Tryz.ntmps105
  go_wp2_with fail
  refine HL.out.mono ?_
  rintro e w1 ⟨rfl, q0, rfl⟩
  go_wp2_with fail
  go_loopw [6, 13] (fun u v wr => ∃ (i q : Nat), v = .int .i64 (i : Int) ∧ u = .int .u64 (lov ((l.drop p).take i) : Nat) ∧ i ≤ k ∧ wr = w.drewN q) (fun _ v _ => k - (intOf v).toNat)
  case atStart => exact ⟨0, q0, rfl, rfl, Nat.zero_le _, rfl⟩
  case round =>
    obtain ⟨i, q, rfl, rfl, hi, rfl⟩ := hrel
    obtain ⟨wo, hwo⟩ : ∃ wo : World, wo = w.drewN q := ⟨_, rfl⟩
    have hR : Rdr wo base g A c l p := by rw [hwo]; exact ⟨H.out.1.drewN q, H.out.2⟩
    rw [← hwo]
    have HWO := Lib.hid hwo
    clear hwo
    have c0 : wo.cell? ⟨g, 0, none⟩ = some (.slice A l.length c) := by rw [hR.1.cell]; rfl
    have c1 : wo.cell? ⟨g, 1, none⟩ = some (.int .i64 (p : Int)) := by rw [hR.1.cell]; rfl
    have fr := hR.1.free
    by_cases hlt : i < k
    · have hii : (i : Int) < (k : Int) := by omega
      have hpi : p + i < l.length := by have := HP.out; omega
      obtain ⟨gb, hA, _, _, _, hcl, _⟩ := Own.form (show Own wo base 5 1 A l.length c (bvs l) from hR.2) (by omega)
      subst hA
      obtain ⟨x, hx⟩ : ∃ x, l[p + i]? = some x := ⟨_, List.getElem?_eq_getElem hpi⟩
      have d0 := hcl (p + i) (.int .u8 (x.toNat : Int)) (by simp only [bvs, List.getElem?_map, hx, bv, Option.map_some])
      obtain ⟨j, hj⟩ : ∃ j, j = p + i := ⟨_, rfl⟩
      have ej : IntKind.i64.wrap ((p : Int) + (i : Int)) = (j : Int) := by rw [IntWalk.i64_in _ ⟨by omega, by omega⟩]; omega
      have ej2 : (p : Int) + (i : Int) = (j : Int) := by omega
      rw [← hj] at d0
      have hjl : (j : Int) < (l.length : Int) := by omega
      have hj0 : (0 : Int) ≤ (j : Int) := by omega
      have hor := lov_next hx (show i < 8 by omega)
      rw [← shl_val x.toNat i (by omega) x.toNat_lt] at hor
      have HOR := Lib.hid hor
      have HI := Lib.hid hlt
      generalize lov ((l.drop p).take i) = n0 at *
      clear hR hlt hi hcl hx hj hpi hp hor
      go_wp2_with fail
      go_quiet (fail)
      go_wp2_with fail
      go_roundw
      case rel => exact ⟨i + 1, q + nq, by go_num, by rw [HOR.out], HI.out, by rw [HWO.out, World.drewN_drewN]⟩
      case measure => have := HI.out; simp [intOf]; omega
    · obtain rfl : k = i := by omega
      have hpi : (p : Int) + (k : Int) ≤ 100000000 := by omega
      have HR := Lib.hid hR
      clear hlt hi hp hR
      go_wp2_with fail
      have hon : Only (RK g) w wo := by rw [HWO.out]; exact (Only.refl _ _).drewN q
      go_ret2
      refine ⟨rfl, HR.out.moved ?_ ((Only.refl (RK g) _).set (p := ⟨g, 1, none⟩) (.inl rfl) _), hon.set (p := ⟨g, 1, none⟩) (.inl rfl) _⟩
      have h1 := HR.out.1.put 1 (.int .i64 ((p : Int) + (k : Int)))
      simpa using h1
end Go.Proofs.YtbfhiegbgkkgiaaGreat
/- Wire: the reader high walked. -/

namespace Go.Proofs.YtbfhiegbgkkgiaaGreat
open Go.RowKit
open Wi
namespace Wi
/-- The number that bytes are, the highest first. -/
def hov (l : List UInt8) : Nat := lov l.reverse
theorem hov_snoc (l : List UInt8) (x : UInt8) : hov (l ++ [x]) = x.toNat + 256 * hov l := by
  unfold hov
  rw [List.reverse_append]
  rfl
end Wi
theorem hov_next {l : List UInt8} {p i : Nat} {x : UInt8} (hx : l[p + i]? = some x) (hi : i < 8) : bits .or .u64 (IntKind.u64.wrap (((hov ((l.drop p).take i) : Nat) : Int) * 256)) (IntKind.u64.wrap (x.toNat : Int)) = ((hov ((l.drop p).take (i + 1)) : Nat) : Int) := by
  have hl : p + i < l.length := (List.getElem?_eq_some_iff.1 hx).1
  have hlen : ((l.drop p).take i).reverse.length = i := by rw [List.length_reverse, List.length_take, List.length_drop]; omega
  have h1 : hov ((l.drop p).take i) < 256 ^ i := by
    have := lov_lt ((l.drop p).take i).reverse
    rw [hlen] at this
    exact this
  have h2 := x.toNat_lt
  have e2 : (256 : Nat) ^ i ≤ 256 ^ 7 := Nat.pow_le_pow_right (by decide) (by omega)
  rw [take_next hx, hov_snoc]
  generalize hov ((l.drop p).take i) = n0 at *
  rw [show (n0 : Int) * 256 = ((n0 * 256 : Nat) : Int) by omega, IntWalk.u64_in _ ⟨by omega, by omega⟩, IntWalk.u64_in (x.toNat : Int) ⟨by omega, by omega⟩, u64_or_nat _ _ (by omega) (by omega), Nat.or_comm]
  have h3 := or_256 (a := x.toNat) (b := n0) (i := 1) (by omega)
  rw [Nat.pow_one] at h3
  rw [h3]
  omega
set_option maxRecDepth 100000 in
theorem rhigh_end (base g : Nat) (A : Option Addr) (c : Nat) (l : List UInt8) (p k : Nat) (w : World) (h : Rdr w base g A c l p) (hp : p ≤ l.length) (hk : l.length < p + k) (hl : l.length ≤ 100000000) :
    Calls Tryz.prog 107 #[.pointer (some ⟨g, 0, none⟩), .int .i64 (k : Int)] w fun e w' => e = .returned (.tuple #[.int .u64 0, .int .i64 20]) ∧ ∃ q, w' = w.drewN q := by
  obtain ⟨m, hm⟩ : ∃ m, p + m = l.length := ⟨l.length - p, by omega⟩
  have HL := Lib.hid (left_t base g A c l p m w h hm hl)
  have hd : decide ((m : Int) < (k : Int)) = true := by simp; omega
  have hd2 : decide (m < k) = true := by simp; omega
  clear h hp hk hm
  go_enter Tryz.func107, Tryz.ntmps107
  go_wp2_with fail
  refine HL.out.mono ?_
  rintro e w1 ⟨rfl, q, rfl⟩
  go_wp2_with fail
  go_ret2
  exact ⟨rfl, q, rfl⟩
set_option maxRecDepth 100000 in
set_option maxHeartbeats 1600000 in
theorem rhigh_t (base g : Nat) (A : Option Addr) (c : Nat) (l : List UInt8) (p k : Nat) (w : World) (h : Rdr w base g A c l p) (hp : p + k ≤ l.length) (hk : k ≤ 8) (hl : l.length ≤ 100000000) :
    Calls Tryz.prog 107 #[.pointer (some ⟨g, 0, none⟩), .int .i64 (k : Int)] w fun e w' => e = .returned (.tuple #[.int .u64 (hov ((l.drop p).take k) : Nat), .int .i64 0]) ∧ Rdr w' base g A c l (p + k) ∧ Only (RK g) w w' := by
  obtain ⟨m, hm⟩ : ∃ m, p + m = l.length := ⟨l.length - p, by omega⟩
  have HL := Lib.hid (left_t base g A c l p m w h hm hl)
  have hd : decide ((m : Int) < (k : Int)) = false := by simp; omega
  have hd2 : decide (m < k) = false := by simp; omega
  have hkk : (k : Int) ≤ 8 := by omega
  have H := Lib.hid h
  have HP := Lib.hid hp
  clear h hm
  go_enter Tryz.func107, Tryz.ntmps107
  go_wp2_with fail
  refine HL.out.mono ?_
  rintro e w1 ⟨rfl, q0, rfl⟩
  go_wp2_with fail
  go_loopw [6, 13] (fun u v wr => ∃ (i q : Nat), v = .int .i64 (i : Int) ∧ u = .int .u64 (hov ((l.drop p).take i) : Nat) ∧ i ≤ k ∧ wr = w.drewN q) (fun _ v _ => k - (intOf v).toNat)
  case atStart => exact ⟨0, q0, rfl, rfl, Nat.zero_le _, rfl⟩
  case round =>
    obtain ⟨i, q, rfl, rfl, hi, rfl⟩ := hrel
    obtain ⟨wo, hwo⟩ : ∃ wo : World, wo = w.drewN q := ⟨_, rfl⟩
    have hR : Rdr wo base g A c l p := by rw [hwo]; exact ⟨H.out.1.drewN q, H.out.2⟩
    rw [← hwo]
    have HWO := Lib.hid hwo
    clear hwo
    have c0 : wo.cell? ⟨g, 0, none⟩ = some (.slice A l.length c) := by rw [hR.1.cell]; rfl
    have c1 : wo.cell? ⟨g, 1, none⟩ = some (.int .i64 (p : Int)) := by rw [hR.1.cell]; rfl
    have fr := hR.1.free
    by_cases hlt : i < k
    · have hii : (i : Int) < (k : Int) := by omega
      have hpi : p + i < l.length := by have := HP.out; omega
      obtain ⟨gb, hA, _, _, _, hcl, _⟩ := Own.form (show Own wo base 5 1 A l.length c (bvs l) from hR.2) (by omega)
      subst hA
      obtain ⟨x, hx⟩ : ∃ x, l[p + i]? = some x := ⟨_, List.getElem?_eq_getElem hpi⟩
      have d0 := hcl (p + i) (.int .u8 (x.toNat : Int)) (by simp only [bvs, List.getElem?_map, hx, bv, Option.map_some])
      obtain ⟨j, hj⟩ : ∃ j, j = p + i := ⟨_, rfl⟩
      have ej : IntKind.i64.wrap ((p : Int) + (i : Int)) = (j : Int) := by rw [IntWalk.i64_in _ ⟨by omega, by omega⟩]; omega
      have ej2 : (p : Int) + (i : Int) = (j : Int) := by omega
      rw [← hj] at d0
      have hjl : (j : Int) < (l.length : Int) := by omega
      have hj0 : (0 : Int) ≤ (j : Int) := by omega
      have hor := hov_next hx (show i < 8 by omega)
      have HOR := Lib.hid hor
      have HI := Lib.hid hlt
      generalize hov ((l.drop p).take i) = n0 at *
      clear hR hlt hi hcl hx hj hpi hp hor
      go_wp2_with fail
      go_quiet (fail)
      go_wp2_with fail
      go_roundw
      case rel => exact ⟨i + 1, q + nq, by go_num, by rw [HOR.out], HI.out, by rw [HWO.out, World.drewN_drewN]⟩
      case measure => have := HI.out; simp [intOf]; omega
    · obtain rfl : k = i := by omega
      have hpi : (p : Int) + (k : Int) ≤ 100000000 := by omega
      have HR := Lib.hid hR
      clear hlt hi hp hR
      go_wp2_with fail
      have hon : Only (RK g) w wo := by rw [HWO.out]; exact (Only.refl _ _).drewN q
      go_ret2
      refine ⟨rfl, HR.out.moved ?_ ((Only.refl (RK g) _).set (p := ⟨g, 1, none⟩) (.inl rfl) _), hon.set (p := ⟨g, 1, none⟩) (.inl rfl) _⟩
      have h1 := HR.out.1.put 1 (.int .i64 ((p : Int) + (k : Int)))
      simpa using h1
end Go.Proofs.YtbfhiegbgkkgiaaGreat
/- Wire: the reader leb walked. -/

namespace Go.Proofs.YtbfhiegbgkkgiaaGreat
open Go.RowKit
open Wi
namespace Wi
/-- What a number in groups of seven bits is read as, from its byte i on: an error's number, the number, how many bytes. -/
def dleb (i n : Nat) : List UInt8 → Nat × Nat × Nat
  | [] => (20, 0, 0)
  | x :: l => if i = 9 ∧ 1 < x.toNat then (21, 0, 0) else if 127 < x.toNat then dleb (i + 1) (n + x.toNat % 128 * 128 ^ i) l else if x.toNat = 0 ∧ 0 < i then (21, 0, 0) else (0, n + x.toNat % 128 * 128 ^ i, i + 1)
theorem or_128 {a b i : Nat} (ha : a < 128 ^ i) : a ||| b * 128 ^ i = a + b * 128 ^ i := by
  have e : (128 : Nat) ^ i = 2 ^ (7 * i) := by rw [show (128 : Nat) = 2 ^ 7 from rfl, ← Nat.pow_mul]
  rw [e] at ha ⊢
  have h := Nat.two_pow_add_eq_or_of_lt ha b
  rw [Nat.mul_comm, Nat.or_comm] at h
  rw [Nat.add_comm, Nat.mul_comm b, ← Nat.mul_comm b, h, Nat.or_comm]
end Wi
theorem leb_lt {n x i : Nat} (hn : n < 128 ^ i) : n + x % 128 * 128 ^ i < 128 ^ (i + 1) := by
  have h : x % 128 * 128 ^ i ≤ 127 * 128 ^ i := Nat.mul_le_mul_right _ (by omega)
  rw [Nat.pow_succ]
  omega
theorem and127 {y : Nat} (hy : y < 256) : bits .and .u8 (y : Int) 127 = ((y % 128 : Nat) : Int) := by
  rw [show (127 : Int) = ((127 : Nat) : Int) from rfl, u8_and_nat _ _ hy (by omega)]
  congr 1
  exact Nat.and_two_pow_sub_one_eq_mod y 7
theorem leb_or {n y i : Nat} (hn : n < 128 ^ i) (hy : y < 256) (hi : i ≤ 9) (h9 : i = 9 → y ≤ 1) : bits .or .u64 (n : Int) (IntKind.u64.wrap (IntKind.u64.wrap (bits .and .u8 (y : Int) 127) * 2 ^ (7 * i))) = ((n + y % 128 * 128 ^ i : Nat) : Int) := by
  have e3 : y % 128 * 128 ^ i < 18446744073709551616 ∧ n < 18446744073709551616 := by
    rcases Nat.lt_or_ge i 9 with h | h
    · have e2 : (128 : Nat) ^ i ≤ 128 ^ 8 := Nat.pow_le_pow_right (by decide) (by omega)
      have e4 : y % 128 * 128 ^ i ≤ 127 * 128 ^ 8 := Nat.mul_le_mul (by omega) e2
      exact ⟨by omega, by omega⟩
    · obtain rfl : i = 9 := by omega
      have := h9 rfl
      have e4 : y % 128 * 128 ^ 9 ≤ 1 * 128 ^ 9 := Nat.mul_le_mul (by omega) (Nat.le_refl _)
      exact ⟨by omega, by omega⟩
  have e4 : ((y % 128 : Nat) : Int) * 2 ^ (7 * i) = ((y % 128 * 128 ^ i : Nat) : Int) := by
    rw [show (128 : Nat) ^ i = 2 ^ (7 * i) by rw [show (128 : Nat) = 2 ^ 7 from rfl, ← Nat.pow_mul], Int.natCast_mul, Int.natCast_pow]
    rfl
  rw [and127 hy, IntWalk.u64_in ((y % 128 : Nat) : Int) ⟨by omega, by omega⟩, e4, IntWalk.u64_in _ ⟨by omega, by omega⟩, u64_or_nat _ _ e3.2 e3.1, or_128 hn]
/-- A reader that has gone on by k bytes. -/
theorem rdr_end {w wo : World} {base g c q m p : Nat} {A : Option Addr} {l : List UInt8} (h : Rdr wo base g A c l p) (hw : wo = w.drewN q) (k : Nat) {v : Int} (hv : v = ((p + k : Nat) : Int)) :
    Rdr ((wo.drewN m).setCell ⟨g, 1, none⟩ (.int .i64 v)) base g A c l (p + k) ∧ Only (RK g) w ((wo.drewN m).setCell ⟨g, 1, none⟩ (.int .i64 v)) := by
  subst hv
  have hr : Rdr (wo.drewN m) base g A c l p := ⟨h.1.drewN m, h.2⟩
  have hon : Only (RK g) w (wo.drewN m) := by rw [hw]; exact ((Only.refl _ _).drewN q).drewN m
  refine ⟨hr.moved ?_ ((Only.refl (RK g) _).set (p := ⟨g, 1, none⟩) (.inl rfl) _), hon.set (p := ⟨g, 1, none⟩) (.inl rfl) _⟩
  have h1 := hr.1.put 1 (.int .i64 ((p + k : Nat) : Int))
  simpa using h1
def LebPost (base g : Nat) (A : Option Addr) (c : Nat) (l : List UInt8) (p : Nat) (r : Nat × Nat × Nat) (w : World) (e : Ending) (w' : World) : Prop :=
  e = .returned (.tuple #[.int .u64 (r.2.1 : Nat), .int .i64 (r.1 : Nat)]) ∧ Rdr w' base g A c l (p + r.2.2) ∧ Only (RK g) w w'
set_option maxRecDepth 100000 in
set_option maxHeartbeats 1600000 in
theorem rleb_t (base g : Nat) (A : Option Addr) (c : Nat) (l : List UInt8) (p : Nat) (k : Int) (w : World) (h : Rdr w base g A c l p) (hp : p ≤ l.length) (hl : l.length ≤ 100000000) :
    Calls Tryz.prog 109 #[.pointer (some ⟨g, 0, none⟩), .int .i64 k] w (LebPost base g A c l p (dleb 0 0 (l.drop p)) w) := by
  have H := Lib.hid h
  have HP := Lib.hid hp
  obtain ⟨R, hR⟩ : ∃ R, R = dleb 0 0 (l.drop p) := ⟨_, rfl⟩
  rw [← hR]
  have HR0 := Lib.hid hR
  clear h hR
  go_enter Tryz.func109, Tryz.ntmps109
  go_wp2_with fail
  go_loopw [6, 7] (fun u v wr => ∃ (i n q : Nat), v = .int .i64 (i : Int) ∧ u = .int .u64 (n : Int) ∧ i ≤ 9 ∧ n < 128 ^ i ∧ p + i ≤ l.length ∧ R = dleb i n (l.drop (p + i)) ∧ wr = w.drewN q) (fun _ v _ => 10 - (intOf v).toNat)
  case atStart => exact ⟨0, 0, 0, rfl, rfl, by omega, by decide, HP.out, HR0.out, rfl⟩
  case round =>
    obtain ⟨i, n, q, rfl, rfl, hi, hn, hpi, hR, rfl⟩ := hrel
    obtain ⟨wo, hwo⟩ : ∃ wo : World, wo = w.drewN q := ⟨_, rfl⟩
    have hRd : Rdr wo base g A c l p := by rw [hwo]; exact ⟨H.out.1.drewN q, H.out.2⟩
    rw [← hwo]
    have HWO := Lib.hid hwo
    clear hwo
    have c0 : wo.cell? ⟨g, 0, none⟩ = some (.slice A l.length c) := by rw [hRd.1.cell]; rfl
    have c1 : wo.cell? ⟨g, 1, none⟩ = some (.int .i64 (p : Int)) := by rw [hRd.1.cell]; rfl
    have fr := hRd.1.free
    obtain ⟨j, hj⟩ : ∃ j, j = p + i := ⟨_, rfl⟩
    have ej : IntKind.i64.wrap ((p : Int) + (i : Int)) = (j : Int) := by rw [IntWalk.i64_in _ ⟨by omega, by omega⟩]; omega
    have ej2 : (p : Int) + (i : Int) = (j : Int) := by omega
    have hj0 : (0 : Int) ≤ (j : Int) := by omega
    have hi9 : (i : Int) ≤ 9 := by omega
    rw [← hj] at hR hpi
    have hjb : (j : Int) ≤ 100000000 := by omega
    by_cases hlt : j < l.length
    · have hlt0 : (j : Int) < (l.length : Int) := by omega
      obtain ⟨gb, hA, _, _, _, hcl, _⟩ := Own.form (show Own wo base 5 1 A l.length c (bvs l) from hRd.2) (by omega)
      subst hA
      obtain ⟨x, hx⟩ : ∃ x, l[j]? = some x := ⟨_, List.getElem?_eq_getElem hlt⟩
      have d0 := hcl j (.int .u8 (x.toNat : Int)) (by simp only [bvs, List.getElem?_map, hx, bv, Option.map_some])
      have hR2 : R = if i = 9 ∧ 1 < x.toNat then (21, 0, 0) else if 127 < x.toNat then dleb (i + 1) (n + x.toNat % 128 * 128 ^ i) (l.drop (j + 1)) else if x.toNat = 0 ∧ 0 < i then (21, 0, 0) else (0, n + x.toNat % 128 * 128 ^ i, i + 1) := by
        obtain ⟨hl2, e⟩ := List.getElem?_eq_some_iff.1 hx
        rw [hR, List.drop_eq_getElem_cons hl2, e]
        rfl
      have hx256 := x.toNat_lt
      generalize x.toNat = y at *
      have HRD := Lib.hid hRd
      clear hR hcl hx hRd hp
      by_cases h9 : i = 9 ∧ 1 < y
      · rw [if_pos h9] at hR2
        have e9 : ((i : Int) == 9) = true := by simp; omega
        have e1 : decide ((1 : Int) < (y : Int)) = true := by simp; omega
        have HRE := Lib.hid hR2
        clear hR2 h9 hn hi hlt hj hpi
        go_wp2_with fail
        go_quiet (fail)
        go_wp2_with fail
        go_quiet (fail)
        go_wp2_with fail
        go_ret2
        rw [HRE.out]
        exact ⟨rfl, ⟨HRD.out.1.drewN _, HRD.out.2⟩, by rw [HWO.out]; exact ((Only.refl _ w).drewN q).drewN _⟩
      · rw [if_neg h9] at hR2
        have hn18 : (n : Int) < 9223372036854775808 := by
          have e : n < 128 ^ 9 := Nat.lt_of_lt_of_le hn (Nat.pow_le_pow_right (by decide) hi)
          have e2 : (128 : Nat) ^ 9 = 9223372036854775808 := by decide
          omega
        have e9 : ((i : Int) == 9) = false ∨ (((i : Int) == 9) = true ∧ decide ((1 : Int) < (y : Int)) = false) := by
          by_cases h9i : i = 9
          · exact .inr ⟨by simp; omega, by simp; omega⟩
          · exact .inl (by simp; omega)
        have hor := leb_or hn hx256 hi (by omega)
        have HOR := Lib.hid hor
        by_cases hy : 127 < y
        · rw [if_pos hy] at hR2
          have e1 : decide ((127 : Int) < (y : Int)) = true := by simp; omega
          have hi9b : i < 9 := by
            rcases Nat.lt_or_ge i 9 with h | h
            · exact h
            · exact absurd ⟨by omega, by omega⟩ h9
          have e9 : ((i : Int) == 9) = false := by simp; omega
          have HI := Lib.hid hi9b
          have HRE := Lib.hid hR2
          have HN := Lib.hid (leb_lt (x := y) hn)
          have HJ := Lib.hid hj
          have HL := Lib.hid hlt
          clear hR2 h9 hn hi hj hpi hy hlt hn18 hor hx256 hi9b
          go_wp2_with fail
          go_quiet (fail)
          go_wp2_with fail
          go_quiet (fail)
          go_wp2_with fail
          go_roundw
          case rel => exact ⟨i + 1, n + y % 128 * 128 ^ i, q + _, by go_num, by rw [HOR.out], HI.out, HN.out, by have := HJ.out; have := HL.out; omega, by rw [HRE.out, HJ.out]; rfl, by rw [HWO.out, World.drewN_drewN]⟩
          case measure => have := HI.out; simp [intOf]; omega
        · rw [if_neg hy] at hR2
          have e1 : decide ((127 : Int) < (y : Int)) = false := by simp; omega
          by_cases hz : y = 0 ∧ 0 < i
          · rw [if_pos hz] at hR2
            have e3 : ((y : Int) == 0) = true := by simp; omega
            have e4 : decide ((0 : Int) < (i : Int)) = true := by simp; omega
            have e5 : decide (0 < i) = true := by simp; omega
            have HRE := Lib.hid hR2
            clear hR2 h9 hn hi hlt hj hpi hy hz hn18 hor hx256
            rcases e9 with e9 | ⟨e9, e9b⟩
            all_goals
              go_wp2_with fail
              go_quiet (fail)
              go_wp2_with fail
              go_quiet (fail)
              go_wp2_with fail
              go_ret2
              rw [HRE.out]
              exact ⟨rfl, ⟨HRD.out.1.drewN _, HRD.out.2⟩, by rw [HWO.out]; exact ((Only.refl _ w).drewN q).drewN _⟩
          · rw [if_neg hz] at hR2
            have e3 : ((y : Int) == 0) = false ∨ (((y : Int) == 0) = true ∧ decide ((0 : Int) < (i : Int)) = false ∧ decide (0 < i) = false) := by
              by_cases hy0 : y = 0
              · exact .inr ⟨by simp; omega, by simp; omega, by simp; omega⟩
              · exact .inl (by simp; omega)
            have hpb : (p : Int) ≤ 100000000 := by omega
            have HRE := Lib.hid hR2
            clear hR2 h9 hn hi hlt hj hpi hy hz hn18 hor hx256
            rcases e9 with e9 | ⟨e9, e9b⟩ <;> rcases e3 with e3 | ⟨e3, e3b, e3c⟩
            all_goals
              go_wp2_with fail
              go_quiet (fail)
              go_wp2_with fail
              go_quiet (fail)
              go_wp2_with fail
              go_ret2
              rw [HRE.out]
              exact ⟨by rw [HOR.out]; rfl, rdr_end HRD.out HWO.out (i + 1) (by omega)⟩
    · have hge : decide ((l.length : Int) ≤ (j : Int)) = true := by simp; omega
      have hge2 : decide (l.length ≤ j) = true := by simp; omega
      have hRe : R = (20, 0, 0) := by rw [hR, List.drop_of_length_le (by omega)]; rfl
      have HRE := Lib.hid hRe
      have HRD := Lib.hid hRd
      clear hR hlt hi hn hpi hj hRe hRd hp
      go_wp2_with fail
      go_quiet (fail)
      go_wp2_with fail
      go_ret2
      rw [HRE.out]
      exact ⟨rfl, ⟨HRD.out.1.drewN nq, HRD.out.2⟩, by rw [HWO.out]; exact ((Only.refl _ w).drewN q).drewN nq⟩
end Go.Proofs.YtbfhiegbgkkgiaaGreat
