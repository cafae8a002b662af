/- Wire: what every letter's writer writes; right walked. -/
import Derived.Test.YtfeoalimkolebaaWireG
namespace Go.Proofs.Ytfeoalimkolebaa
open Go.RowKit
open Wi
/-- The bytes of a number by a form. -/
def encF (f : Frm) (n : Nat) : List UInt8 :=
  if f.2.2.1 = 29 then low f.2.1 n
  else if f.2.2.1 = 31 then high f.2.1 n
  else if f.2.2.1 = 33 then leb n
  else if f.2.2.1 = 35 then leb (sign n)
  else nine 8 (sign n)
theorem put_any {k : Nat} {f : Frm} (hf : frms[k]? = some f) (g : Nat) (A : Option Addr) (c : Nat) (L : List UInt8) (n : Nat) (w : World) (h : Wr w g A c L) (hn : n < 18446744073709551616) (hL : L.length ≤ 99999000) :
    Calls Try.prog f.2.2.1 #[.pointer (some ⟨g, 0, none⟩), .int .u64 (n : Int), .int .i64 (f.2.1 : Int)] w fun e w' => e = .returned (.tuple #[]) ∧ Wrote g A (L ++ encF f n) w w' := by
  have hk : k < 10 := (List.getElem?_eq_some_iff.1 hf).1
  have hll : (L ++ leb n).length ≤ 100000000 := by have := leb_len64 hn; rw [List.length_append]; omega
  rcases k with _ | _ | _ | _ | _ | _ | _ | _ | _ | _ | k
  · injection hf with hf; subst hf; exact wlow_t g A c L n 1 w h hn (by omega) hL
  · injection hf with hf; subst hf; exact wlow_t g A c L n 2 w h hn (by omega) hL
  · injection hf with hf; subst hf; exact whigh_t g A c L n 2 w h (by omega) hL
  · injection hf with hf; subst hf; exact wlow_t g A c L n 4 w h hn (by omega) hL
  · injection hf with hf; subst hf; exact whigh_t g A c L n 4 w h (by omega) hL
  · injection hf with hf; subst hf; exact wlow_t g A c L n 8 w h hn (by omega) hL
  · injection hf with hf; subst hf; exact whigh_t g A c L n 8 w h (by omega) hL
  · injection hf with hf; subst hf; exact wleb_t g A c L n _ w h hn hll
  · injection hf with hf; subst hf; exact wzig_t g A c L n _ w h hn hL
  · injection hf with hf; subst hf; exact wnine_t g A c L n _ w h hn hL
  · omega
theorem enc_len {k : Nat} {f : Frm} (hf : frms[k]? = some f) {n : Nat} (hn : n < 18446744073709551616) : (encF f n).length ≤ 10 := by
  have hk : k < 10 := (List.getElem?_eq_some_iff.1 hf).1
  have h1 := leb_len64 hn
  have h2 := leb_len64 (sign_lt hn)
  have h3 := nine_len 8 (sign n)
  rcases k with _ | _ | _ | _ | _ | _ | _ | _ | _ | _ | k
  · injection hf with hf; subst hf; exact Nat.le_trans (Nat.le_of_eq (low_len 1 n)) (by decide)
  · injection hf with hf; subst hf; exact Nat.le_trans (Nat.le_of_eq (low_len 2 n)) (by decide)
  · injection hf with hf; subst hf; exact Nat.le_trans (Nat.le_of_eq (high_len 2 n)) (by decide)
  · injection hf with hf; subst hf; exact Nat.le_trans (Nat.le_of_eq (low_len 4 n)) (by decide)
  · injection hf with hf; subst hf; exact Nat.le_trans (Nat.le_of_eq (high_len 4 n)) (by decide)
  · injection hf with hf; subst hf; exact Nat.le_trans (Nat.le_of_eq (low_len 8 n)) (by decide)
  · injection hf with hf; subst hf; exact Nat.le_trans (Nat.le_of_eq (high_len 8 n)) (by decide)
  · injection hf with hf; subst hf; exact h1
  · injection hf with hf; subst hf; exact h2
  · injection hf with hf; subst hf; exact Nat.le_trans h3 (by decide)
  · omega
/-- Is it a pattern? -/
def okL (x : UInt8) : Bool := decide (fi x.toNat < 10)
def rightB (l : List UInt8) : Bool := decide (l.length ≤ 64) && l.all okL
theorem str_at (a : ByteArray) (i : Nat) (h : i < a.size) : a.data.toList[i]? = some a[i] := by
  rw [Array.getElem?_toList, Array.getElem?_eq_getElem h]
  rfl
theorem take_all {a : ByteArray} {i : Nat} (h : i < a.size) : (a.data.toList.take (i + 1)).all okL = ((a.data.toList.take i).all okL && okL a[i]) := by
  rw [List.take_add_one, str_at a i h]
  simp
theorem all_no {a : ByteArray} {i : Nat} (h : i < a.size) (hno : okL a[i] = false) : a.data.toList.all okL = false := by
  rw [List.all_eq_false]
  exact ⟨a[i], List.mem_of_getElem? (str_at a i h), by simp [hno]⟩
set_option maxHeartbeats 1600000 in
theorem right_t (a : ByteArray) (w : World) :
    Calls Try.prog 17 #[.string a] w fun e w' => e = .returned (.bool (rightB a.data.toList)) ∧ Below w.heap.size w w' := by
  have hs : a.data.toList.length = a.size := by simp
  by_cases h64 : a.size ≤ 64
  · have hd : decide ((64 : Int) < (a.size : Int)) = false := by simp; omega
    have hR : rightB a.data.toList = a.data.toList.all okL := by unfold rightB; rw [hs, decide_eq_true h64, Bool.true_and]
    rw [hR]
    obtain ⟨R, hRe⟩ : ∃ R, R = a.data.toList.all okL := ⟨_, rfl⟩
    rw [← hRe]
    have HRE := Lib.hid hRe
    clear hRe
    have ha : (a.size : Int) ≤ 64 := by omega
    have HS := Lib.hid hs
    clear hs hR h64
    go_enter Try.func17, Try.ntmps17
    go_wp2_with fail
    go_loopw [11] (fun v wr => ∃ i : Nat, v = .int .i64 (i : Int) ∧ i ≤ a.size ∧ (a.data.toList.take i).all okL = true ∧ Below w.heap.size w wr) (fun v _ => a.size - (intOf v).toNat)
    case atStart => exact ⟨0, rfl, Nat.zero_le _, rfl, Below.refl _ _⟩
    case round =>
      obtain ⟨i, rfl, hi, hok, hbel⟩ := hrel
      obtain ⟨wo, rfl⟩ : ∃ wo : World, wo = wr := ⟨_, rfl⟩
      by_cases hlt : i < a.size
      · have hii : (i : Int) < (a.size : Int) := by omega
        have hi0 : (0 : Int) ≤ (i : Int) := by omega
        have HTA := Lib.hid (take_all hlt)
        have HNO := Lib.hid (all_no hlt)
        have HOK := Lib.hid hok
        have HI := Lib.hid hlt
        have HW := Lib.hid hbel
        clear hok hbel hi
        go_wp2_with fail
        refine (formOf_t _ wo).mono ?_
        rintro e w1 ⟨hc, hb1⟩
        have HB1 := Lib.hid hb1
        clear hb1
        have hokd : okL a[i] = decide (fi a[i].toNat < 10) := rfl
        generalize a[i] = x at *
        rcases hc with ⟨f, hf, rfl⟩ | ⟨h10, rfl⟩
        · have hx : okL x = true := by
            rw [hokd, decide_eq_true_iff]
            exact (List.getElem?_eq_some_iff.1 hf).1
          have HX := Lib.hid hx
          clear hf hx hokd
          unfold frmV
          go_wp2_with (first | (refine wpList_store_row rfl 49 _ _ rfl w1.heap.size (frmC f).toArray rfl rfl 49 _ (heap_alloc_new _ _) frm_info rfl (frmC_one _) ?_) | fail)
          go_roundw
          case rel => exact ⟨i + 1, by go_num, HI.out, by rw [HTA.out, HOK.out, HX.out]; rfl, below_setRow ((HW.out.trans (HB1.out.mono HW.out.size)).alloc (by have := HW.out.size; have := HB1.out.size; omega) _) (by have := HW.out.size; have := HB1.out.size; omega) _⟩
          case measure => have := HI.out; simp [intOf]; omega
        · have hx : okL x = false := by
            rw [hokd, h10]
            rfl
          have HX := Lib.hid (HRE.out.trans (HNO.out hx))
          clear h10 hx hokd
          go_wp2_with (first | (refine wpList_store_row rfl 49 _ _ rfl w1.heap.size zeroC.toArray rfl rfl 49 _ (heap_alloc_new _ _) frm_info rfl zeroC_one ?_) | fail)
          go_ret
          exact ⟨by rw [HX.out]; rfl, below_setRow ((HW.out.trans (HB1.out.mono HW.out.size)).alloc (by have := HW.out.size; have := HB1.out.size; omega) _) (by have := HW.out.size; have := HB1.out.size; omega) _⟩
      · have hi2 : a.size = i := by omega
        have hall : a.data.toList.all okL = true := by
          rw [List.take_of_length_le (by rw [HS.out]; omega)] at hok
          exact hok
        have HX := Lib.hid (HRE.out.trans hall)
        have hge : decide (i < a.size) = false := by simp; omega
        have hge2 : ¬ (i : Int) < (a.size : Int) := by omega
        clear hok hall hi hlt hi2
        go_wp2_with fail
        go_ret
        exact ⟨by rw [HX.out]; rfl, hbel⟩
  · have hd : decide ((64 : Int) < (a.size : Int)) = true := by simp; omega
    have hR : rightB a.data.toList = false := by unfold rightB; rw [hs, decide_eq_false h64, Bool.false_and]
    rw [hR]
    clear hs hR h64
    go_enter Try.func17, Try.ntmps17
    go_wp2_with fail
    go_ret
    exact ⟨rfl, Below.refl _ _⟩
end Go.Proofs.Ytfeoalimkolebaa
