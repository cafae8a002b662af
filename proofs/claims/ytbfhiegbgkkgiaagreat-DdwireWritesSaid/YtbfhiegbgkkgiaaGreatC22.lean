/- Wire: what is written is read; what is read is written; what is cut off is told as ended. In plain Lean. -/
import Derived.Test.YtbfhiegbgkkgiaaGreatC20
import Derived.Test.YtbfhiegbgkkgiaaGreatC21
import Derived.Defers
import Derived.Recover
import Derived.Laws.Pointers
namespace Go.Proofs.YtbfhiegbgkkgiaaGreat
open Go.RowKit
namespace Wi
theorem by8_self (x : UInt8) : by8 x.toNat = x := UInt8.toNat_inj.1 (by rw [by8_nat x.toNat_lt])
theorem dleb_cons (i m : Nat) (x : UInt8) (l : List UInt8) : dleb i m (x :: l) = if i = 9 ∧ 1 < x.toNat then (21, 0, 0) else if 127 < x.toNat then dleb (i + 1) (m + x.toNat % 128 * 128 ^ i) l else if x.toNat = 0 ∧ 0 < i then (21, 0, 0) else (0, m + x.toNat % 128 * 128 ^ i, i + 1) := rfl
theorem dleb_last {i m n : Nat} (l : List UInt8) (h : n < 128) (h9 : i = 9 → n ≤ 1) (h0 : 0 < i → 0 < n) : dleb i m (by8 n :: l) = (0, m + n * 128 ^ i, i + 1) := by
  rw [dleb_cons, by8_nat (by omega), if_neg (by rintro ⟨h1, h2⟩; have := h9 h1; omega), if_neg (by omega), if_neg (by rintro ⟨h1, h2⟩; have := h0 h2; omega), Nat.mod_eq_of_lt h]
theorem dleb_more {i m n : Nat} (l : List UInt8) (hi : i < 9) : dleb i m (by8 (128 + n % 128) :: l) = dleb (i + 1) (m + n % 128 * 128 ^ i) l := by
  rw [dleb_cons, by8_nat (by omega), if_neg (by omega), if_pos (by omega), show (128 + n % 128) % 128 = n % 128 by omega]
theorem p128 (i : Nat) : 128 ^ (i + 1) = 128 * 128 ^ i := by rw [Nat.pow_succ, Nat.mul_comm]
theorem div_pow {m n i : Nat} : m + n % 128 * 128 ^ i + n / 128 * 128 ^ (i + 1) = m + n * 128 ^ i := by
  have e : n = n % 128 + n / 128 * 128 := by omega
  rw [p128, ← Nat.mul_assoc, Nat.add_assoc, ← Nat.add_mul, ← e]
/-- How many groups of seven are left for it. -/
def room (i n : Nat) : Prop := n < 128 ^ (9 - i) * 2
theorem room_next {i n : Nat} (hi : i ≤ 9) (h : room i n) (hn : 128 ≤ n) : i < 9 ∧ room (i + 1) (n / 128) := by
  unfold room at *
  rcases Nat.lt_or_ge i 9 with h9 | h9
  · refine ⟨h9, ?_⟩
    rw [show 9 - i = (9 - (i + 1)) + 1 by omega, p128] at h
    omega
  · rw [show 9 - i = 0 by omega] at h
    omega
theorem dleb_back : ∀ (d i m n : Nat), 9 - i = d → i ≤ 9 → room i n → (0 < i → 0 < n) → ∀ rest, dleb i m (leb n ++ rest) = (0, m + n * 128 ^ i, i + (leb n).length)
  | d, i, m, n, hd, hi, hr, h0, rest => by
    rcases Nat.lt_or_ge n 128 with h | h
    · rw [leb_last h]
      exact dleb_last rest h (fun h9 => by subst h9; unfold room at hr; omega) h0
    · obtain ⟨h9, hr2⟩ := room_next hi hr h
      rw [leb_more h, List.cons_append, dleb_more _ h9]
      cases d with
      | zero => omega
      | succ d =>
        rw [dleb_back d (i + 1) _ (n / 128) (by omega) (by omega) hr2 (by omega), div_pow, List.length_cons]
        congr 2
        omega
theorem dleb_cut : ∀ (d i m n : Nat), 9 - i = d → i ≤ 9 → room i n → ∀ k, k < (leb n).length → dleb i m ((leb n).take k) = (20, 0, 0)
  | d, i, m, n, hd, hi, hr, k, hk => by
    cases k with
    | zero => rfl
    | succ k =>
      rcases Nat.lt_or_ge n 128 with h | h
      · rw [leb_last h] at hk
        simp at hk
      · obtain ⟨h9, hr2⟩ := room_next hi hr h
        rw [leb_more h, List.length_cons] at hk
        rw [leb_more h, List.take_succ_cons, dleb_more _ h9]
        cases d with
        | zero => omega
        | succ d => exact dleb_cut d (i + 1) _ (n / 128) (by omega) (by omega) hr2 k (by omega)
theorem dleb_one : ∀ (l : List UInt8) (i m v k : Nat), dleb i m l = (0, v, k) → ∃ n, v = m + n * 128 ^ i ∧ (0 < i → 0 < n) ∧ i < k ∧ k - i ≤ l.length ∧ leb n = l.take (k - i)
  | [], i, m, v, k, h => by simp [dleb] at h
  | x :: l, i, m, v, k, h => by
    have hx := x.toNat_lt
    rw [dleb_cons] at h
    split at h
    · simp at h
    · split at h
      · rename_i h127
        obtain ⟨n, h1, h2, h3, h4, h5⟩ := dleb_one l (i + 1) _ v k h
        have hn := h2 (by omega)
        refine ⟨x.toNat % 128 + 128 * n, ?_, by omega, by omega, by rw [List.length_cons]; omega, ?_⟩
        · rw [h1, ← div_pow (n := x.toNat % 128 + 128 * n), show (x.toNat % 128 + 128 * n) % 128 = x.toNat % 128 by omega, show (x.toNat % 128 + 128 * n) / 128 = n by omega]
        · rw [leb_more (by omega), show k - i = (k - (i + 1)) + 1 by omega, List.take_succ_cons, show (x.toNat % 128 + 128 * n) % 128 = x.toNat % 128 by omega, show (x.toNat % 128 + 128 * n) / 128 = n by omega, h5,
            show 128 + x.toNat % 128 = x.toNat by omega, by8_self]
      · rename_i h127
        split at h
        · simp at h
        · rename_i h0
          injection h with _ h
          injection h with h1 h2
          refine ⟨x.toNat, ?_, by omega, by omega, by rw [List.length_cons]; omega, ?_⟩
          · rw [← h1, Nat.mod_eq_of_lt (by omega)]
          · rw [leb_last (by omega), show k - i = 0 + 1 by omega, List.take_succ_cons, by8_self]
            rfl
theorem room64 {n : Nat} (h : n < 18446744073709551616) : room 0 n := by unfold room; exact Nat.lt_of_lt_of_le h (by decide)
theorem dnine_cons (i m : Nat) (x : UInt8) (l : List UInt8) : dnine i m (x :: l) = if i = 8 then (if x.toNat = 0 then (21, 0, 0) else (0, unsign (m + x.toNat * 128 ^ 8), i + 1)) else if 127 < x.toNat then dnine (i + 1) (m + x.toNat % 128 * 128 ^ i) l else if x.toNat = 0 ∧ 0 < i then (21, 0, 0) else (0, unsign (m + x.toNat % 128 * 128 ^ i), i + 1) := rfl
theorem dnine_back : ∀ (d i m n : Nat), 8 - i = d → i ≤ 8 → n < 128 ^ d * 256 → (0 < i → 0 < n) → ∀ rest, dnine i m (nine d n ++ rest) = (0, unsign (m + n * 128 ^ i), i + (nine d n).length)
  | 0, i, m, n, hd, hi, hr, h0, rest => by
    obtain rfl : i = 8 := by omega
    have hn := h0 (by decide)
    rw [nine, List.singleton_append, dnine_cons, if_pos rfl, by8_nat (by omega), if_neg (by omega)]
    rfl
  | d + 1, i, m, n, hd, hi, hr, h0, rest => by
    rw [nine]
    rcases Nat.lt_or_ge n 128 with h | h
    · rw [if_pos h, List.singleton_append, dnine_cons, if_neg (by omega), by8_nat (by omega), if_neg (by omega), if_neg (by rintro ⟨h1, h2⟩; have := h0 h2; omega), Nat.mod_eq_of_lt h]
      rfl
    · rw [if_neg (by omega), List.cons_append, dnine_cons, if_neg (by omega), by8_nat (by omega), if_pos (by omega), show (128 + n % 128) % 128 = n % 128 by omega]
      rw [dnine_back d (i + 1) _ (n / 128) (by omega) (by omega) (by rw [p128] at hr; omega) (by omega), div_pow, List.length_cons]
      congr 2
      omega
theorem dnine_cut : ∀ (d i m n : Nat), 8 - i = d → i ≤ 8 → n < 128 ^ d * 256 → ∀ k, k < (nine d n).length → dnine i m ((nine d n).take k) = (20, 0, 0)
  | _, _, _, _, _, _, _, 0, _ => rfl
  | 0, i, m, n, hd, hi, hr, k + 1, hk => by rw [nine] at hk; simp at hk
  | d + 1, i, m, n, hd, hi, hr, k + 1, hk => by
    rw [nine] at hk ⊢
    rcases Nat.lt_or_ge n 128 with h | h
    · rw [if_pos h] at hk; simp at hk
    · rw [if_neg (by omega), List.length_cons] at hk
      rw [if_neg (by omega), List.take_succ_cons, dnine_cons, if_neg (by omega), by8_nat (by omega), if_pos (by omega)]
      exact dnine_cut d (i + 1) _ (n / 128) (by omega) (by omega) (by rw [p128] at hr; omega) k (by omega)
theorem dnine_one : ∀ (l : List UInt8) (d i m v k : Nat), 8 - i = d → i ≤ 8 → dnine i m l = (0, v, k) → ∃ n, v = unsign (m + n * 128 ^ i) ∧ n < 128 ^ d * 256 ∧ (0 < i → 0 < n) ∧ i < k ∧ k - i ≤ l.length ∧ nine d n = l.take (k - i)
  | [], d, i, m, v, k, _, _, h => by simp [dnine] at h
  | x :: l, d, i, m, v, k, hd, hi, h => by
    have hx := x.toNat_lt
    rw [dnine_cons] at h
    split at h
    · rename_i h8
      subst h8
      obtain rfl : d = 0 := by omega
      split at h
      · simp at h
      · rename_i h0
        injection h with _ h
        injection h with h1 h2
        refine ⟨x.toNat, h1.symm, by omega, by omega, by omega, by rw [List.length_cons]; omega, ?_⟩
        rw [nine, show k - 8 = 0 + 1 by omega, List.take_succ_cons, by8_self]
        rfl
    · rename_i h8
      obtain ⟨e, rfl⟩ : ∃ e, d = e + 1 := ⟨d - 1, by omega⟩
      split at h
      · rename_i h127
        obtain ⟨n, h1, h6, h2, h3, h4, h5⟩ := dnine_one l e (i + 1) _ v k (by omega) (by omega) h
        have hn := h2 (by omega)
        refine ⟨x.toNat % 128 + 128 * n, ?_, by rw [p128]; omega, by omega, by omega, by rw [List.length_cons]; omega, ?_⟩
        · rw [h1, ← div_pow (n := x.toNat % 128 + 128 * n), show (x.toNat % 128 + 128 * n) % 128 = x.toNat % 128 by omega, show (x.toNat % 128 + 128 * n) / 128 = n by omega]
        · rw [nine, if_neg (by omega), show k - i = (k - (i + 1)) + 1 by omega, List.take_succ_cons, show (x.toNat % 128 + 128 * n) % 128 = x.toNat % 128 by omega, show (x.toNat % 128 + 128 * n) / 128 = n by omega, h5,
            show 128 + x.toNat % 128 = x.toNat by omega, by8_self]
      · rename_i h127
        split at h
        · simp at h
        · rename_i h0
          injection h with _ h
          injection h with h1 h2
          have hp : 0 < 128 ^ e := Nat.pow_pos (by decide)
          refine ⟨x.toNat, ?_, by rw [p128]; omega, by omega, by omega, by rw [List.length_cons]; omega, ?_⟩
          · rw [← h1, Nat.mod_eq_of_lt (by omega)]
          · rw [nine, if_pos (by omega), show k - i = 0 + 1 by omega, List.take_succ_cons, by8_self]
            rfl
theorem lov_low : ∀ (k n : Nat), n < 256 ^ k → lov (low k n) = n
  | 0, n, h => by rw [Nat.pow_zero] at h; simp [low, lov]; omega
  | k + 1, n, h => by
    rw [Nat.pow_succ] at h
    rw [low, lov, lov_low k (n / 256) (by omega), by8_nat (by omega)]
    omega
theorem low_lov : ∀ l : List UInt8, low l.length (lov l) = l
  | [] => rfl
  | x :: l => by
    have hx := x.toNat_lt
    rw [List.length_cons, low, lov, show (x.toNat + 256 * lov l) % 256 = x.toNat by omega, show (x.toNat + 256 * lov l) / 256 = lov l by omega, low_lov l, by8_self]
end Wi
open Wi
theorem fits_lt {f : Frm} {n k : Nat} (hk : f.2.1 = k) (h0 : 0 < k) (hn : n < 18446744073709551616) (h : fitsF f n = true) : n < 256 ^ k := by
  subst hk
  unfold fitsF at h
  rw [Bool.or_eq_true, Bool.or_eq_true, decide_eq_true_iff, decide_eq_true_iff, decide_eq_true_iff] at h
  rcases h with (h | h) | h
  · omega
  · rw [h]; exact Nat.lt_of_lt_of_le hn (by decide)
  · exact h
/-- What a form does, in one word. -/
structure Okf (f : Frm) : Prop where
  back : ∀ n, n < 18446744073709551616 → fitsF f n = true → ∀ rest, decF f (encF f n ++ rest) = (0, n, (encF f n).length)
  one : ∀ l n k, decF f l = (0, n, k) → n < 18446744073709551616 ∧ fitsF f n = true ∧ k ≤ l.length ∧ encF f n = l.take k
  cut : ∀ n, n < 18446744073709551616 → ∀ k, k < (encF f n).length → decF f ((encF f n).take k) = (20, 0, 0)
theorem okf_low (x k : Nat) (h0 : 0 < k) (h8 : k ≤ 8) : Okf (x, k, 104, 105) where
  back := fun n hn hf rest => by
    have h := fits_lt (k := k) rfl h0 hn hf
    show (if (low k n ++ rest).length < k then (20, 0, 0) else (0, lov ((low k n ++ rest).take k), k)) = (0, n, (low k n).length)
    rw [if_neg (by rw [List.length_append, low_len]; omega), List.take_left' (low_len k n), lov_low k n h, low_len]
  one := fun l n j h => by
    have hl := dec_lt (x, k, 104, 105) l h8
    rw [h] at hl
    replace h : (if l.length < k then (20, 0, 0) else (0, lov (l.take k), k)) = (0, n, j) := h
    split at h
    · simp at h
    · injection h with _ h
      injection h with h1 h2
      subst h2
      have hlen : (l.take k).length = k := by rw [List.length_take]; omega
      have hlt := lov_lt (l.take k)
      rw [hlen, h1] at hlt
      refine ⟨hl, ?_, by omega, ?_⟩
      · unfold fitsF
        rw [decide_eq_true (show n < 256 ^ k from hlt), Bool.or_true]
      · show low k n = _
        rw [← h1]
        have := low_lov (l.take k)
        rw [hlen] at this
        exact this
  cut := fun n _ j hj => by
    replace hj : j < (low k n).length := hj
    rw [low_len] at hj
    show (if ((low k n).take j).length < k then (20, 0, 0) else (0, lov (((low k n).take j).take k), k)) = (20, 0, 0)
    rw [if_pos (by rw [List.length_take, low_len]; omega)]
theorem okf_high (x k : Nat) (h0 : 0 < k) (h8 : k ≤ 8) : Okf (x, k, 106, 107) where
  back := fun n hn hf rest => by
    have h := fits_lt (k := k) rfl h0 hn hf
    show (if (high k n ++ rest).length < k then (20, 0, 0) else (0, hov ((high k n ++ rest).take k), k)) = (0, n, (high k n).length)
    rw [if_neg (by rw [List.length_append, high_len]; omega), List.take_left' (high_len k n), hov, high, List.reverse_reverse, lov_low k n h, List.length_reverse, low_len]
  one := fun l n j h => by
    have hl := dec_lt (x, k, 106, 107) l h8
    rw [h] at hl
    replace h : (if l.length < k then (20, 0, 0) else (0, hov (l.take k), k)) = (0, n, j) := h
    split at h
    · simp at h
    · injection h with _ h
      injection h with h1 h2
      subst h2
      have hlen : (l.take k).reverse.length = k := by rw [List.length_reverse, List.length_take]; omega
      have hlt := lov_lt (l.take k).reverse
      unfold hov at h1
      rw [hlen, h1] at hlt
      refine ⟨hl, ?_, by omega, ?_⟩
      · unfold fitsF
        rw [decide_eq_true (show n < 256 ^ k from hlt), Bool.or_true]
      · show high k n = _
        rw [← h1]
        have := low_lov (l.take k).reverse
        rw [hlen] at this
        rw [high, this, List.reverse_reverse]
  cut := fun n _ j hj => by
    replace hj : j < (high k n).length := hj
    rw [high_len] at hj
    show (if ((high k n).take j).length < k then (20, 0, 0) else (0, hov (((high k n).take j).take k), k)) = (20, 0, 0)
    rw [if_pos (by rw [List.length_take, high_len]; omega)]
theorem okf_leb : Okf (118, 0, 108, 109) where
  back := fun n hn _ rest => by
    show dleb 0 0 (leb n ++ rest) = (0, n, (leb n).length)
    rw [dleb_back 9 0 0 n rfl (by decide) (room64 hn) (by omega)]
    simp
  one := fun l n j h => by
    have hl := dec_lt (118, 0, 108, 109) l (Nat.zero_le _)
    rw [h] at hl
    obtain ⟨m, h1, _, _, h4, h5⟩ := dleb_one l 0 0 n j h
    have e : m = n := by rw [h1]; simp
    subst e
    exact ⟨hl, rfl, by omega, h5⟩
  cut := fun n hn j hj => dleb_cut 9 0 0 n rfl (by decide) (room64 hn) j hj
theorem okf_zig : Okf (122, 0, 110, 111) where
  back := fun n hn _ rest => by
    show dzig (leb (sign n) ++ rest) = (0, n, (leb (sign n)).length)
    unfold dzig
    rw [dleb_back 9 0 0 (sign n) rfl (by decide) (room64 (sign_lt hn)) (by omega)]
    simp [unsign_sign hn]
  one := fun l n j h => by
    have hl := dec_lt (122, 0, 110, 111) l (Nat.zero_le _)
    rw [h] at hl
    replace h : dzig l = (0, n, j) := h
    have hv := dleb_lt l 0 0 (by decide) (by decide)
    unfold dzig at h
    generalize hd : dleb 0 0 l = r at *
    obtain ⟨re, rn, rk⟩ := r
    injection h with h1 h
    injection h with h2 h3
    dsimp only at *
    subst h1
    subst h3
    obtain ⟨m, g1, _, _, g4, g5⟩ := dleb_one l 0 0 rn rk hd
    have e : m = rn := by rw [g1]; simp
    subst e
    refine ⟨hl, rfl, by omega, ?_⟩
    show leb (sign n) = _
    rw [← h2, sign_unsign hv]
    exact g5
  cut := fun n hn j hj => by
    show dzig ((leb (sign n)).take j) = (20, 0, 0)
    unfold dzig
    rw [dleb_cut 9 0 0 (sign n) rfl (by decide) (room64 (sign_lt hn)) j hj]
    rfl
theorem okf_nine : Okf (110, 0, 112, 113) where
  back := fun n hn _ rest => by
    show dnine 0 0 (nine 8 (sign n) ++ rest) = (0, n, (nine 8 (sign n)).length)
    rw [dnine_back 8 0 0 (sign n) rfl (by decide) (Nat.lt_of_lt_of_le (sign_lt hn) (by decide)) (by omega)]
    simp [unsign_sign hn]
  one := fun l n j h => by
    have hl := dec_lt (110, 0, 112, 113) l (Nat.zero_le _)
    rw [h] at hl
    obtain ⟨m, h1, h2, _, _, h4, h5⟩ := dnine_one l 8 0 0 n j rfl (by decide) h
    have e : 0 + m * 128 ^ 0 = m := by simp
    rw [e] at h1
    refine ⟨hl, rfl, by omega, ?_⟩
    show nine 8 (sign n) = _
    rw [h1, sign_unsign (Nat.lt_of_lt_of_le h2 (by decide))]
    exact h5
  cut := fun n hn j hj => dnine_cut 8 0 0 (sign n) rfl (by decide) (Nat.lt_of_lt_of_le (sign_lt hn) (by decide)) j hj
theorem okf {k : Nat} {f : Frm} (hf : frms[k]? = some f) : Okf f := by
  have h2 := List.mem_of_getElem? hf
  simp only [frms, List.mem_cons, List.not_mem_nil, or_false] at h2
  rcases h2 with rfl | rfl | rfl | rfl | rfl | rfl | rfl | rfl | rfl | rfl
  · exact okf_low _ _ (by decide) (by decide)
  · exact okf_low _ _ (by decide) (by decide)
  · exact okf_high _ _ (by decide) (by decide)
  · exact okf_low _ _ (by decide) (by decide)
  · exact okf_high _ _ (by decide) (by decide)
  · exact okf_low _ _ (by decide) (by decide)
  · exact okf_high _ _ (by decide) (by decide)
  · exact okf_leb
  · exact okf_zig
  · exact okf_nine
theorem ok_frm {x : UInt8} (h : okL x = true) : ∃ f, frms[fi x.toNat]? = some f := by
  have h2 : fi x.toNat < 10 := of_decide_eq_true h
  exact ⟨_, List.getElem?_eq_getElem h2⟩
/-- What was written is read; cut off, it is told as ended. -/
theorem put_ok : ∀ (pt : List UInt8) (ns : List Nat) (S T : List UInt8), pt.all okL = true → pt.length = ns.length → (∀ n ∈ ns, n < 18446744073709551616) → putL pt ns S = (0, T) →
    ∃ B, T = S ++ B ∧ (∀ rest acc p, goL pt (B ++ rest) acc p = (0, acc ++ ns, p + B.length)) ∧ ∀ cut acc p, cut < B.length → goL pt (B.take cut) acc p = (20, [], 0)
  | [], [], S, T, _, _, _, h => by
    injection h with _ h
    exact ⟨[], by simp [h], fun rest acc p => by simp [goL], fun cut acc p hc => by simp at hc⟩
  | [], n :: ns, S, T, _, hl, _, h => by simp at hl
  | x :: pt, [], S, T, _, hl, _, h => by simp at hl
  | x :: pt, n :: ns, S, T, ha, hl, hn, h => by
    rw [List.all_cons, Bool.and_eq_true] at ha
    obtain ⟨f, hf⟩ := ok_frm ha.1
    have hn0 := hn n (by simp)
    have hk := okf hf
    rw [putL, hf] at h
    dsimp only at h
    split at h
    · rename_i hfit
      obtain ⟨B, h1, h2, h3⟩ := put_ok pt ns _ T ha.2 (by simpa using hl) (fun m hm => hn m (by simp [hm])) h
      refine ⟨encF f n ++ B, by rw [h1, List.append_assoc], fun rest acc p => ?_, fun cut acc p hc => ?_⟩
      · have e := hk.back n hn0 hfit (B ++ rest)
        rw [goL, decX_of hf, List.append_assoc, e]
        dsimp only
        rw [if_pos rfl, List.drop_left' rfl, h2 rest, List.append_assoc, List.length_append, Nat.add_assoc]
        rfl
      · rcases Nat.lt_or_ge cut (encF f n).length with h4 | h4
        · rw [goL, decX_of hf, List.take_append_of_le_length (by omega), hk.cut n hn0 cut h4]
          rfl
        · rw [List.length_append] at hc
          have e : (encF f n ++ B).take cut = encF f n ++ B.take (cut - (encF f n).length) := by
            rw [List.take_append, List.take_of_length_le h4]
          have e2 := hk.back n hn0 hfit (B.take (cut - (encF f n).length))
          rw [goL, decX_of hf, e, e2]
          dsimp only
          rw [if_pos rfl, List.drop_left' rfl]
          exact h3 _ _ _ (by omega)
    · injection h with h _
      cases h
/-- What was read is written as it stood. -/
theorem get_ok : ∀ (pt l : List UInt8) (acc L : List Nat) (p k : Nat), pt.all okL = true → goL pt l acc p = (0, L, k) →
    ∃ ns j, L = acc ++ ns ∧ k = p + j ∧ j ≤ l.length ∧ ns.length = pt.length ∧ (∀ n ∈ ns, n < 18446744073709551616) ∧ ∀ S, putL pt ns S = (0, S ++ l.take j)
  | [], l, acc, L, p, k, _, h => by
    injection h with _ h
    injection h with h1 h2
    exact ⟨[], 0, by simp [h1], by omega, Nat.zero_le _, rfl, by simp, fun S => by simp [putL]⟩
  | x :: pt, l, acc, L, p, k, ha, h => by
    rw [List.all_cons, Bool.and_eq_true] at ha
    obtain ⟨f, hf⟩ := ok_frm ha.1
    rw [goL, decX_of hf] at h
    generalize hd : decF f l = r at h
    obtain ⟨re, rn, ru⟩ := r
    dsimp only at h
    split at h
    · rename_i hre
      subst hre
      obtain ⟨g1, g2, g3, g4⟩ := (okf hf).one l rn ru hd
      obtain ⟨ns, j, h1, h2, h3, h4, h5, h6⟩ := get_ok pt _ _ L _ k ha.2 h
      rw [List.length_drop] at h3
      refine ⟨rn :: ns, ru + j, by rw [h1, List.append_assoc]; rfl, by omega, by omega, by rw [List.length_cons, List.length_cons, h4], fun n hn => ?_, fun S => ?_⟩
      · rcases List.mem_cons.1 hn with rfl | hn
        · exact g1
        · exact h5 n hn
      · rw [putL, hf]
        dsimp only
        rw [if_pos g2, h6, g4, List.append_assoc, List.take_add]
    · rename_i hre
      injection h with h _
      exact absurd h hre
end Go.Proofs.YtbfhiegbgkkgiaaGreat
/- Numbers of bytes that may be a sketch's: read, or the reading is given up; walked. -/

namespace Go.Proofs.YtbfhiegbgkkgiaaGreat
open Go.RowKit
open Pl
open Sc
open Wi
/-- A reading that was given up. -/
def gone : List PanicEntry := [{ v := .iface 115 (.agg #[]), recovered := false }]
def nextV (g : Nat) : Value := .func (Fn.func 32) #[.pointer (some ⟨g, 0, none⟩)] #[]
set_option maxRecDepth 100000 in
theorem num_ok (base g : Nat) (A : Option Addr) (c : Nat) (l : List UInt8) (p lo hi n k : Nat) (w : World) (h : Rdr w base g A c l p) (hp : p ≤ l.length) (hl : l.length ≤ 100000000) (hd : dleb 0 0 (l.drop p) = (0, n, k)) (h0 : lo ≤ n) (h1 : n ≤ hi) :
    Calls Tryz.prog 33 #[.agg #[nextV g], .int .u8 118, .int .u64 (lo : Int), .int .u64 (hi : Int)] w fun e w' => e = .returned (.int .u64 (n : Nat)) ∧ Rdr w' base g A c l (p + k) ∧ Only (RK g) w w' := by
  have HN := Lib.hid (fun W (h : Rdr W base g A c l p) => next_t base g A c l p 118 W h hp hl frm_v)
  rw [show decF (118, 0, 108, 109) (l.drop p) = dleb 0 0 (l.drop p) from rfl, hd] at HN
  have HH := Lib.hid h
  have e1 : decide ((n : Int) < (lo : Int)) = false := by simp; omega
  have e2 : decide ((hi : Int) < (n : Int)) = false := by simp; omega
  have e1b : decide (n < lo) = false := by simp; omega
  have e2b : decide (hi < n) = false := by simp; omega
  clear h hp hl hd h0 h1
  unfold nextV
  go_enter Tryz.func33, Tryz.ntmps33
  go_wp2_with fail
  have hb1 : Below w.heap.size w (w.alloc (.cells #[.func (Fn.func 32) #[.pointer (some ⟨g, 0, none⟩)] #[]] 72)) := (Below.refl _ _).alloc (Nat.le_refl _) _
  refine (HN.out _ (HH.out.below hb1)).mono ?_
  rintro e w2 ⟨rfl, r2, o2⟩
  have R2 := Lib.hid r2
  have O2 : Hid (Only (RK g) w w2) := Lib.hid ((Only.of_below hb1).trans o2)
  clear r2 o2 hb1
  dsimp only
  go_wp2_with fail
  go_ret
  exact ⟨rfl, R2.out, O2.out⟩
set_option maxRecDepth 100000 in
theorem num_no (base g : Nat) (A : Option Addr) (c : Nat) (l : List UInt8) (p lo hi : Nat) (r : Nat × Nat × Nat) (w : World) (h : Rdr w base g A c l p) (hp : p ≤ l.length) (hl : l.length ≤ 100000000) (hd : dleb 0 0 (l.drop p) = r) (h0 : r.1 ≠ 0 ∨ r.2.1 < lo ∨ hi < r.2.1) :
    Calls Tryz.prog 33 #[.agg #[nextV g], .int .u8 118, .int .u64 (lo : Int), .int .u64 (hi : Int)] w fun e w' => e = .panicked gone ∧ Only (RK g) w w' := by
  have HN := Lib.hid (fun W (h : Rdr W base g A c l p) => next_t base g A c l p 118 W h hp hl frm_v)
  rw [show decF (118, 0, 108, 109) (l.drop p) = dleb 0 0 (l.drop p) from rfl, hd] at HN
  have HH := Lib.hid h
  clear h hp hl hd
  obtain ⟨er, n, k⟩ := r
  dsimp only at h0 HN
  have hc : ((er : Int) == 0) = false ∧ (er == 0) = false ∨ er = 0 ∧ decide ((n : Int) < (lo : Int)) = true ∧ decide (n < lo) = true ∨ er = 0 ∧ decide ((n : Int) < (lo : Int)) = false ∧ decide (n < lo) = false ∧ decide ((hi : Int) < (n : Int)) = true ∧ decide (hi < n) = true := by
    by_cases e0 : er = 0
    · by_cases e1 : n < lo
      · exact .inr (.inl ⟨e0, by simp; omega, by simp; omega⟩)
      · exact .inr (.inr ⟨e0, by simp; omega, by simp; omega, by simp; omega, by simp; omega⟩)
    · exact .inl ⟨by simp; omega, by simp; omega⟩
  clear h0
  unfold nextV
  rcases hc with ⟨e1, e2⟩ | ⟨rfl, e1, e2⟩ | ⟨rfl, e1, e2, e3, e4⟩
  all_goals
    go_enter Tryz.func33, Tryz.ntmps33
    go_wp2_with fail
    have hb1 : Below w.heap.size w (w.alloc (.cells #[.func (Fn.func 32) #[.pointer (some ⟨g, 0, none⟩)] #[]] 72)) := (Below.refl _ _).alloc (Nat.le_refl _) _
    refine (HN.out _ (HH.out.below hb1)).mono ?_
    rintro e w2 ⟨rfl, r2, o2⟩
    have O2 : Hid (Only (RK g) w w2) := Lib.hid ((Only.of_below hb1).trans o2)
    clear r2 o2 hb1
    dsimp only
    go_wp2_with fail
    all_goals first
      | exact (show ([] : List _) = [] ∧ Ending.panicked gone = Ending.panicked gone ∧ Only (RK g) w w2 from ⟨rfl, rfl, O2.out⟩)
      | (exfalso; simp_all; done)
end Go.Proofs.YtbfhiegbgkkgiaaGreat
/- A reading that is given up, caught; walked. -/

namespace Go.Proofs.YtbfhiegbgkkgiaaGreat
open Go.RowKit
open Pl
open Sc
open Wi
theorem caught_idle (p : Addr) (w : World) :
    CallsD Tryz.prog 30 #[.pointer (some p)] .returning w fun e u' w' => e = .returned (.tuple #[]) ∧ u' = .returning ∧ w' = w := by
  refine callsD_of_wpS Tryz.func30 rfl fun c₀ cs hu => ?_
  apply wpS_seq
  apply wpS_region
  simp [wpOpsS, go_sem, recoverD, hu, Tryz.ntmps30, Exit.thenS]
  refine wpS_of_wp ?_
  rw [show (#[Value.pointer (some p)] ++ (Array.replicate 12 undef).setIfInBounds 4 (Value.nilIface)) = #[.pointer (some p), undef, undef, undef, undef, Value.nilIface, undef, undef, undef, undef, undef, undef, undef] from rfl]
  go_wp2_with fail
  cases c₀
  simp_all [bodyPostS, results, Tryz.results30]
set_option maxRecDepth 100000 in
theorem caught_gone (b : Nat) (x : Int) (w : World) (hb : Blk w b 30 #[.int .i64 x]) :
    CallsD Tryz.prog 30 #[.pointer (some ⟨b, 0, none⟩)] (.panicking gone) w fun e u' w' =>
      e = .returned (.tuple #[]) ∧ u' = .panicking [{ v := .iface 115 (.agg #[]), recovered := true }] ∧ w' = (w.alloc (.cells #[] 115)).setCell ⟨b, 0, none⟩ (.int .i64 9) := by
  have hb2 := hb.alloc (.cells #[] 115)
  have hc2 : (w.alloc (.cells #[] 115)).cell? ⟨b, 0, none⟩ = some (.int .i64 x) := by rw [hb2.cell]; rfl
  have hz2 := hb2.free 0
  clear hb hb2
  have hta : ∀ w, (Instr.typeAssert (.iface 115 (.agg #[])) 20 115 true).run Tryz.prog w = .ok (.tuple #[.agg #[], .bool true]) w := fun w => by first | rfl | kernel_rfl
  refine callsD_of_wpS Tryz.func30 rfl fun c₀ cs hu => ?_
  apply wpS_seq
  apply wpS_region
  simp [wpOpsS, go_sem, recoverD, hu, gone, Tryz.ntmps30, Exit.thenS]
  refine wpS_of_wp ?_
  rw [show (#[Value.pointer (some ⟨b, 0, none⟩)] ++ (Array.replicate 12 undef).setIfInBounds 4 (Value.iface 115 (.agg #[]))) = #[.pointer (some ⟨b, 0, none⟩), undef, undef, undef, undef, Value.iface 115 (.agg #[]), undef, undef, undef, undef, undef, undef, undef] from rfl]
  go_wp2_with fail
  cases c₀
  simp_all [bodyPostS, results, Tryz.results30]
theorem peek1_ok (be : Nat) (pa pm : Value) (w : World) (hb : Blk w be 30 #[.int .i64 0]) :
    CallsD Tryz.prog 43 #[.pointer (some ⟨be, 0, none⟩), pa, pm] .returning w fun e u' w' => e = .returned (.tuple #[]) ∧ u' = .returning ∧ w' = w := by
  have hc : w.cell? ⟨be, 0, none⟩ = some (.int .i64 0) := by rw [hb.cell]; rfl
  clear hb
  refine callsD_of_wpS Tryz.func43 rfl fun c₀ cs hu => ?_
  refine wpS_of_wp ?_
  rw [show (#[Value.pointer (some ⟨be, 0, none⟩), pa, pm] ++ Array.replicate (Tryz.f43.ntmps - #[Value.pointer (some ⟨be, 0, none⟩), pa, pm].size) undef) = #[.pointer (some ⟨be, 0, none⟩), pa, pm, undef, undef] from rfl]
  go_wp2_with fail
  cases c₀
  simp_all [bodyPostS, results, Tryz.results43]
set_option maxRecDepth 100000 in
theorem peek1_no (be ba bm : Nat) (x y z : Int) (w : World) (hb : Blk w be 30 #[.int .i64 x]) (hx : x ≠ 0) (ha : Blk w ba 3 #[.int .i64 y]) (hm : Blk w bm 3 #[.int .i64 z]) (hab : bm ≠ ba) :
    CallsD Tryz.prog 43 #[.pointer (some ⟨be, 0, none⟩), .pointer (some ⟨ba, 0, none⟩), .pointer (some ⟨bm, 0, none⟩)] .returning w fun e u' w' => e = .returned (.tuple #[]) ∧ u' = .returning ∧ w' = (w.setCell ⟨ba, 0, none⟩ (.int .i64 0)).setCell ⟨bm, 0, none⟩ (.int .i64 0) := by
  have hc : w.cell? ⟨be, 0, none⟩ = some (.int .i64 x) := by rw [hb.cell]; rfl
  have hca : w.cell? ⟨ba, 0, none⟩ = some (.int .i64 y) := by rw [ha.cell]; rfl
  have hm2 := hm.far (p := ⟨ba, 0, none⟩) hab (.int .i64 0)
  have hcm : (w.setCell ⟨ba, 0, none⟩ (.int .i64 0)).cell? ⟨bm, 0, none⟩ = some (.int .i64 z) := by rw [hm2.cell]; rfl
  have hfa := ha.free 0
  have hfm := hm2.free 0
  have hx1 : (x == 0) = false := by simpa using hx
  have hx2 : (x != 0) = true := by simpa using hx
  clear hb ha hm hm2 hab hx
  refine callsD_of_wpS Tryz.func43 rfl fun c₀ cs hu => ?_
  refine wpS_of_wp ?_
  rw [show (#[Value.pointer (some ⟨be, 0, none⟩), .pointer (some ⟨ba, 0, none⟩), .pointer (some ⟨bm, 0, none⟩)] ++ Array.replicate (Tryz.f43.ntmps - #[Value.pointer (some ⟨be, 0, none⟩), .pointer (some ⟨ba, 0, none⟩), .pointer (some ⟨bm, 0, none⟩)].size) undef) = #[.pointer (some ⟨be, 0, none⟩), .pointer (some ⟨ba, 0, none⟩), .pointer (some ⟨bm, 0, none⟩), undef, undef] from rfl]
  go_wp2_with fail
  cases c₀
  simp_all [bodyPostS, results, Tryz.results43]
theorem read1_ok (be : Nat) (ps : Value) (w : World) (hb : Blk w be 30 #[.int .i64 0]) :
    CallsD Tryz.prog 29 #[.pointer (some ⟨be, 0, none⟩), ps] .returning w fun e u' w' => e = .returned (.tuple #[]) ∧ u' = .returning ∧ w' = w := by
  have hc : w.cell? ⟨be, 0, none⟩ = some (.int .i64 0) := by rw [hb.cell]; rfl
  clear hb
  refine callsD_of_wpS Tryz.func29 rfl fun c₀ cs hu => ?_
  refine wpS_of_wp ?_
  rw [show (#[Value.pointer (some ⟨be, 0, none⟩), ps] ++ Array.replicate (Tryz.f29.ntmps - #[Value.pointer (some ⟨be, 0, none⟩), ps].size) undef) = #[.pointer (some ⟨be, 0, none⟩), ps, undef, undef] from rfl]
  go_wp2_with fail
  cases c₀
  simp_all [bodyPostS, results, Tryz.results29]
set_option maxRecDepth 100000 in
theorem read1_no (be bs : Nat) (x : Int) (y : Value) (w : World) (hb : Blk w be 30 #[.int .i64 x]) (hx : x ≠ 0) (hs : Blk w bs 26 #[y]) (hbs : be ≠ bs) :
    CallsD Tryz.prog 29 #[.pointer (some ⟨be, 0, none⟩), .pointer (some ⟨bs, 0, none⟩)] .returning w fun e u' w' => e = .returned (.tuple #[]) ∧ u' = .returning ∧ w' = (w.setCell ⟨bs, 0, none⟩ (.pointer none)).setCell ⟨be, 0, none⟩ (.int .i64 9) := by
  have hc : w.cell? ⟨be, 0, none⟩ = some (.int .i64 x) := by rw [hb.cell]; rfl
  have hcs : w.cell? ⟨bs, 0, none⟩ = some y := by rw [hs.cell]; rfl
  have hb2 := hb.far (p := ⟨bs, 0, none⟩) hbs (.pointer none)
  have hce : (w.setCell ⟨bs, 0, none⟩ (.pointer none)).cell? ⟨be, 0, none⟩ = some (.int .i64 x) := by rw [hb2.cell]; rfl
  have hfs := hs.free 0
  have hfe := hb2.free 0
  have hx1 : (x == 0) = false := by simpa using hx
  have hx2 : (x != 0) = true := by simpa using hx
  clear hb hs hb2 hbs hx
  refine callsD_of_wpS Tryz.func29 rfl fun c₀ cs hu => ?_
  refine wpS_of_wp ?_
  rw [show (#[Value.pointer (some ⟨be, 0, none⟩), .pointer (some ⟨bs, 0, none⟩)] ++ Array.replicate (Tryz.f29.ntmps - #[Value.pointer (some ⟨be, 0, none⟩), .pointer (some ⟨bs, 0, none⟩)].size) undef) = #[.pointer (some ⟨be, 0, none⟩), .pointer (some ⟨bs, 0, none⟩), undef, undef] from rfl]
  go_wp2_with fail
  cases c₀
  simp_all [bodyPostS, results, Tryz.results29]
end Go.Proofs.YtbfhiegbgkkgiaaGreat
