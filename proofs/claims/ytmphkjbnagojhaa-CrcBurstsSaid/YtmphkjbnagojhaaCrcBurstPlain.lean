/- CRC-32: bursts, the plain law. -/
import Derived.Test.YtmphkjbnagojhaaCrcPlain
namespace Go.Proofs.Ytmphkjbnagojhaa.Cr

/-- Bit k of a text turned. -/
def flip : List UInt8 → Nat → List UInt8
  | [], _ => []
  | x :: l, k => if k < 8 then (x ^^^ UInt8.ofNat (2 ^ k)) :: l else x :: flip l (k - 8)
theorem flip_length (l : List UInt8) : ∀ k, (flip l k).length = l.length := by
  induction l with
  | nil => intro k; rfl
  | cons x l ih => intro k; simp only [flip]; split <;> simp [ih]
theorem flip_set (l : List UInt8) : ∀ k (h : k / 8 < l.length), flip l k = l.set (k / 8) (l[k / 8] ^^^ UInt8.ofNat (2 ^ (k % 8))) := by
  induction l with
  | nil => intro k h; simp at h
  | cons x l ih =>
    intro k h
    simp only [flip]
    by_cases h8 : k < 8
    · have e : k / 8 = 0 := by omega
      have e2 : k % 8 = k := by omega
      rw [if_pos h8]
      simp [e, e2]
    · rw [if_neg h8]
      have e : k / 8 = (k - 8) / 8 + 1 := by omega
      have e2 : k % 8 = (k - 8) % 8 := by omega
      have hl : (k - 8) / 8 < l.length := by simp at h; omega
      rw [ih (k - 8) hl]
      simp [e, e2]
theorem flip_take (l : List UInt8) : ∀ n k, (flip l k).take n = if k < 8 * n then flip (l.take n) k else l.take n := by
  induction l with
  | nil => intro n k; simp [flip]
  | cons x l ih =>
    intro n k
    cases n with
    | zero => simp
    | succ n =>
      simp only [flip, List.take_succ_cons]
      by_cases h8 : k < 8
      · rw [if_pos h8, if_pos (by omega), if_pos h8]; rfl
      · rw [if_neg h8, if_neg h8, List.take_succ_cons, ih]
        by_cases hk : k - 8 < 8 * n
        · rw [if_pos hk, if_pos (by omega)]
        · rw [if_neg hk, if_neg (by omega)]
theorem it_bit (k : Nat) (h : k < 32) : it k (BitVec.twoPow 32 k) = 1#32 := by
  have : ∀ k, k < 32 → it k (BitVec.twoPow 32 k) = 1#32 := by decide +kernel
  exact this k h
theorem it_bit_add (n k : Nat) (hk : k < 32) (h : k ≤ n) : it n (BitVec.twoPow 32 k) = it (n - k) 1#32 := by
  have e : n = k + (n - k) := by omega
  calc it n (BitVec.twoPow 32 k) = it (k + (n - k)) (BitVec.twoPow 32 k) := by rw [← e]
    _ = _ := by rw [it_add, it_bit k hk]
theorem bw_xor (x : UInt8) (k : Nat) (h : k < 8) : bw (x ^^^ UInt8.ofNat (2 ^ k)) = bw x ^^^ BitVec.twoPow 32 k := by
  apply BitVec.eq_of_toNat_eq
  rw [bw_toNat, toNat_xor, bw_toNat, UInt8.toNat_xor]
  congr 1
  have : ∀ k, k < 8 → (UInt8.ofNat (2 ^ k)).toNat = (BitVec.twoPow 32 k).toNat := by decide
  exact this k h
theorem feed_flip (l : List UInt8) : ∀ c k, k < 8 * l.length → feed c (flip l k) = feed c l ^^^ it (8 * l.length - k) 1#32 := by
  induction l with
  | nil => intro c k h; simp at h
  | cons x l ih =>
    intro c k h
    simp only [flip]
    simp only [List.length_cons] at h ⊢
    by_cases h8 : k < 8
    · rw [if_pos h8]
      show feed (it 8 (c ^^^ bw (x ^^^ UInt8.ofNat (2 ^ k)))) l = feed (it 8 (c ^^^ bw x)) l ^^^ _
      rw [bw_xor x k h8, ← BitVec.xor_assoc, it_xor, feed_xor, ← it_add, it_bit_add _ k (by omega) (by omega)]
      congr 2
      omega
    · rw [if_neg h8]
      show feed (it 8 (c ^^^ bw x)) (flip l (k - 8)) = feed (it 8 (c ^^^ bw x)) l ^^^ _
      rw [ih _ (k - 8) (by omega)]
      congr 2
      omega

theorem stp_zero_of (a : W32) (h : stp a = 0#32) : a = 0#32 := by
  unfold stp at h
  cases hb : a.getLsbD 0 with
  | true =>
    rw [hb] at h
    have : ((a >>> 1) ^^^ poly).getLsbD 31 = true := by
      rw [BitVec.getLsbD_xor, BitVec.getLsbD_ushiftRight]
      have h1 : a.getLsbD (1 + 31) = false := BitVec.getLsbD_of_ge _ _ (by omega)
      rw [h1]
      decide
    simp only [if_true] at h
    rw [h] at this
    simp at this
  | false =>
    rw [hb] at h
    simp at h
    apply BitVec.eq_of_getLsbD_eq
    intro i hi
    cases i with
    | zero => rw [hb]; simp
    | succ i =>
      have := congrArg (fun z : W32 => z.getLsbD i) h
      simp only [BitVec.getLsbD_ushiftRight] at this
      rw [Nat.add_comm 1 i] at this
      rw [this]
      simp
theorem it_zero_of (n : Nat) : ∀ a, it n a = 0#32 → a = 0#32 := by
  induction n with
  | zero => intro a h; exact h
  | succ n ih => intro a h; exact stp_zero_of a (ih _ h)
theorem it_inj (n : Nat) (a b : W32) (h : it n a = it n b) : a = b := by
  have : it n (a ^^^ b) = 0#32 := by rw [it_xor, h, BitVec.xor_self]
  have := it_zero_of n _ this
  have h2 : a ^^^ b ^^^ b = b := by rw [this, BitVec.zero_xor]
  rwa [BitVec.xor_assoc, BitVec.xor_self, BitVec.xor_zero] at h2

/-- A sum's bytes behind its text. -/
theorem feed_low (d S : W32) : it 8 (d ^^^ S) = it 8 (d ^^^ bw (UInt8.ofNat S.toNat)) ^^^ (S >>> 8) := by
  have e : S &&& 0xff#32 = bw (UInt8.ofNat S.toNat) := by
    apply BitVec.eq_of_toNat_eq
    have h255 : (0xff#32 : W32).toNat = 2 ^ 8 - 1 := by decide
    rw [BitVec.toNat_and, h255, Nat.and_two_pow_sub_one_eq_mod, bw_toNat, UInt8.toNat_ofNat']
  rw [it_xor, it_xor, byte_step S, e, BitVec.xor_comm (S >>> 8), BitVec.xor_assoc]
theorem feed_le (d S : W32) : feed d (le S) = it 32 (d ^^^ S) := by
  have s1 : ∀ k, (S >>> k).toNat = S.toNat / 2 ^ k := fun k => toNat_shr S k
  have e0 : it 32 (d ^^^ S) = it 24 (it 8 (d ^^^ S)) := by rw [← it_add]
  rw [e0, feed_low]
  generalize hd1 : it 8 (d ^^^ bw (UInt8.ofNat S.toNat)) = d1
  have e1 : it 24 (d1 ^^^ S >>> 8) = it 16 (it 8 (d1 ^^^ S >>> 8)) := by rw [← it_add]
  rw [e1, feed_low d1 (S >>> 8)]
  generalize hd2 : it 8 (d1 ^^^ bw (UInt8.ofNat (S >>> 8).toNat)) = d2
  have e2 : it 16 (d2 ^^^ S >>> 8 >>> 8) = it 8 (it 8 (d2 ^^^ S >>> 8 >>> 8)) := by rw [← it_add]
  rw [e2, feed_low d2 (S >>> 8 >>> 8)]
  generalize hd3 : it 8 (d2 ^^^ bw (UInt8.ofNat (S >>> 8 >>> 8).toNat)) = d3
  rw [feed_low d3 (S >>> 8 >>> 8 >>> 8)]
  have z : S >>> 8 >>> 8 >>> 8 >>> 8 = 0#32 := by
    apply BitVec.eq_of_toNat_eq
    have := S.isLt
    simp only [BitVec.toNat_ushiftRight, Nat.shiftRight_eq_div_pow]
    simp
    omega
  rw [z, BitVec.xor_zero]
  have q1 : (S >>> 8).toNat = S.toNat / 256 := toNat_shr S 8
  have q2 : (S >>> 8 >>> 8).toNat = S.toNat / 65536 := by rw [toNat_shr, q1]; omega
  have q3 : (S >>> 8 >>> 8 >>> 8).toNat = S.toNat / 16777216 := by rw [toNat_shr, q2]; omega
  rw [q1] at hd2
  rw [q2] at hd3
  rw [q3, ← hd3, ← hd2, ← hd1]
  rfl
theorem le_onto (a b c d : UInt8) : ∃ S : W32, [a, b, c, d] = le S := by
  have ha := a.toNat_lt
  have hb := b.toNat_lt
  have hc := c.toNat_lt
  have hd := d.toNat_lt
  refine ⟨BitVec.ofNat 32 (a.toNat + 256 * b.toNat + 65536 * c.toNat + 16777216 * d.toNat), ?_⟩
  have hn : (BitVec.ofNat 32 (a.toNat + 256 * b.toNat + 65536 * c.toNat + 16777216 * d.toNat)).toNat = a.toNat + 256 * b.toNat + 65536 * c.toNat + 16777216 * d.toNat := by
    rw [BitVec.toNat_ofNat]; omega
  unfold le
  rw [hn]
  simp only [List.cons.injEq, and_true]
  refine ⟨?_, ?_, ?_, ?_⟩ <;> (apply UInt8.toNat_inj.1; rw [UInt8.toNat_ofNat']; omega)
theorem sum_feed (l : List UInt8) : sum l = feed ones l ^^^ ones := by
  unfold sum more
  rw [not_eq, not_eq, BitVec.zero_xor]
/-- A text fits just if the register ends at one number. -/
theorem fits_iff (m : List UInt8) (a b c d : UInt8) : [a, b, c, d] = le (sum m) ↔ feed ones (m ++ [a, b, c, d]) = it 32 ones := by
  obtain ⟨S, hS⟩ := le_onto a b c d
  rw [hS, feed_append, feed_le]
  constructor
  · intro h
    rw [← feed_le, h, feed_le, sum_feed, ← BitVec.xor_assoc, BitVec.xor_self, BitVec.zero_xor]
  · intro h
    have := it_inj 32 _ _ h
    have e : S = sum m := by
      have h2 := congrArg (feed ones m ^^^ ·) this
      simp only [← BitVec.xor_assoc, BitVec.xor_self, BitVec.zero_xor] at h2
      rw [sum_feed, ← h2]
    rw [e]

/-- The burst, bit by bit: the text; what has been turned; what of that lies in the first n bytes. -/
def bst (s : List UInt8) (n fr : Nat) (u : W32) : Nat → List UInt8 × W32 × W32
  | 0 => (s, 0#32, 0#32)
  | i + 1 =>
    let r := bst s n fr u i
    if u.getLsbD i = true ∧ fr + i < 8 * s.length then (flip r.1 (fr + i), r.2.1 ^^^ BitVec.twoPow 32 i, if fr + i < 8 * n then r.2.2 ^^^ BitVec.twoPow 32 i else r.2.2) else r
theorem bst_len (s : List UInt8) (n fr : Nat) (u : W32) (i : Nat) : (bst s n fr u i).1.length = s.length := by
  induction i with
  | zero => rfl
  | succ i ih => simp only [bst]; split <;> simp [flip_length, ih]
theorem bst_low (s : List UInt8) (n fr : Nat) (u : W32) (i : Nat) (hi : i ≤ 32) : (∀ j, i ≤ j → (bst s n fr u i).2.1.getLsbD j = false) ∧ (∀ j, i ≤ j → (bst s n fr u i).2.2.getLsbD j = false) := by
  induction i with
  | zero => exact ⟨fun j _ => by simp [bst], fun j _ => by simp [bst]⟩
  | succ i ih =>
    obtain ⟨h1, h2⟩ := ih (by omega)
    have t : ∀ j, i + 1 ≤ j → (BitVec.twoPow 32 i).getLsbD j = false := fun j hj => by rw [BitVec.getLsbD_twoPow]; simp; omega
    simp only [bst]
    split
    · refine ⟨fun j hj => ?_, fun j hj => ?_⟩
      · simp only [BitVec.getLsbD_xor, h1 j (by omega), t j hj]; rfl
      · simp only
        split
        · simp only [BitVec.getLsbD_xor, h2 j (by omega), t j hj]; rfl
        · exact h2 j (by omega)
    · exact ⟨fun j hj => h1 j (by omega), fun j hj => h2 j (by omega)⟩
theorem xor_two_ne (a : W32) (i : Nat) (hi : i < 32) (h : a.getLsbD i = false) : a ^^^ BitVec.twoPow 32 i ≠ 0#32 := by
  intro e
  have := congrArg (fun z : W32 => z.getLsbD i) e
  simp only [BitVec.getLsbD_xor, h, BitVec.getLsbD_twoPow] at this
  simp [hi] at this
theorem bst_feed (s : List UInt8) (n fr : Nat) (u c : W32) (i : Nat) (hi : i ≤ 32) (hf : fr ≤ 8 * s.length) :
    feed c (bst s n fr u i).1 = feed c s ^^^ it (8 * s.length - fr) (bst s n fr u i).2.1 := by
  induction i with
  | zero => simp [bst, it_zero]
  | succ i ih =>
    simp only [bst]
    split
    · rename_i h
      simp only
      rw [feed_flip _ _ _ (by rw [bst_len]; exact h.2), ih (by omega), it_xor, bst_len, it_bit_add _ i (by omega) (by omega), BitVec.xor_assoc]
      congr 3
      omega
    · exact ih (by omega)
theorem bst_take (s : List UInt8) (n fr : Nat) (u c : W32) (i : Nat) (hi : i ≤ 32) (hn : n ≤ s.length) :
    feed c ((bst s n fr u i).1.take n) = feed c (s.take n) ^^^ it (8 * n - fr) (bst s n fr u i).2.2 := by
  induction i with
  | zero => simp [bst, it_zero]
  | succ i ih =>
    simp only [bst]
    split
    · rename_i h
      simp only
      rw [flip_take]
      split
      · rename_i h2
        rw [feed_flip _ _ _ (by rw [List.length_take, bst_len, Nat.min_eq_left hn]; exact h2), ih (by omega), it_xor, List.length_take, bst_len, Nat.min_eq_left hn, it_bit_add _ i (by omega) (by omega), BitVec.xor_assoc]
        congr 3
        omega
      · exact ih (by omega)
    · exact ih (by omega)
def turnedB (s : List UInt8) (n fr : Nat) (u : W32) (i : Nat) : Bool := (bst s n fr u i).2.1 != 0#32
def innerB (s : List UInt8) (n fr : Nat) (u : W32) (i : Nat) : Bool := (bst s n fr u i).2.2 != 0#32
theorem turned_on (s : List UInt8) (n fr : Nat) (u : W32) (i : Nat) (hi : i < 32) (h : u.getLsbD i = true ∧ fr + i < 8 * s.length) :
    bst s n fr u (i + 1) = (flip (bst s n fr u i).1 (fr + i), (bst s n fr u i).2.1 ^^^ BitVec.twoPow 32 i, if fr + i < 8 * n then (bst s n fr u i).2.2 ^^^ BitVec.twoPow 32 i else (bst s n fr u i).2.2) ∧ turnedB s n fr u (i + 1) = true ∧
    innerB s n fr u (i + 1) = (innerB s n fr u i || decide (fr + i < 8 * n)) := by
  obtain ⟨h1, h2⟩ := bst_low s n fr u i (by omega)
  have e : bst s n fr u (i + 1) = (flip (bst s n fr u i).1 (fr + i), (bst s n fr u i).2.1 ^^^ BitVec.twoPow 32 i, if fr + i < 8 * n then (bst s n fr u i).2.2 ^^^ BitVec.twoPow 32 i else (bst s n fr u i).2.2) := by
    simp only [bst]
    rw [if_pos h]
  refine ⟨e, ?_, ?_⟩
  · unfold turnedB
    rw [e]
    have := xor_two_ne _ i hi (h1 i (Nat.le_refl _))
    simpa using this
  · unfold innerB
    rw [e]
    by_cases hh : fr + i < 8 * n
    · have := xor_two_ne _ i hi (h2 i (Nat.le_refl _))
      simp [hh, this]
    · simp [hh]
theorem turned_off (s : List UInt8) (n fr : Nat) (u : W32) (i : Nat) (h : ¬ (u.getLsbD i = true ∧ fr + i < 8 * s.length)) : bst s n fr u (i + 1) = bst s n fr u i := by
  simp only [bst]
  rw [if_neg h]
/-- The law of bursts. -/
theorem burst_sum (l s : List UInt8) (fr : Nat) (u : W32) (hs : s.take l.length = l) (hn : l.length ≤ s.length) :
    (sum ((bst s l.length fr u 32).1.take l.length) != sum l) = innerB s l.length fr u 32 := by
  have h := bst_take s l.length fr u ones 32 (Nat.le_refl _) hn
  rw [hs] at h
  rw [sum_feed, sum_feed, h, innerB]
  generalize (bst s l.length fr u 32).2.2 = m
  by_cases hm : m = 0#32
  · subst hm
    simp [it_zero]
  · have h2 : it (8 * l.length - fr) m ≠ 0#32 := fun e => hm (it_zero_of _ _ e)
    have h3 : feed ones l ^^^ it (8 * l.length - fr) m ^^^ ones ≠ feed ones l ^^^ ones := by
      intro e
      have e2 := congrArg (· ^^^ ones) e
      simp only [BitVec.xor_assoc, BitVec.xor_self, BitVec.xor_zero] at e2
      have e3 := congrArg (feed ones l ^^^ ·) e2
      simp only [← BitVec.xor_assoc, BitVec.xor_self, BitVec.zero_xor] at e3
      exact h2 e3
    have a1 : (feed ones l ^^^ it (8 * l.length - fr) m ^^^ ones != feed ones l ^^^ ones) = true := by simpa using h3
    have a2 : (m != 0#32) = true := by simpa using hm
    rw [a1, a2]

/-- A sealed text, turned: it ends elsewhere just if something was turned. -/
theorem burst_end (s : List UInt8) (n fr : Nat) (u : W32) (hf : fr ≤ 8 * s.length) : (feed ones (bst s n fr u 32).1 = feed ones s) ↔ turnedB s n fr u 32 = false := by
  rw [bst_feed s n fr u ones 32 (Nat.le_refl _) hf, turnedB]
  generalize (bst s n fr u 32).2.1 = m
  constructor
  · intro h
    have h2 := congrArg (feed ones s ^^^ ·) h
    simp only [← BitVec.xor_assoc, BitVec.xor_self, BitVec.zero_xor] at h2
    have := it_zero_of _ _ h2
    subst this
    rfl
  · intro h
    have : m = 0#32 := by simpa using h
    subst this
    simp [it_zero]
theorem seal_end (l : List UInt8) : feed ones (l ++ le (sum l)) = it 32 ones := by
  obtain ⟨a, b, c, d, h⟩ : ∃ a b c d, le (sum l) = [a, b, c, d] := ⟨_, _, _, _, rfl⟩
  have := (fits_iff l a b c d).1 h.symm
  rw [← h] at this
  exact this

end Go.Proofs.Ytmphkjbnagojhaa.Cr
