/- CRC-32: the plain law, no program in sight. -/
import Derived.Laws.BitsAllLaws
namespace Go.Proofs.Ytmphkjbnagojhaa.Cr

abbrev W32 := BitVec 32
def poly : W32 := 0xedb88320#32
/-- One step of the register. -/
def stp (c : W32) : W32 := (c >>> 1) ^^^ (if c.getLsbD 0 then poly else 0#32)
/-- So many steps. -/
def it : Nat → W32 → W32
  | 0, c => c
  | n + 1, c => it n (stp c)
theorem it_add (m n : Nat) : ∀ c, it (m + n) c = it n (it m c) := by
  induction m with
  | zero => intro c; simp [it]
  | succ m ih => intro c; rw [Nat.succ_add]; exact ih _
theorem it_succ (n : Nat) (c : W32) : it (n + 1) c = stp (it n c) := by rw [it_add n 1]; rfl

theorem stp_xor (a b : W32) : stp (a ^^^ b) = stp a ^^^ stp b := by
  unfold stp
  rw [BitVec.getLsbD_xor, BitVec.ushiftRight_xor_distrib]
  cases a.getLsbD 0 <;> cases b.getLsbD 0 <;> simp
  · rw [BitVec.xor_assoc]
  · rw [BitVec.xor_assoc, BitVec.xor_assoc, BitVec.xor_comm poly]
  · have : ∀ x y z : W32, x ^^^ y = x ^^^ z ^^^ (y ^^^ z) := by
      intro x y z
      rw [BitVec.xor_assoc, BitVec.xor_comm y z, ← BitVec.xor_assoc z z y, BitVec.xor_self, BitVec.zero_xor]
    exact this _ _ _
theorem it_xor (n : Nat) : ∀ a b, it n (a ^^^ b) = it n a ^^^ it n b := by
  induction n with
  | zero => intro a b; rfl
  | succ n ih => intro a b; simp only [it, stp_xor, ih]
theorem stp_zero : stp 0#32 = 0#32 := by decide
theorem it_zero (n : Nat) : it n 0#32 = 0#32 := by
  induction n with
  | zero => rfl
  | succ n ih => simp only [it, stp_zero, ih]

/-- Two linear functions that agree on the single bits agree. -/
theorem lin_ext (f g : W32 → W32) (hf : ∀ a b, f (a ^^^ b) = f a ^^^ f b) (hg : ∀ a b, g (a ^^^ b) = g a ^^^ g b)
    (h : ∀ j, j < 32 → f (BitVec.twoPow 32 j) = g (BitVec.twoPow 32 j)) : ∀ a, f a = g a := by
  have z : ∀ f : W32 → W32, (∀ a b, f (a ^^^ b) = f a ^^^ f b) → f 0#32 = 0#32 := by
    intro f hf
    have := hf 0#32 0#32
    rw [BitVec.xor_self, BitVec.xor_self] at this
    exact this
  have key : ∀ k, k ≤ 32 → ∀ a : W32, (∀ i, k ≤ i → a.getLsbD i = false) → f a = g a := by
    intro k
    induction k with
    | zero =>
      intro _ a ha
      have : a = 0#32 := by
        apply BitVec.eq_of_getLsbD_eq
        intro i _
        rw [ha i (Nat.zero_le _)]
        simp
      subst this
      rw [z f hf, z g hg]
    | succ k ih =>
      intro hk a ha
      cases hb : a.getLsbD k with
      | false =>
        refine ih (by omega) a fun i hi => ?_
        rcases Nat.eq_or_lt_of_le hi with rfl | h'
        · exact hb
        · exact ha i h'
      | true =>
        have e : a = (a ^^^ BitVec.twoPow 32 k) ^^^ BitVec.twoPow 32 k := by rw [BitVec.xor_assoc, BitVec.xor_self, BitVec.xor_zero]
        have low : f (a ^^^ BitVec.twoPow 32 k) = g (a ^^^ BitVec.twoPow 32 k) := by
          refine ih (by omega) _ fun i hi => ?_
          rw [BitVec.getLsbD_xor, BitVec.getLsbD_twoPow]
          rcases Nat.eq_or_lt_of_le hi with rfl | h'
          · simp [hb]; omega
          · rw [ha i h']; simp; omega
        rw [e, hf, hg, low, h k (by omega)]
  intro a
  exact key 32 (Nat.le_refl _) a fun i hi => BitVec.getLsbD_of_ge _ _ hi

/-- Where the lowest n bits are none, n steps are a shift. -/
theorem it_shift (n : Nat) : ∀ z : W32, (∀ k, k < n → z.getLsbD k = false) → it n z = z >>> n := by
  induction n with
  | zero => intro z _; simp [it]
  | succ n ih =>
    intro z h
    have h0 : stp z = z >>> 1 := by unfold stp; rw [h 0 (by omega)]; simp
    rw [it, h0, ih _ (fun k hk => by rw [BitVec.getLsbD_ushiftRight]; exact h (1 + k) (by omega)), ← BitVec.shiftRight_add, Nat.add_comm]

/-- A byte at a time. -/
theorem byte_step (c : W32) : it 8 c = (c >>> 8) ^^^ it 8 (c &&& 0xff#32) := by
  have e : c = ((c >>> 8) <<< 8) ^^^ (c &&& 0xff#32) := by
    apply BitVec.eq_of_getLsbD_eq
    intro i hi
    rw [BitVec.getLsbD_xor, BitVec.getLsbD_and, BitVec.getLsbD_shiftLeft, BitVec.getLsbD_ushiftRight]
    have hm : (0xff#32 : W32).getLsbD i = decide (i < 8) := by
      have : ∀ i, i < 32 → (0xff#32 : W32).getLsbD i = decide (i < 8) := by decide
      exact this i hi
    rw [hm]
    by_cases h8 : i < 8
    · simp [h8]
    · simp [h8, hi]
      rw [show 8 + (i - 8) = i by omega, BitVec.getLsbD_eq_getElem]
  have h1 : it 8 ((c >>> 8) <<< 8) = c >>> 8 := by
    rw [it_shift 8 _ (fun k hk => by rw [BitVec.getLsbD_shiftLeft]; simp [hk])]
    apply BitVec.eq_of_getLsbD_eq
    intro i hi
    rw [BitVec.getLsbD_ushiftRight, BitVec.getLsbD_shiftLeft, BitVec.getLsbD_ushiftRight]
    by_cases h : 8 + i < 32
    · simp [h]
    · simp [h]; apply BitVec.getLsbD_of_ge; omega
  calc it 8 c = it 8 (((c >>> 8) <<< 8) ^^^ (c &&& 0xff#32)) := by rw [← e]
    _ = _ := by rw [it_xor, h1]

/-- A product: k bits of a are still to come. -/
def tms : Nat → W32 → W32 → W32 → W32
  | 0, _, _, p => p
  | k + 1, a, b, p => tms k a (stp b) (if a.getLsbD k then p ^^^ b else p)
def times (a b : W32) : W32 := tms 32 a b 0#32
theorem tms_p (k : Nat) : ∀ a b p q, tms k a b (p ^^^ q) = tms k a b p ^^^ q := by
  induction k with
  | zero => intro a b p q; rfl
  | succ k ih =>
    intro a b p q
    simp only [tms]
    rw [← ih]
    congr 1
    split
    · rw [BitVec.xor_assoc, BitVec.xor_comm q b, ← BitVec.xor_assoc]
    · rfl
theorem tms_a (k : Nat) : ∀ a a' b p q, tms k (a ^^^ a') b (p ^^^ q) = tms k a b p ^^^ tms k a' b q := by
  induction k with
  | zero => intro a a' b p q; rfl
  | succ k ih =>
    intro a a' b p q
    simp only [tms]
    rw [← ih, BitVec.getLsbD_xor]
    congr 1
    cases a.getLsbD k <;> cases a'.getLsbD k <;> simp
    · rw [BitVec.xor_assoc]
    · rw [BitVec.xor_assoc, BitVec.xor_assoc, BitVec.xor_comm q b]
    · have : ∀ x y z : W32, x ^^^ y = x ^^^ z ^^^ (y ^^^ z) := by
        intro x y z
        rw [BitVec.xor_assoc, BitVec.xor_comm y z, ← BitVec.xor_assoc z z y, BitVec.xor_self, BitVec.zero_xor]
      exact this _ _ _
theorem tms_b (k : Nat) : ∀ a b b' p q, tms k a (b ^^^ b') (p ^^^ q) = tms k a b p ^^^ tms k a b' q := by
  induction k with
  | zero => intro a b b' p q; rfl
  | succ k ih =>
    intro a b b' p q
    simp only [tms]
    rw [← ih, stp_xor]
    congr 1
    split
    · rw [BitVec.xor_assoc, BitVec.xor_assoc, ← BitVec.xor_assoc q b b', BitVec.xor_comm q b, BitVec.xor_assoc b q b']
    · rfl
theorem times_a (a a' b : W32) : times (a ^^^ a') b = times a b ^^^ times a' b := by
  have := tms_a 32 a a' b 0#32 0#32
  rw [BitVec.xor_self] at this
  exact this
theorem times_b (a b b' : W32) : times a (b ^^^ b') = times a b ^^^ times a b' := by
  have := tms_b 32 a b b' 0#32 0#32
  rw [BitVec.xor_self] at this
  exact this
theorem basis : ∀ j, j < 32 → ∀ i, i < 32 → times (stp (BitVec.twoPow 32 j)) (BitVec.twoPow 32 i) = stp (times (BitVec.twoPow 32 j) (BitVec.twoPow 32 i)) := by
  decide +kernel
theorem times_stp (a b : W32) : times (stp a) b = stp (times a b) := by
  refine lin_ext (fun a => times (stp a) b) (fun a => stp (times a b)) ?_ ?_ ?_ a
  · intro x y; simp only [stp_xor, times_a]
  · intro x y; simp only [stp_xor, times_a]
  · intro j hj
    refine lin_ext (fun b => times (stp (BitVec.twoPow 32 j)) b) (fun b => stp (times (BitVec.twoPow 32 j) b)) ?_ ?_ ?_ b
    · intro x y; simp only [times_b]
    · intro x y; simp only [stp_xor, times_b]
    · intro i hi; exact basis j hj i hi
def one : W32 := 0x80000000#32
theorem times_one (b : W32) : times one b = b := by
  refine lin_ext (fun b => times one b) (fun b => b) (fun x y => times_b _ x y) (fun _ _ => rfl) ?_ b
  decide +kernel
theorem times_it (n : Nat) (b : W32) : times (it n one) b = it n b := by
  induction n with
  | zero => exact times_one b
  | succ n ih => rw [it_succ, times_stp, ih, ← it_succ]
theorem power8 : (0x800000#32 : W32) = it 8 one := by decide

/-- Bytes. -/
def bw (x : UInt8) : W32 := BitVec.ofNat 32 x.toNat
def feed (c : W32) (l : List UInt8) : W32 := l.foldl (fun c x => it 8 (c ^^^ bw x)) c
theorem feed_append (c : W32) (l m : List UInt8) : feed c (l ++ m) = feed (feed c l) m := by simp [feed]
theorem feed_xor (l : List UInt8) : ∀ c d, feed (c ^^^ d) l = feed c l ^^^ it (8 * l.length) d := by
  induction l with
  | nil => intro c d; rfl
  | cons x l ih =>
    intro c d
    simp only [feed, List.foldl_cons, List.length_cons]
    have e : c ^^^ d ^^^ bw x = (c ^^^ bw x) ^^^ d := by rw [BitVec.xor_assoc, BitVec.xor_comm d, ← BitVec.xor_assoc]
    rw [e, it_xor]
    have := ih (it 8 (c ^^^ bw x)) (it 8 d)
    simp only [feed] at this
    rw [this, ← it_add, show 8 + 8 * l.length = 8 * (l.length + 1) by omega]
def more (c : W32) (l : List UInt8) : W32 := ~~~ (feed (~~~ c) l)
def sum (l : List UInt8) : W32 := more 0#32 l
def ones : W32 := 0xffffffff#32
theorem not_eq (c : W32) : ~~~ c = c ^^^ ones := by
  apply BitVec.eq_of_getLsbD_eq
  intro i hi
  have : ∀ i, i < 32 → ones.getLsbD i = true := by decide
  rw [BitVec.getLsbD_not, BitVec.getLsbD_xor, this i hi]
  simp [hi]
theorem more_more (l m : List UInt8) : more (sum l) m = sum (l ++ m) := by
  unfold sum more
  rw [feed_append, BitVec.not_not]
theorem join_sums (l m : List UInt8) : it (8 * m.length) (sum l) ^^^ sum m = sum (l ++ m) := by
  rw [← more_more]
  unfold more
  rw [not_eq (sum l), BitVec.xor_comm (sum l), feed_xor]
  have e : sum m = feed ones m ^^^ ones := by
    unfold sum more
    rw [not_eq, not_eq, BitVec.zero_xor]
  rw [e, not_eq, ← BitVec.xor_assoc, BitVec.xor_comm (it _ _)]


/-! ### The ways of the program's values. -/
theorem toNat_xor (a b : W32) : (a ^^^ b).toNat = a.toNat ^^^ b.toNat := BitVec.toNat_xor ..
theorem toNat_shr (a : W32) (n : Nat) : (a >>> n).toNat = a.toNat / 2 ^ n := by rw [BitVec.toNat_ushiftRight, Nat.shiftRight_eq_div_pow]
theorem low_bit (a : W32) : a.getLsbD 0 = decide (a.toNat % 2 = 1) := by
  rw [BitVec.getLsbD]
  simp [Nat.testBit]; rfl
theorem stp_odd (c : W32) (h : c.toNat % 2 = 1) : stp c = (c >>> 1) ^^^ poly := by unfold stp; rw [low_bit]; simp [h]
theorem stp_even (c : W32) (h : ¬ c.toNat % 2 = 1) : stp c = c >>> 1 := by unfold stp; rw [low_bit]; simp [h]

/-- The shift by squaring. -/
theorem shift_even (e n : Nat) (c : W32) (h : ¬ n % 2 = 1) : it (2 * e * (n / 2)) c = it (e * n) c := by
  have : 2 * e * (n / 2) = e * n := by
    have h2 : n = 2 * (n / 2) := by omega
    calc 2 * e * (n / 2) = e * (2 * (n / 2)) := by rw [Nat.mul_comm 2 e, Nat.mul_assoc]
      _ = e * n := by rw [← h2]
  rw [this]
theorem shift_odd (e n : Nat) (c : W32) (h : n % 2 = 1) : it (2 * e * (n / 2)) (it e c) = it (e * n) c := by
  rw [← it_add]
  have : e + 2 * e * (n / 2) = e * n := by
    have h2 : n = 2 * (n / 2) + 1 := by omega
    calc e + 2 * e * (n / 2) = e * (2 * (n / 2) + 1) := by rw [Nat.mul_add, Nat.mul_one, Nat.mul_comm 2 e, Nat.mul_assoc, Nat.add_comm]
      _ = e * n := by rw [← h2]
  rw [this]
theorem square (e : Nat) : times (it e one) (it e one) = it (2 * e) one := by
  rw [times_it, ← it_add, Nat.two_mul]

/-- The table's place of a byte. -/
theorem place_lt (c : W32) (x : UInt8) : (c.toNat % 256) ^^^ x.toNat < 256 := by
  have h1 : c.toNat % 256 < 2 ^ 8 := Nat.mod_lt _ (by decide)
  have h2 : x.toNat < 2 ^ 8 := x.toNat_lt
  exact Nat.xor_lt_two_pow h1 h2
theorem bw_toNat (x : UInt8) : (bw x).toNat = x.toNat := by
  have := x.toNat_lt
  simp [bw]
theorem feed_step (c : W32) (x : UInt8) : it 8 (c ^^^ bw x) = (c >>> 8) ^^^ it 8 (BitVec.ofNat 32 ((c.toNat % 256) ^^^ x.toNat)) := by
  have hx := x.toNat_lt
  rw [byte_step]
  have e1 : (c ^^^ bw x) >>> 8 = c >>> 8 := by
    rw [BitVec.ushiftRight_xor_distrib]
    have : bw x >>> 8 = 0#32 := by
      apply BitVec.eq_of_toNat_eq
      rw [BitVec.toNat_ushiftRight, bw_toNat, Nat.shiftRight_eq_div_pow]
      simp; omega
    rw [this, BitVec.xor_zero]
  have e2 : (c ^^^ bw x) &&& 0xff#32 = BitVec.ofNat 32 ((c.toNat % 256) ^^^ x.toNat) := by
    apply BitVec.eq_of_toNat_eq
    have hp := place_lt c x
    have h255 : (0xff#32 : W32).toNat = 2 ^ 8 - 1 := by decide
    rw [BitVec.toNat_and, h255, Nat.and_two_pow_sub_one_eq_mod, BitVec.toNat_xor, bw_toNat, Nat.xor_mod_two_pow, BitVec.toNat_ofNat, Nat.mod_eq_of_lt (b := 2 ^ 32) (by omega), Nat.mod_eq_of_lt (a := x.toNat) (by omega)]
  rw [e1, e2]
theorem feed_snoc (c : W32) (l : List UInt8) (k : Nat) (hk : k < l.length) : feed c (l.take (k + 1)) = it 8 (feed c (l.take k) ^^^ bw l[k]) := by
  rw [List.take_succ_eq_append_getElem hk, feed_append]; rfl
/-- A product's k-th round: bits 31, 30, .. have been. -/
def tmk (a : W32) : Nat → W32 × W32 → W32 × W32
  | 0, s => s
  | k + 1, s => let r := tmk a k s; (stp r.1, if a.getLsbD (31 - k) then r.2 ^^^ r.1 else r.2)
theorem tmk_tms (a : W32) (k : Nat) (hk : k ≤ 32) : ∀ b p, tms 32 a b p = tms (32 - k) a (tmk a k (b, p)).1 (tmk a k (b, p)).2 := by
  induction k with
  | zero => intro b p; rfl
  | succ k ih =>
    intro b p
    rw [ih (by omega) b p]
    have e : 32 - k = (32 - (k + 1)) + 1 := by omega
    rw [e, tms]
    simp only [tmk]
    rw [show 31 - k = 32 - (k + 1) by omega]
theorem tmk_all (a b : W32) : (tmk a 32 (b, 0#32)).2 = times a b := by
  have := tmk_tms a 32 (Nat.le_refl _) b 0#32
  simp only [Nat.sub_self, tms] at this
  exact this.symm
theorem bit_test (a : W32) (k : Nat) : (a.toNat &&& 2 ^ k = 0) ↔ a.getLsbD k = false := by
  rw [BitVec.getLsbD, Nat.testBit_eq_decide_div_mod_eq, nat_bit]
  have hp : 0 < 2 ^ k := Nat.two_pow_pos k
  constructor
  · intro h
    have h2 : a.toNat / 2 ^ k % 2 = 0 := by
      rcases Nat.mul_eq_zero.1 h with h3 | h3
      · exact h3
      · omega
    simp [h2]
  · intro h
    have h2 : a.toNat / 2 ^ k % 2 = 0 := by
      simp at h; omega
    rw [h2, Nat.zero_mul]

/-- The bytes of a sum, the lowest first. -/
def le (c : W32) : List UInt8 := [UInt8.ofNat c.toNat, UInt8.ofNat (c.toNat / 256), UInt8.ofNat (c.toNat / 65536), UInt8.ofNat (c.toNat / 16777216)]
def pow4 (c : W32) (k : Nat) : Nat := c.toNat / 256 ^ k
theorem pow4_next (c : W32) (k : Nat) : pow4 c k / 256 = pow4 c (k + 1) := by
  unfold pow4; rw [Nat.div_div_eq_div_mul, Nat.pow_succ]
theorem pow4_lt (c : W32) (k : Nat) : pow4 c k < 4294967296 := Nat.lt_of_le_of_lt (Nat.div_le_self _ _) c.isLt
theorem le_take (c : W32) (k : Nat) (hk : k < 4) : (le c).take (k + 1) = (le c).take k ++ [UInt8.ofNat (pow4 c k)] := by
  match k, hk with
  | 0, _ => simp [le, pow4]
  | 1, _ => simp [le, pow4]
  | 2, _ => simp [le, pow4]
  | 3, _ => simp [le, pow4]

end Go.Proofs.Ytmphkjbnagojhaa.Cr
