/- Bits, plain: numbers as bits, bits as bytes. -/
namespace Go.Proofs.Ytboakhhmbjomfaa.Bt

def num : List Bool → Nat
  | [] => 0
  | x :: r => x.toNat + 2 * num r
theorem toNat_le (x : Bool) : x.toNat ≤ 1 := by cases x <;> decide
theorem num_lt (l : List Bool) : num l < 2 ^ l.length := by
  induction l with
  | nil => decide
  | cons x r ih =>
    have := toNat_le x
    rw [num, List.length_cons, Nat.pow_succ]
    omega
theorem num_append (l m : List Bool) : num (l ++ m) = num l + 2 ^ l.length * num m := by
  induction l with
  | nil => simp [num]
  | cons x r ih =>
    rw [List.cons_append, num, num, ih, List.length_cons, Nat.pow_succ, Nat.mul_add]
    have : 2 * (2 ^ r.length * num m) = 2 ^ r.length * 2 * num m := by rw [← Nat.mul_assoc, Nat.mul_comm 2 (2 ^ r.length)]
    omega
theorem num_snoc (l : List Bool) (x : Bool) : num (l ++ [x]) = num l + x.toNat * 2 ^ l.length := by
  rw [num_append, num, num, Nat.mul_zero, Nat.add_zero, Nat.mul_comm]
/-- The lowest c bits of n, the lowest first. -/
def gb : Nat → Nat → List Bool
  | _, 0 => []
  | n, c + 1 => decide (n % 2 = 1) :: gb (n / 2) c
theorem gb_length (n c : Nat) : (gb n c).length = c := by
  induction c generalizing n with
  | zero => rfl
  | succ c ih => simp [gb, ih]
theorem bit_toNat (n : Nat) : (decide (n % 2 = 1)).toNat = n % 2 := by
  rcases Nat.mod_two_eq_zero_or_one n with h | h <;> rw [h] <;> rfl
theorem num_gb (n c : Nat) : num (gb n c) = n % 2 ^ c := by
  induction c generalizing n with
  | zero => simp [gb, num, Nat.mod_one]
  | succ c ih =>
    rw [gb, num, ih, bit_toNat, Nat.pow_succ, Nat.mul_comm (2 ^ c) 2, Nat.mod_mul]
theorem gb_num (l : List Bool) : gb (num l) l.length = l := by
  induction l with
  | nil => rfl
  | cons x r ih =>
    have h1 : (x.toNat + 2 * num r) % 2 = x.toNat := by
      have := toNat_le x
      omega
    have h2 : (x.toNat + 2 * num r) / 2 = num r := by
      have := toNat_le x
      omega
    rw [num, List.length_cons, gb, h1, h2, ih]
    cases x <;> rfl
theorem gb_snoc (n c : Nat) : gb n (c + 1) = gb n c ++ [decide (n / 2 ^ c % 2 = 1)] := by
  induction c generalizing n with
  | zero => simp [gb]
  | succ c ih =>
    rw [gb, ih (n / 2), gb, List.cons_append, Nat.div_div_eq_div_mul, Nat.mul_comm 2 (2 ^ c), ← Nat.pow_succ]
theorem gb_get (n c i : Nat) : (gb n c)[i]? = if i < c then some (n.testBit i) else none := by
  induction c generalizing n i with
  | zero => simp [gb]
  | succ c ih =>
    cases i with
    | zero => simp [gb, Nat.testBit_zero]
    | succ i =>
      rw [gb, List.getElem?_cons_succ, ih, Nat.testBit_succ]
      by_cases h : i < c
      · rw [if_pos h, if_pos (by omega)]
      · rw [if_neg h, if_neg (by omega)]
theorem num_inj {l m : List Bool} (hl : l.length = m.length) (h : num l = num m) : l = m := by
  rw [← gb_num l, ← gb_num m, h, hl]

/-- Byte i of bits. -/
def pk (L : List Bool) (i : Nat) : UInt8 := UInt8.ofNat (num ((L.drop (8 * i)).take 8))
def pack (L : List Bool) : List UInt8 := (List.range ((L.length + 7) / 8)).map (pk L)
theorem pack_length (L : List Bool) : (pack L).length = (L.length + 7) / 8 := by simp [pack]
theorem pack_get (L : List Bool) (i : Nat) : (pack L)[i]? = if i < (L.length + 7) / 8 then some (pk L i) else none := by
  unfold pack
  rw [List.getElem?_map]
  by_cases h : i < (L.length + 7) / 8
  · rw [if_pos h, List.getElem?_range h]; rfl
  · rw [if_neg h, List.getElem?_eq_none (by simpa using h)]; rfl
theorem num8_lt {l : List Bool} (h : l.length ≤ 8) : num l < 256 :=
  Nat.lt_of_lt_of_le (num_lt l) (Nat.le_trans (Nat.pow_le_pow_right (by decide) h) (by decide))
theorem pk_toNat (L : List Bool) (i : Nat) : (pk L i).toNat = num ((L.drop (8 * i)).take 8) := by
  unfold pk
  rw [UInt8.toNat_ofNat', Nat.mod_eq_of_lt]
  exact num8_lt (by simp; omega)
theorem pk_same {L M : List Bool} {i : Nat} (h : (L.drop (8 * i)).take 8 = (M.drop (8 * i)).take 8) : pk L i = pk M i := by
  unfold pk
  rw [h]
/-- What lies ahead of a put. -/
def room (L : List Bool) : List UInt8 := if L.length % 8 = 0 then pack L ++ [0] else pack L
theorem room_length (L : List Bool) : (room L).length = L.length / 8 + 1 := by
  unfold room
  split
  · simp [pack_length]; omega
  · rw [pack_length]; omega
theorem room_at (L : List Bool) : (room L)[L.length / 8]? = some (UInt8.ofNat (num (L.drop (8 * (L.length / 8))))) := by
  unfold room
  by_cases h : L.length % 8 = 0
  · rw [if_pos h, List.getElem?_append_right (by rw [pack_length]; omega), pack_length, show L.length / 8 - (L.length + 7) / 8 = 0 by omega]
    rw [show List.drop (8 * (L.length / 8)) L = [] from List.drop_eq_nil_iff.2 (by omega)]
    rfl
  · rw [if_neg h, pack_get, if_pos (by omega)]
    unfold pk
    rw [List.take_of_length_le (by simp; omega)]
theorem pack_put (L : List Bool) (x : Bool) : (room L).set (L.length / 8) (UInt8.ofNat (num (L.drop (8 * (L.length / 8))) + x.toNat * 2 ^ (L.length % 8))) = pack (L ++ [x]) := by
  apply List.ext_getElem?
  intro i
  rw [List.getElem?_set, room_length, pack_get, List.length_append, List.length_singleton]
  have hdl : (L.drop (8 * (L.length / 8))).length = L.length % 8 := by simp; omega
  by_cases h1 : L.length / 8 = i
  · subst h1
    rw [if_pos rfl, if_pos (by omega), if_pos (by omega)]
    unfold pk
    rw [List.drop_append_of_le_length (by omega), List.take_of_length_le (by simp; omega), num_snoc, hdl]
  · rw [if_neg h1]
    by_cases h2 : i < (L.length + 1 + 7) / 8
    · have h3 : 8 * i + 8 ≤ L.length := by omega
      rw [if_pos h2]
      have hp : pk (L ++ [x]) i = pk L i := pk_same (by
        rw [List.drop_append_of_le_length (by omega), List.take_append_of_le_length (by simp; omega)])
      rw [hp]
      have hg := pack_get L i
      rw [if_pos (by omega)] at hg
      unfold room
      split
      · rw [List.getElem?_append_left (by rw [pack_length]; omega)]
        exact hg
      · exact hg
    · rw [if_neg h2, List.getElem?_eq_none]
      rw [room_length]
      omega
theorem or_bits {a b r : Nat} (ha : a < 2 ^ r) : a ||| b * 2 ^ r = a + b * 2 ^ r := by
  rw [Nat.or_comm, ← Nat.shiftLeft_eq, ← Nat.shiftLeft_add_eq_or_of_lt ha, Nat.add_comm]
/-- Up to a whole byte. -/
def padN (n : Nat) : Nat := 8 * ((n + 7) / 8) - n
def alignL (L : List Bool) : List Bool := L ++ List.replicate (padN L.length) false
theorem alignL_length (L : List Bool) : (alignL L).length = 8 * ((L.length + 7) / 8) := by
  simp [alignL, padN]; omega
theorem num_zeros (l : List Bool) (n : Nat) : num (l ++ List.replicate n false) = num l := by
  have h : ∀ n, num (List.replicate n false) = 0 := by
    intro n
    induction n with
    | zero => rfl
    | succ n ih => rw [List.replicate_succ, num, ih]; rfl
  rw [num_append, h]
  simp
theorem pack_align (L : List Bool) : pack (alignL L) = pack L := by
  apply List.ext_getElem?
  intro i
  rw [pack_get, pack_get, alignL_length]
  by_cases h : i < (L.length + 7) / 8
  · rw [if_pos (by omega), if_pos h]
    unfold pk
    by_cases h2 : 8 * i + 8 ≤ L.length
    · unfold alignL
      rw [List.drop_append_of_le_length (by omega), List.take_append_of_le_length (by simp; omega)]
    · unfold alignL
      rw [List.drop_append_of_le_length (by omega), List.take_append, List.take_replicate, num_zeros]
  · rw [if_neg (by omega), if_neg h]
def bitsOf (b : List UInt8) : List Bool := b.flatMap fun x => gb x.toNat 8
theorem bitsOf_cons (x : UInt8) (b : List UInt8) : bitsOf (x :: b) = gb x.toNat 8 ++ bitsOf b := rfl
theorem bitsOf_append (a b : List UInt8) : bitsOf (a ++ b) = bitsOf a ++ bitsOf b := by simp [bitsOf]
theorem bitsOf_length (b : List UInt8) : (bitsOf b).length = 8 * b.length := by
  induction b with
  | nil => rfl
  | cons x b ih => rw [bitsOf_cons, List.length_append, gb_length, ih, List.length_cons]; omega
theorem bitsOf_drop (b : List UInt8) (i : Nat) : (bitsOf b).drop (8 * i) = bitsOf (b.drop i) := by
  induction i generalizing b with
  | zero => rfl
  | succ i ih =>
    cases b with
    | nil => simp [bitsOf]
    | cons x b =>
      rw [bitsOf_cons, show 8 * (i + 1) = 8 + 8 * i by omega, ← List.drop_drop, List.drop_append_of_le_length (by rw [gb_length]; exact Nat.le_refl _)]
      have e : List.drop 8 (gb x.toNat 8) = [] := List.drop_of_length_le (by rw [gb_length]; exact Nat.le_refl _)
      rw [e, List.nil_append, ih]
      rfl
theorem pk_bits (b : List UInt8) (i : Nat) (h : i < b.length) : pk (bitsOf b) i = b[i] := by
  unfold pk
  rw [bitsOf_drop, List.drop_eq_getElem_cons h, bitsOf_cons, List.take_append_of_le_length (by rw [gb_length]; exact Nat.le_refl _), List.take_of_length_le (by rw [gb_length]; exact Nat.le_refl _), num_gb]
  rw [Nat.mod_eq_of_lt b[i].toNat_lt]
  exact UInt8.ofNat_toNat
theorem pack_text (A : List Bool) (b : List UInt8) (h : A.length % 8 = 0) : pack (A ++ bitsOf b) = pack A ++ b := by
  have hA : 8 * (A.length / 8) = A.length := by omega
  apply List.ext_getElem?
  intro i
  rw [pack_get, List.length_append, bitsOf_length]
  by_cases h1 : i < A.length / 8
  · rw [if_pos (by omega), List.getElem?_append_left (by rw [pack_length]; omega), pack_get, if_pos (by omega)]
    congr 1
    exact pk_same (by rw [List.drop_append_of_le_length (by omega), List.take_append_of_le_length (by simp; omega)])
  · rw [List.getElem?_append_right (by rw [pack_length]; omega), pack_length, show (A.length + 7) / 8 = A.length / 8 by omega]
    by_cases h2 : i - A.length / 8 < b.length
    · rw [if_pos (by omega), List.getElem?_eq_getElem h2, ← pk_bits b _ h2]
      congr 1
      unfold pk
      rw [List.drop_append, List.drop_of_length_le (by omega), List.nil_append, show 8 * i - A.length = 8 * (i - A.length / 8) by omega]
    · rw [if_neg (by omega), List.getElem?_eq_none (by omega)]
theorem pack_bits (b : List UInt8) : pack (bitsOf b) = b := by
  have := pack_text [] b rfl
  simpa [pack] using this
theorem bits_pack (L : List Bool) : bitsOf (pack L) = alignL L := by
  have h8 : ∀ (L : List Bool), L.length % 8 = 0 → bitsOf (pack L) = L := by
    intro L h
    apply List.ext_getElem?
    intro i
    by_cases hi : i < L.length
    · have e1 : (bitsOf (pack L)).drop (8 * (i / 8)) = bitsOf ((pack L).drop (i / 8)) := bitsOf_drop _ _
      have hp : i / 8 < (pack L).length := by rw [pack_length]; omega
      have e2 : (bitsOf (pack L))[i]? = ((bitsOf (pack L)).drop (8 * (i / 8)))[i % 8]? := by
        rw [List.getElem?_drop]
        congr 1
        omega
      rw [e2, e1, List.drop_eq_getElem_cons hp, bitsOf_cons, List.getElem?_append_left (by rw [gb_length]; omega)]
      have e3 : (pack L)[i / 8] = pk L (i / 8) := by
        have := pack_get L (i / 8)
        rw [List.getElem?_eq_getElem hp, if_pos (by omega)] at this
        exact Option.some.inj this
      have e4 : ((L.drop (8 * (i / 8))).take 8).length = 8 := by simp; omega
      have e5 := gb_num ((L.drop (8 * (i / 8))).take 8)
      rw [e4] at e5
      rw [e3, pk_toNat, e5, List.getElem?_take, if_pos (by omega), List.getElem?_drop]
      congr 1
      omega
    · rw [List.getElem?_eq_none (by rw [bitsOf_length, pack_length]; omega), List.getElem?_eq_none (by omega)]
  rw [← pack_align, h8]
  rw [alignL_length]
  omega
/-- Bits as bytes, 0 and 1. -/
def bb (L : List Bool) : List UInt8 := L.map fun x => if x then 1 else 0
theorem bb_length (L : List Bool) : (bb L).length = L.length := by simp [bb]
theorem bb_append (L M : List Bool) : bb (L ++ M) = bb L ++ bb M := by simp [bb]
theorem bit_bb (x : Bool) : ((if x then 1 else 0 : UInt8)).toNat = x.toNat := by cases x <;> rfl
/-- Has a number room in so many bits? -/
def fitsB (n : Nat) (c : Int) : Bool := decide (0 ≤ c) && (decide (c ≤ 32) && (n / 2 ^ c.toNat == 0))
theorem fits_no {n : Nat} {c : Int} (h : c < 0 ∨ 32 < c) : fitsB n c = false := by
  unfold fitsB
  rcases h with h | h
  · rw [decide_eq_false (by omega)]; rfl
  · rw [decide_eq_false (p := c ≤ 32) (by omega)]; simp
theorem fits_in {n : Nat} {c : Nat} (h : c ≤ 32) : fitsB n (c : Int) = (n / 2 ^ c == 0) := by
  unfold fitsB
  rw [decide_eq_true (by omega), decide_eq_true (by omega)]
  rfl
/-- The lowest c bits in the other order. -/
def turnN (n c : Nat) : Nat := num (gb n c).reverse
theorem turnN_lt (n c : Nat) : turnN n c < 2 ^ c := by
  have := num_lt (gb n c).reverse
  rwa [List.length_reverse, gb_length] at this
theorem gb_turn (n c : Nat) : gb (turnN n c) c = (gb n c).reverse := by
  have := gb_num (gb n c).reverse
  rwa [List.length_reverse, gb_length] at this
theorem turn_turn (n c : Nat) : turnN (turnN n c) c = n % 2 ^ c := by
  rw [turnN, gb_turn, List.reverse_reverse, num_gb]
end Go.Proofs.Ytboakhhmbjomfaa.Bt
