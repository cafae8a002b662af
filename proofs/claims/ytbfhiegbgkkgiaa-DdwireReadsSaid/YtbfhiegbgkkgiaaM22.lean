/- What is written of a sketch is read as it was, plain. -/
import Derived.Test.YtbfhiegbgkkgiaaM21
import Derived.Test.YtbfhiegbgkkgiaaM18
import Derived.Test.YtbfhiegbgkkgiaaM16
import Derived.OwnWalk
import Derived.Test.YtbfhiegbgkkgiaaChecked
import Derived.Test.YtbfhiegbgkkgiaaM01
import Derived.Test.YtbfhiegbgkkgiaaM19
import Derived.Test.YtbfhiegbgkkgiaaM02
import Derived.Test.YtbfhiegbgkkgiaaM11
namespace Go.Proofs.Ytbfhiegbgkkgiaa
open Go.RowKit
open Pl
open Sc
open Wi
theorem numF_app (pre rest : List UInt8) {lo hi n : Nat} (h1 : lo ≤ n) (h2 : n ≤ hi) (h3 : n < 18446744073709551616) : numF lo hi (pre ++ (leb n ++ rest)) pre.length = some (n, (pre ++ leb n).length) := by
  have hd := dleb_back 9 0 0 n rfl (by omega) (by unfold room; omega) (by omega) rest
  unfold numF
  rw [List.drop_left, hd]
  dsimp only
  rw [if_pos ⟨rfl, by omega, by omega⟩, List.length_append]
  simp
theorem sg_zk {k : Int} (h0 : -1048576 ≤ k) (h1 : k ≤ 1048576) : sg (zk k) = k := by unfold sg zk; split <;> omega
theorem keyF_none_app (pre rest : List UInt8) {k : Int} (h0 : -1048576 ≤ k) (h1 : k ≤ 1048576) : keyF none (pre ++ (dkey none k ++ rest)) pre.length = some (k, (pre ++ dkey none k).length) := by
  have hz := zk_lt k
  have hs := sign_lt hz
  have hd := dleb_back 9 0 0 (sign (zk k)) rfl (by omega) (by unfold room; omega) (by omega) rest
  rw [Nat.zero_add, Nat.zero_add, Nat.pow_zero, Nat.mul_one] at hd
  unfold keyF
  dsimp only
  rw [List.drop_left]
  unfold dkey dzig
  rw [hd]
  dsimp only
  rw [unsign_sign hz, sg_zk h0 h1, if_pos ⟨rfl, h0, h1⟩, List.length_append]
theorem keyF_some_app (pre rest : List UInt8) {q k : Int} (hq : -1048576 ≤ q) (h0 : q < k) (h1 : k ≤ 1048576) : keyF (some q) (pre ++ (dkey (some q) k ++ rest)) pre.length = some (k, (pre ++ dkey (some q) k).length) := by
  unfold keyF dkey
  dsimp only
  rw [numF_app pre rest (Nat.zero_le _) (by omega) (by omega)]
  dsimp only
  rw [show q + 1 + (((k - q - 1).toNat : Nat) : Int) = k by omega]
theorem pairF_app (pre rest : List UInt8) {pv : Option Int} {x : Pr} (hq : ∀ q, pv = some q → -1048576 ≤ q ∧ q < x.1) (h0 : -1048576 ≤ x.1) (h1 : x.1 ≤ 1048576) (h2 : 0 < x.2) (h3 : x.2 ≤ 4611686018427387904) : pairF pv (pre ++ (dkey pv x.1 ++ (leb x.2 ++ rest))) pre.length = some (x, (pre ++ (dkey pv x.1 ++ leb x.2)).length) := by
  have hk : keyF pv (pre ++ (dkey pv x.1 ++ (leb x.2 ++ rest))) pre.length = some (x.1, (pre ++ dkey pv x.1).length) := by
    cases pv with
    | none => exact keyF_none_app pre _ h0 h1
    | some q => exact keyF_some_app pre _ (hq q rfl).1 (hq q rfl).2 h1
  unfold pairF
  rw [hk]
  dsimp only
  rw [← List.append_assoc, numF_app (pre ++ dkey pv x.1) rest (by omega) h3 (by omega)]
  dsimp only
  rw [List.append_assoc]
theorem pairsF_app : ∀ (L : List Pr) (pv : Option Int) (pre rest : List UInt8), Srt L → Pos L → KeysIn L → (∀ p ∈ L, p.2 ≤ 4611686018427387904) → (∀ q, pv = some q → -1048576 ≤ q ∧ ∀ x ∈ L, q < x.1) → pairsF L.length pv (pre ++ (prsW pv L ++ rest)) pre.length = some (L, (pre ++ prsW pv L).length)
  | [], pv, pre, rest, _, _, _, _, _ => by
    unfold pairsF prsW
    simp
  | x :: L, pv, pre, rest, hs, hp, hk, hn, hq => by
    obtain ⟨s1, s2⟩ := List.pairwise_cons.1 hs
    have hx := hk x (by simp)
    have hpx := (pos_cons.1 hp).1
    have hnx := hn x (by simp)
    have e1 : prsW pv (x :: L) = dkey pv x.1 ++ (leb x.2 ++ prsW (some x.1) L) := by
      rw [show prsW pv (x :: L) = dkey pv x.1 ++ leb x.2 ++ prsW (some x.1) L from rfl, List.append_assoc]
    rw [e1, List.length_cons, pairsF_succ, List.append_assoc, List.append_assoc, pairF_app pre (prsW (some x.1) L ++ rest) (fun q h => ⟨(hq q h).1, (hq q h).2 x (by simp)⟩) hx.1 hx.2 hpx hnx]
    dsimp only
    have e2 : pre ++ (dkey pv x.1 ++ (leb x.2 ++ (prsW (some x.1) L ++ rest))) = (pre ++ (dkey pv x.1 ++ leb x.2)) ++ (prsW (some x.1) L ++ rest) := by simp only [List.append_assoc]
    rw [e2, pairsF_app L (some x.1) (pre ++ (dkey pv x.1 ++ leb x.2)) rest s2 (pos_cons.1 hp).2 (fun q h => hk q (by simp [h])) (fun q h => hn q (by simp [h])) (fun q h => by injection h with h; subst h; exact ⟨hx.1, fun y hy => s1 y hy⟩)]
    simp only [List.append_assoc]
theorem le_tot {L : List Pr} {p : Pr} (h : p ∈ L) : p.2 ≤ tot L := by
  induction L with
  | nil => cases h
  | cons x L ih =>
    rw [tot_cons]
    rcases List.mem_cons.1 h with rfl | h
    · omega
    · have := ih h; omega
/-- What is written is read. -/
theorem readF_docW {a m f : Nat} {L : List Pr} (hk : Keeps a m L f) (hs : Srt L) (hp : Pos L) (hl : L.length ≤ m) (ha0 : 100 ≤ a) (ha : a ≤ 5000) (hm0 : 2 ≤ m) (hm1 : m ≤ 4096) : readF (docW a m L f) = some (a, m, L, f) := by
  have hF : f ≤ 4611686018427387904 := by
    rcases hk.fold with h0 | ⟨_, x, R, hx, h2⟩
    · omega
    · have := hk.tot
      rw [hx, tot_cons] at this
      omega
  have hD : docW a m L f = leb a ++ (leb m ++ (leb L.length ++ (leb f ++ prsW none L))) := by
    unfold docW headW; simp only [List.append_assoc]
  have hsl := spans_len' a
  have hki : KeysIn L := fun q hq => by have := hk.keys q hq; omega
  obtain ⟨D, hDD⟩ : ∃ D, D = docW a m L f := ⟨_, rfl⟩
  rw [← hDD] at hD ⊢
  have n1 : numF 100 5000 D 0 = some (a, (leb a).length) := by
    have := numF_app [] (leb m ++ (leb L.length ++ (leb f ++ prsW none L))) (lo := 100) (hi := 5000) ha0 ha (by omega)
    rw [hD]; simpa using this
  have n2 : numF 2 4096 D (leb a).length = some (m, (leb a ++ leb m).length) := by
    have := numF_app (leb a) (leb L.length ++ (leb f ++ prsW none L)) (lo := 2) (hi := 4096) hm0 hm1 (by omega)
    rw [hD]; exact this
  have n3 : numF 0 m D (leb a ++ leb m).length = some (L.length, (leb a ++ leb m ++ leb L.length).length) := by
    have := numF_app (leb a ++ leb m) (leb f ++ prsW none L) (lo := 0) (hi := m) (n := L.length) (by omega) hl (by omega)
    rw [hD, ← this]; simp only [List.append_assoc]
  have n4 : numF 0 4611686018427387904 D (leb a ++ leb m ++ leb L.length).length = some (f, (leb a ++ leb m ++ leb L.length ++ leb f).length) := by
    have := numF_app (leb a ++ leb m ++ leb L.length) (prsW none L) (lo := 0) (hi := 4611686018427387904) (n := f) (by omega) hF (by omega)
    rw [hD, ← this]; simp only [List.append_assoc]
  have n5 : pairsF L.length none D (leb a ++ leb m ++ leb L.length ++ leb f).length = some (L, D.length) := by
    have := pairsF_app L none (leb a ++ leb m ++ leb L.length ++ leb f) [] hs hp hki (fun p h => Nat.le_trans (le_tot h) hk.tot) (fun q h => by cases h)
    rw [List.append_nil] at this
    rw [hD]; simp only [List.append_assoc] at this ⊢; exact this
  unfold readF
  rw [n1]; dsimp only
  rw [n2]; dsimp only
  rw [n3]; dsimp only
  rw [n4]; dsimp only
  rw [n5]; dsimp only
  rw [if_pos ⟨rfl, hk, hDD.symm⟩]
theorem peekF_docW {a m f : Nat} {L : List Pr} (ha0 : 100 ≤ a) (ha : a ≤ 5000) (hm0 : 2 ≤ m) (hm1 : m ≤ 4096) : peekF (docW a m L f) = some (a, m) := by
  have hD : docW a m L f = leb a ++ (leb m ++ (leb L.length ++ (leb f ++ prsW none L))) := by
    unfold docW headW; simp only [List.append_assoc]
  rw [hD]
  unfold peekF
  have n1 := numF_app [] (leb m ++ (leb L.length ++ (leb f ++ prsW none L))) (lo := 100) (hi := 5000) ha0 ha (by omega)
  rw [List.nil_append, List.nil_append, List.length_nil] at n1
  rw [n1]
  dsimp only
  rw [numF_app (leb a) (leb L.length ++ (leb f ++ prsW none L)) (lo := 2) (hi := 4096) hm0 hm1 (by omega)]
/-- What is read: what was written. -/
theorem readF_some {b : List UInt8} {a m f : Nat} {L : List Pr} (h : readF b = some (a, m, L, f)) : 100 ≤ a ∧ a ≤ 5000 ∧ 2 ≤ m ∧ m ≤ 4096 ∧ L.length ≤ m ∧ Srt L ∧ Pos L ∧ Keeps a m L f ∧ docW a m L f = b ∧ peekF b = some (a, m) := by
  unfold readF at h
  split at h
  · cases h
  rename_i a' p1 e1
  have f1 := numF_some e1 (Nat.zero_le _)
  split at h
  · cases h
  rename_i m' p2 e2
  have f2 := numF_some e2 f1.2.2.2
  split at h
  · cases h
  rename_i n' p3 e3
  have f3 := numF_some e3 f2.2.2.2
  split at h
  · cases h
  rename_i f' p4 e4
  have f4 := numF_some e4 f3.2.2.2
  split at h
  · cases h
  rename_i L' p5 e5
  have f5 := pairsF_facts n' none b p4 L' p5 e5 f4.2.2.2
  split at h
  · rename_i hc
    injection h with h
    injection h with g1 h
    injection h with g2 h
    injection h with g3 g4
    subst g1 g2 g3 g4
    refine ⟨f1.1, f1.2.1, f2.1, f2.2.1, by rw [f5.2.1]; exact f3.2.1, f5.2.2.1, f5.2.2.2.1, hc.2.1, hc.2.2, ?_⟩
    unfold peekF
    rw [e1]; dsimp only
    rw [e2]
  · cases h
end Go.Proofs.Ytbfhiegbgkkgiaa
/- The document's next number, walked. -/

namespace Go.Proofs.Ytbfhiegbgkkgiaa
open Go.RowKit
open Wi
theorem leb_add {n y i : Nat} (hn : n < 128 ^ i) (hy : y < 256) (hi : i ≤ 9) (h9 : i = 9 → y ≤ 1) : ((y % 128 : Nat) : Int) * 2 ^ (7 * i) = ((y % 128 * 128 ^ i : Nat) : Int) ∧ y % 128 * 128 ^ i < 18446744073709551616 ∧ n + y % 128 * 128 ^ i < 18446744073709551616 := by
  have e4 : ((y % 128 : Nat) : Int) * 2 ^ (7 * i) = ((y % 128 * 128 ^ i : Nat) : Int) := by
    rw [show (128 : Nat) ^ i = 2 ^ (7 * i) by rw [show (128 : Nat) = 2 ^ 7 from rfl, ← Nat.pow_mul], Int.natCast_mul, Int.natCast_pow]
    rfl
  refine ⟨e4, ?_⟩
  rcases Nat.lt_or_ge i 9 with h | h
  · have e2 : (128 : Nat) ^ i ≤ 128 ^ 8 := Nat.pow_le_pow_right (by decide) (by omega)
    have e4 : y % 128 * 128 ^ i ≤ 127 * 128 ^ 8 := Nat.mul_le_mul (by omega) e2
    exact ⟨by omega, by omega⟩
  · obtain rfl : i = 9 := by omega
    have := h9 rfl
    have e4 : y % 128 * 128 ^ 9 ≤ 1 * 128 ^ 9 := Nat.mul_le_mul (by omega) (Nat.le_refl _)
    exact ⟨by omega, by omega⟩
set_option maxRecDepth 100000 in
set_option maxHeartbeats 1600000 in
theorem next01_v (A : Option Addr) (c : Nat) (l : List UInt8) (w : World) (h : Bts w w.heap.size A l) (hl : l.length ≤ 100000000) :
    Calls Try.prog 18 #[.int .u8 118, .slice A l.length c] w fun e w' => e = .returned (.tuple #[.int .u64 ((dleb 0 0 l).2.1 : Nat), .int .i64 ((dleb 0 0 l).2.2 : Nat), .int .i64 ((dleb 0 0 l).1 : Nat)]) ∧ ∃ q, w' = w.drewN q := by
  have HF := Lib.hid (fun W => fixed_t 118 W)
  rw [show fixI 118 = (0, false) from rfl] at HF
  dsimp only at HF
  have H := Lib.hid h
  obtain ⟨R, hR⟩ : ∃ R, R = dleb 0 0 l := ⟨_, rfl⟩
  rw [← hR]
  have HR0 := Lib.hid hR
  have hlb : (l.length : Int) ≤ 100000000 := by omega
  clear h hR hl
  go_enter Try.func18, Try.ntmps18
  go_wp2_with fail
  refine (HF.out _).mono ?_
  rintro e w1 ⟨rfl, rfl⟩
  go_wp2_with fail
  go_loopw [9, 11] (fun u v wr => ∃ (i n q : Nat), v = .int .i64 (i : Int) ∧ u = .int .u64 (n : Int) ∧ i ≤ 9 ∧ n < 128 ^ i ∧ i ≤ l.length ∧ R = dleb i n (l.drop i) ∧ wr = w.drewN q) (fun _ v _ => 10 - (intOf v).toNat)
  case atStart => exact ⟨0, 0, 0, rfl, rfl, by omega, by decide, Nat.zero_le _, HR0.out, rfl⟩
  case round =>
    obtain ⟨i, n, q, rfl, rfl, hi, hn, hpi, hR, rfl⟩ := hrel
    obtain ⟨wo, hwo⟩ : ∃ wo : World, wo = w.drewN q := ⟨_, rfl⟩
    rw [← hwo]
    have HWO := Lib.hid hwo
    have hi9 : (i : Int) ≤ 9 := by omega
    have hi0 : (0 : Int) ≤ (i : Int) := by omega
    have hrd : Bts wo w.heap.size A l := by rw [hwo]; exact Reads.drewN H.out q
    clear hwo
    by_cases hlt : i < l.length
    · have hlt0 : (i : Int) < (l.length : Int) := by omega
      obtain ⟨b, o, rfl, hb, hc⟩ := hrd.at_ (by omega)
      have d0 := hc i hlt
      have hR2 : R = if i = 9 ∧ 1 < l[i].toNat then (21, 0, 0) else if 127 < l[i].toNat then dleb (i + 1) (n + l[i].toNat % 128 * 128 ^ i) (l.drop (i + 1)) else if l[i].toNat = 0 ∧ 0 < i then (21, 0, 0) else (0, n + l[i].toNat % 128 * 128 ^ i, i + 1) := by
        rw [hR, List.drop_eq_getElem_cons hlt]
        rfl
      have hy256 : l[i].toNat < 256 := l[i].toNat_lt
      generalize l[i].toNat = y at *
      have hyl : (y : Int) < 256 := by omega
      clear hR hc hrd hb
      by_cases h9 : i = 9 ∧ 1 < y
      · rw [if_pos h9] at hR2
        have e9 : ((i : Int) == 9) = true := by simp; omega
        have e9b : (i == 9) = true := by simp; omega
        have e1 : decide ((1 : Int) < (y : Int)) = true := by simp; omega
        have e1b : decide (1 < y) = true := by simp; omega
        have HRE := Lib.hid hR2
        clear hR2 h9 hn hi hlt hpi
        go_wp2_with fail
        go_ret3
        rw [HRE.out]
        exact ⟨rfl, q, HWO.out⟩
      · rw [if_neg h9] at hR2
        obtain ⟨s1, s2, s3⟩ := leb_add hn hy256 hi (by omega)
        have HW : Hid (IntKind.u64.wrap ((n : Int) + IntKind.u64.wrap ((y : Int) % 128 * 2 ^ (7 * i))) = ((n + y % 128 * 128 ^ i : Nat) : Int)) := Lib.hid (by
          rw [show ((y : Int) % 128) = ((y % 128 : Nat) : Int) by omega, s1, IntWalk.u64_in ((y % 128 * 128 ^ i : Nat) : Int) ⟨by omega, by omega⟩, IntWalk.u64_in _ ⟨by omega, by omega⟩]; omega)
        clear s1 s2 s3
        have e9 : ((i : Int) == 9) = false ∨ (((i : Int) == 9) = true ∧ decide ((1 : Int) < (y : Int)) = false ∧ decide (1 < y) = false) := by
          by_cases h9i : i = 9
          · exact .inr ⟨by simp; omega, by simp; omega, by simp; omega⟩
          · exact .inl (by simp; omega)
        by_cases hy : 127 < y
        · rw [if_pos hy] at hR2
          have e1 : decide ((127 : Int) < (y : Int)) = true := by simp; omega
          have e1b : decide (127 < y) = true := by simp; omega
          have hi9b : i < 9 := by
            rcases Nat.lt_or_ge i 9 with h | h
            · exact h
            · exact absurd ⟨by omega, by omega⟩ h9
          have e9 : ((i : Int) == 9) = false := by simp; omega
          have e9b : (i == 9) = false := by simp; omega
          have HI := Lib.hid hi9b
          have HRE := Lib.hid hR2
          have HN := Lib.hid (leb_lt (x := y) hn)
          have HL := Lib.hid hlt
          clear hR2 h9 hn hi hpi hy hlt hy256 hi9b
          go_wp2_with fail
          go_roundw
          case rel => exact ⟨i + 1, n + y % 128 * 128 ^ i, q, rfl, congrArg (Value.int .u64) HW.out, by have := HI.out; omega, HN.out, HL.out, HRE.out, HWO.out⟩
          case measure => have := HI.out; simp [intOf]; omega
        · rw [if_neg hy] at hR2
          have e1 : decide ((127 : Int) < (y : Int)) = false := by simp; omega
          have e1b : decide (127 < y) = false := by simp; omega
          by_cases h0 : y = 0 ∧ 0 < i
          · rw [if_pos h0] at hR2
            have e2 : ((y : Int) == 0) = true := by simp; omega
            have e2b : (y == 0) = true := by simp; omega
            have e3 : decide ((0 : Int) < (i : Int)) = true := by simp; omega
            have e3b : decide (0 < i) = true := by simp; omega
            have HRE := Lib.hid hR2
            clear hR2 h9 hn hi hlt hpi h0 hy hy256
            rcases e9 with e9 | ⟨e9, e9a, e9b⟩
            all_goals
              go_wp2_with fail
              go_ret3
              rw [HRE.out]
              exact ⟨rfl, q, HWO.out⟩
          · rw [if_neg h0] at hR2
            have e2 : ((y : Int) == 0) = false ∨ ((y : Int) == 0) = true ∧ decide ((0 : Int) < (i : Int)) = false ∧ decide (0 < i) = false := by
              by_cases hy0 : y = 0
              · exact .inr ⟨by simp; omega, by simp; omega, by simp; omega⟩
              · exact .inl (by simp; omega)
            have HRE := Lib.hid hR2
            clear hR2 h9 hn hi hlt hpi h0 hy hy256
            rcases e9 with e9 | ⟨e9, e9a, e9b⟩ <;> rcases e2 with e2 | ⟨e2, e2a, e2b⟩
            all_goals
              go_wp2_with fail
              go_ret3
              rw [HRE.out]
              refine ⟨?_, q, HWO.out⟩
              rw [HW.out]
              rfl
    · have hge : ¬ (i : Int) < (l.length : Int) := by omega
      have hRe : R = (20, 0, 0) := by rw [hR, List.drop_of_length_le (by omega)]; rfl
      have HRE := Lib.hid hRe
      clear hR hlt hi hn hpi hRe hrd
      go_wp2_with fail
      go_ret3
      rw [HRE.out]
      exact ⟨rfl, q, HWO.out⟩
end Go.Proofs.Ytbfhiegbgkkgiaa
/- A part of a slice of bytes, over any world. -/

namespace Go.Proofs.Ytbfhiegbgkkgiaa
open Go.RowKit
set_option maxRecDepth 100000 in
theorem elem_at : Try.prog.elem 22 = 5 := by kernel_rfl
set_option maxRecDepth 100000 in
theorem size_u8 (W : World) : (sizeOf 5).run Try.prog W = .ok 1 W := by kernel_rfl
/-- Where b[i:..] begins. -/
def sliceA (A : Option Addr) (c i : Nat) : Option Addr := if c = i then A else A.map (·.add i)
set_option maxRecDepth 100000 in
/-- b[i:j], whatever the memory. -/
theorem slice_run (A : Option Addr) (n c i j : Nat) (h1 : i ≤ j) (h3 : j ≤ c) (W : World) :
    (Instr.slice 22 (.slice A n c) (some (.int .i64 (i : Int))) (some (.int .i64 (j : Int))) none).run Try.prog W = .ok (.slice (sliceA A c i) (j - i) (c - i)) W := by
  have hu : Try.prog.underlying 22 = some (.slice (Try.prog.elem 22)) := by rw [elem_at]; exact Try.underlying22
  rw [run_slice_lh (w := W) 22 A n c hu .i64 .i64 (i : Int) (j : Int) (by omega) (by omega) (by omega), elem_at, size_u8]
  simp [Result.andThen, sliced, sliceA]
theorem slice_len {l : List UInt8} {i j : Nat} (h2 : j ≤ l.length) : ((l.drop i).take (j - i)).length = j - i := by simp; omega
/-- It reads as that part. -/
theorem slice_bts {w : World} {B : Nat} {A : Option Addr} {l : List UInt8} (h : Bts w B A l) (c i j : Nat) (h2 : j ≤ l.length) (h3 : l.length ≤ c) : Bts w B (sliceA A c i) ((l.drop i).take (j - i)) := by
  unfold Bts sliceA
  rw [slice_len h2]
  refine ⟨by rw [bvs_length, slice_len h2]; simp, fun hn => ?_⟩
  obtain ⟨b, o, hA, hb, hc⟩ := h.2 (by omega)
  subst hA
  rw [if_neg (by omega)]
  refine ⟨b, o + i, ?_, hb, fun k u hu => ?_⟩
  · simp only [Option.map_some, add_lit]
  · rw [Nat.add_assoc]
    refine hc (i + k) u ?_
    rw [bvs_take, bvs_drop, List.getElem?_take] at hu
    split at hu
    · rw [List.getElem?_drop] at hu
      exact hu
    · cases hu
end Go.Proofs.Ytbfhiegbgkkgiaa
/- What bytes begin with, by the document: walked. -/

namespace Go.Proofs.Ytbfhiegbgkkgiaa
open Go.RowKit
open Pl
open Sc
open Wi
/-- b[i:], whatever the memory. -/
theorem slice_from (A : Option Addr) (n c i : Nat) (h1 : i ≤ n) (W : World) :
    (Instr.slice 22 (.slice A n c) (some (.int .i64 (i : Int))) none none).run Try.prog W = .ok (.slice (sliceA A c i) (n - i) (c - i)) W := by
  have hu : Try.prog.underlying 22 = some (.slice (Try.prog.elem 22)) := by rw [elem_at]; exact Try.underlying22
  rw [run_slice_l (w := W) 22 A n c hu .i64 (i : Int) (by omega) (by omega), elem_at, size_u8]
  simp [Result.andThen, sliced, sliceA]
theorem from_bts {w : World} {B : Nat} {A : Option Addr} {l : List UInt8} (h : Bts w B A l) (c i : Nat) (h3 : l.length ≤ c) : Bts w B (sliceA A c i) (l.drop i) := by
  have h4 := slice_bts h c i l.length (Nat.le_refl _) h3
  rwa [List.take_of_length_le (by rw [List.length_drop]; omega)] at h4
def rpeekR : Option (Nat × Nat) → Array Value
  | some (a, m) => #[.int .i64 (a : Nat), .int .i64 (m : Nat), .bool true]
  | none => #[.int .i64 0, .int .i64 0, .bool false]
/-- The test of a number. -/
theorem num_ways (er n lo hi : Nat) : (er ≠ 0 ∧ ((er : Int) == 0) = false ∧ ((er : Int) != 0) = true) ∨ (er = 0 ∧ n < lo) ∨ (er = 0 ∧ lo ≤ n ∧ hi < n) ∨ (er = 0 ∧ lo ≤ n ∧ n ≤ hi) := by
  by_cases e0 : er = 0
  · by_cases e1 : n < lo
    · exact .inr (.inl ⟨e0, e1⟩)
    · by_cases e2 : hi < n
      · exact .inr (.inr (.inl ⟨e0, by omega, e2⟩))
      · exact .inr (.inr (.inr ⟨e0, by omega, by omega⟩))
  · exact .inl ⟨e0, by simp; omega, by simp; omega⟩
theorem numF_no {er n lo hi : Nat} {l : List UInt8} {p k : Nat} (hd : dleb 0 0 (l.drop p) = (er, n, k)) (h : ¬ (er = 0 ∧ lo ≤ n ∧ n ≤ hi)) : numF lo hi l p = none := by
  unfold numF
  rw [hd]
  exact if_neg h
theorem numF_yes {n lo hi : Nat} {l : List UInt8} {p k : Nat} (hd : dleb 0 0 (l.drop p) = (0, n, k)) (h1 : lo ≤ n) (h2 : n ≤ hi) : numF lo hi l p = some (n, p + k) := by
  unfold numF
  rw [hd]
  exact if_pos ⟨rfl, h1, h2⟩
def RPeek (l : List UInt8) (w : World) (e : Ending) (w' : World) : Prop := e = .returned (.tuple (rpeekR (peekF l))) ∧ ∃ q, w' = w.drewN q
set_option maxRecDepth 100000 in
set_option maxHeartbeats 1600000 in
theorem rpeek_t (A : Option Addr) (c : Nat) (l : List UInt8) (w : World) (h : Bts w w.heap.size A l) (hl : l.length ≤ 100000000) (hc : l.length ≤ c) :
    Calls Try.prog 5 #[.slice A l.length c] w (RPeek l w) := by
  have HN1 := Lib.hid (fun W (h : Bts W W.heap.size A l) => next01_v A c l W h hl)
  have HN2 := Lib.hid (fun W k (h : Bts W W.heap.size A l) (hk : k ≤ l.length) => next01_v (sliceA A c k) (c - k) (l.drop k) W (from_bts h c k hc) (by rw [List.length_drop]; omega))
  have HH := Lib.hid h
  have HS := Lib.hid (fun W k (hk : k ≤ l.length) => slice_from A l.length c k hk W)
  have HU := Lib.hid (fun h => dleb_used l 0 0 h)
  have HP : Hid (∃ F, F = peekF l) := Lib.hid ⟨_, rfl⟩
  obtain ⟨F, hF⟩ := HP.out
  have HF := Lib.hid hF
  have hpost : ∀ e w', e = .returned (.tuple (rpeekR F)) ∧ (∃ q, w' = w.drewN q) → RPeek l w e w' := fun e w' he => by unfold RPeek; rw [← hF]; exact he
  have HPOST := Lib.hid hpost
  clear h hl hc hF hpost HP
  refine Calls.mono ?_ (fun e w' he => HPOST.out e w' he)
  obtain ⟨r, hr⟩ : ∃ r, r = dleb 0 0 l := ⟨_, rfl⟩
  have HR := Lib.hid hr
  rw [← hr] at HN1 HU
  obtain ⟨er, a, k⟩ := r
  clear hr
  dsimp only at HN1 HU
  have no1 : ¬ (er = 0 ∧ 100 ≤ a ∧ a ≤ 5000) → F = none := fun hn => by
    rw [HF.out]; unfold peekF; rw [numF_no (by rw [List.drop_zero]; exact HR.out.symm) hn]
  rcases num_ways er a 100 5000 with ⟨e0, e1, e2⟩ | ⟨rfl, e2⟩ | ⟨rfl, e2, e3⟩ | ⟨rfl, h1, h2⟩
  · obtain rfl : F = none := no1 (fun hn => e0 hn.1)
    clear no1 e0
    go_enter Try.func5, Try.ntmps5
    go_wp2_with fail
    refine (HN1.out _ HH.out).mono ?_
    rintro e w1 ⟨rfl, q1, rfl⟩
    go_wp2_with fail
    go_ret3
    exact ⟨rfl, q1, rfl⟩
  · obtain rfl : F = none := no1 (fun hn => by omega)
    have t1 : decide ((a : Int) < 100) = true := by simp; omega
    clear no1 e2
    go_enter Try.func5, Try.ntmps5
    go_wp2_with fail
    refine (HN1.out _ HH.out).mono ?_
    rintro e w1 ⟨rfl, q1, rfl⟩
    go_wp2_with fail
    go_ret3
    exact ⟨rfl, q1, rfl⟩
  · obtain rfl : F = none := no1 (fun hn => by omega)
    have t1 : decide ((a : Int) < 100) = false := by simp; omega
    have t2 : decide ((5000 : Int) < (a : Int)) = true := by simp; omega
    clear no1 e2 e3
    go_enter Try.func5, Try.ntmps5
    go_wp2_with fail
    refine (HN1.out _ HH.out).mono ?_
    rintro e w1 ⟨rfl, q1, rfl⟩
    go_wp2_with fail
    go_ret3
    exact ⟨rfl, q1, rfl⟩
  · have hk := HU.out rfl
    have HK := Lib.hid (show k ≤ l.length by omega)
    clear no1 HU hk
    have F1 := Lib.hid (numF_yes (lo := 100) (hi := 5000) (p := 0) (l := l) (by rw [List.drop_zero]; exact HR.out.symm) h1 h2)
    have hsl := fun W => HS.out W k HK.out
    have HN3 := Lib.hid (fun W (h : Bts W W.heap.size A l) => HN2.out W k h HK.out)
    rw [List.length_drop] at HN3
    have t1 : decide ((a : Int) < 100) = false := by simp; omega
    have t2 : decide ((5000 : Int) < (a : Int)) = false := by simp; omega
    have t3 : (a : Int) ≤ 5000 := by omega
    obtain ⟨r, hr⟩ : ∃ r, r = dleb 0 0 (l.drop k) := ⟨_, rfl⟩
    have HR2 := Lib.hid hr
    rw [← hr] at HN3
    obtain ⟨er, m, k2⟩ := r
    clear hr h1 h2 HN2 HS
    dsimp only at HN3
    have no1 : ¬ (er = 0 ∧ 2 ≤ m ∧ m ≤ 4096) → F = none := fun hn => by
      rw [HF.out]; unfold peekF; rw [F1.out]; dsimp only; rw [Nat.zero_add, numF_no HR2.out.symm hn]
    have yes1 : er = 0 ∧ 2 ≤ m ∧ m ≤ 4096 → F = some (a, m) := fun hn => by
      rw [HF.out]; unfold peekF; rw [F1.out]; dsimp only; obtain ⟨rfl, g1, g2⟩ := hn; rw [Nat.zero_add, numF_yes HR2.out.symm g1 g2]
    have YES := Lib.hid yes1
    clear yes1
    rcases num_ways er m 2 4096 with ⟨e0, e1, e2⟩ | ⟨rfl, e2⟩ | ⟨rfl, e2, e3⟩ | ⟨rfl, h1, h2⟩
    · obtain rfl : F = none := no1 (fun hn => e0 hn.1)
      clear no1 e0
      go_enter Try.func5, Try.ntmps5
      go_wp2_with fail
      refine (HN1.out _ HH.out).mono ?_
      rintro e w1 ⟨rfl, q1, rfl⟩
      go_wp2_with fail
      refine (HN3.out _ (Reads.drewN HH.out q1)).mono ?_
      rintro e w2 ⟨rfl, q2, rfl⟩
      go_wp2_with fail
      go_ret3
      exact ⟨rfl, q1 + q2, by simp⟩
    · obtain rfl : F = none := no1 (fun hn => by omega)
      have t1 : decide ((m : Int) < 2) = true := by simp; omega
      clear no1 e2
      go_enter Try.func5, Try.ntmps5
      go_wp2_with fail
      refine (HN1.out _ HH.out).mono ?_
      rintro e w1 ⟨rfl, q1, rfl⟩
      go_wp2_with fail
      refine (HN3.out _ (Reads.drewN HH.out q1)).mono ?_
      rintro e w2 ⟨rfl, q2, rfl⟩
      go_wp2_with fail
      go_ret3
      exact ⟨rfl, q1 + q2, by simp⟩
    · obtain rfl : F = none := no1 (fun hn => by omega)
      have t1 : decide ((m : Int) < 2) = false := by simp; omega
      have t2 : decide ((4096 : Int) < (m : Int)) = true := by simp; omega
      clear no1 e2 e3
      go_enter Try.func5, Try.ntmps5
      go_wp2_with fail
      refine (HN1.out _ HH.out).mono ?_
      rintro e w1 ⟨rfl, q1, rfl⟩
      go_wp2_with fail
      refine (HN3.out _ (Reads.drewN HH.out q1)).mono ?_
      rintro e w2 ⟨rfl, q2, rfl⟩
      go_wp2_with fail
      go_ret3
      exact ⟨rfl, q1 + q2, by simp⟩
    · obtain rfl : F = some (a, m) := YES.out ⟨rfl, h1, h2⟩
      have t4 : decide ((m : Int) < 2) = false := by simp; omega
      have t5 : decide ((4096 : Int) < (m : Int)) = false := by simp; omega
      have t6 : (m : Int) ≤ 4096 := by omega
      clear no1 h1 h2
      go_enter Try.func5, Try.ntmps5
      go_wp2_with fail
      refine (HN1.out _ HH.out).mono ?_
      rintro e w1 ⟨rfl, q1, rfl⟩
      go_wp2_with fail
      refine (HN3.out _ (Reads.drewN HH.out q1)).mono ?_
      rintro e w2 ⟨rfl, q2, rfl⟩
      go_wp2_with fail
      go_ret3
      exact ⟨rfl, q1 + q2, by simp⟩
end Go.Proofs.Ytbfhiegbgkkgiaa
/- Pairs that a store keeps are right by the document: walked. -/

namespace Go.Proofs.Ytbfhiegbgkkgiaa
open Go.RowKit
open Pl
open Sc
set_option maxRecDepth 100000 in
set_option maxHeartbeats 1600000 in
theorem right15_t (A : Option Addr) (c B m f : Nat) (L : List Pr) (w : World) (h : Prs w B A L) (hm0 : 2 ≤ m) (hm1 : m ≤ 4096) (hl : L.length ≤ m) (hs : Srt L) (hp : Pos L) (hk : KeysIn L) (ht : tot L ≤ 4611686018427387904) (hf : f = 0 ∨ L.length = m ∧ ∃ p R, L = p :: R ∧ f < p.2) :
    Calls Try.prog 10 #[.int .i64 (m : Int), .slice A L.length c, .int .u64 (f : Int)] w fun e w' => e = .returned (.bool true) ∧ ∃ n, w' = w.drewN n := by
  have HA := Lib.hid h
  have HSR := Lib.hid hs
  have HPO := Lib.hid hp
  have HKI := Lib.hid hk
  have HFO := Lib.hid hf
  have t1 : decide ((m : Int) < 2) = false := by simp; omega
  have t2 : decide ((4096 : Int) < (m : Int)) = false := by simp; omega
  have t3 : decide ((m : Int) < (L.length : Int)) = false := by simp; omega
  have t3b : decide (m < L.length) = false := by simp; omega
  have hml : (L.length : Int) ≤ 4096 := by omega
  have HT := Lib.hid ht
  clear h hs hp hk hf hm0 hm1 hl ht
  go_enter Try.func10, Try.ntmps10
  go_wp2_with fail
  go_loopw [7, 8] (fun s i wr => ∃ k n : Nat, k ≤ L.length ∧ i = .int .i64 k ∧ s = .int .u64 (tot (L.take k) : Nat) ∧ wr = w.drewN n) (fun _ i _ => L.length - (intOf i).toNat)
  case atStart => exact ⟨0, 0, Nat.zero_le _, rfl, rfl, rfl⟩
  case round =>
    obtain ⟨k, n, hk, rfl, rfl, rfl⟩ := hrel
    by_cases hlt : k < L.length
    · obtain ⟨b, o, rfl, _, hcell⟩ := HA.out.at_ (by omega)
      obtain ⟨g1, g2⟩ := hcell k L[k] (by simp [hlt])
      have hkk : (k : Int) < (L.length : Int) := by omega
      have hk0 : (0 : Int) ≤ (k : Int) := by omega
      have e1 : w.cell? ⟨b, o + k * 2, none⟩ = some (.int .i64 L[k].1) := g1
      have e2 : w.cell? ⟨b, o + k * 2 + 1, none⟩ = some (.int .u64 (L[k].2 : Nat)) := g2
      have hx1 := HKI.out L[k] (by simp)
      have hx2 := HPO.out L[k] (by simp)
      have hst := tot_take hlt
      have hle := tot_take_le (L := L) (k := k + 1)
      have htt := HT.out
      obtain ⟨R, hR⟩ : ∃ R, R = tot (L.take (k + 1)) := ⟨_, rfl⟩
      rw [← hR] at hst hle
      have HR := Lib.hid hR
      have HL := Lib.hid hlt
      have y1 : ((L[k].2 : Int) == 0) = false := by simp; omega
      have y1b : (L[k].2 == 0) = false := by simp; omega
      have y2 : decide (L[k].1 < -1048576) = false := by simp; omega
      have y3 : decide (1048576 < L[k].1) = false := by simp; omega
      have y4 : decide ((4611686018427387904 : Int) - ((tot (L.take k) : Nat) : Int) < (L[k].2 : Int)) = false := by simp; omega
      have y5 : (0 : Int) ≤ 4611686018427387904 - ((tot (L.take k) : Nat) : Int) := by omega
      have y6 : ((tot (L.take k) : Nat) : Int) + (L[k].2 : Int) ≤ 4611686018427387904 := by omega
      have HS := Lib.hid (show ((tot (L.take k) : Nat) : Int) + (L[k].2 : Int) = (R : Int) by omega)
      rcases Nat.eq_zero_or_pos k with hz | hz
      · have z1 : decide ((0 : Int) < (k : Int)) = false := by simp; omega
        have z1b : decide (0 < k) = false := by simp; omega
        generalize L[k].1 = x1 at *
        generalize L[k].2 = x2 at *
        generalize tot (L.take k) = S at *
        clear hcell hlt hst hR hx1 hx2 hle htt hk hz
        go_wp2_with fail
        go_quiet (fail)
        go_wp2_with fail
        go_roundw
        case rel => exact ⟨k + 1, n + nq, HL.out, by go_num, by rw [← HR.out, HS.out], rfl⟩
        case measure => have h1 := HL.out; simp [intOf]; omega
      · have z1 : decide ((0 : Int) < (k : Int)) = true := by simp; omega
        have z1b : decide (0 < k) = true := by simp; omega
        obtain ⟨j, hj⟩ : ∃ j, j + 1 = k := ⟨k - 1, by omega⟩
        have hjl : j < L.length := by omega
        have e3 : w.cell? ⟨b, o + j * 2, none⟩ = some (.int .i64 L[j].1) := (hcell j L[j] (by simp [hjl])).1
        have hsr : L[j].1 < L[k].1 := List.pairwise_iff_getElem.1 HSR.out j k (by omega) hlt (by omega)
        have z2 : decide (L[k].1 ≤ L[j].1) = false := by simp; omega
        have w1 : IntKind.i64.wrap ((k : Int) - 1) = (j : Int) := by rw [show ((k : Int) - 1) = (j : Int) by omega]; exact IntWalk.i64_in _ ⟨by omega, by omega⟩
        have w2 : (0 : Int) ≤ (j : Int) := by omega
        have w3 : (j : Int) < (L.length : Int) := by omega
        generalize L[k].1 = x1 at *
        generalize L[k].2 = x2 at *
        generalize L[j].1 = x3 at *
        generalize tot (L.take k) = S at *
        clear hcell hlt hst hR hx1 hx2 hle htt hk hz hsr hj hjl
        go_wp2_with fail
        go_quiet (fail)
        go_wp2_with fail
        go_roundw
        case rel => exact ⟨k + 1, n + nq, HL.out, by go_num, by rw [← HR.out, HS.out], rfl⟩
        case measure => have h1 := HL.out; simp [intOf]; omega
    · obtain rfl : k = L.length := by omega
      rcases HFO.out with rfl | ⟨h1, p, R, hLR, h2⟩
      · go_wp2_with fail
        go_ret
        exact ⟨rfl, n, rfl⟩
      · by_cases hf0 : f = 0
        · have u1 : ((f : Int) == 0) = true := by simp; omega
          clear hf0 h1 h2
          go_wp2_with fail
          go_ret
          exact ⟨rfl, n, rfl⟩
        · obtain ⟨b, o, rfl, _, hcell⟩ := HA.out.at_ (by rw [hLR]; simp)
          obtain ⟨g1, g2⟩ := hcell 0 p (by rw [hLR]; rfl)
          have e2 : w.cell? ⟨b, o + 1, none⟩ = some (.int .u64 (p.2 : Nat)) := by have := g2; simpa using this
          have u1 : ((f : Int) == 0) = false := by simp; omega
          have u2 : ((L.length : Int) == (m : Int)) = true := by simp; omega
          have u2b : (L.length == m) = true := by simp; omega
          have u3 : decide ((f : Int) < (p.2 : Int)) = true := by simp; omega
          have u3b : decide (f < p.2) = true := by simp; omega
          have u4 : (0 : Int) < (L.length : Int) := by rw [hLR]; simp
          clear hcell hf0 h1 h2 g1 g2 hLR
          go_wp2_with fail
          go_ret
          exact ⟨rfl, n, rfl⟩
end Go.Proofs.Ytbfhiegbgkkgiaa
