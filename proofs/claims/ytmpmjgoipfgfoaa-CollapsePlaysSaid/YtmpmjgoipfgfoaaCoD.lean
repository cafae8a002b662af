/- Stores with a budget: the document's example, what a law counts, the reference's Kept and Key, walked. -/
import Derived.Test.YtmpmjgoipfgfoaaCoC
import Derived.Test.YtmpmjgoipfgfoaaCoO
namespace Go.Proofs.Ytmpmjgoipfgfoaa
open Go.RowKit
open Pl
theorem stored_below {w0 w w' : World} {g gl c c' : Nat} {A A' : Option Addr} {m : Int} {all all' : List Pr} (hb : Below w0.heap.size w0 w) (hg : w0.heap.size ≤ g) (hgl : w0.heap.size ≤ gl) (h : Sto w g gl A c m all) (k : Stored g gl A m all' w w' A' c') : Below w0.heap.size w0 w' :=
  hb.trans (k.only.below hb.size (fun i hi => by
    rcases hi with rfl | rfl | hi
    · exact hg
    · exact hgl
    · exact Nat.le_trans hgl (Own.block (show Own w gl 38 2 A (cutL all m).1.length c (pcs (cutL all m).1) from h.lst.2) hi).1))
theorem same15_t (A1 A2 : Option Addr) (c1 c2 B1 B2 : Nat) (L : List Pr) (w : World) (h1 : Prs w B1 A1 L) (h2 : Prs w B2 A2 L) (hm : L.length ≤ maxLen) :
    Calls Try.prog 15 #[.slice A1 L.length c1, .slice A2 L.length c2] w fun e w' => e = .returned (.bool true) ∧ ∃ n, w' = w.drewN n := by
  have HC := Lib.hid (same13_t A1 A2 c1 c2 B1 B2 L w h1 h2 hm)
  clear h1 h2 hm
  go_enter Try.func15, Try.ntmps15
  go_wp2_with fail
  refine HC.out.mono ?_
  rintro e w1 ⟨rfl, n, rfl⟩
  go_wp2_with fail
  go_ret
  exact ⟨rfl, n, rfl⟩
theorem kept15_t (base : Nat) (A : Option Addr) (c : Nat) (L : List Pr) (m : Int) (w : World) (h : OwnP w base A c L) (hbase : base ≤ w.heap.size) (hl : L.length ≤ 1000000) (ht : tot L ≤ 4611686018427387904) :
    Calls Try.prog 29 #[.slice A L.length c, .int .i64 m] w (RNewN A base w (cutL L m)) := by
  have HC := Lib.hid (cutn_t base A c L m w h hbase hl ht)
  clear h hbase hl ht
  generalize cutL L m = R at *
  go_enter Try.func29, Try.ntmps29
  go_wp2_with fail
  refine HC.out.mono ?_
  rintro e w1 ⟨A', c', rfl, h1, h2, h3⟩
  have H := Lib.hid (And.intro h1 (And.intro h2 h3))
  clear h1 h2 h3
  go_wp2_with fail
  go_ret2
  exact ⟨A', c', rfl, H.out.1, H.out.2.1, H.out.2.2⟩
def Q1 : List Pr := [(1, 1), (5, 1), (9, 1)]
def Q2 : List Pr := [(1, 1), (3, 4), (5, 1), (9, 1)]
theorem fineQ (L : List Pr) (h : Srt L ∧ Pos L ∧ KeysIn L ∧ tot L ≤ 100 ∧ L.length ≤ 100) : Fine L := ⟨h.1, h.2.1, h.2.2.1, by omega, by omega⟩
theorem fineQ1 : Fine Q1 := fineQ _ ⟨by unfold Srt; decide, by unfold Pos; decide, by unfold KeysIn; decide, by decide, by decide⟩
theorem fineQ2 : Fine Q2 := fineQ _ ⟨by unfold Srt; decide, by unfold Pos; decide, by unfold KeysIn; decide, by decide, by decide⟩
theorem fineQa : Fine [((1 : Int), 1)] := fineQ _ ⟨by unfold Srt; decide, by unfold Pos; decide, by unfold KeysIn; decide, by decide, by decide⟩
theorem fineQb : Fine [((1 : Int), 1), (5, 1)] := fineQ _ ⟨by unfold Srt; decide, by unfold Pos; decide, by unfold KeysIn; decide, by decide, by decide⟩
theorem sadd_lit (w0 w : World) (g gl : Nat) (A : Option Addr) (c : Nat) (k : Int) (n : Nat) (L L' : List Pr) (hb : Below w0.heap.size w0 w) (hg : w0.heap.size ≤ g) (hgl : w0.heap.size ≤ gl) (h : Sto w g gl A c 2 L) (hf : Fine L) (hl : L.length < 100000) (e : radd L k n 0 = (L', 0)) :
    Calls Try.prog 19 #[.pointer (some ⟨g, 0, none⟩), .int .i64 k, .int .u64 (n : Int)] w fun e w' => e = .returned (.int .i64 0) ∧ (∃ A' c', Sto w' g gl A' c' 2 L') ∧ Below w0.heap.size w0 w' := by
  refine (sadd_t g gl A c 2 L k n w h hf hl (by decide) (by decide)).mono ?_
  rintro e1 w1 ⟨rfl, A', c', h1⟩
  rw [e] at h1 ⊢
  exact ⟨rfl, ⟨A', c', h1.sto⟩, stored_below hb hg hgl h h1⟩
theorem not_sk {w w' : World} {g gl c cp : Nat} {A Ap : Option Addr} {m : Int} {all C : List Pr} (h : Sto w g gl A c m all) (hp : OwnP w' w.heap.size Ap cp C) : ∀ x, blockOf Ap = some x → ¬ SK g gl A x := fun x hx e => by
  have h1 := (Own.block (show Own w' w.heap.size 38 2 Ap C.length cp (pcs C) from hp) hx).1
  rcases e with rfl | rfl | e
  · have := h.blk.lt; omega
  · have := h.lst.1.lt; omega
  · have := (Own.block (show Own w gl 38 2 A (cutL all m).1.length c (pcs (cutL all m).1) from h.lst.2) e).2; omega
theorem sadd_keep (w0 w : World) (g gl : Nat) (A : Option Addr) (c : Nat) (k : Int) (n : Nat) (L L' : List Pr) (hb : Below w0.heap.size w0 w) (hg : w0.heap.size ≤ g) (hgl : w0.heap.size ≤ gl) (h : Sto w g gl A c 2 L) (hf : Fine L) (hl : L.length < 100000) (e : radd L k n 0 = (L', 0)) {B cp : Nat} {Ap : Option Addr} {C : List Pr} (hp : OwnP w B Ap cp C) (hn : ∀ x, blockOf Ap = some x → ¬ SK g gl A x) :
    Calls Try.prog 19 #[.pointer (some ⟨g, 0, none⟩), .int .i64 k, .int .u64 (n : Int)] w fun e w' => e = .returned (.int .i64 0) ∧ (∃ A' c', Sto w' g gl A' c' 2 L') ∧ Below w0.heap.size w0 w' ∧ OwnP w' B Ap cp C := by
  refine (sadd_t g gl A c 2 L k n w h hf hl (by decide) (by decide)).mono ?_
  rintro e1 w1 ⟨rfl, A', c', h1⟩
  rw [e] at h1 ⊢
  exact ⟨rfl, ⟨A', c', h1.sto⟩, stored_below hb hg hgl h h1, Own.only hp h1.only hn⟩
theorem pairsQ (L C : List Pr) (e : (cutL L 2).1 = C) (hf : Fine L) (g gl : Nat) (A : Option Addr) (c : Nat) (w : World) (h : Sto w g gl A c 2 L) : Calls Try.prog 16 #[.pointer (some ⟨g, 0, none⟩)] w fun e w' => (∃ A c, e = .returned (.slice A C.length c) ∧ OwnP w' w.heap.size A c C) ∧ Below w.heap.size w w' := by
  refine (spairs_t g gl A c 2 L w h hf).mono ?_
  rw [e]
  rintro e w' ⟨A1, c1, rfl, h1, h2⟩
  exact ⟨⟨A1, c1, rfl, h1⟩, h2⟩
theorem sameQ1 (A : Option Addr) (c g : Nat) (w : World) {m : Nat × Nat} (h : Prs w w.heap.size A [(5, 2), (9, 1)]) (h2 : w.heap[g]? = some (.cells #[.int .i64 5, .int .u64 2, .int .i64 9, .int .u64 1] 38 m)) :
    Calls Try.prog 15 #[.slice A 2 c, .slice (some ⟨g, 0, none⟩) 2 2] w fun e w' => e = .returned (.bool true) ∧ ∃ n, w' = w.drewN n := same15_t A (some ⟨g, 0, none⟩) c 2 _ _ [(5, 2), (9, 1)] w h (Reads.lit h2 rfl rfl) (by decide)
theorem sameQ2 (A : Option Addr) (c g : Nat) (w : World) {m : Nat × Nat} (h : Prs w w.heap.size A [(5, 6), (9, 1)]) (h2 : w.heap[g]? = some (.cells #[.int .i64 5, .int .u64 6, .int .i64 9, .int .u64 1] 38 m)) :
    Calls Try.prog 15 #[.slice A 2 c, .slice (some ⟨g, 0, none⟩) 2 2] w fun e w' => e = .returned (.bool true) ∧ ∃ n, w' = w.drewN n := same15_t A (some ⟨g, 0, none⟩) c 2 _ _ [(5, 6), (9, 1)] w h (Reads.lit h2 rfl rfl) (by decide)
theorem keyQ (r : Nat) (K : Int) (b : Bool) (e1 : rank (cutL Q1 2).1 r = K) (e2 : vagueB Q1 2 r = b) (h1 : 1 ≤ r) (h2 : r ≤ tot Q1) (g gl : Nat) (A : Option Addr) (c : Nat) (w : World) (h : Sto w g gl A c 2 Q1) : Calls Try.prog 11 #[.pointer (some ⟨g, 0, none⟩), .int .u64 (r : Int)] w fun e w' => e = .returned (.tuple #[.int .i64 K, .bool b, .int .i64 0]) ∧ Below w.heap.size w w' := by
  rw [← e1, ← e2]
  exact skey_ok g gl A c 2 Q1 w h r fineQ1 h1 h2
theorem foldedQ (L : List Pr) (n : Nat) (e : (cutL L 2).2 = n) (g gl : Nat) (A : Option Addr) (c : Nat) (w : World) (h : Sto w g gl A c 2 L) : Calls Try.prog 17 #[.pointer (some ⟨g, 0, none⟩)] w fun e w' => e = .returned (.int .u64 (n : Int)) ∧ w = w' := by
  rw [← e]
  exact sfolded_t g gl A c 2 L w h
set_option maxHeartbeats 3200000 in
set_option maxRecDepth 100000 in
theorem alive_t (w : World) : Calls Try.prog 8 #[] w fun e w' => e = .returned (.bool true) ∧ Below w.heap.size w w' := by
  go_enter Try.func8, Try.ntmps8
  go_wp2_with fail
  refine (new_t 2 w (by decide) (by decide)).mono ?_
  rintro e w1 ⟨rfl, s1, b1⟩
  obtain ⟨A1, hA1⟩ : ∃ A1 : Option Addr, A1 = none := ⟨_, rfl⟩
  obtain ⟨c1, hc1⟩ : ∃ c1 : Nat, c1 = 0 := ⟨_, rfl⟩
  rw [← hA1, ← hc1] at s1
  have S1 := Lib.hid s1
  have B1 := Lib.hid b1
  clear s1 b1 hA1 hc1
  go_wp2_with fail
  refine (show Calls Try.prog 19 #[.pointer (some ⟨w.heap.size + 1, 0, none⟩), .int .i64 1, .int .u64 1] w1 _ from sadd_lit w w1 _ _ A1 c1 1 1 [] [(1, 1)] B1.out (by omega) (Nat.le_refl _) S1.out Fine.nil (by decide) (by decide +kernel)).mono ?_
  rintro e w2 ⟨rfl, ⟨A2, c2, s2⟩, b2⟩
  have S2 := Lib.hid s2
  have B2 := Lib.hid b2
  clear s2 b2
  go_wp2_with fail
  refine (show Calls Try.prog 19 #[.pointer (some ⟨w.heap.size + 1, 0, none⟩), .int .i64 5, .int .u64 1] w2 _ from sadd_lit w w2 _ _ A2 c2 5 1 [(1, 1)] [(1, 1), (5, 1)] B2.out (by omega) (Nat.le_refl _) S2.out fineQa (by decide) (by decide +kernel)).mono ?_
  rintro e w3 ⟨rfl, ⟨A3, c3, s3⟩, b3⟩
  have S3 := Lib.hid s3
  have B3 := Lib.hid b3
  clear s3 b3
  go_wp2_with fail
  refine (show Calls Try.prog 19 #[.pointer (some ⟨w.heap.size + 1, 0, none⟩), .int .i64 9, .int .u64 1] w3 _ from sadd_lit w w3 _ _ A3 c3 9 1 [(1, 1), (5, 1)] Q1 B3.out (by omega) (Nat.le_refl _) S3.out fineQb (by decide) (by decide +kernel)).mono ?_
  rintro e w4 ⟨rfl, ⟨A4, c4, s4⟩, b4⟩
  have S4 := Lib.hid s4
  have B4 := Lib.hid b4
  clear s4 b4
  go_wp2_with fail
  refine (show Calls Try.prog 16 #[.pointer (some ⟨w.heap.size + 1, 0, none⟩)] w4 (fun e w' => (∃ A c, e = .returned (.slice A 2 c) ∧ OwnP w' w4.heap.size A c [(5, 2), (9, 1)]) ∧ Below w4.heap.size w4 w') from pairsQ Q1 [(5, 2), (9, 1)] (by decide +kernel) fineQ1 _ _ A4 c4 w4 S4.out).mono ?_
  rintro e w5 ⟨⟨Ap, cp, rfl, p5⟩, b5⟩
  have S5 := Lib.hid (S4.out.below b5)
  have P5 := Lib.hid p5
  have HN := Lib.hid (not_sk S4.out p5)
  have B5 := Lib.hid (nextB B4.out b5)
  clear b5 p5
  go_wp2_with fail
  refine (show Calls Try.prog 17 #[.pointer (some ⟨w.heap.size + 1, 0, none⟩)] w5 (fun e w' => e = .returned (.int .u64 1) ∧ w5 = w') from foldedQ Q1 1 (by decide +kernel) _ _ A4 c4 w5 S5.out).mono ?_
  rintro e w5' ⟨rfl, rfl⟩
  go_wp2_with fail
  refine (show Calls Try.prog 11 #[.pointer (some ⟨w.heap.size + 1, 0, none⟩), .int .u64 1] w5 (fun e w' => e = .returned (.tuple #[.int .i64 5, .bool true, .int .i64 0]) ∧ Below w5.heap.size w5 w') from keyQ 1 5 true (by decide +kernel) (by decide +kernel) (by decide) (by decide) _ _ A4 c4 w5 S5.out).mono ?_
  rintro e w6 ⟨rfl, b6⟩
  have S6 := Lib.hid (S5.out.below b6)
  have P6 := Lib.hid (Own.below P5.out b6)
  have B6 := Lib.hid (nextB B5.out b6)
  clear b6
  go_wp2_with fail
  refine (show Calls Try.prog 11 #[.pointer (some ⟨w.heap.size + 1, 0, none⟩), .int .u64 3] w6 (fun e w' => e = .returned (.tuple #[.int .i64 9, .bool false, .int .i64 0]) ∧ Below w6.heap.size w6 w') from keyQ 3 9 false (by decide +kernel) (by decide +kernel) (by decide) (by decide) _ _ A4 c4 w6 S6.out).mono ?_
  rintro e w7 ⟨rfl, b7⟩
  obtain ⟨A7, hA7⟩ : ∃ A7, A7 = A4 := ⟨_, rfl⟩
  obtain ⟨c7, hc7⟩ : ∃ c7, c7 = c4 := ⟨_, rfl⟩
  have s7 := S6.out.below b7
  rw [← hA7, ← hc7] at s7
  rw [← hA7] at HN
  have S7 := Lib.hid s7
  have P7 := Lib.hid (Own.below P6.out b7)
  have B7 := Lib.hid (nextB B6.out b7)
  clear b7 s7 hA7 hc7
  go_wp2_with fail
  refine (show Calls Try.prog 19 #[.pointer (some ⟨w.heap.size + 1, 0, none⟩), .int .i64 3, .int .u64 4] w7 _ from sadd_keep w w7 _ _ A7 c7 3 4 Q1 Q2 B7.out (by omega) (Nat.le_refl _) S7.out fineQ1 (by decide) (by decide +kernel) P7.out HN.out).mono ?_
  rintro e w8 ⟨rfl, ⟨A8, c8, s8⟩, b8, p8⟩
  have S8 := Lib.hid s8
  have B8 := Lib.hid b8
  have P8 := Lib.hid p8
  clear s8 b8 p8
  go_wp2_with fail
  refine (sameQ1 Ap cp _ _ (Prs.at_below (OwnP.reads P8.out) ((Below.refl _ _).alloc (Nat.le_refl _) _)) (newest _ _)).mono ?_
  rintro e w9 ⟨rfl, q, rfl⟩
  have hb9 := below_drewN ((Below.refl w8.heap.size w8).alloc (Nat.le_refl _) (.cells #[.int .i64 5, .int .u64 2, .int .i64 9, .int .u64 1] 38)) q
  have S9 := Lib.hid (S8.out.below hb9)
  have B9 := Lib.hid (nextB B8.out hb9)
  clear hb9
  generalize (w8.alloc (.cells #[.int .i64 5, .int .u64 2, .int .i64 9, .int .u64 1] 38)).drewN q = w9 at *
  go_wp2_with fail
  refine (show Calls Try.prog 16 #[.pointer (some ⟨w.heap.size + 1, 0, none⟩)] w9 (fun e w' => (∃ A c, e = .returned (.slice A 2 c) ∧ OwnP w' w9.heap.size A c [(5, 6), (9, 1)]) ∧ Below w9.heap.size w9 w') from pairsQ Q2 [(5, 6), (9, 1)] (by decide +kernel) fineQ2 _ _ A8 c8 w9 S9.out).mono ?_
  rintro e wA ⟨⟨Aq, cq, rfl, pA⟩, bA⟩
  have SA := Lib.hid (S9.out.below bA)
  have PA := Lib.hid pA
  have BA := Lib.hid (nextB B9.out bA)
  clear bA pA
  go_wp2_with fail
  refine (sameQ2 Aq cq _ _ (Prs.at_below (OwnP.reads PA.out) ((Below.refl _ _).alloc (Nat.le_refl _) _)) (newest _ _)).mono ?_
  rintro e wB ⟨rfl, q2, rfl⟩
  have hbB := below_drewN ((Below.refl wA.heap.size wA).alloc (Nat.le_refl _) (.cells #[.int .i64 5, .int .u64 6, .int .i64 9, .int .u64 1] 38)) q2
  have SB := Lib.hid (SA.out.below hbB)
  have BB := Lib.hid (nextB BA.out hbB)
  clear hbB
  generalize (wA.alloc (.cells #[.int .i64 5, .int .u64 6, .int .i64 9, .int .u64 1] 38)).drewN q2 = wB at *
  go_wp2_with fail
  refine (show Calls Try.prog 17 #[.pointer (some ⟨w.heap.size + 1, 0, none⟩)] wB (fun e w' => e = .returned (.int .u64 5) ∧ wB = w') from foldedQ Q2 5 (by decide +kernel) _ _ A8 c8 wB SB.out).mono ?_
  rintro e wC ⟨rfl, rfl⟩
  go_wp2_with fail
  go_ret
  exact ⟨rfl, BB.out⟩
end Go.Proofs.Ytmpmjgoipfgfoaa
