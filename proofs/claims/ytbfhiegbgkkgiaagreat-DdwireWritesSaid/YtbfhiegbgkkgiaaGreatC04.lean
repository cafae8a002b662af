/- Sparse: the search of a key, sums, walked. -/
import Derived.Test.YtbfhiegbgkkgiaaGreatC03
import Derived.RegionTactic
import Derived.BigRegion
import Derived.Deep.QuietTactic
import Derived.BigQuiet
import Derived.Deep.LoopGhost
import Derived.Lib.Overlaps
import Derived.Laws.Externs
import Derived.Deep.RegionLaw
namespace Go.Proofs.YtbfhiegbgkkgiaaGreat
open Go.RowKit
open Pl
set_option maxRecDepth 100000 in
theorem cmp_t (p : Pr) (k d : Int) (w : World) (hd : p.1 - k = d) (h0 : -1048577 ≤ k) (h1 : k ≤ 1048577) (h2 : -1048576 ≤ p.1) (h3 : p.1 ≤ 1048576) :
    Calls Tryz.prog 118 #[.agg #[.int .i64 p.1, .int .u64 (p.2 : Nat)], .int .i64 k] w fun e w' => e = .returned (.int .i64 d) ∧ Below w.heap.size w w' := by
  obtain ⟨x, n⟩ := p
  dsimp only at *
  have HD := Lib.hid hd
  clear hd
  go_enter Tryz.func118, Tryz.ntmps118
  go_wp2_with fail
  go_ret
  exact ⟨by rw [← HD.out]; rfl, (Below.refl _ _).alloc (Nat.le_refl _) _⟩
set_option maxRecDepth 100000 in
set_option maxHeartbeats 1600000 in
theorem bs_t (A : Option Addr) (c : Nat) (L : List Pr) (k : Int) (w : World) (h : Prs w w.heap.size A L) (hs : Srt L) (hk : KeysIn L) (hl : L.length ≤ 100000000) (h0 : -1048577 ≤ k) (h1 : k ≤ 1048577) :
    Calls Tryz.prog 117 #[.slice A L.length c, .int .i64 k, .func (Fn.func 118) #[] #[]] w fun e w' => e = .returned (.tuple #[.int .i64 (lo L k : Nat), .bool (hasK L k)]) ∧ Below w.heap.size w w' := by
  have H := Lib.hid h
  have HS := Lib.hid hs
  have HK := Lib.hid hk
  have HLI : (L.length : Int) ≤ 100000000 := by omega
  obtain ⟨q, hq⟩ : ∃ q, q = lo L k := ⟨_, rfl⟩
  rw [← hq]
  have HLE := Lib.hid (lo_le L k)
  have HQ := Lib.hid hq
  clear h hs hk hl hq
  go_enter Tryz.func117, Tryz.ntmps117
  go_wp2_with fail
  go_loopw [9, 10] (fun u v wr => ∃ i j : Nat, u = .int .i64 (i : Int) ∧ v = .int .i64 (j : Int) ∧ i ≤ q ∧ q ≤ j ∧ j ≤ L.length ∧ Below w.heap.size w wr) (fun u v _ => (intOf v).toNat - (intOf u).toNat)
  case atStart => exact ⟨0, L.length, rfl, rfl, Nat.zero_le _, by rw [HQ.out]; exact HLE.out, Nat.le_refl _, Below.refl _ _⟩
  case round =>
    obtain ⟨i, j, rfl, rfl, hi, hj, hjl, hbel⟩ := hrel
    obtain ⟨wo, rfl⟩ : ∃ wo : World, wo = wr := ⟨_, rfl⟩
    by_cases hlt : i < j
    · obtain ⟨m, hm⟩ : ∃ m, m = (i + j) / 2 := ⟨_, rfl⟩
      have hm1 : i ≤ m := by omega
      have hm2 : m < j := by omega
      have hmi : ((i : Int) + (j : Int)) / 2 = (m : Int) := by omega
      have hij : (i : Int) < (j : Int) := by omega
      have hij2 : decide (i < j) = true := by simp; omega
      have hjj : (j : Int) ≤ 100000000 := by omega
      obtain ⟨p, hp⟩ : ∃ p, L[m]? = some p := ⟨_, List.getElem?_eq_getElem (by omega)⟩
      obtain ⟨b, o, rfl, hbb, hc⟩ := (H.out.below hbel).at_ (by omega)
      obtain ⟨c1, c2⟩ := hc m p hp
      have hkk := HK.out p (List.mem_of_getElem? hp)
      have hlo := lo_iff HS.out (k := k) hp
      rw [← HQ.out] at hlo
      have HLO := Lib.hid hlo
      clear hlo
      obtain ⟨d, hd⟩ : ∃ d, p.1 - k = d := ⟨_, rfl⟩
      have HC := Lib.hid (cmp_t p k d wo hd h0 h1 hkk.1 hkk.2)
      have hml : (m : Int) < (L.length : Int) := by omega
      have hm0 : (0 : Int) ≤ (m : Int) := by omega
      have HW := Lib.hid hbel
      have HI := Lib.hid (And.intro hi (And.intro hj (And.intro hjl (And.intro hm1 hm2))))
      by_cases hneg : d < 0
      · have HX := Lib.hid (HLO.out.1 (by omega))
        have HMI := Lib.hid hmi
        clear hc hp hkk hd hbel hi hj hjl hm hm1 hm2 HLO hbb
        obtain ⟨x, n⟩ := p
        dsimp only at c1 c2 HC
        go_wp2_with fail
        refine HC.out.mono ?_
        rintro e w1 ⟨rfl, hb1⟩
        have HB1 := Lib.hid hb1
        clear hb1
        go_wp2_with fail
        go_roundw
        case rel => exact ⟨m + 1, j, by go_num, rfl, HX.out, HI.out.2.1, HI.out.2.2.1, HW.out.trans (HB1.out.mono HW.out.size)⟩
        case measure => have := HI.out; simp [intOf]; omega
      · have HX := Lib.hid (show q ≤ m from by
          rcases Nat.lt_or_ge m q with h | h
          · have := HLO.out.2 h; omega
          · exact h)
        have HMI := Lib.hid hmi
        clear hc hp hkk hd hbel hi hj hjl hm hm1 hm2 HLO hbb
        obtain ⟨x, n⟩ := p
        dsimp only at c1 c2 HC
        go_wp2_with fail
        refine HC.out.mono ?_
        rintro e w1 ⟨rfl, hb1⟩
        have HB1 := Lib.hid hb1
        clear hb1
        go_wp2_with fail
        go_roundw
        case rel => exact ⟨i, m, rfl, by go_num, HI.out.1, HX.out, by have := HI.out; omega, HW.out.trans (HB1.out.mono HW.out.size)⟩
        case measure => have := HI.out; simp [intOf]; omega
    · obtain rfl : i = q := by omega
      have hij : ¬ (i : Int) < (j : Int) := by omega
      have hij2 : decide (i < j) = false := by simp; omega
      by_cases hend : i < L.length
      · obtain ⟨p, hp⟩ : ∃ p, L[i]? = some p := ⟨_, List.getElem?_eq_getElem hend⟩
        obtain ⟨b, o, rfl, hbb, hc⟩ := (H.out.below hbel).at_ (by omega)
        obtain ⟨c1, c2⟩ := hc _ p hp
        have hkk := HK.out p (List.mem_of_getElem? hp)
        obtain ⟨d, hd⟩ : ∃ d, p.1 - k = d := ⟨_, rfl⟩
        have HC := Lib.hid (cmp_t p k d wo hd h0 h1 hkk.1 hkk.2)
        have HW := Lib.hid hbel
        have hR : hasK L k = (d == 0) := by
          rw [hasK_of (by rw [← HQ.out]; exact hp), Bool.eq_iff_iff, decide_eq_true_iff, beq_iff_eq]
          omega
        have HR := Lib.hid hR
        have hml : (i : Int) < (L.length : Int) := by omega
        have hml2 : decide (i < L.length) = true := by simp; omega
        have hm0 : (0 : Int) ≤ (i : Int) := by omega
        clear hc hp hkk hd hbel hi hj hjl hbb hR hend hlt
        obtain ⟨x, n⟩ := p
        dsimp only at c1 c2 HC
        go_wp2_with fail
        refine HC.out.mono ?_
        rintro e w1 ⟨rfl, hb1⟩
        have HB1 := Lib.hid hb1
        clear hb1
        go_wp2_with fail
        go_ret2
        exact ⟨by rw [HR.out]; rfl, HW.out.trans (HB1.out.mono HW.out.size)⟩
      · have HR := Lib.hid (hasK_end (L := L) (k := k) (by rw [← HQ.out]; omega))
        have hml : ¬ (i : Int) < (L.length : Int) := by omega
        have hml2 : decide (i < L.length) = false := by simp; omega
        clear hi hj hjl hend hlt
        go_wp2_with fail
        go_ret2
        exact ⟨by rw [HR.out]; rfl, hbel⟩
/-- Block g is a list that has counted L. -/
def Lst (w : World) (g : Nat) (A : Option Addr) (c : Nat) (L : List Pr) : Prop := Blk w g 138 #[.slice A L.length c, .int .u64 (tot L : Nat)] ∧ OwnP w g A c L
theorem Lst.below {w w' : World} {g : Nat} {A : Option Addr} {c : Nat} {L : List Pr} (h : Lst w g A c L) (hb : Below w.heap.size w w') : Lst w' g A c L := ⟨h.1.below hb h.1.lt, Own.below h.2 hb⟩
/-- What a list's pairs are like. -/
structure Fine (L : List Pr) : Prop where
  srt : Srt L
  pos : Pos L
  keys : KeysIn L
  tot : tot L ≤ 4611686018427387904
  len : L.length ≤ 100000
theorem Fine.nil : Fine [] := ⟨Srt.nil, Pos.nil, (by intro p h; cases h), by decide, Nat.zero_le _⟩
set_option maxRecDepth 100000 in
theorem place_t (g : Nat) (A : Option Addr) (c : Nat) (L : List Pr) (k : Int) (w : World) (h : Lst w g A c L) (hf : Fine L) (h0 : -1048577 ≤ k) (h1 : k ≤ 1048577) :
    Calls Tryz.prog 100 #[.pointer (some ⟨g, 0, none⟩), .int .i64 k] w fun e w' => e = .returned (.tuple #[.int .i64 (lo L k : Nat), .bool (hasK L k)]) ∧ Below w.heap.size w w' := by
  have c0 : w.cell? ⟨g, 0, none⟩ = some (.slice A L.length c) := by rw [h.1.cell]; rfl
  have HB := Lib.hid (bs_t A c L k w (OwnP.reads h.2) hf.srt hf.keys (by have := hf.len; omega) h0 h1)
  clear h hf h0 h1
  go_enter Tryz.func100, Tryz.ntmps100
  go_wp2_with fail
  refine HB.out.mono ?_
  rintro e w1 ⟨rfl, hb1⟩
  have HB1 := Lib.hid hb1
  clear hb1
  go_wp2_with fail
  go_ret2
  exact ⟨rfl, HB1.out⟩
set_option maxRecDepth 100000 in
set_option maxHeartbeats 1600000 in
theorem sum_t (g : Nat) (A : Option Addr) (c : Nat) (L : List Pr) (k : Nat) (w : World) (h : Lst w g A c L) (hf : Fine L) (hk : k ≤ L.length) :
    Calls Tryz.prog 116 #[.pointer (some ⟨g, 0, none⟩), .int .i64 (k : Int)] w fun e w' => e = .returned (.int .u64 (tot (L.take k) : Nat)) ∧ Below w.heap.size w w' := by
  have c0 : w.cell? ⟨g, 0, none⟩ = some (.slice A L.length c) := by rw [h.1.cell]; rfl
  have HR := Lib.hid (OwnP.reads h.2)
  have hkc : k ≤ c := by
    rcases Nat.eq_zero_or_pos L.length with h0 | h0
    · omega
    · obtain ⟨_, _, _, _, h2, _⟩ := Own.form (show Own w g 64 2 A L.length c (pcs L) from h.2) h0
      omega
  have hkc2 : (k : Int) ≤ (c : Int) := by omega
  have hk0 : (0 : Int) ≤ (k : Int) := by omega
  have hkl : (k : Int) ≤ 100000 := by have := hf.len; omega
  have HT := Lib.hid hf.tot
  have HKL := Lib.hid hk
  clear h hf hkc hk
  go_enter Tryz.func116, Tryz.ntmps116
  go_wp2_with fail
  go_loopw [5, 15] (fun u v wr => ∃ i : Nat, u = .int .u64 (tot (L.take i) : Nat) ∧ v = .int .i64 (i : Int) ∧ i ≤ k ∧ Below w.heap.size w wr) (fun _ v _ => k - (intOf v).toNat)
  case atStart => exact ⟨0, rfl, rfl, Nat.zero_le _, Below.refl _ _⟩
  case round =>
    obtain ⟨i, rfl, rfl, hi, hbel⟩ := hrel
    obtain ⟨wo, rfl⟩ : ∃ wo : World, wo = wr := ⟨_, rfl⟩
    by_cases hlt : i < k
    · have hii : (i : Int) < (k : Int) := by omega
      have hi0 : (0 : Int) ≤ (i : Int) := by omega
      obtain ⟨p, hp⟩ : ∃ p, L[i]? = some p := ⟨_, List.getElem?_eq_getElem (by have := HKL.out; omega)⟩
      obtain ⟨b, o, rfl, hbb, hc⟩ := (HR.out.below hbel).at_ (by have := HKL.out; omega)
      obtain ⟨d1, d2⟩ := hc i p hp
      have htn := tot_take_next hp
      have htl := tot_take_le' L (i + 1)
      have ht62 := HT.out
      have HTN := Lib.hid htn
      have HI := Lib.hid hlt
      have HW := Lib.hid hbel
      obtain ⟨x, n⟩ := p
      dsimp only at d1 d2 htn HTN
      have hs62 : (tot (L.take i) : Int) + (n : Int) ≤ 4611686018427387904 := by omega
      generalize tot (L.take i) = m at *
      clear hc hp htn htl ht62 hbel hi hbb hlt
      go_wp2_with fail
      go_roundw
      case rel => exact ⟨i + 1, by rw [HTN.out]; go_num, by go_num, HI.out, newB HW.out _⟩
      case measure => have := HI.out; simp [intOf]; omega
    · obtain rfl : i = k := by omega
      clear hi hlt
      go_wp2_with fail
      go_ret
      exact ⟨rfl, hbel⟩
end Go.Proofs.YtbfhiegbgkkgiaaGreat
/- slices.Insert of one pair, walked. -/

namespace Go.Proofs.YtbfhiegbgkkgiaaGreat
open Go.RowKit
open Pl
theorem ins_row {cur : List Value} {L : List Pr} {i : Nat} (p : Pr) (hc : cur.take (L.length * 2) = pcs L) (hl : (L.length + 1) * 2 ≤ cur.length) (hi : i ≤ L.length) {row1 : List Value} (h1 : row1 = cur.take ((i + 1) * 2) ++ pcs (L.drop i) ++ cur.drop ((i + 1) * 2 + (pcs (L.drop i)).length)) :
    row1.length = cur.length ∧ (row1.take (i * 2) ++ pcs [p] ++ row1.drop (i * 2 + (pcs [p]).length)).length = cur.length ∧ (row1.take (i * 2) ++ pcs [p] ++ row1.drop (i * 2 + (pcs [p]).length)).take ((L.length + 1) * 2) = pcs (L.take i ++ p :: L.drop i) := by
  have hlen : (pcs (L.drop i)).length = (L.length - i) * 2 := by rw [pcs_length, List.length_drop]
  have hp : (pcs [p]).length = 2 := rfl
  have hr1 : row1.length = cur.length := by
    rw [h1]
    simp only [List.length_append, List.length_take, List.length_drop, hlen]
    omega
  have e1 : row1.take (i * 2) = pcs (L.take i) := by
    rw [h1, List.append_assoc, List.take_append_of_le_length (by rw [List.length_take]; omega), List.take_take, Nat.min_eq_left (by omega)]
    have h2 : cur.take (i * 2) = (cur.take (L.length * 2)).take (i * 2) := by rw [List.take_take, Nat.min_eq_left (by omega)]
    have h3 : pcs L = pcs (L.take i) ++ pcs (L.drop i) := by rw [← pcs_append, List.take_append_drop]
    rw [h2, hc, h3, List.take_left' (by rw [pcs_length, List.length_take]; omega)]
  have e2 : row1.drop (i * 2 + 2) = pcs (L.drop i) ++ cur.drop ((i + 1) * 2 + (pcs (L.drop i)).length) := by
    rw [h1, List.append_assoc, List.drop_left' (by rw [List.length_take]; omega)]
  refine ⟨hr1, ?_, ?_⟩
  · simp only [List.length_append, List.length_take, List.length_drop, hp]
    omega
  · rw [hp, e1, e2, List.append_assoc, show pcs [p] ++ (pcs (L.drop i) ++ cur.drop ((i + 1) * 2 + (pcs (L.drop i)).length)) = pcs (p :: L.drop i) ++ cur.drop ((i + 1) * 2 + (pcs (L.drop i)).length) from rfl, ← List.append_assoc, ← pcs_append]
    exact List.take_left' (by rw [pcs_length, List.length_append, List.length_take, List.length_cons, List.length_drop]; omega)
theorem grow_row {cs : List Value} {L : List Pr} {i : Nat} (p : Pr) (hc : cs.take (i * 2) = pcs (L.take i)) (hl : (L.length + 1) * 2 ≤ cs.length) (hi : i ≤ L.length) {row1 : List Value} (h1 : row1 = cs.take (i * 2) ++ pcs [p] ++ cs.drop (i * 2 + (pcs [p]).length)) :
    row1.length = cs.length ∧ (row1.take ((i + 1) * 2) ++ pcs (L.drop i) ++ row1.drop ((i + 1) * 2 + (pcs (L.drop i)).length)).length = cs.length ∧ (row1.take ((i + 1) * 2) ++ pcs (L.drop i) ++ row1.drop ((i + 1) * 2 + (pcs (L.drop i)).length)).take ((L.length + 1) * 2) = pcs (L.take i ++ p :: L.drop i) := by
  have hlen : (pcs (L.drop i)).length = (L.length - i) * 2 := by rw [pcs_length, List.length_drop]
  have hp : (pcs [p]).length = 2 := rfl
  have hr1 : row1.length = cs.length := by
    rw [h1]
    simp only [List.length_append, List.length_take, List.length_drop, hp]
    omega
  have e1 : row1.take ((i + 1) * 2) = pcs (L.take i) ++ pcs [p] := by
    rw [h1, hc]
    exact List.take_left' (by rw [List.length_append, pcs_length, List.length_take, hp]; omega)
  refine ⟨hr1, ?_, ?_⟩
  · simp only [List.length_append, List.length_take, List.length_drop, hlen]
    omega
  · rw [e1, ← pcs_append, ← pcs_append, List.append_assoc, List.singleton_append]
    exact List.take_left' (by rw [pcs_length, List.length_append, List.length_take, List.length_cons, List.length_drop]; omega)
/-- What an insertion leaves. -/
def Inserted (w : World) (base : Nat) (A : Option Addr) (L : List Pr) (e : Ending) (w' : World) : Prop :=
  ∃ A' c', e = .returned (.slice A' L.length c') ∧ OwnP w' base A' c' L ∧ w.grownBy w' (blockOf A) ∧ (blockOf A' = blockOf A ∨ ∃ j, blockOf A' = some j ∧ w.heap.size ≤ j)
theorem own_row {w' : World} {base g c n : Nat} {L : List Pr} {cs : List Value} (hb : base ≤ g) (hg : w'.heap[g]? = some (.cells cs.toArray 64 (0, 0))) (hn : n = L.length) (hnc : n ≤ c) (hcm : c ≤ maxLen) (hsz : cs.length = c * 2) (ht : cs.take (n * 2) = pcs L) : OwnP w' base (some ⟨g, 0, none⟩) c L := by
  subst hn
  exact ⟨pcs_length _, .inr ⟨g, c, _, rfl, hb, hg, hnc, hcm, by simpa using hsz, by simpa using ht⟩⟩
set_option maxRecDepth 100000 in
theorem pair_size : (Tryz.prog.info? 64).map (·.size) = some 2 := by kernel_rfl
set_option maxRecDepth 100000 in
set_option maxHeartbeats 1600000 in
theorem ins_end (base : Nat) (A : Option Addr) (c gv : Nat) (L : List Pr) (k : Int) (n : Nat) (w : World) (h : OwnP w base A c L) (hl : L.length ≤ 200000) (hbase : base ≤ w.heap.size) (hv : Blk w gv 64 #[.int .i64 k, .int .u64 (n : Int)]) :
    Calls Tryz.prog 101 #[.slice A L.length c, .int .i64 (L.length : Int), .slice (some ⟨gv, 0, none⟩) 1 1] w (Inserted w base A (L ++ [(k, n)])) := by
  have hr : Reads w w.heap.size 2 (some ⟨gv, 0, none⟩) 1 (pcs [(k, n)]) := Reads.lit (show w.heap[gv]? = some (.cells _ _ _) from hv) rfl rfl
  have hlc : L.length ≤ c := by
    rcases h.2 with ⟨hv, h0⟩ | ⟨_, _, _, hv, _, _, h2, _⟩
    · injection hv with _ h2 h3; omega
    · injection hv with _ h3 h4; omega
  have hll : (L.length : Int) ≤ 200000 := by omega
  have hlc2 : (L.length : Int) ≤ (c : Int) := by omega
  have HO := Lib.hid h
  have HR := Lib.hid hr
  have HBA := Lib.hid hbase
  clear hv h hr hbase
  obtain ⟨T, hT⟩ : ∃ T, T = L ++ [(k, n)] := ⟨_, rfl⟩
  have hTl : T.length = L.length + 1 := by rw [hT]; simp
  rw [← hT]
  have HT := Lib.hid hT
  have HTL := Lib.hid hTl
  clear hT hTl
  generalize hgn : L.length = N at *
  have HGN := Lib.hid hgn
  clear hgn
  by_cases hcap : c = N
  all_goals
    go_enter Tryz.func101, Tryz.ntmps101
    go_wp2_with (at_builtin; refine Hid.out ?_)
    refine wpList_app (xs := pcs L) rfl rfl elem_pair rfl (show Own w base 64 2 A N c (pcs L) from HGN.out ▸ HO.out) rfl HR.out (pcs_one _) (N + 1) rfl (pcs T) (by rw [HT.out, pcs_append]) (by unfold maxLen; omega) (by omega) HBA.out ?_
    intro A3 c3 w3 o3 g3 q3
    go_wp2_with fail
    go_ret
    exact ⟨A3, c3, by rw [HTL.out]; rfl, by unfold OwnP; rw [HTL.out]; exact o3, g3, q3.imp id (fun e => ⟨_, e, Nat.le_refl _⟩)⟩
theorem grown_setRow {w w1 : World} {g : Nat} (h : w.grownBy w1 (some g)) (cs : Array Value) : w.grownBy (w1.setRow g cs) (some g) :=
  ⟨h.os, h.tape, h.output, by simpa [World.setRow] using h.size, fun k hk hne => (setRow_other w1 g k cs (fun e => hne (by rw [e]))).trans (h.block k hk hne)⟩
set_option maxRecDepth 100000 in
set_option maxHeartbeats 3200000 in
theorem ins_room (base g c gv : Nat) (L : List Pr) (k : Int) (n i : Nat) (w : World) (h : OwnP w base (some ⟨g, 0, none⟩) c L) (hl : L.length ≤ 200000) (hi : i < L.length) (hroom : L.length + 1 ≤ c) (hv : Blk w gv 64 #[.int .i64 k, .int .u64 (n : Int)]) (hne : gv ≠ g) :
    Calls Tryz.prog 101 #[.slice (some ⟨g, 0, none⟩) L.length c, .int .i64 (i : Int), .slice (some ⟨gv, 0, none⟩) 1 1] w (Inserted w base (some ⟨g, 0, none⟩) (L.take i ++ (k, n) :: L.drop i)) := by
  rcases h.2 with ⟨hv0, _⟩ | ⟨g0, cap, cur, hv0, hbg, hg, hnc, hcm, hcs, htake⟩
  · cases hv0
  injection hv0 with h1 h2 h3
  injection h1 with h1
  injection h1 with h1 _ _
  subst h1
  subst h3
  obtain ⟨row1, hrow1⟩ : ∃ row1, row1 = cur.toList.take ((i + 1) * 2) ++ pcs (L.drop i) ++ cur.toList.drop ((i + 1) * 2 + (pcs (L.drop i)).length) := ⟨_, rfl⟩
  have hcl0 : cur.toList.length = cur.size := Array.length_toList
  have hll : (L.length + 1) * 2 ≤ cur.toList.length := by rw [hcl0, hcs]; omega
  obtain ⟨r1, r2, r3⟩ := ins_row (k, n) htake hll (Nat.le_of_lt hi) hrow1
  have hcl : (pcs (L.drop i)).length = (L.length - i) * 2 := by rw [pcs_length, List.length_drop]
  have hown := World.ownsRow.cells h (g := g) rfl
  have hb : Blk w g 64 cur := hg
  have hcp1 : ∀ ty dc sc, (Builtin.copy_ #[37, 37] ty #[.slice (some ⟨g, (i + 1) * 2, none⟩) (L.length - i) dc, .slice (some ⟨g, i * 2, none⟩) (L.length + 1 - i) sc]).run Tryz.prog w.drew = .ok (goInt ((L.length - i : Nat) : Int)) (w.drew.setRow g row1.toArray) := fun ty dc sc => by
    have := run_copy_sz (P := Tryz.prog) (w := w.drew) 37 37 ty 64 g ((i + 1) * 2) (L.length - i) dc ⟨g, i * 2, none⟩ (L.length + 1 - i) sc cur 64 (pcs (L.drop i)) 2 (L.length - i) Tryz.underlying37 pair_size hb (show _ = min _ _ by omega) hcl
      (fun j v hj => by
        rw [Addr.add_lit]
        have hj2 : (pcs L)[i * 2 + j]? = some v := by
          rw [← List.take_append_drop i L, pcs_append, List.getElem?_append_right (by rw [pcs_length, List.length_take]; omega), pcs_length, List.length_take, show i * 2 + j - min i L.length * 2 = j by omega]
          exact hj
        have := hown (i * 2 + j) v hj2
        rw [Addr.add_lit, Nat.zero_add] at this
        exact this)
      (by rw [hcl]; omega) (pcs_one _)
    rw [hrow1]
    exact this
  obtain ⟨W1, hW1⟩ : ∃ W1, W1 = w.drew.setRow g row1.toArray := ⟨_, rfl⟩
  have hg1 : W1.heap[g]? = some (.cells row1.toArray 64 (0, 0)) := by rw [hW1]; exact setRow_heap _ _ _ _ _ _ hg
  have hv1 : Blk W1 gv 64 #[.int .i64 k, .int .u64 (n : Int)] := by rw [hW1]; exact (setRow_other w.drew g gv _ hne).trans hv
  have hcp2 : ∀ ty dc, (Builtin.copy_ #[37, 37] ty #[.slice (some ⟨g, i * 2, none⟩) (L.length + 1 - i) dc, .slice (some ⟨gv, 0, none⟩) 1 1]).run Tryz.prog W1 = .ok (goInt 1) (W1.setRow g (row1.take (i * 2) ++ pcs [(k, n)] ++ row1.drop (i * 2 + (pcs [(k, n)]).length)).toArray) := fun ty dc => by
    exact run_copy_sz (P := Tryz.prog) (w := W1) 37 37 ty 64 g (i * 2) (L.length + 1 - i) dc ⟨gv, 0, none⟩ 1 1 row1.toArray 64 (pcs [(k, n)]) 2 1 Tryz.underlying37 pair_size hg1 (show _ = min _ _ by omega) rfl
      (fun j v hj => by
        rw [Addr.add_lit, Nat.zero_add, hv1.cell, ← hj]
        rcases j with _ | _ | j <;> rfl)
      (by simp only [List.size_toArray]; have e : (pcs [(k, n)]).length = 2 := rfl; rw [e]; omega) (pcs_one _)
  rw [← hW1] at hcp1
  obtain ⟨row2, hrow2⟩ : ∃ row2, row2 = row1.take (i * 2) ++ pcs [(k, n)] ++ row1.drop (i * 2 + (pcs [(k, n)]).length) := ⟨_, rfl⟩
  rw [← hrow2] at hcp2 r2 r3
  obtain ⟨T, hT⟩ : ∃ T, T = L.take i ++ (k, n) :: L.drop i := ⟨_, rfl⟩
  have hTl : T.length = L.length + 1 := by rw [hT]; simp only [List.length_append, List.length_take, List.length_cons, List.length_drop]; omega
  rw [← hT] at r3 ⊢
  have HTL := Lib.hid hTl
  have hov : ∀ o lb cb, (callFunc 119 #[.slice (some ⟨gv, 0, none⟩) 1 1, .slice (some ⟨g, o, none⟩) lb cb]).run Tryz.prog w = .ok (.value (.bool false)) w := fun o lb cb => by
    rw [run_callFunc_extern Tryz.func119 (by kernel_rfl) (by kernel_rfl) (by kernel_rfl) (e := Extern.SlicesOverlaps.overlaps #[37, 37] #[4]) (by kernel_rfl),
      Lib.run_overlaps_apart w 37 4 64 Tryz.underlying37 2 (fun _ => by kernel_rfl) ⟨gv, 0, none⟩ ⟨g, o, none⟩ 1 1 lb cb hne 64 64 2 cur.size (by unfold World.shape?; rw [show w.heap[gv]? = _ from hv]; rfl) (by unfold World.shape?; rw [hg]) (by rw [hcs]; omega) (hv.free 0) (hv.free 2)]
    rfl
  have hll2 : (L.length : Int) ≤ 200000 := by omega
  have hii : (i : Int) < (L.length : Int) := by omega
  have hi0 : (0 : Int) ≤ (i : Int) := by omega
  have hie : ((i : Int) == (L.length : Int)) = false := by simp; omega
  have hie2 : (i == L.length) = false := by simp; omega
  have hcc : ¬ (c = i + 1) := by omega
  have hcc2 : ¬ (c = i) := by omega
  have hroom2 : (L.length : Int) + 1 ≤ (c : Int) := by omega
  have hb1 : (0 : Int) ≤ (i : Int) + 1 := by omega
  have htn : ((i : Int) + 1).toNat = i + 1 := by omega
  have hb3 : (i : Int) + 1 ≤ (L.length : Int) + 1 := by omega
  have hb4 : (i : Int) ≤ (L.length : Int) + 1 := by omega
  have hw1 : IntKind.i64.wrap ((i : Int) + 1) = (i : Int) + 1 := IntWalk.i64_in _ ⟨by omega, by omega⟩
  have HR := Lib.hid (And.intro r1 (And.intro r2 r3))
  have HW1 := Lib.hid hW1
  have HG1 := Lib.hid hg1
  have HROOM := Lib.hid hroom
  have HCM := Lib.hid hcm
  have HCS := Lib.hid hcs
  have HC0 := Lib.hid hcl0
  have HBG := Lib.hid hbg
  clear h hg hb hW1 hg1 hv hv1 hcs htake hown hrow1 hrow2 hT hTl r1 r2 r3 hcl hcl0 hll hroom hcm hne hbg hnc
  go_enter Tryz.func101, Tryz.ntmps101
  go_wp2_with (simp only [hov])
  go_region_law (refine step_copy_run rfl _ _ 37 37 rfl _ _ (by simp [Act.eval, Act.put]) (by simp [Act.eval, Act.put]) (hcp1 _ _ _) ?_)
  go_wp2_with (with_reducible refine wpList_copy_run rfl _ _ 37 37 rfl _ _ rfl rfl (hcp2 _ _) ?_)
  go_ret
  refine ⟨some ⟨g, 0, none⟩, c, by rw [HTL.out]; rfl, own_row (n := L.length + 1) HBG.out (setRow_heap _ _ _ _ _ _ HG1.out) HTL.out.symm HROOM.out HCM.out (by rw [HR.out.2.1, HC0.out, HCS.out]) HR.out.2.2, ?_, .inl rfl⟩
  rw [HW1.out]
  exact grown_setRow (grown_setRow (onlyDrew (onlySelf w (some g))) _) _
set_option maxRecDepth 100000 in
set_option maxHeartbeats 3200000 in
theorem ins_grow (base g c gv : Nat) (L : List Pr) (k : Int) (n i : Nat) (w : World) (h : OwnP w base (some ⟨g, 0, none⟩) c L) (hl : L.length ≤ 200000) (hi : i < L.length) (hroom : c < L.length + 1) (hbase : base ≤ w.heap.size) (hv : Blk w gv 64 #[.int .i64 k, .int .u64 (n : Int)]) :
    Calls Tryz.prog 101 #[.slice (some ⟨g, 0, none⟩) L.length c, .int .i64 (i : Int), .slice (some ⟨gv, 0, none⟩) 1 1] w (Inserted w base (some ⟨g, 0, none⟩) (L.take i ++ (k, n) :: L.drop i)) := by
  have hown := World.ownsRow.cells h (g := g) rfl
  have hlt : g < w.heap.size := ((Own.block (show Own w base 64 2 (some ⟨g, 0, none⟩) L.length c (pcs L) from h) rfl)).2
  obtain ⟨_, he, _, _, hlc, _, _⟩ := Own.form (show Own w base 64 2 (some ⟨g, 0, none⟩) L.length c (pcs L) from h) (by omega)
  clear he
  obtain ⟨ie, hie0, hie1, hie2, hie3⟩ := info_parts (show (Tryz.prog.info? 64).map (fun i => (i.zero, i.size, i.bytes)) = some (some (.agg #[.int .i64 0, .int .u64 0]), 2, 16) by kernel_rfl)
  obtain ⟨m, hm⟩ : ∃ m, m = L.length + 1 - i := ⟨_, rfl⟩
  have him : i + m = L.length + 1 := by omega
  obtain ⟨c', cs, hrun, hcs, hnc, hcm, htake⟩ := run_grow_zeros (P := Tryz.prog) (w := w) (ty := 37) Tryz.underlying37 Tryz.underlying3 hie0 hie1 hie2 hie3 rfl ⟨g, 0, none⟩ i c (pcs (L.take i)) (by rw [pcs_length, List.length_take]; omega)
    (fun j u hj => by
      refine hown j u ?_
      rw [← List.take_append_drop i L, pcs_append, List.getElem?_append_left (List.getElem?_eq_some_iff.1 hj).1]
      exact hj) m (by omega) (by omega) (by omega) (by omega)
  rw [him] at hrun hnc
  have hmi : (L.length : Int) + 1 - (i : Int) = (m : Int) := by omega
  obtain ⟨W1, hW1⟩ : ∃ W1, W1 = w.drew.alloc (.cells cs 64) := ⟨_, rfl⟩
  rw [← hW1] at hrun
  obtain ⟨G, hG⟩ : ∃ G, G = w.heap.size := ⟨_, rfl⟩
  have hg1 : W1.heap[G]? = some (.cells cs 64 (0, 0)) := by rw [hW1, hG]; exact heap_alloc_new w.drew _
  have hb1 : Below G w W1 := by rw [hW1, hG]; exact ((Below.refl _ _).drew).alloc (by simp) _
  have hgG : g < G := by omega
  have hvG : gv < G := by have := hv.lt; omega
  have hv1 := hv.below hb1 hvG
  obtain ⟨row1, hrow1⟩ : ∃ row1, row1 = cs.toList.take (i * 2) ++ pcs [(k, n)] ++ cs.toList.drop (i * 2 + (pcs [(k, n)]).length) := ⟨_, rfl⟩
  have hcl0 : cs.toList.length = cs.size := Array.length_toList
  obtain ⟨r1, r2, r3⟩ := grow_row (k, n) htake (by rw [hcl0, hcs]; omega) (Nat.le_of_lt hi) hrow1
  have hcl : (pcs (L.drop i)).length = (L.length - i) * 2 := by rw [pcs_length, List.length_drop]
  have hp2 : (pcs [(k, n)]).length = 2 := rfl
  have hcp1 : ∀ ty dc, (Builtin.copy_ #[37, 37] ty #[.slice (some ⟨G, i * 2, none⟩) (L.length + 1 - i) dc, .slice (some ⟨gv, 0, none⟩) 1 1]).run Tryz.prog W1 = .ok (goInt 1) (W1.setRow G row1.toArray) := fun ty dc => by
    have := run_copy_sz (P := Tryz.prog) (w := W1) 37 37 ty 64 G (i * 2) (L.length + 1 - i) dc ⟨gv, 0, none⟩ 1 1 cs 64 (pcs [(k, n)]) 2 1 Tryz.underlying37 pair_size hg1 (show _ = min _ _ by omega) rfl
      (fun j v hj => by
        rw [Addr.add_lit, Nat.zero_add, hv1.cell, ← hj]
        rcases j with _ | _ | j <;> rfl)
      (by rw [hp2, hcs]; omega) (pcs_one _)
    rw [hrow1]
    exact this
  obtain ⟨W2, hW2⟩ : ∃ W2, W2 = W1.setRow G row1.toArray := ⟨_, rfl⟩
  have hg2 : W2.heap[G]? = some (.cells row1.toArray 64 (0, 0)) := by rw [hW2]; exact setRow_heap _ _ _ _ _ _ hg1
  have hb2 : Below G w W2 := by rw [hW2]; exact below_setRow hb1 (Nat.le_refl _) _
  rw [← hW2] at hcp1
  obtain ⟨row2, hrow2⟩ : ∃ row2, row2 = row1.take ((i + 1) * 2) ++ pcs (L.drop i) ++ row1.drop ((i + 1) * 2 + (pcs (L.drop i)).length) := ⟨_, rfl⟩
  rw [← hrow2] at r2 r3
  have hcp2 : ∀ ty dc sc, (Builtin.copy_ #[37, 37] ty #[.slice (some ⟨G, (i + 1) * 2, none⟩) (L.length - i) dc, .slice (some ⟨g, i * 2, none⟩) (L.length - i) sc]).run Tryz.prog W2.drew = .ok (goInt ((L.length - i : Nat) : Int)) (W2.drew.setRow G row2.toArray) := fun ty dc sc => by
    have := run_copy_sz (P := Tryz.prog) (w := W2.drew) 37 37 ty 64 G ((i + 1) * 2) (L.length - i) dc ⟨g, i * 2, none⟩ (L.length - i) sc row1.toArray 64 (pcs (L.drop i)) 2 (L.length - i) Tryz.underlying37 pair_size hg2 (show _ = min _ _ by omega) hcl
      (fun j v hj => by
        rw [Addr.add_lit]
        have hj2 : (pcs L)[i * 2 + j]? = some v := by
          rw [← List.take_append_drop i L, pcs_append, List.getElem?_append_right (by rw [pcs_length, List.length_take]; omega), pcs_length, List.length_take, show i * 2 + j - min i L.length * 2 = j by omega]
          exact hj
        have := hown (i * 2 + j) v hj2
        rw [Addr.add_lit, Nat.zero_add] at this
        exact (hb2.cell (p := ⟨g, i * 2 + j, none⟩) hgG).trans this)
      (by simp only [List.size_toArray]; rw [hcl]; omega) (pcs_one _)
    rw [hrow2]
    exact this
  obtain ⟨T, hT⟩ : ∃ T, T = L.take i ++ (k, n) :: L.drop i := ⟨_, rfl⟩
  have hTl : T.length = L.length + 1 := by rw [hT]; simp only [List.length_append, List.length_take, List.length_cons, List.length_drop]; omega
  rw [← hT] at r3 ⊢
  have HTL := Lib.hid hTl
  have hll2 : (L.length : Int) ≤ 200000 := by omega
  have hii : (i : Int) < (L.length : Int) := by omega
  have hi0 : (0 : Int) ≤ (i : Int) := by omega
  have hie : ((i : Int) == (L.length : Int)) = false := by simp; omega
  have hie4 : (i == L.length) = false := by simp; omega
  have hcc : ¬ (c = i + 1) ∨ c = i + 1 := by omega
  have hcc2 : ¬ (c = i) := by omega
  have hcc3 : ¬ (c' = i + 1) := by omega
  have hcc4 : ¬ (c' = i) := by omega
  have hroom2 : (c : Int) < (L.length : Int) + 1 := by omega
  have hic : (i : Int) ≤ (c : Int) := by omega
  have hb1' : (0 : Int) ≤ (i : Int) + 1 := by omega
  have htn : ((i : Int) + 1).toNat = i + 1 := by omega
  have hb3 : (i : Int) + 1 ≤ (L.length : Int) + 1 := by omega
  have hb4 : (i : Int) ≤ (L.length : Int) + 1 := by omega
  have hb5 : i ≤ L.length := by omega
  have hw1 : IntKind.i64.wrap ((i : Int) + 1) = (i : Int) + 1 := IntWalk.i64_in _ ⟨by omega, by omega⟩
  have HR := Lib.hid (And.intro r1 (And.intro r2 r3))
  have HG2 := Lib.hid hg2
  have HB2 := Lib.hid hb2
  have HNC := Lib.hid hnc
  have HCM := Lib.hid hcm
  have HCS := Lib.hid hcs
  have HC0 := Lib.hid hcl0
  have HGG := Lib.hid hG
  have HBA := Lib.hid hbase
  rw [← hG] at hrun
  clear h hW1 hW2 hg1 hg2 hb1 hb2 hv hv1 hvG hgG hcs htake hown hrow1 hrow2 hT hTl r1 r2 r3 hcl hcl0 hp2 hroom hcm hnc hcc hie0 hie1 hie2 hie3 hlt hlc hm him hG hbase
  go_enter Tryz.func101, Tryz.ntmps101
  go_wp2_with (at_builtin; refine wpList_append_run rfl _ _ 37 3 rfl _ _ rfl rfl hrun ?_)
  go_wp2_with (with_reducible refine wpList_copy_run rfl _ _ 37 37 rfl _ _ rfl rfl (hcp1 _ _) ?_)
  go_region_law (refine step_copy_run rfl _ _ 37 37 rfl _ _ (by simp [Act.eval, Act.put]) (by simp [Act.eval, Act.put]) (hcp2 _ _ _) ?_)
  go_wp2_with fail
  go_ret
  refine ⟨some ⟨G, 0, none⟩, c', by rw [HTL.out]; rfl, own_row (n := L.length + 1) (by rw [HGG.out]; exact HBA.out) (setRow_heap _ _ _ _ _ _ HG2.out) HTL.out.symm HNC.out HCM.out (by rw [HR.out.2.1, HC0.out, HCS.out]) HR.out.2.2, ?_, .inr ⟨G, rfl, by rw [HGG.out]; exact Nat.le_refl _⟩⟩
  have hb := below_setRow (B := G) (g := G) (HB2.out.drew) (Nat.le_refl _) row2.toArray
  exact ⟨hb.os, hb.tape, hb.output, hb.size, fun j hj _ => hb.block j (by rw [HGG.out]; exact hj)⟩
set_option maxRecDepth 100000 in
theorem insert_t (base : Nat) (A : Option Addr) (c gv : Nat) (L : List Pr) (k : Int) (n i : Nat) (w : World) (h : OwnP w base A c L) (hl : L.length ≤ 200000) (hi : i ≤ L.length) (hbase : base ≤ w.heap.size) (hv : Blk w gv 64 #[.int .i64 k, .int .u64 (n : Int)]) (hne : blockOf A ≠ some gv) :
    Calls Tryz.prog 101 #[.slice A L.length c, .int .i64 (i : Int), .slice (some ⟨gv, 0, none⟩) 1 1] w (Inserted w base A (L.take i ++ (k, n) :: L.drop i)) := by
  rcases Nat.lt_or_ge i L.length with hlt | hge
  · obtain ⟨g, rfl, _⟩ := Own.form (show Own w base 64 2 A L.length c (pcs L) from h) (by omega)
    rcases Nat.lt_or_ge c (L.length + 1) with hr | hr
    · exact ins_grow base g c gv L k n i w h hl hlt hr hbase hv
    · exact ins_room base g c gv L k n i w h hl hlt hr hv (fun e => hne (by rw [e]; rfl))
  · obtain rfl : i = L.length := by omega
    rw [List.take_length, List.drop_length]
    exact ins_end base A c gv L k n w h hl hbase hv
end Go.Proofs.YtbfhiegbgkkgiaaGreat
