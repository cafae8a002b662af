/- Match: Find walked. -/
import Derived.Test.YtcfmfhkajngknaaMatchTk
namespace Go.Proofs.Ytcfmfhkajngknaa
open Go.RowKit
open Mt
def FindPost (w : World) (l : List UInt8) (e : Ending) (w' : World) : Prop := ∃ A c, e = .returned (.slice A (toks l 0).length c) ∧ OwnT w' w.heap.size A c (toks l 0) ∧ Below w.heap.size w w'
set_option maxHeartbeats 3200000 in
theorem find_t (A : Option Addr) (c : Nat) (l : List UInt8) (w : World) (hb : Bts w w.heap.size A l) (hm : l.length ≤ 1048576) (hcl : l.length ≤ c) :
    Calls Try.prog 8 #[.slice A l.length c] w (FindPost w l) := by
  have HB := Lib.hid hb
  clear hb
  have hmm := @run_makeMap Try.prog
  go_enter Try.func8, Try.ntmps8
  go_wp2_with fail
  have hM0 : MapIs ((w.alloc (.map #[] 0)).alloc (.cells #[.slice A l.length c, .map (some w.heap.size)] 41)) w.heap.size (w.heap.size + 1) l 0 := (MapIs.new w l).grown (World.grownBy_alloc _ _ none)
  have hG0 : Blk ((w.alloc (.map #[] 0)).alloc (.cells #[.slice A l.length c, .map (some w.heap.size)] 41)) (w.heap.size + 1) 41 #[.slice A l.length c, .map (some w.heap.size)] := by
    have := Blk.new (w.alloc (.map #[] 0)) 41 #[.slice A l.length c, .map (some w.heap.size)]
    rwa [World.size_alloc] at this
  have hB0 : Below w.heap.size w ((w.alloc (.map #[] 0)).alloc (.cells #[.slice A l.length c, .map (some w.heap.size)] 41)) := ((Below.refl _ _).alloc (Nat.le_refl _) _).alloc (by simp) _
  have HM0 := Lib.hid hM0
  have HG0 := Lib.hid hG0
  have HB0 := Lib.hid hB0
  clear hM0 hG0 hB0 hmm
  go_loopw [4, 5] (fun v i wr => ∃ (at' : Nat) (A2 : Option Addr) (c2 : Nat) (L : List Tk), at' ≤ l.length ∧ i = .int .i64 at' ∧ v = .slice A2 L.length c2 ∧ L ++ toks l at' = toks l 0 ∧ L.length ≤ at' ∧ OwnT wr w.heap.size A2 c2 L ∧ MapIs wr w.heap.size (w.heap.size + 1) l at' ∧ Blk wr (w.heap.size + 1) 41 #[.slice A l.length c, .map (some w.heap.size)] ∧ Below w.heap.size w wr) (fun _ i _ => l.length - (intOf i).toNat)
  case atStart => exact ⟨0, none, 0, [], Nat.zero_le _, rfl, rfl, rfl, Nat.le_refl _, Own.nil _ _ _ _, HM0.out, HG0.out, HB0.out⟩
  case round =>
    obtain ⟨k, A2, c2, L, hk, rfl, rfl, htk, hLk, hown, hmap, hblk, hbel⟩ := hrel
    by_cases hlt : k < l.length
    · have hki : (k : Int) < (l.length : Int) := by omega
      have HBT := fun W h hb hM => best_t (w.heap.size + 1) A c l w.heap.size (w.heap.size + 1) k W h hb hM (by omega) hlt hcl
      have hto := tok_to l hlt
      have htl := tok_len l k
      have hstep := toks_step hlt
      rw [hstep] at htk
      have HTK : Hid ((L ++ [mk l k]) ++ toks l (k + max 1 (Mt.tok l k).1) = toks l 0) := Lib.hid (by rw [← htk]; simp)
      have hmkl := mk_len l k
      simp only [tokV, tokC_mk] at HBT
      rw [← hmkl] at hto htl HTK
      generalize mk l k = t at *
      have hbw := HB.out.at_below hbel
      have HT := Lib.hid (HBT _ hblk hbw hmap)
      have HO := Lib.hid hown
      have HM := Lib.hid hmap
      have HG := Lib.hid hblk
      have HW := Lib.hid hbel
      have HLK := Lib.hid hLk
      have HK := Lib.hid hlt
      clear HBT hstep htk hmkl hbw hown hmap hblk hbel hLk hk hlt
      go_wp2_with fail
      refine HT.out.mono ?_
      rintro e w2 ⟨rfl, hb2⟩
      have HB2 := Lib.hid hb2
      clear hb2
      obtain ⟨t1, t2, t3⟩ := t
      simp only at *
      go_wp2_with (at_builtin; refine Hid.out ?_)
      have hO2 := ((HO.out.below HB2.out).alloc (.cells #[.int .u8 (t1.toNat : Int), .int .i64 (t2 : Int), .int .i64 (t3 : Int)] 28)).alloc (.cells #[.int .u8 (t1.toNat : Int), .int .i64 (t2 : Int), .int .i64 (t3 : Int)] 28)
      have hM2 := ((HM.out.below HB2.out).grown (World.grownBy_alloc w2 (.cells #[.int .u8 (t1.toNat : Int), .int .i64 (t2 : Int), .int .i64 (t3 : Int)] 28) none)).grown (World.grownBy_alloc _ (.cells #[.int .u8 (t1.toNat : Int), .int .i64 (t2 : Int), .int .i64 (t3 : Int)] 28) none)
      have hG2 := ((HG.out.below HB2.out HG.out.lt).alloc (.cells #[.int .u8 (t1.toNat : Int), .int .i64 (t2 : Int), .int .i64 (t3 : Int)] 28)).alloc (.cells #[.int .u8 (t1.toNat : Int), .int .i64 (t2 : Int), .int .i64 (t3 : Int)] 28)
      have hT2 := (Blk.new w2 28 #[.int .u8 (t1.toNat : Int), .int .i64 (t2 : Int), .int .i64 (t3 : Int)]).alloc (.cells #[.int .u8 (t1.toNat : Int), .int .i64 (t2 : Int), .int .i64 (t3 : Int)] 28)
      have hW2 := newB (newB (nextB HW.out HB2.out) (.cells #[.int .u8 (t1.toNat : Int), .int .i64 (t2 : Int), .int .i64 (t3 : Int)] 28)) (.cells #[.int .u8 (t1.toNat : Int), .int .i64 (t2 : Int), .int .i64 (t3 : Int)] 28)
      have hN2 := tok_new (w2.alloc (.cells #[.int .u8 (t1.toNat : Int), .int .i64 (t2 : Int), .int .i64 (t3 : Int)] 28)) (t1, t2, t3)
      simp only [World.size_alloc] at hN2
      refine wpList_app (xs := tcs L) rfl rfl elem_tok rfl hO2 rfl hN2 (tcs_one _) (L.length + 1) rfl (tcs (L ++ [(t1, t2, t3)])) (tcs_append _ _).symm (by have := HLK.out; have := HK.out; unfold maxLen; omega) (by have := HLK.out; have := HK.out; omega) hW2.size ?_
      intro A3 c3 w3 o3 g3 q3
      have hM3 := hM2.app hO2 (by decide) g3
      have hG3 := hG2.grown g3 (fun e => Own.ne_blk hO2 hG2 (by decide) e.symm)
      have hT3 := hT2.grown g3 (fun e => by
        have h1 := (HO.out.block e.symm).2
        have h2 := HB2.out.size
        omega)
      have hW3 := appB hW2 hO2 g3 (Nat.le_refl _) hW2.size
      have hz3 : w.heap.size + 2 ≤ w3.heap.size := by
        have h1 := hG3.lt
        omega
      have f3 : w3.cell? ⟨w2.heap.size, 1, none⟩ = some (.int .i64 (t2 : Int)) := by rw [hT3.cell]; rfl
      have HO3 : Hid (OwnT w3 w.heap.size A3 c3 (L ++ [(t1, t2, t3)])) := Lib.hid (by unfold OwnT; rw [List.length_append]; exact o3)
      have HM3 := Lib.hid hM3
      have HG3 := Lib.hid hG3
      have HW3 := Lib.hid hW3
      have HZ3 := Lib.hid hz3
      clear hN2 hO2 hM2 hG2 hT2 hW2 o3 g3 q3 hM3 hG3 hT3 hW3 hz3 HO HM HG HB2 HT HW
      obtain ⟨n, hn⟩ : ∃ n, n = max 1 t2 := ⟨_, rfl⟩
      rw [← hn] at hto HTK
      rcases htl with h0 | h0
      · have h0 := h0.1
        subst h0
        obtain rfl : n = 1 := by omega
        clear hn
        go_wp2_with fail
        go_loopw [5, 25] (fun i v wv => ∃ j kk : Nat, j ≤ 1 ∧ kk = k + j ∧ i = .int .i64 (kk : Int) ∧ v = .int .i64 (j : Int) ∧ OwnT wv w.heap.size A3 c3 (L ++ [(t1, 0, t3)]) ∧ MapIs wv w.heap.size (w.heap.size + 1) l kk ∧ Blk wv (w.heap.size + 1) 41 #[.slice A l.length c, .map (some w.heap.size)] ∧ Below w.heap.size w wv ∧ w.heap.size + 2 ≤ wv.heap.size) (fun _ v _ => 1 - (intOf v).toNat)
        case atStart => exact ⟨0, k, Nat.zero_le _, rfl, rfl, rfl, HO3.out, HM3.out, HG3.out, HW3.out, HZ3.out⟩
        case round =>
          obtain ⟨j, kk, hj, hkk, rfl, rfl, hown, hmap, hblk, hbel, hsz⟩ := hrel
          by_cases hjn : j < 1
          · have hji : (j : Int) < (1 : Int) := by omega
            have hkl : (kk : Int) < (l.length : Int) := by omega
            have HN := Lib.hid (note_t (w.heap.size + 1) A c l w.heap.size (w.heap.size + 1) kk wr hblk (HB.out.at_below hbel) hmap (by omega) (by omega) hcl (by omega))
            have HO := Lib.hid hown
            have HM := Lib.hid hmap
            have HG := Lib.hid hblk
            have HW := Lib.hid hbel
            have HZ := Lib.hid hsz
            have HJ := Lib.hid hjn
            have HKK := Lib.hid hkk
            clear hown hmap hblk hbel hsz hj hjn hkk
            go_wp2_with fail
            refine HN.out.mono ?_
            rintro e w4 ⟨rfl, hm4, ho4⟩
            have HM4 := Lib.hid hm4
            have HO4 := Lib.hid ho4
            clear hm4 ho4
            go_wp2_with fail
            go_roundw
            case rel => exact ⟨j + 1, kk + 1, HJ.out, by rw [HKK.out]; omega, by go_num, by go_num, Own.only HO.out HO4.out (nk_own HM.out HO.out (by decide)), HM4.out, HG.out.only HO4.out (nk_not HM.out HG.out (by decide)), HW.out.trans (nk_below HO4.out (by have := HZ.out; omega) (Nat.le_refl _) (by omega)), Nat.le_trans HZ.out HO4.out.size⟩
            case measure => have := HJ.out; simp [intOf]; omega
          · obtain rfl : 1 = j := by omega
            have HO := Lib.hid hown
            have HM := Lib.hid hmap
            have HG := Lib.hid hblk
            have HW := Lib.hid hbel
            have HKK := Lib.hid hkk
            clear hown hmap hblk hbel hsz hj hjn hkk
            go_wp2_with fail
            go_roundw
            case rel => exact ⟨kk, A3, c3, L ++ [(t1, 0, t3)], by rw [HKK.out]; exact hto, rfl, by simp, by rw [HKK.out]; exact HTK.out, by have := HLK.out; have := HKK.out; simp; omega, HO.out, HM.out, HG.out, HW.out⟩
            case measure => have := HK.out; have := HKK.out; simp [intOf]; omega
      · obtain rfl : n = t2 := by omega
        have h0i : (1 : Int) < (n : Int) := by omega
        clear hn
        go_wp2_with fail
        go_loopw [5, 25] (fun i v wv => ∃ j kk : Nat, j ≤ n ∧ kk = k + j ∧ i = .int .i64 (kk : Int) ∧ v = .int .i64 (j : Int) ∧ OwnT wv w.heap.size A3 c3 (L ++ [(t1, n, t3)]) ∧ MapIs wv w.heap.size (w.heap.size + 1) l kk ∧ Blk wv (w.heap.size + 1) 41 #[.slice A l.length c, .map (some w.heap.size)] ∧ Below w.heap.size w wv ∧ w.heap.size + 2 ≤ wv.heap.size) (fun _ v _ => n - (intOf v).toNat)
        case atStart => exact ⟨0, k, Nat.zero_le _, rfl, rfl, rfl, HO3.out, HM3.out, HG3.out, HW3.out, HZ3.out⟩
        case round =>
          obtain ⟨j, kk, hj, hkk, rfl, rfl, hown, hmap, hblk, hbel, hsz⟩ := hrel
          by_cases hjn : j < n
          · have hji : (j : Int) < (n : Int) := by omega
            have hkl : (kk : Int) < (l.length : Int) := by omega
            have HN := Lib.hid (note_t (w.heap.size + 1) A c l w.heap.size (w.heap.size + 1) kk wr hblk (HB.out.at_below hbel) hmap (by omega) (by omega) hcl (by omega))
            have HO := Lib.hid hown
            have HM := Lib.hid hmap
            have HG := Lib.hid hblk
            have HW := Lib.hid hbel
            have HZ := Lib.hid hsz
            have HJ := Lib.hid hjn
            have HKK := Lib.hid hkk
            clear hown hmap hblk hbel hsz hj hjn hkk
            go_wp2_with fail
            refine HN.out.mono ?_
            rintro e w4 ⟨rfl, hm4, ho4⟩
            have HM4 := Lib.hid hm4
            have HO4 := Lib.hid ho4
            clear hm4 ho4
            go_wp2_with fail
            go_roundw
            case rel => exact ⟨j + 1, kk + 1, HJ.out, by rw [HKK.out]; omega, by go_num, by go_num, Own.only HO.out HO4.out (nk_own HM.out HO.out (by decide)), HM4.out, HG.out.only HO4.out (nk_not HM.out HG.out (by decide)), HW.out.trans (nk_below HO4.out (by have := HZ.out; omega) (Nat.le_refl _) (by omega)), Nat.le_trans HZ.out HO4.out.size⟩
            case measure => have := HJ.out; simp [intOf]; omega
          · obtain rfl : n = j := by omega
            have HO := Lib.hid hown
            have HM := Lib.hid hmap
            have HG := Lib.hid hblk
            have HW := Lib.hid hbel
            have HKK := Lib.hid hkk
            clear hown hmap hblk hbel hsz hj hjn hkk
            go_wp2_with fail
            go_roundw
            case rel => exact ⟨kk, A3, c3, L ++ [(t1, n, t3)], by rw [HKK.out]; exact hto, rfl, by simp, by rw [HKK.out]; exact HTK.out, by have := HLK.out; have := HKK.out; simp; omega, HO.out, HM.out, HG.out, HW.out⟩
            case measure => have := HK.out; have := HKK.out; simp [intOf]; omega
    · obtain rfl : k = l.length := by omega
      rw [toks_end (Nat.le_refl _), List.append_nil] at htk
      subst htk
      clear hLk hmap hblk hk hlt
      go_wp2_with fail
      go_ret
      exact ⟨A2, c2, rfl, hown, hbel⟩
end Go.Proofs.Ytcfmfhkajngknaa
