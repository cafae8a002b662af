/- Bytes of a sketch: written, walked. -/
import Derived.Test.YtbfhiegbgkkgiaaGreatC20
import Derived.Deep.RegionHeld3
import Derived.LoopN
import Derived.Outline
namespace Go.Proofs.YtbfhiegbgkkgiaaGreat
open Go.RowKit
open Pl
open Sc
open Wi
/-- What bytes are written: they lie above what was. -/
def Bytes (w : World) (L : List UInt8) (e : Ending) (w' : World) : Prop := ∃ A c, e = .returned (.tuple #[.slice A L.length c, .int .i64 0]) ∧ OwnB w' w.heap.size A c L ∧ Below w.heap.size w w'
theorem us4 {w : World} (a m n f : Nat) : Us (w.alloc (.cells #[.int .u64 (a : Int), .int .u64 (m : Int), .int .u64 (n : Int), .int .u64 (f : Int)] 39)) (w.alloc (.cells #[.int .u64 (a : Int), .int .u64 (m : Int), .int .u64 (n : Int), .int .u64 (f : Int)] 39)).heap.size (some ⟨w.heap.size, 0, none⟩) [a, m, n, f] :=
  Reads.lit (newest _ _) rfl rfl
set_option maxHeartbeats 3200000 in
set_option maxRecDepth 100000 in
theorem write_g (p a m : Nat) (KL : List Pr) (F : Nat) (w : World) (hK : Fine KL) (hKl : KL.length ≤ 4096) (ha : a ≤ 5000) (hm : m ≤ 4096) (hF : F ≤ 4611686018427387904)
    (h1 : Calls Tryz.prog 13 #[.pointer (some ⟨p, 0, none⟩)] w (NewPairs KL w))
    (h2 : ∀ W, Below w.heap.size w W → Calls Tryz.prog 11 #[.pointer (some ⟨p, 0, none⟩)] W fun e w' => e = .returned (.int .i64 (a : Int)) ∧ W = w')
    (h3 : ∀ W, Below w.heap.size w W → Calls Tryz.prog 12 #[.pointer (some ⟨p, 0, none⟩)] W fun e w' => e = .returned (.int .i64 (m : Int)) ∧ W = w')
    (h4 : ∀ W, Below w.heap.size w W → Calls Tryz.prog 14 #[.pointer (some ⟨p, 0, none⟩)] W fun e w' => e = .returned (.int .u64 (F : Nat)) ∧ W = w') :
    Calls Tryz.prog 8 #[.pointer (some ⟨p, 0, none⟩)] w (Bytes w (docW a m KL F)) := by
  have H1 := Lib.hid h1
  have H2 := Lib.hid h2
  have H3 := Lib.hid h3
  have H4 := Lib.hid h4
  have HK := Lib.hid hK
  have hKl' : (KL.length : Int) ≤ 4096 := by omega
  have ha' : (a : Int) ≤ 5000 := by omega
  have hm' : (m : Int) ≤ 4096 := by omega
  have HPU : Hid (∀ W A0, Us W W.heap.size A0 [a, m, KL.length, F] → Calls Tryz.prog 27 #[.string ⟨#[118, 118, 118, 118]⟩, .slice A0 4 4] W (Bytes W (headW a m KL.length F))) := Lib.hid (fun W A0 hb => by
    have h := put_t ⟨#[118, 118, 118, 118]⟩ A0 4 [a, m, KL.length, F] W hb (by simp) (by intro x hx; simp at hx; omega)
    rw [show (⟨#[118, 118, 118, 118]⟩ : ByteArray).data.toList = [118, 118, 118, 118] from rfl, putW_vvvv] at h
    exact h)
  have HHL : Hid ((headW a m KL.length F).length ≤ 40) := Lib.hid (headW_len (by omega) (by omega) (by omega) (by omega))
  obtain ⟨HD, hHD⟩ : ∃ HD, HD = headW a m KL.length F := ⟨_, rfl⟩
  have hdoc : docW a m KL F = HD ++ prsW none KL := by rw [hHD]; rfl
  rw [hdoc]
  rw [← hHD] at HPU HHL
  clear h1 h2 h3 h4 hK hF hHD hdoc
  go_enter Tryz.func8, Tryz.ntmps8
  go_wp2_with fail
  refine H1.out.mono ?_
  rintro e w1 ⟨A1, c1, rfl, hP, hb1⟩
  have HP := Lib.hid (OwnP.reads hP)
  have HB1 := Lib.hid hb1
  clear hP hb1
  go_wp2_with fail
  refine (H2.out w1 HB1.out).mono ?_
  rintro e _ ⟨rfl, rfl⟩
  go_wp2_with fail
  refine (H3.out w1 HB1.out).mono ?_
  rintro e _ ⟨rfl, rfl⟩
  go_wp2_with fail
  refine (H4.out w1 HB1.out).mono ?_
  rintro e _ ⟨rfl, rfl⟩
  go_wp2_with fail
  have b2 : Below w1.heap.size w1 (w1.alloc (.cells #[.int .u64 (a : Int), .int .u64 (m : Int), .int .u64 (KL.length : Int), .int .u64 (F : Int)] 39)) := (Below.refl _ _).alloc (Nat.le_refl _) _
  refine (HPU.out _ (some ⟨w1.heap.size, 0, none⟩) (us4 a m KL.length F)).mono ?_
  rintro e w2 ⟨A2, c2, rfl, o2, b3⟩
  have HB2 := Lib.hid (nextB b2 b3)
  have HO2 : Hid (OwnB w2 w1.heap.size A2 c2 HD) := Lib.hid (Own.mono (show Own w2 _ 5 1 A2 HD.length c2 (bvs HD) from o2) (by simp))
  clear b2 b3 o2
  dsimp only
  go_wp2_with fail
  have HKL : Hid (KL.length ≤ 4096) := Lib.hid hKl
  clear hKl
  go_loopw [34, 5] (fun v u wr => ∃ (i : Nat) (S : List UInt8) (A2 : Option Addr) (c2 : Nat), v = .int .i64 (i : Int) ∧ u = .slice A2 S.length c2 ∧ i ≤ KL.length ∧ S.length ≤ 40 + 20 * i ∧ HD ++ prsW none KL = S ++ prsW (prevK KL i) (KL.drop i) ∧ OwnB wr w1.heap.size A2 c2 S ∧ Below w1.heap.size w1 wr) (fun v _ _ => KL.length - (intOf v).toNat)
  case atStart => exact ⟨0, HD, A2, c2, rfl, rfl, Nat.zero_le _, by have := HHL.out; omega, rfl, HO2.out, HB2.out⟩
  case round =>
    clear HO2 HB2
    obtain ⟨i, S, A3, c3, rfl, rfl, hi, hSl, hdoc, ho, hbel⟩ := hrel
    obtain ⟨wo, rfl⟩ : ∃ wo : World, wo = wr := ⟨_, rfl⟩
    have HO2 := Lib.hid ho
    have HB2 := Lib.hid hbel
    have HDC := Lib.hid hdoc
    have HSL := Lib.hid hSl
    clear ho hbel hdoc hSl
    by_cases hlt : i < KL.length
    · have hii : (i : Int) < (KL.length : Int) := by omega
      have hi0 : (0 : Int) ≤ (i : Int) := by omega
      obtain ⟨x, hx⟩ : ∃ x, KL[i]? = some x := ⟨_, List.getElem?_eq_getElem hlt⟩
      obtain ⟨b, o, rfl, hbb, hc⟩ := (show Prs w1 w1.heap.size A1 KL from HP.out).at_ (by omega)
      obtain ⟨d1', d2'⟩ := hc i x hx
      have d1 := (HB2.out.cell (p := ⟨b, o + i * 2, none⟩) hbb).trans d1'
      have d2 := (HB2.out.cell (p := ⟨b, o + i * 2 + 1, none⟩) hbb).trans d2'
      have HX := Lib.hid hx
      have HI := Lib.hid hlt
      have hn64 : x.2 < 18446744073709551616 := by
        have h1 := HK.out.tot
        have h2 := tot_le_of_mem (List.mem_of_getElem? hx)
        omega
      have HN64 := Lib.hid hn64
      have HDN := Lib.hid (HDC.out.trans (by rw [prsW_step hx]))
      have HDL : Hid ((dkey (prevK KL i) x.1).length ≤ 10) := Lib.hid (dkey_len _ _ (HK.out.keys x (List.mem_of_getElem? hx)).1 (HK.out.keys x (List.mem_of_getElem? hx)).2 (fun q hq => by
        unfold prevK at hq
        split at hq
        · cases hq
        · cases hj : KL[i - 1]? with
          | none => rw [hj] at hq; cases hq
          | some y => rw [hj] at hq; cases hq; exact (HK.out.keys y (List.mem_of_getElem? hj)).1))
      by_cases hz : i = 0
      · have hi1 : ((i : Int) == 0) = true := by simp; omega
        have hi1b : (i == 0) = true := by simp; omega
        have hpv : prevK KL i = none := by rw [hz]; rfl
        rw [hpv] at HDN HDL
        obtain ⟨k, n⟩ := x
        dsimp only at d1 d2 HN64 HDN HDL
        clear hz hpv hx hbb hi hlt hc d1' d2' hn64
        have HZ : Hid (leb (sign (zk k)) = dkey none k) := Lib.hid rfl
        have HDN' : Hid (HD ++ prsW none KL = S ++ (leb (sign (zk k)) ++ leb n ++ prsW (prevK KL (i + 1)) (KL.drop (i + 1)))) := HDN
        have HDL' : Hid ((leb (sign (zk k))).length ≤ 10) := HDL
        clear HZ HDN HDL
        obtain ⟨L1, hL1⟩ : ∃ L1, L1 = leb (sign (zk k)) := ⟨_, rfl⟩
        rw [← hL1] at HDN' HDL'
        have HPZ := Lib.hid (fun A c W (h : OwnB W w1.heap.size A c S) (hb : w1.heap.size ≤ W.heap.size) => ddput_z (zk k) (zk_lt k) w1.heap.size A c S W h hb (by have := HSL.out; omega))
        rw [← hL1, ← zk_wrap] at HPZ
        clear hL1
        go_wp2_with fail
        have hal := newB HB2.out (.cells #[.int .i64 k, .int .u64 (n : Nat)] 64)
        have hoa : OwnB (wo.alloc (.cells #[.int .i64 k, .int .u64 (n : Nat)] 64)) w1.heap.size A3 c3 S := Own.alloc (show Own wo _ 5 1 A3 S.length c3 (bvs S) from HO2.out) _
        have hbk := Blk.new wo 64 #[.int .i64 k, .int .u64 (n : Nat)]
        obtain ⟨N, hN⟩ : ∃ N, N = wo.heap.size := ⟨_, rfl⟩
        have hsz : w1.heap.size ≤ (wo.alloc (.cells #[.int .i64 k, .int .u64 (n : Nat)] 64)).heap.size := by have := HB2.out.size; simp; omega
        rw [← hN] at hbk
        skip
        have HAL := Lib.hid hal
        have HBK := Lib.hid hbk
        have HOA := Lib.hid hoa
        have HSZ := Lib.hid hsz
        have HNA : Hid (blockOf A3 ≠ some N) := Lib.hid (Own.ne_blk (show Own _ w1.heap.size 5 1 A3 S.length c3 (bvs S) from hoa) hbk (by decide))
        clear d1 d2 hal hbk hoa hsz
        generalize wo.alloc (.cells #[.int .i64 k, .int .u64 (n : Nat)] 64) = W0 at *
        rw [← hN]
        clear hN
        refine (HPZ.out A3 c3 W0 HOA.out HSZ.out).mono ?_
        rintro e w3 ⟨A4, c4, rfl, o4, k4⟩
        have O4 := Lib.hid o4
        have K4 : Hid (Only (fun i => blockOf A3 = some i) W0 w3) := Lib.hid ⟨k4.os, k4.tape, k4.output, k4.size, k4.block⟩
        clear o4 k4
        have f1 : w3.cell? ⟨N, 1, none⟩ = some (.int .u64 (n : Nat)) := (World.cell?_of_block (K4.out.block N HBK.out.lt HNA.out)).trans (by rw [HBK.out.cell]; rfl)
        have HB3 := Lib.hid (HAL.out.trans (behind_below HOA.out HSZ.out K4.out))
        have HSL2 : Hid ((S ++ L1).length ≤ 50 + 20 * i) := Lib.hid (by have := HSL.out; have := HDL'.out; rw [List.length_append]; omega)
        have HPV := Lib.hid (fun A c W (h : OwnB W w1.heap.size A c (S ++ L1)) (hb : w1.heap.size ≤ W.heap.size) => ddput_v n HN64.out w1.heap.size A c (S ++ L1) W h hb (by have := HSL2.out; have := HI.out; have := HKL.out; omega))
        obtain ⟨S2, hS2⟩ : ∃ S2, S2 = S ++ L1 := ⟨_, rfl⟩
        rw [← hS2] at O4 HSL2 HPV
        first
          | rw [show S.length + L1.length = S2.length by rw [hS2, List.length_append]]
          | rw [← hS2]
        have HS2 := Lib.hid hS2
        clear hS2
        go_wp2_with fail
        refine (HPV.out _ _ _ O4.out HB3.out.size).mono ?_
        rintro e w4 ⟨A5, c5, rfl, o5, k5⟩
        have O5 := Lib.hid o5
        have HB4 := Lib.hid (HB3.out.trans (behind_below O4.out HB3.out.size k5))
        clear o5 k5
        go_wp2_with fail
        go_roundw
        case rel => exact ⟨i + 1, S2 ++ leb n, A5, c5, by go_num, by rw [List.length_append], HI.out, by have := HSL2.out; have := leb_len64 HN64.out; rw [List.length_append]; omega, by rw [HDN'.out, HS2.out]; simp only [List.append_assoc], O5.out, HB4.out⟩
        case measure => have := HI.out; simp [intOf]; omega
      · obtain ⟨j, hj⟩ : ∃ j, i = j + 1 := ⟨i - 1, by omega⟩
        have hw : IntKind.i64.wrap ((i : Int) - 1) = (j : Int) := by rw [IntWalk.i64_in _ ⟨by omega, by omega⟩]; omega
        have hj0 : (0 : Int) ≤ (j : Int) := by omega
        have hj2 : (j : Int) < (KL.length : Int) := by omega
        have hi1 : ((i : Int) == 0) = false := by simp; omega
        have hi1b : (i == 0) = false := by simp; omega
        obtain ⟨y, hy⟩ : ∃ y, KL[j]? = some y := ⟨_, List.getElem?_eq_getElem (by omega)⟩
        have dq := (HB2.out.cell (p := ⟨b, o + j * 2, none⟩) hbb).trans (hc j y hy).1
        have hlt2 := srt_next HK.out.srt hy (by rw [← hj]; exact hx)
        have hky := HK.out.keys y (List.mem_of_getElem? hy)
        have hkx := HK.out.keys x (List.mem_of_getElem? hx)
        have hpv : prevK KL i = some y.1 := by rw [hj]; exact prevK_next hy
        rw [hpv] at HDN HDL
        obtain ⟨k, n⟩ := x
        obtain ⟨q, n'⟩ := y
        dsimp only at d1 d2 dq HN64 HDN HDL hlt2 hky hkx
        have hD1 : IntKind.i64.wrap (k - q) = k - q := IntWalk.i64_in _ ⟨by omega, by omega⟩
        obtain ⟨D, hD⟩ : ∃ D, D = (k - q - 1).toNat := ⟨_, rfl⟩
        have hD2 : IntKind.i64.wrap (k - q - 1) = (D : Int) := by rw [IntWalk.i64_in _ ⟨by omega, by omega⟩]; omega
        have hD4 : D < 18446744073709551616 := by omega
        have HD4 := Lib.hid hD4
        have hD5 : IntKind.u64.wrap (D : Int) = (D : Int) := IntWalk.u64_in _ ⟨by omega, by omega⟩
        have hDk : dkey (some q) k = leb D := by rw [hD]; rfl
        rw [hDk] at HDN HDL
        have HJ := Lib.hid hj
        have HBB := Lib.hid hbb
        clear hx hbb hi hlt hc d1' d2' hn64 hy hj hlt2 hky hkx hpv hz hDk hD hD4
        obtain ⟨L1, hL1⟩ : ∃ L1, L1 = leb D := ⟨_, rfl⟩
        rw [← hL1] at HDN HDL
        have HDN' := HDN
        have HDL' := HDL
        clear HDN HDL
        have HPZ := Lib.hid (fun A c W (h : OwnB W w1.heap.size A c S) (hb : w1.heap.size ≤ W.heap.size) => ddput_v D HD4.out w1.heap.size A c S W h hb (by have := HSL.out; omega))
        rw [← hL1] at HPZ
        clear hL1
        go_wp2_with fail
        have hal := newB HB2.out (.cells #[.int .i64 k, .int .u64 (n : Nat)] 64)
        have hoa : OwnB (wo.alloc (.cells #[.int .i64 k, .int .u64 (n : Nat)] 64)) w1.heap.size A3 c3 S := Own.alloc (show Own wo _ 5 1 A3 S.length c3 (bvs S) from HO2.out) _
        have hbk := Blk.new wo 64 #[.int .i64 k, .int .u64 (n : Nat)]
        obtain ⟨N, hN⟩ : ∃ N, N = wo.heap.size := ⟨_, rfl⟩
        have hsz : w1.heap.size ≤ (wo.alloc (.cells #[.int .i64 k, .int .u64 (n : Nat)] 64)).heap.size := by have := HB2.out.size; simp; omega
        rw [← hN] at hbk
        have f0 : (wo.alloc (.cells #[.int .i64 k, .int .u64 (n : Nat)] 64)).cell? ⟨N, 0, none⟩ = some (.int .i64 k) := by rw [hbk.cell]; rfl
        have fq : (wo.alloc (.cells #[.int .i64 k, .int .u64 (n : Nat)] 64)).cell? ⟨b, o + j * 2, none⟩ = some (.int .i64 q) := (World.cell?_alloc_lt wo _ _ (by have := HB2.out.size; dsimp only; have := HBB.out; omega)).trans dq
        have HBA : Hid (blockOf A3 ≠ some b) := Lib.hid (fun e => by have := (Own.block (show Own _ w1.heap.size 5 1 A3 S.length c3 (bvs S) from hoa) e).1; have := HBB.out; omega)
        have HAL := Lib.hid hal
        have HBK := Lib.hid hbk
        have HOA := Lib.hid hoa
        have HSZ := Lib.hid hsz
        have HNA : Hid (blockOf A3 ≠ some N) := Lib.hid (Own.ne_blk (show Own _ w1.heap.size 5 1 A3 S.length c3 (bvs S) from hoa) hbk (by decide))
        clear d1 d2 dq hal hbk hoa hsz
        generalize wo.alloc (.cells #[.int .i64 k, .int .u64 (n : Nat)] 64) = W0 at *
        rw [← hN]
        clear hN
        refine wp_region_noPanic ?_
        refine wp_region_held_drew (S := (fun W => W.cell? ⟨N, 0, none⟩ = some (.int .i64 k) ∧ W.cell? ⟨b, o + j * 2, none⟩ = some (.int .i64 q))) (by kernel_rfl) ⟨f0, fq⟩ (fun hHeld => ?_)
        refine wpAnyH_take (i := 0) (oi := ?_) (v := ?_) ?_ ?_ ?_ ?_ ?_ ?_ ?_ ?_
        rotate_left 2
        · simp only [List.getElem?_toArray, List.getElem?_cons_zero]; rfl
        · kernel_rfl
        · kernel_rfl
        · kernel_rfl
        · exact fun _ _ _ h => h
        · exact Or.inl ⟨by kernel_rfl, by intro w hSw; (try dsimp only at hSw); go_simp; try with_reducible rfl⟩
        · assumption
        try go_simp
        refine wpAnyH_take (i := 1) (oi := ?_) (v := ?_) ?_ ?_ ?_ ?_ ?_ ?_ ?_ ?_
        rotate_left 2
        · simp only [List.getElem?_toArray, List.getElem?_cons_succ, List.getElem?_cons_zero]; rfl
        · kernel_rfl
        · kernel_rfl
        · kernel_rfl
        · exact fun _ _ _ h => h
        · exact Or.inl ⟨by kernel_rfl, by intro w hSw; (try dsimp only at hSw); go_simp; try with_reducible rfl⟩
        · assumption
        try go_simp
        refine wpAnyH_take (i := 2) (oi := ?_) (v := ?_) ?_ ?_ ?_ ?_ ?_ ?_ ?_ ?_
        rotate_left 2
        · simp only [List.getElem?_toArray, List.getElem?_cons_succ, List.getElem?_cons_zero]; rfl
        · kernel_rfl
        · kernel_rfl
        · kernel_rfl
        · exact fun _ _ _ h => h
        · exact Or.inl ⟨by kernel_rfl, by intro w hSw; (try dsimp only at hSw); go_simp; try with_reducible rfl⟩
        · assumption
        try go_simp
        refine wpAnyH_take (i := 3) (oi := ?_) (v := ?_) ?_ ?_ ?_ ?_ ?_ ?_ ?_ ?_
        rotate_left 2
        · simp only [List.getElem?_toArray, List.getElem?_cons_succ, List.getElem?_cons_zero]; rfl
        · kernel_rfl
        · kernel_rfl
        · kernel_rfl
        · exact fun _ _ _ h => h
        · exact Or.inl ⟨by kernel_rfl, by intro w hSw; (try dsimp only at hSw); go_simp; try with_reducible rfl⟩
        · assumption
        try go_simp
        refine wpAnyH_take (i := 4) (oi := ?_) (v := ?_) ?_ ?_ ?_ ?_ ?_ ?_ ?_ ?_
        rotate_left 2
        · simp only [List.getElem?_toArray, List.getElem?_cons_succ, List.getElem?_cons_zero]; rfl
        · kernel_rfl
        · kernel_rfl
        · kernel_rfl
        · exact fun _ _ _ h => h
        · exact Or.inl ⟨by kernel_rfl, by intro w hSw; (try dsimp only at hSw); go_simp; try with_reducible rfl⟩
        · assumption
        try go_simp
        refine wpAnyH_take (i := 5) (oi := ?_) (v := ?_) ?_ ?_ ?_ ?_ ?_ ?_ ?_ ?_
        rotate_left 2
        · simp only [List.getElem?_toArray, List.getElem?_cons_succ, List.getElem?_cons_zero]; rfl
        · kernel_rfl
        · kernel_rfl
        · kernel_rfl
        · exact fun _ _ _ h => h
        · exact Or.inl ⟨by kernel_rfl, by intro w hSw; (try dsimp only at hSw); go_simp; try with_reducible rfl⟩
        · assumption
        try go_simp
        refine wpAnyH_take (i := 6) (oi := ?_) (v := ?_) ?_ ?_ ?_ ?_ ?_ ?_ ?_ ?_
        rotate_left 2
        · simp only [List.getElem?_toArray, List.getElem?_cons_succ, List.getElem?_cons_zero]; rfl
        · kernel_rfl
        · kernel_rfl
        · kernel_rfl
        · exact fun _ _ _ h => h
        · exact Or.inl ⟨by kernel_rfl, by intro w hSw; (try dsimp only at hSw); go_simp; try with_reducible rfl⟩
        · assumption
        try go_simp
        refine wpAnyH_take (i := 7) (oi := ?_) (v := ?_) ?_ ?_ ?_ ?_ ?_ ?_ ?_ ?_
        rotate_left 2
        · simp only [List.getElem?_toArray, List.getElem?_cons_succ, List.getElem?_cons_zero]; rfl
        · kernel_rfl
        · kernel_rfl
        · kernel_rfl
        · exact fun _ _ _ h => h
        · exact Or.inl ⟨by kernel_rfl, by intro w hSw; (try dsimp only at hSw); go_simp; try with_reducible rfl⟩
        · assumption
        try go_simp
        refine wpAnyH_take (i := 8) (oi := ?_) (v := ?_) ?_ ?_ ?_ ?_ ?_ ?_ ?_ ?_
        rotate_left 2
        · simp only [List.getElem?_toArray, List.getElem?_cons_succ, List.getElem?_cons_zero]; rfl
        · kernel_rfl
        · kernel_rfl
        · kernel_rfl
        · exact fun _ _ _ h => h
        · exact Or.inl ⟨by kernel_rfl, by intro w hSw; (try dsimp only at hSw); go_simp; try with_reducible rfl⟩
        · assumption
        try go_simp
        refine wpAnyH_take (i := 9) (oi := ?_) (v := ?_) ?_ ?_ ?_ ?_ ?_ ?_ ?_ ?_
        rotate_left 2
        · simp only [List.getElem?_toArray, List.getElem?_cons_succ, List.getElem?_cons_zero]; rfl
        · kernel_rfl
        · kernel_rfl
        · kernel_rfl
        · exact fun _ _ _ h => h
        · exact Or.inl ⟨by kernel_rfl, by intro w hSw; (try dsimp only at hSw); go_simp; try with_reducible rfl⟩
        · assumption
        try go_simp
        refine wpAnyH_take (i := 10) (oi := ?_) (v := ?_) ?_ ?_ ?_ ?_ ?_ ?_ ?_ ?_
        rotate_left 2
        · simp only [List.getElem?_toArray, List.getElem?_cons_succ, List.getElem?_cons_zero]; rfl
        · kernel_rfl
        · kernel_rfl
        · kernel_rfl
        · exact fun _ _ _ h => h
        · exact Or.inl ⟨by kernel_rfl, by intro w hSw; (try dsimp only at hSw); go_simp; try with_reducible rfl⟩
        · assumption
        try go_simp
        refine wpAnyH_take (i := 11) (oi := ?_) (v := ?_) ?_ ?_ ?_ ?_ ?_ ?_ ?_ ?_
        rotate_left 2
        · simp only [List.getElem?_toArray, List.getElem?_cons_succ, List.getElem?_cons_zero]; rfl
        · kernel_rfl
        · kernel_rfl
        · kernel_rfl
        · exact fun _ _ _ h => h
        · exact Or.inl ⟨by kernel_rfl, by intro w hSw; (try dsimp only at hSw); go_simp; try with_reducible rfl⟩
        · assumption
        try go_simp
        refine wpAnyH_ready (rs := [12]) (by kernel_rfl) (by simp) ?_
        refine AllReadyH.cons (o := ?_) ?_ ?_ AllReadyH.nil
        rotate_left 1
        · simp only [List.getElem?_toArray, List.getElem?_cons_succ, List.getElem?_cons_zero]; rfl
        intro K hK
        go_simp
        refine (HPZ.out A3 c3 W0.drew HOA.out HSZ.out).mono ?_
        rintro e w3 ⟨A4, c4, rfl, o4, k4⟩
        have O4 := Lib.hid o4
        have K4 : Hid (Only (fun i => blockOf A3 = some i) W0 w3) := Lib.hid ⟨k4.os, k4.tape, k4.output, k4.size, k4.block⟩
        clear o4 k4
        refine hK.out _ _ ?_ (fun hHeld => ?_)
        · exact ⟨(World.cell?_of_block (K4.out.block N HBK.out.lt HNA.out)).trans hHeld.1, (World.cell?_of_block (K4.out.block b (by have := HBB.out; have := HSZ.out; omega) HBA.out)).trans hHeld.2⟩
        clear hK K
        try go_simp
        refine wpAnyH_take (i := 13) (oi := ?_) (v := ?_) ?_ ?_ ?_ ?_ ?_ ?_ ?_ ?_
        rotate_left 2
        · simp only [List.getElem?_toArray, List.getElem?_cons_succ, List.getElem?_cons_zero]; rfl
        · kernel_rfl
        · kernel_rfl
        · kernel_rfl
        · exact fun _ _ _ h => h
        · exact Or.inl ⟨by kernel_rfl, by intro w hSw; (try dsimp only at hSw); go_simp; try with_reducible rfl⟩
        · assumption
        try go_simp
        refine wpAnyH_done (by kernel_rfl) ?_ _
        refine NoPanic.normal ?_
        have f1 : w3.cell? ⟨N, 1, none⟩ = some (.int .u64 (n : Nat)) := (World.cell?_of_block (K4.out.block N HBK.out.lt HNA.out)).trans (by rw [HBK.out.cell]; rfl)
        have HB3 := Lib.hid (HAL.out.trans (behind_below HOA.out HSZ.out K4.out))
        have HSL2 : Hid ((S ++ L1).length ≤ 50 + 20 * i) := Lib.hid (by have := HSL.out; have := HDL'.out; rw [List.length_append]; omega)
        have HPV := Lib.hid (fun A c W (h : OwnB W w1.heap.size A c (S ++ L1)) (hb : w1.heap.size ≤ W.heap.size) => ddput_v n HN64.out w1.heap.size A c (S ++ L1) W h hb (by have := HSL2.out; have := HI.out; have := HKL.out; omega))
        obtain ⟨S2, hS2⟩ : ∃ S2, S2 = S ++ L1 := ⟨_, rfl⟩
        rw [← hS2] at O4 HSL2 HPV
        first
          | rw [show S.length + L1.length = S2.length by rw [hS2, List.length_append]]
          | rw [← hS2]
        have HS2 := Lib.hid hS2
        clear hS2
        go_wp2_with fail
        refine (HPV.out _ _ _ O4.out HB3.out.size).mono ?_
        rintro e w4 ⟨A5, c5, rfl, o5, k5⟩
        have O5 := Lib.hid o5
        have HB4 := Lib.hid (HB3.out.trans (behind_below O4.out HB3.out.size k5))
        clear o5 k5
        go_wp2_with fail
        go_roundw
        case rel => exact ⟨i + 1, S2 ++ leb n, A5, c5, by go_num, by rw [List.length_append], HI.out, by have := HSL2.out; have := leb_len64 HN64.out; rw [List.length_append]; omega, by rw [HDN'.out, HS2.out]; simp only [List.append_assoc], O5.out, HB4.out⟩
        case measure => have := HI.out; simp [intOf]; omega
    · have hge : ¬ (i : Int) < (KL.length : Int) := by omega
      have hd0 : HD ++ prsW none KL = S := by rw [HDC.out, List.drop_of_length_le (by omega)]; simp [prsW]
      have HX := Lib.hid hd0
      clear hi hlt hd0
      go_wp2_with fail
      go_ret2
      rw [HX.out]
      exact ⟨A3, c3, rfl, Own.mono (show Own wo w1.heap.size 5 1 A3 S.length c3 (bvs S) from HO2.out) HB1.out.size, HB1.out.trans (HB2.out.mono HB1.out.size)⟩
end Go.Proofs.YtbfhiegbgkkgiaaGreat
/- Bytes of a sketch: the document's, walked. -/

namespace Go.Proofs.YtbfhiegbgkkgiaaGreat
open Go.RowKit
open Pl
open Sc
open Wi
set_option maxHeartbeats 3200000 in
set_option maxRecDepth 100000 in
theorem refwrite_t (a m : Nat) (A0 : Option Addr) (c0 : Nat) (KL : List Pr) (F : Nat) (w : World) (hP : Prs w w.heap.size A0 KL) (hK : Fine KL) (hKl : KL.length ≤ 4096) (ha : a ≤ 5000) (hm : m ≤ 4096) (hF : F ≤ 4611686018427387904) :
    Calls Tryz.prog 10 #[.int .i64 (a : Int), .int .i64 (m : Int), .slice A0 KL.length c0, .int .u64 (F : Int)] w fun e w' => ∃ A c, e = .returned (.slice A (docW a m KL F).length c) ∧ OwnB w' w.heap.size A c (docW a m KL F) ∧ Below w.heap.size w w' := by
  have HP := Lib.hid hP
  have HK := Lib.hid hK
  have HKL : Hid (KL.length ≤ 4096) := Lib.hid hKl
  have hKl' : (KL.length : Int) ≤ 4096 := by omega
  have ha' : (a : Int) ≤ 5000 := by omega
  have hm' : (m : Int) ≤ 4096 := by omega
  have H641 : Hid (a < 18446744073709551616) := Lib.hid (by omega)
  have H642 : Hid (m < 18446744073709551616) := Lib.hid (by omega)
  have H643 : Hid (KL.length < 18446744073709551616) := Lib.hid (by omega)
  have H644 : Hid (F < 18446744073709551616) := Lib.hid (by omega)
  have HLL1 : Hid (([] : List UInt8).length + 10 ≤ 90000000) := Lib.hid (by decide)
  have HDOC : Hid (docW a m KL F = leb a ++ leb m ++ leb KL.length ++ leb F ++ prsW none KL) := Lib.hid rfl
  generalize docW a m KL F = DW at *
  clear hP hK hF hKl
  go_enter Tryz.func10, Tryz.ntmps10
  go_wp2_with fail
  refine ((one21_v a H641.out w.heap.size _ _ [] _ (show OwnB w w.heap.size none 0 [] from Own.nil _ _ _ _) (Nat.le_refl _) HLL1.out)).mono ?_
  rintro e w1 ⟨A1, c1, rfl, o1, k1⟩
  have O1' := Lib.hid o1
  have B1 := Lib.hid (behind_below (show OwnB w w.heap.size none 0 [] from Own.nil _ _ _ _) (Nat.le_refl _) k1)
  obtain ⟨S1, hS1⟩ : ∃ S1, S1 = [] ++ leb a := ⟨_, rfl⟩
  rw [← hS1] at O1'
  try rw [show [].length + (leb a).length = S1.length by rw [hS1, List.length_append]]
  try rw [← hS1]
  have HSS1 := Lib.hid hS1
  have HSn1 : Hid (S1.length ≤ 10) := Lib.hid (by have := leb_len64 H641.out; rw [hS1, List.length_append]; simp; omega)
  have HLL2 : Hid (S1.length + 10 ≤ 90000000) := Lib.hid (by have := HSn1.out; omega)
  clear o1 k1 hS1
  go_wp2_with fail
  refine ((one21_v m H642.out w.heap.size _ _ S1 _ O1'.out B1.out.size HLL2.out)).mono ?_
  rintro e w2 ⟨A2, c2, rfl, o2, k2⟩
  have O2' := Lib.hid o2
  have B2 := Lib.hid (B1.out.trans (behind_below O1'.out B1.out.size k2))
  obtain ⟨S2, hS2⟩ : ∃ S2, S2 = S1 ++ leb m := ⟨_, rfl⟩
  rw [← hS2] at O2'
  try rw [show S1.length + (leb m).length = S2.length by rw [hS2, List.length_append]]
  try rw [← hS2]
  have HSS2 := Lib.hid hS2
  have HSn2 : Hid (S2.length ≤ 20) := Lib.hid (by have := leb_len64 H642.out; rw [hS2, List.length_append]; have := HSn1.out; omega)
  have HLL3 : Hid (S2.length + 10 ≤ 90000000) := Lib.hid (by have := HSn2.out; omega)
  clear o2 k2 hS2
  go_wp2_with fail
  refine ((one21_v KL.length H643.out w.heap.size _ _ S2 _ O2'.out B2.out.size HLL3.out)).mono ?_
  rintro e w3 ⟨A3, c3, rfl, o3, k3⟩
  have O3' := Lib.hid o3
  have B3 := Lib.hid (B2.out.trans (behind_below O2'.out B2.out.size k3))
  obtain ⟨S3, hS3⟩ : ∃ S3, S3 = S2 ++ leb KL.length := ⟨_, rfl⟩
  rw [← hS3] at O3'
  try rw [show S2.length + (leb KL.length).length = S3.length by rw [hS3, List.length_append]]
  try rw [← hS3]
  have HSS3 := Lib.hid hS3
  have HSn3 : Hid (S3.length ≤ 30) := Lib.hid (by have := leb_len64 H643.out; rw [hS3, List.length_append]; have := HSn2.out; omega)
  have HLL4 : Hid (S3.length + 10 ≤ 90000000) := Lib.hid (by have := HSn3.out; omega)
  clear o3 k3 hS3
  go_wp2_with fail
  refine ((one21_v F H644.out w.heap.size _ _ S3 _ O3'.out B3.out.size HLL4.out)).mono ?_
  rintro e w4 ⟨A4, c4, rfl, o4, k4⟩
  have O4' := Lib.hid o4
  have B4 := Lib.hid (B3.out.trans (behind_below O3'.out B3.out.size k4))
  obtain ⟨S4, hS4⟩ : ∃ S4, S4 = S3 ++ leb F := ⟨_, rfl⟩
  rw [← hS4] at O4'
  try rw [show S3.length + (leb F).length = S4.length by rw [hS4, List.length_append]]
  try rw [← hS4]
  have HSS4 := Lib.hid hS4
  have HSn4 : Hid (S4.length ≤ 40) := Lib.hid (by have := leb_len64 H644.out; rw [hS4, List.length_append]; have := HSn3.out; omega)
  have HLL5 : Hid (S4.length + 10 ≤ 90000000) := Lib.hid (by have := HSn4.out; omega)
  clear o4 k4 hS4
  have HDC0 : Hid (DW = S4 ++ prsW none KL) := Lib.hid (by rw [HDOC.out, HSS4.out, HSS3.out, HSS2.out, HSS1.out, List.nil_append])
  clear HDOC
  go_wp2_with fail
  go_loopw [10, 9] (fun v u wr => ∃ (i : Nat) (S : List UInt8) (A2 : Option Addr) (c2 : Nat), v = .int .i64 (i : Int) ∧ u = .slice A2 S.length c2 ∧ i ≤ KL.length ∧ S.length ≤ 40 + 20 * i ∧ DW = S ++ prsW (prevK KL i) (KL.drop i) ∧ OwnB wr w.heap.size A2 c2 S ∧ Below w.heap.size w wr) (fun v _ _ => KL.length - (intOf v).toNat)
  case atStart => exact ⟨0, S4, A4, c4, rfl, rfl, Nat.zero_le _, by have := HSn4.out; omega, HDC0.out, O4'.out, B4.out⟩
  case round =>
    obtain ⟨i, S, A3, c3, rfl, rfl, hi, hSl, hdoc, ho, hbel⟩ := hrel
    obtain ⟨wo, rfl⟩ : ∃ wo : World, wo = wr := ⟨_, rfl⟩
    have HO2 := Lib.hid ho
    have HB2 := Lib.hid hbel
    have HDC := Lib.hid hdoc
    have HSL := Lib.hid hSl
    clear ho hbel hdoc hSl
    by_cases hlt : i < KL.length
    · have hii : (i : Int) < (KL.length : Int) := by omega
      have hi0 : (0 : Int) ≤ (i : Int) := by omega
      obtain ⟨x, hx⟩ : ∃ x, KL[i]? = some x := ⟨_, List.getElem?_eq_getElem hlt⟩
      obtain ⟨b, o, rfl, hbb, hc⟩ := (show Prs w w.heap.size A0 KL from HP.out).at_ (by omega)
      obtain ⟨d1', d2'⟩ := hc i x hx
      have d1 := (HB2.out.cell (p := ⟨b, o + i * 2, none⟩) hbb).trans d1'
      have d2 := (HB2.out.cell (p := ⟨b, o + i * 2 + 1, none⟩) hbb).trans d2'
      have HD1 := Lib.hid d1'
      have HD2 := Lib.hid d2'
      have HBB := Lib.hid hbb
      have HX := Lib.hid hx
      have HI := Lib.hid hlt
      have hn64 : x.2 < 18446744073709551616 := by
        have h1 := HK.out.tot
        have h2 := tot_le_of_mem (List.mem_of_getElem? hx)
        omega
      have HN64 := Lib.hid hn64
      have HDN := Lib.hid (HDC.out.trans (by rw [prsW_step hx]))
      have HDL : Hid ((dkey (prevK KL i) x.1).length ≤ 10) := Lib.hid (dkey_len _ _ (HK.out.keys x (List.mem_of_getElem? hx)).1 (HK.out.keys x (List.mem_of_getElem? hx)).2 (fun q hq => by
        unfold prevK at hq
        split at hq
        · cases hq
        · cases hj : KL[i - 1]? with
          | none => rw [hj] at hq; cases hq
          | some y => rw [hj] at hq; cases hq; exact (HK.out.keys y (List.mem_of_getElem? hj)).1))
      by_cases hz : i = 0
      · have hi1 : ((i : Int) == 0) = true := by simp; omega
        have hi1b : (i == 0) = true := by simp; omega
        have hpv : prevK KL i = none := by rw [hz]; rfl
        rw [hpv] at HDN HDL
        obtain ⟨k, n⟩ := x
        dsimp only at d1 d2 HN64 HDN HDL HD1 HD2
        clear hz hpv hx hbb hi hlt hc d1' d2' hn64 d2
        have HDN' : Hid (DW = S ++ (leb (sign (zk k)) ++ leb n ++ prsW (prevK KL (i + 1)) (KL.drop (i + 1)))) := HDN
        have HDL' : Hid ((leb (sign (zk k))).length ≤ 10) := HDL
        clear HDN HDL
        obtain ⟨L1, hL1⟩ : ∃ L1, L1 = leb (sign (zk k)) := ⟨_, rfl⟩
        rw [← hL1] at HDN' HDL'
        have HPZ := Lib.hid (fun A c W (h : OwnB W w.heap.size A c S) (hb : w.heap.size ≤ W.heap.size) => one21_z (zk k) (zk_lt k) w.heap.size A c S W h hb (by have := HSL.out; have := HI.out; have := HKL.out; omega))
        rw [← hL1, ← zk_wrap] at HPZ
        clear hL1
        go_wp2_with fail
        refine (HPZ.out A3 c3 wo HO2.out HB2.out.size).mono ?_
        rintro e w3 ⟨A4, c4, rfl, o4, k4⟩
        have O4 := Lib.hid o4
        have HB3 := Lib.hid (HB2.out.trans (behind_below HO2.out HB2.out.size k4))
        clear o4 k4 d1
        have f1 := (HB3.out.cell (p := ⟨b, o + i * 2 + 1, none⟩) HBB.out).trans HD2.out
        have HSL2 : Hid ((S ++ L1).length ≤ 50 + 20 * i) := Lib.hid (by have := HSL.out; have := HDL'.out; rw [List.length_append]; omega)
        have HPV := Lib.hid (fun A c W (h : OwnB W w.heap.size A c (S ++ L1)) (hb : w.heap.size ≤ W.heap.size) => one21_v n HN64.out w.heap.size A c (S ++ L1) W h hb (by have := HSL2.out; have := HI.out; have := HKL.out; omega))
        obtain ⟨S2, hS2⟩ : ∃ S2, S2 = S ++ L1 := ⟨_, rfl⟩
        rw [← hS2] at O4 HSL2 HPV
        first
          | rw [show S.length + L1.length = S2.length by rw [hS2, List.length_append]]
          | rw [← hS2]
        have HS2 := Lib.hid hS2
        clear hS2
        go_wp2_with fail
        refine (HPV.out _ _ _ O4.out HB3.out.size).mono ?_
        rintro e w4 ⟨A5, c5, rfl, o5, k5⟩
        have O5 := Lib.hid o5
        have HB4 := Lib.hid (HB3.out.trans (behind_below O4.out HB3.out.size k5))
        clear o5 k5
        go_wp2_with fail
        go_roundw
        case rel => exact ⟨i + 1, S2 ++ leb n, A5, c5, by go_num, by first | rfl | rw [List.length_append], HI.out, by have := HSL2.out; have := leb_len64 HN64.out; rw [List.length_append]; omega, by rw [HDN'.out, HS2.out]; simp only [List.append_assoc], O5.out, HB4.out⟩
        case measure => have := HI.out; simp [intOf]; omega
      · obtain ⟨j, hj⟩ : ∃ j, i = j + 1 := ⟨i - 1, by omega⟩
        have hw : IntKind.i64.wrap ((i : Int) - 1) = (j : Int) := by rw [IntWalk.i64_in _ ⟨by omega, by omega⟩]; omega
        have hj0 : (0 : Int) ≤ (j : Int) := by omega
        have hj2 : (j : Int) < (KL.length : Int) := by omega
        have hi1 : ((i : Int) == 0) = false := by simp; omega
        have hi1b : (i == 0) = false := by simp; omega
        obtain ⟨y, hy⟩ : ∃ y, KL[j]? = some y := ⟨_, List.getElem?_eq_getElem (by omega)⟩
        have HDQ := Lib.hid (hc j y hy).1
        have dq := (HB2.out.cell (p := ⟨b, o + j * 2, none⟩) hbb).trans (hc j y hy).1
        have hlt2 := srt_next HK.out.srt hy (by rw [← hj]; exact hx)
        have hky := HK.out.keys y (List.mem_of_getElem? hy)
        have hkx := HK.out.keys x (List.mem_of_getElem? hx)
        have hpv : prevK KL i = some y.1 := by rw [hj]; exact prevK_next hy
        rw [hpv] at HDN HDL
        obtain ⟨k, n⟩ := x
        obtain ⟨q, n'⟩ := y
        dsimp only at d1 d2 dq HN64 HDN HDL hlt2 hky hkx HD1 HD2 HDQ
        have hD1 : IntKind.i64.wrap (k - q) = k - q := IntWalk.i64_in _ ⟨by omega, by omega⟩
        obtain ⟨D, hD⟩ : ∃ D, D = (k - q - 1).toNat := ⟨_, rfl⟩
        have hD2 : IntKind.i64.wrap (k - q - 1) = (D : Int) := by rw [IntWalk.i64_in _ ⟨by omega, by omega⟩]; omega
        have hD4 : D < 18446744073709551616 := by omega
        have HD4 := Lib.hid hD4
        have hD5 : IntKind.u64.wrap (D : Int) = (D : Int) := IntWalk.u64_in _ ⟨by omega, by omega⟩
        have hDk : dkey (some q) k = leb D := by rw [hD]; rfl
        rw [hDk] at HDN HDL
        clear hx hbb hi hlt hc d1' d2' hn64 hy hj hlt2 hky hkx hpv hz hDk hD hD4 d2
        obtain ⟨L1, hL1⟩ : ∃ L1, L1 = leb D := ⟨_, rfl⟩
        rw [← hL1] at HDN HDL
        have HDN' := HDN
        have HDL' := HDL
        clear HDN HDL
        have HPZ := Lib.hid (fun A c W (h : OwnB W w.heap.size A c S) (hb : w.heap.size ≤ W.heap.size) => one21_v D HD4.out w.heap.size A c S W h hb (by have := HSL.out; have := HI.out; have := HKL.out; omega))
        rw [← hL1] at HPZ
        clear hL1
        go_wp2_with fail
        refine wp_region_noPanic ?_
        refine wp_region_held_drew (S := (fun W => W.cell? ⟨b, o + i * 2, none⟩ = some (.int .i64 k) ∧ W.cell? ⟨b, o + j * 2, none⟩ = some (.int .i64 q))) (by kernel_rfl) ⟨d1, dq⟩ (fun hHeld => ?_)
        refine wpAnyH_take (i := 0) (oi := ?_) (v := ?_) ?_ ?_ ?_ ?_ ?_ ?_ ?_ ?_
        rotate_left 2
        · simp only [List.getElem?_toArray, List.getElem?_cons_zero]; rfl
        · kernel_rfl
        · kernel_rfl
        · kernel_rfl
        · exact fun _ _ _ h => h
        · exact Or.inl ⟨by kernel_rfl, by intro w hSw; (try dsimp only at hSw); go_simp; try with_reducible rfl⟩
        · assumption
        try go_simp
        refine wpAnyH_take (i := 1) (oi := ?_) (v := ?_) ?_ ?_ ?_ ?_ ?_ ?_ ?_ ?_
        rotate_left 2
        · simp only [List.getElem?_toArray, List.getElem?_cons_succ, List.getElem?_cons_zero]; rfl
        · kernel_rfl
        · kernel_rfl
        · kernel_rfl
        · exact fun _ _ _ h => h
        · exact Or.inl ⟨by kernel_rfl, by intro w hSw; (try dsimp only at hSw); go_simp; try with_reducible rfl⟩
        · assumption
        try go_simp
        refine wpAnyH_take (i := 2) (oi := ?_) (v := ?_) ?_ ?_ ?_ ?_ ?_ ?_ ?_ ?_
        rotate_left 2
        · simp only [List.getElem?_toArray, List.getElem?_cons_succ, List.getElem?_cons_zero]; rfl
        · kernel_rfl
        · kernel_rfl
        · kernel_rfl
        · exact fun _ _ _ h => h
        · exact Or.inl ⟨by kernel_rfl, by intro w hSw; (try dsimp only at hSw); go_simp; try with_reducible rfl⟩
        · assumption
        try go_simp
        refine wpAnyH_take (i := 3) (oi := ?_) (v := ?_) ?_ ?_ ?_ ?_ ?_ ?_ ?_ ?_
        rotate_left 2
        · simp only [List.getElem?_toArray, List.getElem?_cons_succ, List.getElem?_cons_zero]; rfl
        · kernel_rfl
        · kernel_rfl
        · kernel_rfl
        · exact fun _ _ _ h => h
        · exact Or.inl ⟨by kernel_rfl, by intro w hSw; (try dsimp only at hSw); go_simp; try with_reducible rfl⟩
        · assumption
        try go_simp
        refine wpAnyH_take (i := 4) (oi := ?_) (v := ?_) ?_ ?_ ?_ ?_ ?_ ?_ ?_ ?_
        rotate_left 2
        · simp only [List.getElem?_toArray, List.getElem?_cons_succ, List.getElem?_cons_zero]; rfl
        · kernel_rfl
        · kernel_rfl
        · kernel_rfl
        · exact fun _ _ _ h => h
        · exact Or.inl ⟨by kernel_rfl, by intro w hSw; (try dsimp only at hSw); go_simp; try with_reducible rfl⟩
        · assumption
        try go_simp
        refine wpAnyH_take (i := 5) (oi := ?_) (v := ?_) ?_ ?_ ?_ ?_ ?_ ?_ ?_ ?_
        rotate_left 2
        · simp only [List.getElem?_toArray, List.getElem?_cons_succ, List.getElem?_cons_zero]; rfl
        · kernel_rfl
        · kernel_rfl
        · kernel_rfl
        · exact fun _ _ _ h => h
        · exact Or.inl ⟨by kernel_rfl, by intro w hSw; (try dsimp only at hSw); go_simp; try with_reducible rfl⟩
        · assumption
        try go_simp
        refine wpAnyH_take (i := 6) (oi := ?_) (v := ?_) ?_ ?_ ?_ ?_ ?_ ?_ ?_ ?_
        rotate_left 2
        · simp only [List.getElem?_toArray, List.getElem?_cons_succ, List.getElem?_cons_zero]; rfl
        · kernel_rfl
        · kernel_rfl
        · kernel_rfl
        · exact fun _ _ _ h => h
        · exact Or.inl ⟨by kernel_rfl, by intro w hSw; (try dsimp only at hSw); go_simp; try with_reducible rfl⟩
        · assumption
        try go_simp
        refine wpAnyH_take (i := 7) (oi := ?_) (v := ?_) ?_ ?_ ?_ ?_ ?_ ?_ ?_ ?_
        rotate_left 2
        · simp only [List.getElem?_toArray, List.getElem?_cons_succ, List.getElem?_cons_zero]; rfl
        · kernel_rfl
        · kernel_rfl
        · kernel_rfl
        · exact fun _ _ _ h => h
        · exact Or.inl ⟨by kernel_rfl, by intro w hSw; (try dsimp only at hSw); go_simp; try with_reducible rfl⟩
        · assumption
        try go_simp
        refine wpAnyH_take (i := 8) (oi := ?_) (v := ?_) ?_ ?_ ?_ ?_ ?_ ?_ ?_ ?_
        rotate_left 2
        · simp only [List.getElem?_toArray, List.getElem?_cons_succ, List.getElem?_cons_zero]; rfl
        · kernel_rfl
        · kernel_rfl
        · kernel_rfl
        · exact fun _ _ _ h => h
        · exact Or.inl ⟨by kernel_rfl, by intro w hSw; (try dsimp only at hSw); go_simp; try with_reducible rfl⟩
        · assumption
        try go_simp
        refine wpAnyH_take (i := 9) (oi := ?_) (v := ?_) ?_ ?_ ?_ ?_ ?_ ?_ ?_ ?_
        rotate_left 2
        · simp only [List.getElem?_toArray, List.getElem?_cons_succ, List.getElem?_cons_zero]; rfl
        · kernel_rfl
        · kernel_rfl
        · kernel_rfl
        · exact fun _ _ _ h => h
        · exact Or.inl ⟨by kernel_rfl, by intro w hSw; (try dsimp only at hSw); go_simp; try with_reducible rfl⟩
        · assumption
        try go_simp
        refine wpAnyH_take (i := 10) (oi := ?_) (v := ?_) ?_ ?_ ?_ ?_ ?_ ?_ ?_ ?_
        rotate_left 2
        · simp only [List.getElem?_toArray, List.getElem?_cons_succ, List.getElem?_cons_zero]; rfl
        · kernel_rfl
        · kernel_rfl
        · kernel_rfl
        · exact fun _ _ _ h => h
        · exact Or.inl ⟨by kernel_rfl, by intro w hSw; (try dsimp only at hSw); go_simp; try with_reducible rfl⟩
        · assumption
        try go_simp
        refine wpAnyH_take (i := 11) (oi := ?_) (v := ?_) ?_ ?_ ?_ ?_ ?_ ?_ ?_ ?_
        rotate_left 2
        · simp only [List.getElem?_toArray, List.getElem?_cons_succ, List.getElem?_cons_zero]; rfl
        · kernel_rfl
        · kernel_rfl
        · kernel_rfl
        · exact fun _ _ _ h => h
        · exact Or.inl ⟨by kernel_rfl, by intro w hSw; (try dsimp only at hSw); go_simp; try with_reducible rfl⟩
        · assumption
        try go_simp
        refine wpAnyH_take (i := 12) (oi := ?_) (v := ?_) ?_ ?_ ?_ ?_ ?_ ?_ ?_ ?_
        rotate_left 2
        · simp only [List.getElem?_toArray, List.getElem?_cons_succ, List.getElem?_cons_zero]; rfl
        · kernel_rfl
        · kernel_rfl
        · kernel_rfl
        · exact fun _ _ _ h => h
        · exact Or.inl ⟨by kernel_rfl, by intro w hSw; (try dsimp only at hSw); go_simp; try with_reducible rfl⟩
        · assumption
        try go_simp
        refine wpAnyH_take (i := 13) (oi := ?_) (v := ?_) ?_ ?_ ?_ ?_ ?_ ?_ ?_ ?_
        rotate_left 2
        · simp only [List.getElem?_toArray, List.getElem?_cons_succ, List.getElem?_cons_zero]; rfl
        · kernel_rfl
        · kernel_rfl
        · kernel_rfl
        · exact fun _ _ _ h => h
        · exact Or.inl ⟨by kernel_rfl, by intro w hSw; (try dsimp only at hSw); go_simp; try with_reducible rfl⟩
        · assumption
        try go_simp
        refine wpAnyH_take (i := 14) (oi := ?_) (v := ?_) ?_ ?_ ?_ ?_ ?_ ?_ ?_ ?_
        rotate_left 2
        · simp only [List.getElem?_toArray, List.getElem?_cons_succ, List.getElem?_cons_zero]; rfl
        · kernel_rfl
        · kernel_rfl
        · kernel_rfl
        · exact fun _ _ _ h => h
        · exact Or.inl ⟨by kernel_rfl, by intro w hSw; (try dsimp only at hSw); go_simp; try with_reducible rfl⟩
        · assumption
        try go_simp
        refine wpAnyH_ready (rs := [15]) (by kernel_rfl) (by simp) ?_
        refine AllReadyH.cons (o := ?_) ?_ ?_ AllReadyH.nil
        rotate_left 1
        · simp only [List.getElem?_toArray, List.getElem?_cons_succ, List.getElem?_cons_zero]; rfl
        intro K hK
        go_simp
        refine (HPZ.out A3 c3 wo.drew HO2.out HB2.out.size).mono ?_
        rintro e w3 ⟨A4, c4, rfl, o4, k4⟩
        have O4 := Lib.hid o4
        have K4 : Hid (Only (fun i => blockOf A3 = some i) wo w3) := Lib.hid ⟨k4.os, k4.tape, k4.output, k4.size, k4.block⟩
        have HB3 := Lib.hid (HB2.out.trans (behind_below HO2.out HB2.out.size K4.out))
        clear o4 k4
        refine hK.out _ _ ?_ (fun hHeld => ?_)
        · exact ⟨(HB3.out.cell (p := ⟨b, o + i * 2, none⟩) HBB.out).trans HD1.out, (HB3.out.cell (p := ⟨b, o + j * 2, none⟩) HBB.out).trans HDQ.out⟩
        clear hK K
        try go_simp
        refine wpAnyH_take (i := 16) (oi := ?_) (v := ?_) ?_ ?_ ?_ ?_ ?_ ?_ ?_ ?_
        rotate_left 2
        · simp only [List.getElem?_toArray, List.getElem?_cons_succ, List.getElem?_cons_zero]; rfl
        · kernel_rfl
        · kernel_rfl
        · kernel_rfl
        · exact fun _ _ _ h => h
        · exact Or.inl ⟨by kernel_rfl, by intro w hSw; (try dsimp only at hSw); go_simp; try with_reducible rfl⟩
        · assumption
        try go_simp
        refine wpAnyH_done (by kernel_rfl) ?_ _
        refine NoPanic.normal ?_
        clear hHeld d1 dq
        have f1 := (HB3.out.cell (p := ⟨b, o + i * 2 + 1, none⟩) HBB.out).trans HD2.out
        have HSL2 : Hid ((S ++ L1).length ≤ 50 + 20 * i) := Lib.hid (by have := HSL.out; have := HDL'.out; rw [List.length_append]; omega)
        have HPV := Lib.hid (fun A c W (h : OwnB W w.heap.size A c (S ++ L1)) (hb : w.heap.size ≤ W.heap.size) => one21_v n HN64.out w.heap.size A c (S ++ L1) W h hb (by have := HSL2.out; have := HI.out; have := HKL.out; omega))
        obtain ⟨S2, hS2⟩ : ∃ S2, S2 = S ++ L1 := ⟨_, rfl⟩
        rw [← hS2] at O4 HSL2 HPV
        first
          | rw [show S.length + L1.length = S2.length by rw [hS2, List.length_append]]
          | rw [← hS2]
        have HS2 := Lib.hid hS2
        clear hS2
        go_wp2_with fail
        refine (HPV.out _ _ _ O4.out HB3.out.size).mono ?_
        rintro e w4 ⟨A5, c5, rfl, o5, k5⟩
        have O5 := Lib.hid o5
        have HB4 := Lib.hid (HB3.out.trans (behind_below O4.out HB3.out.size k5))
        clear o5 k5
        go_wp2_with fail
        go_roundw
        case rel => exact ⟨i + 1, S2 ++ leb n, A5, c5, by go_num, by first | rfl | rw [List.length_append], HI.out, by have := HSL2.out; have := leb_len64 HN64.out; rw [List.length_append]; omega, by rw [HDN'.out, HS2.out]; simp only [List.append_assoc], O5.out, HB4.out⟩
        case measure => have := HI.out; simp [intOf]; omega
    · have hge : ¬ (i : Int) < (KL.length : Int) := by omega
      have hd0 : DW = S := by rw [HDC.out, List.drop_of_length_le (by omega)]; simp [prsW]
      have HX := Lib.hid hd0
      clear hi hlt hd0
      go_wp2_with fail
      go_ret
      rw [HX.out]
      exact ⟨A3, c3, rfl, HO2.out, HB2.out⟩
end Go.Proofs.YtbfhiegbgkkgiaaGreat
