/- Stores with a budget: what a law counts; the reference's Key; walked. -/
import Derived.Test.YtmpmjgoipfgfoaaCoD
namespace Go.Proofs.Ytmpmjgoipfgfoaa
open Go.RowKit
open Pl
def CtS (w : World) (m : Int) (L : List Pr) (e : Ending) (w' : World) : Prop :=
  ∃ g gl A c A2 c2, e = .returned (.tuple #[.pointer (some ⟨g, 0, none⟩), .slice A2 L.length c2]) ∧ w.heap.size ≤ g ∧ w.heap.size ≤ gl ∧ Sto w' g gl A c m L ∧ OwnP w' w.heap.size A2 c2 L ∧ Below w.heap.size w w' ∧ Dj A A2
theorem sto_row {w w' : World} {g gl c c' base cw : Nat} {A A' W : Option Addr} {m : Int} {all all' M : List Pr} (h : Sto w g gl A c m all) (hw : OwnP w base W cw M) (hd : Dj A W) (k : Stored g gl A m all' w w' A' c') : OwnP w' base W cw M ∧ Dj A' W := by
  have hne : blockOf W ≠ some g := Own.ne_blk (show Own w base 38 2 W M.length cw (pcs M) from hw) h.blk (by decide)
  have hnl : blockOf W ≠ some gl := Own.ne_blk (show Own w base 38 2 W M.length cw (pcs M) from hw) h.lst.1 (by decide)
  refine ⟨Own.only hw k.only (fun x hx e => ?_), dj_new hd hw k.new⟩
  rcases e with rfl | rfl | e
  · exact hne hx
  · exact hnl hx
  · exact hd x e hx
set_option maxHeartbeats 3200000 in
theorem counted_t (A0 : Option Addr) (c0 : Nat) (m : Int) (l : List Pr) (w : World) (hb : Pairs w A0 l) (hl : (l.length : Int) ≤ 9223372036854775807) (hm0 : 2 ≤ m) (hm1 : m ≤ 4096) :
    Calls Try.prog 9 #[.int .i64 m, .slice A0 l.length c0] w (CtS w m (cntL (l.take 100))) := by
  obtain ⟨R, hR⟩ : ∃ R, R = cntL (l.take 100) := ⟨_, rfl⟩
  rw [← hR]
  have HR := Lib.hid hR
  have HB := Lib.hid hb
  have HM := Lib.hid (And.intro hm0 hm1)
  clear hR hb hm0 hm1
  go_enter Try.func9, Try.ntmps9
  go_wp2_with fail
  refine (new_t m w HM.out.1 HM.out.2).mono ?_
  rintro e w1 ⟨rfl, s1, b1⟩
  have HS1 := Lib.hid s1
  have HB1 := Lib.hid b1
  clear s1 b1
  go_wp2_with fail
  go_loopw [8, 9] (fun u v wr => ∃ (i : Nat) (L : List Pr) (A : Option Addr) (c : Nat) (A2 : Option Addr) (c2 : Nat), u = .slice A2 L.length c2 ∧ v = .int .i64 (i : Int) ∧ i ≤ l.length ∧ i ≤ 100 ∧ L.length ≤ i ∧ tot L ≤ 1000 * i ∧ Fine L ∧ L = cntL (l.take i) ∧ Sto wr (w.heap.size + 1) w.heap.size A c m L ∧ OwnP wr w.heap.size A2 c2 L ∧ Dj A A2 ∧ Below w.heap.size w wr) (fun _ v _ => l.length - (intOf v).toNat)
  case atStart => exact ⟨0, [], none, 0, none, 0, rfl, rfl, Nat.zero_le _, Nat.zero_le _, Nat.le_refl _, Nat.le_refl _, Fine.nil, rfl, HS1.out, Own.nil _ _ _ _, fun b hb => by simp [blockOf], HB1.out⟩
  case round =>
    obtain ⟨i, L, A, c, A2, c2, rfl, rfl, hi, hi100, hLl, hLt, hf, hLi, hsto, how, hdis, hbel⟩ := hrel
    obtain ⟨wo, rfl⟩ : ∃ wo : World, wo = wr := ⟨_, rfl⟩
    have HST := Lib.hid hsto
    have HOW := Lib.hid how
    have HDI := Lib.hid hdis
    have HBE := Lib.hid hbel
    have HF := Lib.hid hf
    have HLI := Lib.hid hLi
    have HLL := Lib.hid hLl
    have HLT := Lib.hid hLt
    clear hsto hbel hf hLi hLl hLt how hdis
    by_cases hlt : i < l.length ∧ i < 100
    · obtain ⟨hlt, hlt2⟩ := hlt
      have hii : (i : Int) < (l.length : Int) := by omega
      have hii2 : decide (i < l.length) = true := by simp; omega
      have hii3 : (i : Int) < 100 := by omega
      have hi0 : (0 : Int) ≤ (i : Int) := by omega
      obtain ⟨p, hp⟩ : ∃ p, l[i]? = some p := ⟨_, List.getElem?_eq_getElem hlt⟩
      obtain ⟨b, o, rfl, hbb, hc⟩ := (Prs.below HB.out.2 HBE.out).at_ (by omega)
      obtain ⟨d1, d2⟩ := hc i p hp
      have hpo := HB.out.1 p (List.mem_of_getElem? hp)
      have HSN := Lib.hid (cntL_snoc hp)
      have HI := Lib.hid (And.intro hlt hlt2)
      have hrd := radd_ct (L := L) (k := p.1) (n := p.2) (by have := HLT.out; omega)
      have HAD := Lib.hid (fun W (h : Sto W (w.heap.size + 1) w.heap.size A c m L) => sadd_t (w.heap.size + 1) w.heap.size A c m L (ck p.1) (cn p.2) W h HF.out (by have := HLL.out; omega) HM.out.1 (by have := HM.out; omega))
      rw [hrd] at HAD
      have HPU := Lib.hid (fun A2 c2 W (h : Prs W W.heap.size A2 L) => put13_t A2 c2 L (ck p.1) (cn p.2) W h (by have := HLL.out; omega) (by have := HLT.out; unfold cn; omega))
      have hfp : Fine (put L (ck p.1) (cn p.2)) := put_fine HF.out (by unfold cn; omega) (ck_in _).1 (ck_in _).2 (by have := HLT.out; unfold cn; omega) (by have := HLL.out; omega)
      have HFP := Lib.hid hfp
      have HPL := Lib.hid (show (put L (ck p.1) (cn p.2)).length ≤ i + 1 from Nat.le_trans put_len (by have := HLL.out; omega))
      have HPT := Lib.hid (show tot (put L (ck p.1) (cn p.2)) ≤ 1000 * (i + 1) by rw [put_tot]; have := HLT.out; unfold cn; omega)
      obtain ⟨x, n⟩ := p
      dsimp only at d1 d2 HAD HPU HSN HFP HPL HPT hpo
      obtain ⟨q, hq⟩ : ∃ q, q = n % 1000 := ⟨_, rfl⟩
      have hn1 : (n : Int).tmod 1000 = (q : Int) := by rw [Int.tmod_eq_emod_of_nonneg (by omega)]; omega
      have hn2 : (n : Int) % 1000 = (q : Int) := by omega
      obtain ⟨N, hN⟩ : ∃ N, N = cn n := ⟨_, rfl⟩
      have hn3 : IntKind.u64.wrap (1 + (q : Int)) = (N : Int) := by rw [hN]; unfold cn; rw [IntWalk.u64_in _ ⟨by omega, by omega⟩]; omega
      obtain ⟨K, hK⟩ : ∃ K, K = ck x := ⟨_, rfl⟩
      have hx : x.tmod 1048577 = K := hK.symm
      rw [← hK, ← hN] at HAD HPU HFP HPL HPT HSN
      obtain ⟨L', hL'⟩ : ∃ L', L' = put L K N := ⟨_, rfl⟩
      rw [← HLI.out] at HSN
      rw [← hL'] at HAD HPU HFP HPL HPT HSN
      clear hc hp hbb hi hi100 hlt hlt2 hrd hfp hpo hq hN hK hL'
      go_wp2_with fail
      go_quiet (fail)
      go_wp2_with fail
      have hSd := HST.out.drewN nq
      have hOd : OwnP (wo.drewN nq) w.heap.size A2 c2 L := HOW.out
      have hbd := below_drewN HBE.out nq
      refine (HAD.out _ hSd).mono ?_
      rintro e w3 ⟨rfl, A3, c3, h3⟩
      obtain ⟨ho3, hd3⟩ := sto_row hSd hOd HDI.out h3
      have hb3 := stored_below hbd (by omega) (Nat.le_refl _) hSd h3
      have HS3 := Lib.hid h3.sto
      have HO3 := Lib.hid ho3
      have HB3 := Lib.hid hb3
      clear hSd hOd hbd h3 ho3 hd3 hb3
      go_wp2_with fail
      refine (HPU.out A2 c2 w3 (OwnP.reads HO3.out)).mono ?_
      rintro e w4 ⟨A4, c4, rfl, h4, hb4⟩
      have HS4 := Lib.hid (HS3.out.below hb4)
      have HO4 := Lib.hid (Own.mono h4 HB3.out.size)
      have HB4 := Lib.hid (nextB HB3.out hb4)
      have HD4 : Hid (Dj A3 A4) := Lib.hid (fun b h1 h2 => by
        have h3 := (Own.block (show Own w3 w.heap.size 38 2 A3 (cutL L' m).1.length c3 (pcs (cutL L' m).1) from Own.mono HS3.out.lst.2 (Nat.le_refl _)) h1).2
        have h5 := (Own.block (show Own w4 w3.heap.size 38 2 A4 L'.length c4 (pcs L') from h4) h2).1
        omega)
      clear h4 hb4
      go_wp2_with fail
      go_roundw
      case rel => exact ⟨i + 1, L', A3, c3, A4, c4, rfl, by go_num, HI.out.1, HI.out.2, HPL.out, HPT.out, HFP.out, HSN.out.symm, HS4.out, HO4.out, HD4.out, HB4.out⟩
      case measure => have := HI.out; simp [intOf]; omega
    · have hX : R = L := by
        rw [HR.out, HLI.out]
        by_cases h1 : i < l.length
        · rw [show i = 100 by omega]
        · rw [List.take_of_length_le (by omega), List.take_of_length_le (by omega)]
      have HX := Lib.hid hX
      have hc : decide ((i : Int) < (l.length : Int)) = false ∧ decide (i < l.length) = false ∨ decide ((i : Int) < (l.length : Int)) = true ∧ decide (i < l.length) = true ∧ decide ((i : Int) < 100) = false := by
        by_cases h1 : i < l.length
        · exact .inr ⟨by simp; omega, by simp; omega, by simp; omega⟩
        · exact .inl ⟨by simp; omega, by simp; omega⟩
      clear hi hi100 hlt hX
      rcases hc with ⟨e1, e2⟩ | ⟨e1, e2, e3⟩
      all_goals
        go_wp2_with fail
        go_ret2
        rw [HX.out]
        exact ⟨w.heap.size + 1, w.heap.size, A, c, A2, c2, rfl, by omega, Nat.le_refl _, HST.out, HOW.out, HBE.out, HDI.out⟩
set_option maxHeartbeats 1600000 in
theorem rkey15_t (base : Nat) (A : Option Addr) (c : Nat) (all : List Pr) (m : Int) (r : Nat) (w : World) (h : OwnP w base A c all) (hbase : base ≤ w.heap.size) (hf : Fine all) (h1 : 1 ≤ r) (h2 : r ≤ tot all) :
    Calls Try.prog 12 #[.slice A all.length c, .int .i64 m, .int .u64 (r : Int)] w fun e w' => e = .returned (.tuple #[.int .i64 (rank (cutL all m).1 r), .bool (vagueB all m r)]) ∧ Below w.heap.size w w' := by
  have HK := Lib.hid (kept15_t base A c all m w h hbase (by have := hf.len; omega) hf.tot)
  have hfC := kept_fine hf m
  have hnil : all ≠ [] := fun e => by rw [e, tot_nil] at h2; omega
  have HR := Lib.hid (fun A c W (h : Prs W W.heap.size A (cutL all m).1) => rkey_t A c (cutL all m).1 r W h (by have := hfC.len; omega) hfC.tot hfC.srt h1 (by rw [kept_tot hf]; exact h2))
  have hfo : ((cutL all m).2 : Int) ≤ 4611686018427387904 := by have := fold_le (L := all) m; have := hf.tot; omega
  have hne := cutL_ne hnil m
  unfold vagueB
  have hv : decide (0 < (cutL all m).2 ∧ rank (cutL all m).1 r = firstK (cutL all m).1) = (decide (0 < (cutL all m).2) && (rank (cutL all m).1 r == firstK (cutL all m).1)) := by
    rw [Bool.eq_iff_iff]; simp
  rw [hv]
  have hlen : ((cutL all m).1.length : Int) ≤ 100000 := by have := hfC.len; omega
  clear hv h hf hfC h1 h2 hbase hnil
  generalize cutL all m = R at *
  obtain ⟨C, f⟩ := R
  dsimp only at *
  cases C with
  | nil => exact absurd rfl hne
  | cons p C =>
    obtain ⟨x, n⟩ := p
    have hN0 : (0 : Int) < ((C.length + 1 : Nat) : Int) := by omega
    simp only [List.length_cons] at hlen
    rw [show firstK ((x, n) :: C) = x from rfl]
    generalize rank ((x, n) :: C) r = K at *
    have hc : (decide (0 < f) = true ∧ decide ((0 : Int) < (f : Int)) = true) ∨ (decide (0 < f) = false ∧ decide ((0 : Int) < (f : Int)) = false) := by
      by_cases h0 : 0 < f
      · exact .inl ⟨by simpa using h0, by simp; omega⟩
      · exact .inr ⟨by simpa using h0, by simp; omega⟩
    rcases hc with ⟨e0, e1⟩ | ⟨e0, e1⟩
    · rw [e0]
      go_enter Try.func12, Try.ntmps12
      go_wp2_with fail
      refine HK.out.mono ?_
      rintro e w1 ⟨A1, c1, rfl, ho, hb1, _⟩
      have HO := Lib.hid ho
      have HB1 := Lib.hid hb1
      clear ho hb1
      dsimp only
      go_wp2_with fail
      refine (HR.out A1 c1 w1 (OwnP.reads HO.out)).mono ?_
      rintro e w2 ⟨rfl, rfl⟩
      obtain ⟨b, o, rfl, _, hcc⟩ := (OwnP.reads HO.out).at_ (by simp)
      have d1 : w1.cell? ⟨b, o, none⟩ = some (.int .i64 x) := by have := (hcc 0 (x, n) rfl).1; simpa using this
      clear hcc
      generalize C.length + 1 = N at hN0 hlen ⊢
      go_wp2_with fail
      go_quiet (fail)
      go_wp2_with fail
      go_ret2
      exact ⟨rfl, below_drewN HB1.out _⟩
    · rw [e0]
      go_enter Try.func12, Try.ntmps12
      go_wp2_with fail
      refine HK.out.mono ?_
      rintro e w1 ⟨A1, c1, rfl, ho, hb1, _⟩
      have HO := Lib.hid ho
      have HB1 := Lib.hid hb1
      clear ho hb1
      dsimp only
      go_wp2_with fail
      refine (HR.out A1 c1 w1 (OwnP.reads HO.out)).mono ?_
      rintro e w2 ⟨rfl, rfl⟩
      go_wp2_with fail
      go_quiet (fail)
      go_wp2_with fail
      go_ret2
      exact ⟨rfl, below_drewN HB1.out _⟩
end Go.Proofs.Ytmpmjgoipfgfoaa
