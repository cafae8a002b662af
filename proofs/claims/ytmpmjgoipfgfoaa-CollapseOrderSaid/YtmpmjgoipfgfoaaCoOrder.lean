/- CollapseOrder walked. -/
import Derived.Test.YtmpmjgoipfgfoaaCoOrdP
import Derived.Test.YtmpmjgoipfgfoaaCoG
import Derived.LoopN
import Derived.Outline
namespace Go.Proofs.Ytmpmjgoipfgfoaa
open Go.RowKit
open Pl
/-- Where a loop from behind stands: k pairs are still to come. -/
def BackAt (v : Value) (k : Nat) : Prop := (∃ i : Nat, k = i + 1 ∧ v = .int .i64 (i : Int)) ∨ (k = 0 ∧ v = .int .i64 (-1))
theorem back_at {z : Int} {k : Nat} (h : z = (k : Int) - 1) : BackAt (.int .i64 z) k := by
  by_cases h0 : k = 0
  · exact .inr ⟨h0, by rw [h, h0]; rfl⟩
  · exact .inl ⟨k - 1, by omega, by rw [h]; congr 1; omega⟩
theorem drop_rev {l : List Pr} {i : Nat} {p : Pr} (h : l[i]? = some p) : (l.drop i).reverse = (l.drop (i + 1)).reverse ++ [p] := by
  rw [drop_next h, List.reverse_cons]
set_option maxRecDepth 100000 in
theorem order_big (w : World) (m : Int) (A0 : Option Addr) (c0 : Nat) (la : List Pr) (B0 : Option Addr) (d0 : Nat) (lb : List Pr) (h : 50 < la.length ∨ la.length ≤ 50 ∧ 50 < lb.length) :
    Calls Try.prog 5 #[.int .u16 m, .slice A0 la.length c0, .slice B0 lb.length d0] w fun e w' => e = .returned (.bool true) ∧ Below w.heap.size w w' := by
  have hc : decide ((50 : Int) < (la.length : Int)) = true ∧ decide (50 < la.length) = true ∨ decide ((50 : Int) < (la.length : Int)) = false ∧ decide (50 < la.length) = false ∧ decide ((50 : Int) < (lb.length : Int)) = true ∧ decide (50 < lb.length) = true := by
    rcases h with h | ⟨h, h2⟩
    · exact .inl ⟨by simp; omega, by simp; omega⟩
    · exact .inr ⟨by simp; omega, by simp; omega, by simp; omega, by simp; omega⟩
  clear h
  rcases hc with ⟨e1, e2⟩ | ⟨e1, e2, e3, e4⟩
  all_goals
    go_enter Try.func5, Try.ntmps5
    go_wp2_with fail
    refine (alive_t _).mono ?_
    rintro e w1 ⟨rfl, hb1⟩
    have HB1 := Lib.hid hb1
    clear hb1
    go_wp2_with fail
    go_ret
    exact ⟨rfl, HB1.out⟩
set_option maxHeartbeats 25600000 in
set_option maxRecDepth 100000 in
theorem order_small (w : World) (m : Nat) (A0 : Option Addr) (c0 : Nat) (la : List Pr) (ha : Pairs w A0 la) (B0 : Option Addr) (d0 : Nat) (lb : List Pr) (hb : Pairs w B0 lb) (hla : la.length ≤ 50) (hlb : lb.length ≤ 50) :
    Calls Try.prog 5 #[.int .u16 (m : Int), .slice A0 la.length c0, .slice B0 lb.length d0] w fun e w' => e = .returned (.bool true) ∧ Below w.heap.size w w' := by
  have HPA := Lib.hid ha
  have HPB := Lib.hid hb
  have y1 : decide ((50 : Int) < (la.length : Int)) = false := by simp; omega
  have y2 : decide (50 < la.length) = false := by simp; omega
  have y3 : decide ((50 : Int) < (lb.length : Int)) = false := by simp; omega
  have y4 : decide (50 < lb.length) = false := by simp; omega
  obtain ⟨mq, hmq⟩ : ∃ mq : Nat, mq = m % 30 := ⟨_, rfl⟩
  have hmq2 : (m : Int) % 30 = (mq : Int) := by omega
  have hmq3 : (mq : Int) < 30 := by omega
  obtain ⟨b, hbe⟩ : ∃ b : Nat, b = 2 + mq := ⟨_, rfl⟩
  have hb2 : 2 + (mq : Int) = (b : Int) := by omega
  have HB0 := Lib.hid (show (2 : Int) ≤ (b : Int) ∧ (b : Int) ≤ 4096 by omega)
  have HCA := Lib.hid (fun W (h : Pairs W A0 la) => counted_t A0 c0 (b : Int) la W h (by omega) HB0.out.1 HB0.out.2)
  have HCB := Lib.hid (fun W (h : Pairs W B0 lb) => counted_t B0 d0 (b : Int) lb W h (by omega) HB0.out.1 HB0.out.2)
  have HCU := Lib.hid (fun A c W (h : Pairs W A (la ++ lb)) => counted_t A c (b : Int) (la ++ lb) W h (by rw [List.length_append]; omega) HB0.out.1 HB0.out.2)
  have HCV : Hid (∀ T, T = lb.reverse ++ la.reverse → ∀ A c W, Pairs W A T → Calls Try.prog 9 #[.int .i64 (b : Int), .slice A T.length c] W (CtS W (b : Int) (puts (cntL (la.take 100)) (cntL (lb.take 100))))) := Lib.hid (fun T hT A c W h => by
    have h2 := counted_t A c (b : Int) T W h (by rw [hT, List.length_append, List.length_reverse, List.length_reverse]; omega) HB0.out.1 HB0.out.2
    rw [hT, order_v la lb hla hlb, ← hT] at h2
    exact h2)
  rw [order_u la lb hla hlb, List.length_append] at HCU
  obtain ⟨hfa, hta, hna⟩ := cntL_fine la
  obtain ⟨hfb, htb, hnb⟩ := cntL_fine lb
  have hox := order_x la lb
  obtain ⟨La, hLa⟩ : ∃ L, L = cntL (la.take 100) := ⟨_, rfl⟩
  obtain ⟨Lb, hLb⟩ : ∃ L, L = cntL (lb.take 100) := ⟨_, rfl⟩
  rw [← hLa] at HCA HCU HCV hfa hta hna hox
  rw [← hLb] at HCB HCU HCV hfb htb hnb hox
  have hrt : ∀ (L M : List Pr), tot L ≤ 200000 → tot M ≤ 200000 → rtake L M 0 = (puts L M, 0) := fun L M h1 h2 => by
    rw [rtake0]
    by_cases h0 : M = []
    · rw [if_pos h0, h0]; rfl
    · rw [if_neg h0, if_neg (by omega)]
  have HTS := Lib.hid (fun g gl A c g2 gl2 A2 c2 W (h : Sto W g gl A c (b : Int) La) (h2 : Sto W g2 gl2 A2 c2 (b : Int) Lb) => stake_t g gl g2 gl2 A A2 c c2 (b : Int) La Lb W h h2 hfa hfb (by omega) HB0.out.1 (by have := HB0.out; omega))
  have HTX := Lib.hid (fun g gl A c g2 gl2 A2 c2 W (h : Sto W g gl A c (b : Int) Lb) (h2 : Sto W g2 gl2 A2 c2 (b : Int) La) => stake_t g gl g2 gl2 A A2 c c2 (b : Int) Lb La W h h2 hfb hfa (by omega) HB0.out.1 (by have := HB0.out; omega))
  rw [hrt La Lb (by omega) (by omega)] at HTS
  rw [hrt Lb La (by omega) (by omega), hox] at HTX
  obtain ⟨hfE, hlE⟩ := took_fine hfa hfb (by omega)
  rw [hrt La Lb (by omega) (by omega)] at hfE hlE
  dsimp only at HTS HTX hfE hlE
  generalize puts La Lb = E at *
  have HPS := Lib.hid (fun g gl A c W (h : Sto W g gl A c (b : Int) E) => spairs_t g gl A c (b : Int) E W h hfE)
  have HFS := Lib.hid (fun g gl A c W (h : Sto W g gl A c (b : Int) E) => sfolded_t g gl A c (b : Int) E W h)
  have HTO := Lib.hid (fun g gl A c W (h : Sto W g gl A c (b : Int) E) => stotal_t g gl A c (b : Int) E W h hfE)
  have hkl := (kept_fine hfE (b : Int)).len
  have HSA := Lib.hid (fun A1 A2 c1 c2 B1 B2 W h1 h2 => same15_t A1 A2 c1 c2 B1 B2 (cutL E (b : Int)).1 W h1 h2 (by unfold maxLen; omega))
  have HLA := Lib.hid hla
  have HLB := Lib.hid hlb
  obtain ⟨za, hza⟩ : ∃ z : Int, (la.length : Int) - 1 = z := ⟨_, rfl⟩
  obtain ⟨zb, hzb⟩ : ∃ z : Int, (lb.length : Int) - 1 = z := ⟨_, rfl⟩
  have hza1 : -1 ≤ za := by omega
  have hza2 : za ≤ 50 := by omega
  have hzb1 : -1 ≤ zb := by omega
  have hzb2 : zb ≤ 50 := by omega
  have HZA := Lib.hid hza
  have HZB := Lib.hid hzb
  clear ha hb hla hlb hmq hbe hfa hta hna hfb htb hnb hox hLa hLb hrt hfE hlE hkl
  go_enter Try.func5, Try.ntmps5
  go_wp2_with fail
  refine (alive_t _).mono ?_
  rintro e w1 ⟨rfl, hb1⟩
  have HM0 := Lib.hid (MS.nil (M := fun _ => 0) (G := fun _ => 0) (GL := fun _ => 0) (AL := fun _ => none) (CL := fun _ => 0) (S := fun _ => []) w hb1)
  clear hb1
  go_wp2_with fail
  refine (HCA.out w1 (ct_at HPA.out HM0.out.bel)).mono ?_
  rintro e w2 ⟨g1, gl1, A1, c1, Ar1, cr1, rfl, hg1, hgl1, hs1, _, hb1, _⟩
  have HM1 := Lib.hid (HM0.out.more hb1 hs1 hg1 hgl1)
  clear hs1 hb1 hg1 hgl1
  go_wp2_with fail
  refine (HCB.out w2 (ct_at HPB.out HM1.out.bel)).mono ?_
  rintro e w3 ⟨g2, gl2, A2, c2, Ar2, cr2, rfl, hg2, hgl2, hs2, _, hb2, _⟩
  have HM2 := Lib.hid (HM1.out.more hb2 hs2 hg2 hgl2)
  clear hs2 hb2 hg2 hgl2
  go_wp2_with (at_builtin; refine Hid.out ?_)
  have hO1 : Own (w3.alloc (.cells #[] 38)) w3.heap.size 38 2 (some ⟨w3.heap.size, 0, none⟩) 0 0 [] := Own.made w3 _ _ _ #[] 0 (Nat.le_refl _) (Nat.zero_le _) rfl
  have hW1 : Below w3.heap.size w3 (w3.alloc (.cells #[] 38)) := (Below.refl _ _).alloc (Nat.le_refl _) _
  refine wpList_app (xs := []) (news := pcs la) rfl rfl elem_pair rfl hO1 rfl (Prs.at_below (Prs.at_below HPA.out.2 HM2.out.bel) hW1) (pcs_one _) la.length (Nat.zero_add _) (pcs la) rfl (by have := HLA.out; unfold maxLen; omega) (by have := HLA.out; omega) hW1.size ?_
  intro A3 c3 w4 o4 g4 _
  have hb4 := appB hW1 hO1 g4 (Nat.le_refl _) hW1.size
  have HO4 := Lib.hid o4
  have HB4 := Lib.hid hb4
  clear hO1 hW1 o4 g4 hb4
  go_wp2_with (at_builtin; refine Hid.out ?_)
  refine wpList_app (xs := pcs la) (news := pcs lb) rfl rfl elem_pair rfl HO4.out rfl (Prs.at_below HPB.out.2 (nextB HM2.out.bel HB4.out)) (pcs_one _) (la.length + lb.length) rfl (pcs (la ++ lb)) (pcs_append _ _).symm (by have := HLA.out; have := HLB.out; unfold maxLen; omega) (by have := HLA.out; have := HLB.out; omega) HB4.out.size ?_
  intro A5 c5 w5 o5 g5 _
  have HB5 := Lib.hid (appB HB4.out HO4.out g5 (Nat.le_refl _) HB4.out.size)
  have HO5 : Hid (Pairs w5 A5 (la ++ lb)) := Lib.hid ⟨fun p hp => by
    rcases List.mem_append.1 hp with h | h
    · exact HPA.out.1 p h
    · exact HPB.out.1 p h, by
    have h := Own.reads o5
    unfold Prs
    rw [List.length_append]
    exact h⟩
  have HM2' := Lib.hid (HM2.out.below HB5.out)
  clear o5 g5
  go_wp2_with fail
  refine (HCU.out A5 c5 w5 HO5.out).mono ?_
  rintro e w6 ⟨g3, gl3, A6, c6, Ar3, cr3, rfl, hg3, hgl3, hs3, _, hb3, _⟩
  have HM3 := Lib.hid (HM2'.out.more hb3 hs3 hg3 hgl3)
  clear hs3 hb3 hg3 hgl3
  go_wp2_with fail
  go_loopw [14, 15] (fun u v wr => ∃ (k : Nat) (T : List Pr) (A : Option Addr) (c : Nat), BackAt v k ∧ k ≤ lb.length ∧ T = (lb.drop k).reverse ∧ u = .slice A T.length c ∧ OwnP wr w6.heap.size A c T ∧ Below w6.heap.size w6 wr) (fun _ v _ => (intOf v + 1).toNat)
  case atStart => exact ⟨lb.length, [], none, 0, back_at HZB.out.symm, Nat.le_refl _, by rw [List.drop_length]; rfl, rfl, Own.nil _ _ _ _, Below.refl _ _⟩
  case round =>
    obtain ⟨k, T, A, c, hat, hk, hT, rfl, ho, hbel⟩ := hrel
    obtain ⟨wo, rfl⟩ : ∃ wo : World, wo = wr := ⟨_, rfl⟩
    rcases hat with ⟨i, rfl, rfl⟩ | ⟨rfl, rfl⟩
    · have hil : i < lb.length := by omega
      have hi0 : (0 : Int) ≤ (i : Int) := by omega
      have hii : (i : Int) < (lb.length : Int) := by omega
      have hi50 : (i : Int) ≤ 50 := by have := HLA.out; have := HLB.out; omega
      obtain ⟨p, hp⟩ : ∃ p, lb[i]? = some p := ⟨_, List.getElem?_eq_getElem hil⟩
      have hB0 : Below w.heap.size w wo := nextB HM3.out.bel hbel
      obtain ⟨bb, o, rfl, _, hcl⟩ := (Prs.below HPB.out.2 hB0).at_ (by omega)
      obtain ⟨d1, d2⟩ := hcl i p hp
      have hnx := drop_rev hp
      have htl : T.length ≤ 100 := by have := HLA.out; have := HLB.out; rw [hT]; simp; omega
      obtain ⟨z, hz⟩ : ∃ z : Int, (i : Int) - 1 = z := ⟨_, rfl⟩
      have hz1 : -1 ≤ z := by omega
      have hz2 : z ≤ 50 := by omega
      have HZ := Lib.hid hz
      have HO := Lib.hid ho
      have HBE := Lib.hid hbel
      have HT2 : Hid (T ++ [p] = (lb.drop i).reverse) := Lib.hid (by rw [hT, hnx])
      have HIL := Lib.hid hil
      have HTL := Lib.hid htl
      obtain ⟨x, n⟩ := p
      dsimp only at d1 d2
      clear hT hnx hp hk hil htl hbel ho hcl hB0
      go_wp2_with (at_builtin; refine Hid.out ?_)
      have hal : Below w6.heap.size w6 (wo.alloc (.cells #[.int .i64 x, .int .u64 (n : Int)] 38)) := newB HBE.out _
      refine wpList_app (xs := pcs T) (news := pcs [(x, n)]) rfl rfl elem_pair rfl (Own.alloc (show Own wo w6.heap.size 38 2 A T.length c (pcs T) from HO.out) _) rfl (pair_new wo x n) (pcs_one _) (T.length + 1) rfl (pcs (T ++ [(x, n)])) (pcs_append _ _).symm (by have := HTL.out; unfold maxLen; omega) (by have := HTL.out; omega) (Nat.le_trans (Nat.le_refl _) (Nat.le_trans HBE.out.size (by simp))) ?_
      intro A' c' w' o' g' _
      have HO' : Hid (OwnP w' w6.heap.size A' c' (T ++ [(x, n)])) := Lib.hid (by unfold OwnP; rw [List.length_append]; exact o')
      have HBE' := Lib.hid (appB hal (Own.alloc (show Own wo w6.heap.size 38 2 A T.length c (pcs T) from HO.out) _) g' (Nat.le_refl _) hal.size)
      clear o' g' hal
      go_wp2_with fail
      go_roundw
      case rel => exact ⟨i, T ++ [(x, n)], A', c', back_at HZ.out.symm, Nat.le_of_lt HIL.out, HT2.out, by rw [List.length_append]; rfl, HO'.out, HBE'.out⟩
      case measure => have := HZ.out; simp [intOf]; omega
    · have HO := Lib.hid ho
      have HB6 := Lib.hid hbel
      rw [List.drop_zero] at hT
      have HT := Lib.hid hT
      clear ho hbel hT hk
      go_wp2_with fail
      go_loopw [14, 16] (fun u v wr => ∃ (k : Nat) (T : List Pr) (A : Option Addr) (c : Nat), BackAt v k ∧ k ≤ la.length ∧ T = lb.reverse ++ (la.drop k).reverse ∧ u = .slice A T.length c ∧ OwnP wr w6.heap.size A c T ∧ Below w6.heap.size w6 wr) (fun _ v _ => (intOf v + 1).toNat)
      case atStart => exact ⟨la.length, T, A, c, back_at HZA.out.symm, Nat.le_refl _, by rw [HT.out, List.drop_length]; simp, rfl, HO.out, HB6.out⟩
      case round =>
        clear HO HT
        obtain ⟨k, T, A, c, hat, hk, hT, rfl, ho, hbel⟩ := hrel
        obtain ⟨wp, rfl⟩ : ∃ wp : World, wp = wr := ⟨_, rfl⟩
        rcases hat with ⟨i, rfl, rfl⟩ | ⟨rfl, rfl⟩
        · have hil : i < la.length := by omega
          have hi0 : (0 : Int) ≤ (i : Int) := by omega
          have hii : (i : Int) < (la.length : Int) := by omega
          have hi50 : (i : Int) ≤ 50 := by have := HLA.out; have := HLB.out; omega
          obtain ⟨p, hp⟩ : ∃ p, la[i]? = some p := ⟨_, List.getElem?_eq_getElem hil⟩
          have hB0 : Below w.heap.size w wp := nextB HM3.out.bel hbel
          obtain ⟨bb, o, rfl, _, hcl⟩ := (Prs.below HPA.out.2 hB0).at_ (by omega)
          obtain ⟨d1, d2⟩ := hcl i p hp
          have hnx := drop_rev hp
          have htl : T.length ≤ 100 := by have := HLA.out; have := HLB.out; rw [hT]; simp; omega
          obtain ⟨z, hz⟩ : ∃ z : Int, (i : Int) - 1 = z := ⟨_, rfl⟩
          have hz1 : -1 ≤ z := by omega
          have hz2 : z ≤ 50 := by omega
          have HZ := Lib.hid hz
          have HO := Lib.hid ho
          have HBE := Lib.hid hbel
          have HT2 : Hid (T ++ [p] = lb.reverse ++ (la.drop i).reverse) := Lib.hid (by rw [hT, hnx, List.append_assoc])
          have HIL := Lib.hid hil
          have HTL := Lib.hid htl
          obtain ⟨x, n⟩ := p
          dsimp only at d1 d2
          clear hT hnx hp hk hil htl hbel ho hcl hB0
          go_wp2_with (at_builtin; refine Hid.out ?_)
          have hal : Below w6.heap.size w6 (wp.alloc (.cells #[.int .i64 x, .int .u64 (n : Int)] 38)) := newB HBE.out _
          refine wpList_app (xs := pcs T) (news := pcs [(x, n)]) rfl rfl elem_pair rfl (Own.alloc (show Own wp w6.heap.size 38 2 A T.length c (pcs T) from HO.out) _) rfl (pair_new wp x n) (pcs_one _) (T.length + 1) rfl (pcs (T ++ [(x, n)])) (pcs_append _ _).symm (by have := HTL.out; unfold maxLen; omega) (by have := HTL.out; omega) (Nat.le_trans (Nat.le_refl _) (Nat.le_trans HBE.out.size (by simp))) ?_
          intro A' c' w' o' g' _
          have HO' : Hid (OwnP w' w6.heap.size A' c' (T ++ [(x, n)])) := Lib.hid (by unfold OwnP; rw [List.length_append]; exact o')
          have HBE' := Lib.hid (appB hal (Own.alloc (show Own wp w6.heap.size 38 2 A T.length c (pcs T) from HO.out) _) g' (Nat.le_refl _) hal.size)
          clear o' g' hal
          go_wp2_with fail
          go_roundw
          case rel => exact ⟨i, T ++ [(x, n)], A', c', back_at HZ.out.symm, Nat.le_of_lt HIL.out, HT2.out, by rw [List.length_append]; rfl, HO'.out, HBE'.out⟩
          case measure => have := HZ.out; simp [intOf]; omega
        · have HB7 := Lib.hid hbel
          have HM3'' := Lib.hid (HM3.out.below hbel)
          rw [List.drop_zero] at hT
          have hpv : Pairs wp A T := ⟨fun p hp => by
            rw [hT] at hp
            rcases List.mem_append.1 hp with h | h
            · exact HPB.out.1 p (List.mem_reverse.1 h)
            · exact HPA.out.1 p (List.mem_reverse.1 h), OwnP.reads ho⟩
          have HTV := Lib.hid hT
          have HPV := Lib.hid hpv
          clear ho hbel hpv hk hT
          go_wp2_with fail
          refine (HCV.out T HTV.out A c wp HPV.out).mono ?_
          rintro e w9 ⟨g4, gl4, A4, c4, Ar4, cr4, rfl, hg4, hgl4, hs4, _, hb4, _⟩
          have HM4 := Lib.hid (HM3''.out.more hb4 hs4 hg4 hgl4)
          clear hs4 hb4 hg4 hgl4
          go_wp2_with fail
          refine (HCB.out w9 (ct_at HPB.out HM4.out.bel)).mono ?_
          rintro e w10 ⟨g5, gl5, A5', c5', Ar5, cr5, rfl, hg5, hgl5, hs5, _, hb5, _⟩
          have HM5 := Lib.hid (HM4.out.more hb5 hs5 hg5 hgl5)
          clear hs5 hb5 hg5 hgl5
          go_wp2_with fail
          refine (HCA.out w10 (ct_at HPA.out HM5.out.bel)).mono ?_
          rintro e w11 ⟨g6, gl6, A6', c6', Ar6, cr6, rfl, hg6, hgl6, hs6, _, hb6, _⟩
          have HM6 := Lib.hid (HM5.out.more hb6 hs6 hg6 hgl6)
          clear hs6 hb6 hg6 hgl6
          go_wp2_with fail
          refine (HTS.out g1 gl1 A1 c1 g2 gl2 A2 c2 w11 (by simpa [upd] using HM6.out.sto 0 (by decide)) (by simpa [upd] using HM6.out.sto 1 (by decide))).mono ?_
          rintro e w12 ⟨rfl, As, cs, k12⟩
          have HM7 := Lib.hid (HM6.out.act (a := 0) (by decide) (L' := E) (A' := As) (c' := cs) (by simpa [upd] using k12))
          clear k12
          go_wp2_with fail
          refine (HTX.out g5 gl5 A5' c5' g6 gl6 A6' c6' w12 (by simpa [upd] using HM7.out.sto 4 (by decide)) (by simpa [upd] using HM7.out.sto 5 (by decide))).mono ?_
          rintro e w13 ⟨rfl, Ax, cx, k13⟩
          have HM8 := Lib.hid (HM7.out.act (a := 4) (by decide) (L' := E) (A' := Ax) (c' := cx) (by simpa [upd] using k13))
          clear k13
          have HFIN : Hid (∀ W, Below w13.heap.size w13 W → Below w.heap.size w W ∧ Sto W g1 gl1 As cs (b : Int) E ∧ Sto W g3 gl3 A6 c6 (b : Int) E ∧ Sto W g4 gl4 A4 c4 (b : Int) E ∧ Sto W g5 gl5 Ax cx (b : Int) E) := Lib.hid (fun W hW => by
            have h := HM8.out.below hW
            exact ⟨h.bel, by simpa [upd] using h.sto 0 (by decide), by simpa [upd] using h.sto 2 (by decide), by simpa [upd] using h.sto 3 (by decide), by simpa [upd] using h.sto 4 (by decide)⟩)
          clear HM0 HM1 HM2 HM2' HM3 HM3'' HM4 HM5 HM6 HM7 HM8
          go_wp2_with fail
          have HK0 : Hid (Below w13.heap.size w13 (w13.alloc (.cells #[.pointer (some ⟨g3, 0, none⟩), .pointer (some ⟨g4, 0, none⟩), .pointer (some ⟨g5, 0, none⟩)] 26)) ∧ Blk (w13.alloc (.cells #[.pointer (some ⟨g3, 0, none⟩), .pointer (some ⟨g4, 0, none⟩), .pointer (some ⟨g5, 0, none⟩)] 26)) w13.heap.size 26 #[.pointer (some ⟨g3, 0, none⟩), .pointer (some ⟨g4, 0, none⟩), .pointer (some ⟨g5, 0, none⟩)]) := Lib.hid ⟨(Below.refl _ _).alloc (Nat.le_refl _) _, Blk.new _ _ _⟩
          generalize w13.alloc (.cells #[.pointer (some ⟨g3, 0, none⟩), .pointer (some ⟨g4, 0, none⟩), .pointer (some ⟨g5, 0, none⟩)] 26) = w14 at *
          refine wp_loop_rounds 4 ?_
          rw [rounds_succ]
          have a0 : w14.cell? ⟨w13.heap.size, 0, none⟩ = some (.pointer (some ⟨g3, 0, none⟩)) := by rw [HK0.out.2.cell]; rfl
          go_wp2_with fail
          clear a0
          refine (HPS.out g1 gl1 As cs w14 (HFIN.out _ HK0.out.1).2.1).mono ?_
          rintro e p0 ⟨Ap0, cp0, rfl, hp0, hbp0⟩
          have HQ0 := Lib.hid (And.intro (nextB HK0.out.1 hbp0) (HK0.out.2.below hbp0 HK0.out.2.lt))
          have HR0 := Lib.hid (OwnP.reads hp0)
          clear hp0 hbp0
          go_wp2_with fail
          refine (HPS.out g3 gl3 A6 c6 p0 (HFIN.out _ HQ0.out.1).2.2.1).mono ?_
          rintro e q0 ⟨Aq0, cq0, rfl, hq0, hbq0⟩
          have HS0 := Lib.hid (And.intro (nextB HQ0.out.1 hbq0) (HQ0.out.2.below hbq0 HQ0.out.2.lt))
          have HU0 := Lib.hid (OwnP.reads hq0)
          have HV0 := Lib.hid (HR0.out.at_below hbq0)
          clear hq0 hbq0
          go_wp2_with fail
          refine (HSA.out Ap0 Aq0 cp0 cq0 _ _ q0 HV0.out HU0.out).mono ?_
          rintro e r0 ⟨rfl, n0, hr0⟩
          have HK1 : Hid (Below w13.heap.size w13 r0 ∧ Blk r0 w13.heap.size 26 #[.pointer (some ⟨g3, 0, none⟩), .pointer (some ⟨g4, 0, none⟩), .pointer (some ⟨g5, 0, none⟩)]) := Lib.hid (by rw [hr0]; exact ⟨below_drewN HS0.out.1 _, HS0.out.2.drewN _⟩)
          clear hr0
          go_wp2_with fail
          refine (HFS.out g1 gl1 As cs r0 (HFIN.out _ HK1.out.1).2.1).mono ?_
          rintro e s0 ⟨rfl, rfl⟩
          go_wp2_with fail
          refine (HFS.out g3 gl3 A6 c6 r0 (HFIN.out _ HK1.out.1).2.2.1).mono ?_
          rintro e t0 ⟨rfl, rfl⟩
          go_wp2_with fail
          refine (HTO.out g1 gl1 As cs r0 (HFIN.out _ HK1.out.1).2.1).mono ?_
          rintro e u0 ⟨rfl, rfl⟩
          go_wp2_with fail
          refine (HTO.out g3 gl3 A6 c6 r0 (HFIN.out _ HK1.out.1).2.2.1).mono ?_
          rintro e v0 ⟨rfl, rfl⟩
          go_wp2_with fail
          rw [rounds_succ]
          have a1 : r0.cell? ⟨w13.heap.size, 1, none⟩ = some (.pointer (some ⟨g4, 0, none⟩)) := by rw [HK1.out.2.cell]; rfl
          go_wp2_with fail
          clear a1
          refine (HPS.out g1 gl1 As cs r0 (HFIN.out _ HK1.out.1).2.1).mono ?_
          rintro e p1 ⟨Ap1, cp1, rfl, hp1, hbp1⟩
          have HQ1 := Lib.hid (And.intro (nextB HK1.out.1 hbp1) (HK1.out.2.below hbp1 HK1.out.2.lt))
          have HR1 := Lib.hid (OwnP.reads hp1)
          clear hp1 hbp1
          go_wp2_with fail
          refine (HPS.out g4 gl4 A4 c4 p1 (HFIN.out _ HQ1.out.1).2.2.2.1).mono ?_
          rintro e q1 ⟨Aq1, cq1, rfl, hq1, hbq1⟩
          have HS1 := Lib.hid (And.intro (nextB HQ1.out.1 hbq1) (HQ1.out.2.below hbq1 HQ1.out.2.lt))
          have HU1 := Lib.hid (OwnP.reads hq1)
          have HV1 := Lib.hid (HR1.out.at_below hbq1)
          clear hq1 hbq1
          go_wp2_with fail
          refine (HSA.out Ap1 Aq1 cp1 cq1 _ _ q1 HV1.out HU1.out).mono ?_
          rintro e r1 ⟨rfl, n1, hr1⟩
          have HK2 : Hid (Below w13.heap.size w13 r1 ∧ Blk r1 w13.heap.size 26 #[.pointer (some ⟨g3, 0, none⟩), .pointer (some ⟨g4, 0, none⟩), .pointer (some ⟨g5, 0, none⟩)]) := Lib.hid (by rw [hr1]; exact ⟨below_drewN HS1.out.1 _, HS1.out.2.drewN _⟩)
          clear hr1
          go_wp2_with fail
          refine (HFS.out g1 gl1 As cs r1 (HFIN.out _ HK2.out.1).2.1).mono ?_
          rintro e s1 ⟨rfl, rfl⟩
          go_wp2_with fail
          refine (HFS.out g4 gl4 A4 c4 r1 (HFIN.out _ HK2.out.1).2.2.2.1).mono ?_
          rintro e t1 ⟨rfl, rfl⟩
          go_wp2_with fail
          refine (HTO.out g1 gl1 As cs r1 (HFIN.out _ HK2.out.1).2.1).mono ?_
          rintro e u1 ⟨rfl, rfl⟩
          go_wp2_with fail
          refine (HTO.out g4 gl4 A4 c4 r1 (HFIN.out _ HK2.out.1).2.2.2.1).mono ?_
          rintro e v1 ⟨rfl, rfl⟩
          go_wp2_with fail
          rw [rounds_succ]
          have a2 : r1.cell? ⟨w13.heap.size, 2, none⟩ = some (.pointer (some ⟨g5, 0, none⟩)) := by rw [HK2.out.2.cell]; rfl
          go_wp2_with fail
          clear a2
          refine (HPS.out g1 gl1 As cs r1 (HFIN.out _ HK2.out.1).2.1).mono ?_
          rintro e p2 ⟨Ap2, cp2, rfl, hp2, hbp2⟩
          have HQ2 := Lib.hid (And.intro (nextB HK2.out.1 hbp2) (HK2.out.2.below hbp2 HK2.out.2.lt))
          have HR2 := Lib.hid (OwnP.reads hp2)
          clear hp2 hbp2
          go_wp2_with fail
          refine (HPS.out g5 gl5 Ax cx p2 (HFIN.out _ HQ2.out.1).2.2.2.2).mono ?_
          rintro e q2 ⟨Aq2, cq2, rfl, hq2, hbq2⟩
          have HS2 := Lib.hid (And.intro (nextB HQ2.out.1 hbq2) (HQ2.out.2.below hbq2 HQ2.out.2.lt))
          have HU2 := Lib.hid (OwnP.reads hq2)
          have HV2 := Lib.hid (HR2.out.at_below hbq2)
          clear hq2 hbq2
          go_wp2_with fail
          refine (HSA.out Ap2 Aq2 cp2 cq2 _ _ q2 HV2.out HU2.out).mono ?_
          rintro e r2 ⟨rfl, n2, hr2⟩
          have HK3 : Hid (Below w13.heap.size w13 r2 ∧ Blk r2 w13.heap.size 26 #[.pointer (some ⟨g3, 0, none⟩), .pointer (some ⟨g4, 0, none⟩), .pointer (some ⟨g5, 0, none⟩)]) := Lib.hid (by rw [hr2]; exact ⟨below_drewN HS2.out.1 _, HS2.out.2.drewN _⟩)
          clear hr2
          go_wp2_with fail
          refine (HFS.out g1 gl1 As cs r2 (HFIN.out _ HK3.out.1).2.1).mono ?_
          rintro e s2 ⟨rfl, rfl⟩
          go_wp2_with fail
          refine (HFS.out g5 gl5 Ax cx r2 (HFIN.out _ HK3.out.1).2.2.2.2).mono ?_
          rintro e t2 ⟨rfl, rfl⟩
          go_wp2_with fail
          refine (HTO.out g1 gl1 As cs r2 (HFIN.out _ HK3.out.1).2.1).mono ?_
          rintro e u2 ⟨rfl, rfl⟩
          go_wp2_with fail
          refine (HTO.out g5 gl5 Ax cx r2 (HFIN.out _ HK3.out.1).2.2.2.2).mono ?_
          rintro e v2 ⟨rfl, rfl⟩
          go_wp2_with fail
          rw [rounds_succ]
          go_wp2_with fail
          go_ret
          exact ⟨rfl, (HFIN.out _ HK3.out.1).1⟩
theorem collapseOrder_walk (w : World) (m : Int) (m0 : 0 ≤ m) (_m1 : m ≤ 65535) (A0 : Option Addr) (c0 : Nat) (la : List Pr) (_hla : la.length ≤ maxLen) (ha : Pairs w A0 la) (B0 : Option Addr) (d0 : Nat) (lb : List Pr) (_hlb : lb.length ≤ maxLen) (hb : Pairs w B0 lb) :
    Calls Try.prog 5 #[.int .u16 m, .slice A0 la.length c0, .slice B0 lb.length d0] w fun e w' => e = .returned (.bool true) ∧ Below w.heap.size w w' := by
  by_cases h : 50 < la.length ∨ la.length ≤ 50 ∧ 50 < lb.length
  · exact order_big w m A0 c0 la B0 d0 lb h
  · obtain ⟨m, rfl⟩ : ∃ k : Nat, m = (k : Int) := ⟨m.toNat, by omega⟩
    exact order_small w m A0 c0 la ha B0 d0 lb hb (by omega) (by omega)
end Go.Proofs.Ytmpmjgoipfgfoaa
