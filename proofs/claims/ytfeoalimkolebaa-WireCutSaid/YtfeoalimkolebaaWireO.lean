/- Wire: Get walked. -/
import Derived.Test.YtfeoalimkolebaaWireN
namespace Go.Proofs.Ytfeoalimkolebaa
open Go.RowKit
open Wi
theorem Own.ne_own {w : World} {base base' : Nat} {e e' : TypeId} {size size' n n' c c' : Nat} {A A' : Option Addr} {xs xs' : List Value} (h : Own w base e size A n c xs) (h' : Own w base' e' size' A' n' c' xs') (hne : e ≠ e') (g : Nat) (hg : blockOf A = some g) : blockOf A' ≠ some g := by
  rcases h.2 with ⟨hv, _⟩ | ⟨g1, cap, cur, hv, _, hh, _⟩
  · injection hv with hA _ _
    subst hA
    cases hg
  · injection hv with hA _ _
    subst hA
    have hg1 : g1 = g := by simpa [blockOf] using hg
    subst hg1
    exact Own.ne_blk h' (show Blk w g1 e cur from hh) (fun h => hne h.symm)
/-- Numbers without a sign, as values. -/
def uv (n : Nat) : Value := .int .u64 (n : Int)
def uvs (l : List Nat) : List Value := l.map uv
theorem uvs_append (l m : List Nat) : uvs (l ++ m) = uvs l ++ uvs m := by simp [uvs]
theorem uvs_length (l : List Nat) : (uvs l).length = l.length := by simp [uvs]
theorem uvs_one (l : List Nat) : ∀ u ∈ uvs l, u.oneCell' = true := by
  intro u hu
  obtain ⟨_, _, rfl⟩ := List.mem_map.1 hu
  rfl
theorem elem_u64 : Elem Try.prog 22 37 1 8 := elem_of Try.underlying22 (z := .int .u64 0) (by kernel_rfl) (by decide) (by decide)
theorem u64_new (w : World) (n : Nat) : Reads (w.alloc (.cells #[.int .u64 (n : Int)] 37)) (w.alloc (.cells #[.int .u64 (n : Int)] 37)).heap.size 1 (some ⟨w.heap.size, 0, none⟩) 1 (uvs [n]) :=
  Reads.lit (newest _ _) rfl rfl
/-- The slice '.slice A l.length c', the call's own, holds the numbers l. -/
def OwnU (w : World) (base : Nat) (A : Option Addr) (c : Nat) (l : List Nat) : Prop := Own w base 37 1 A l.length c (uvs l)
/-- A slice '.slice A l.length _' that holds the numbers l. -/
def Us (w : World) (B : Nat) (A : Option Addr) (l : List Nat) : Prop := Reads w B 1 A l.length (uvs l)
namespace Wi
theorem dleb_used : ∀ (l : List UInt8) (i n : Nat), (dleb i n l).1 = 0 → (dleb i n l).2.2 ≤ i + l.length ∧ i < (dleb i n l).2.2
  | [], i, n => by simp [dleb]
  | x :: l, i, n => by
    unfold dleb
    split
    · simp
    · split
      · intro h
        have := dleb_used l (i + 1) _ h
        rw [List.length_cons]
        omega
      · split
        · simp
        · intro _
          rw [List.length_cons]
          exact ⟨by dsimp only; omega, by dsimp only; omega⟩
theorem dleb_err : ∀ (l : List UInt8) (i n : Nat), (dleb i n l).1 ≠ 0 → (dleb i n l).2.2 = 0
  | [], i, n => by simp [dleb]
  | x :: l, i, n => by
    unfold dleb
    split
    · simp
    · split
      · exact dleb_err l (i + 1) _
      · split <;> simp
theorem dnine_used : ∀ (l : List UInt8) (i n : Nat), (dnine i n l).1 = 0 → (dnine i n l).2.2 ≤ i + l.length
  | [], i, n => by simp [dnine]
  | x :: l, i, n => by
    unfold dnine
    split
    · split
      · simp
      · intro _; rw [List.length_cons]; dsimp only; omega
    · split
      · intro h
        have := dnine_used l (i + 1) _ h
        rw [List.length_cons]
        omega
      · split
        · simp
        · intro _
          rw [List.length_cons]
          dsimp only; omega
theorem dnine_err : ∀ (l : List UInt8) (i n : Nat), (dnine i n l).1 ≠ 0 → (dnine i n l).2.2 = 0
  | [], i, n => by simp [dnine]
  | x :: l, i, n => by
    unfold dnine
    split
    · split <;> simp
    · split
      · exact dnine_err l (i + 1) _
      · split <;> simp
theorem dnine_lt : ∀ (l : List UInt8) (i n : Nat), i ≤ 8 → n < 128 ^ i → (dnine i n l).2.1 < 18446744073709551616
  | [], _, _, _, _ => by simp [dnine]
  | x :: l, i, n, hi, hn => by
    have hx := x.toNat_lt
    unfold dnine
    split
    · rename_i h8
      subst h8
      split
      · decide
      · exact unsign_lt (by omega)
    · split
      · exact dnine_lt l (i + 1) _ (by omega) (leb_lt hn)
      · split
        · decide
        · refine unsign_lt ?_
          have e2 : (128 : Nat) ^ i ≤ 128 ^ 7 := Nat.pow_le_pow_right (by decide) (by omega)
          have e4 : x.toNat % 128 * 128 ^ i ≤ 127 * 128 ^ 7 := Nat.mul_le_mul (by omega) e2
          omega
theorem lov_small8 {l : List UInt8} (h : l.length ≤ 8) : lov l < 18446744073709551616 := by
  have h1 := lov_lt l
  have e2 : (256 : Nat) ^ l.length ≤ 256 ^ 8 := Nat.pow_le_pow_right (by decide) h
  omega
end Wi
theorem frm_size {k : Nat} {f : Frm} (hf : frms[k]? = some f) : f.2.1 ≤ 8 := by
  have hk : k < 10 := (List.getElem?_eq_some_iff.1 hf).1
  rcases k with _ | _ | _ | _ | _ | _ | _ | _ | _ | _ | k <;> first | omega | (injection hf with hf; subst hf; decide)
theorem dec_lt (f : Frm) (l : List UInt8) (hs : f.2.1 ≤ 8) : (decF f l).2.1 < 18446744073709551616 := by
  unfold decF
  split
  · split
    · show 0 < _; decide
    · exact lov_small8 (by rw [List.length_take]; omega)
  split
  · split
    · show 0 < _; decide
    · exact lov_small8 (by rw [List.length_reverse, List.length_take]; omega)
  split
  · exact dleb_lt l 0 0 (by decide) (by decide)
  split
  · exact unsign_lt (dleb_lt l 0 0 (by decide) (by decide))
  · exact dnine_lt l 0 0 (by decide) (by decide)
theorem dec_used (f : Frm) (l : List UInt8) : (decF f l).2.2 ≤ l.length := by
  unfold decF
  split
  · split
    · exact Nat.zero_le _
    · show f.2.1 ≤ _; omega
  split
  · split
    · exact Nat.zero_le _
    · show f.2.1 ≤ _; omega
  split
  · rcases Nat.eq_zero_or_pos (dleb 0 0 l).1 with h | h
    · have := (dleb_used l 0 0 h).1; omega
    · rw [dleb_err l 0 0 (by omega)]; exact Nat.zero_le _
  split
  · show (dleb 0 0 l).2.2 ≤ _
    rcases Nat.eq_zero_or_pos (dleb 0 0 l).1 with h | h
    · have := (dleb_used l 0 0 h).1; omega
    · rw [dleb_err l 0 0 (by omega)]; exact Nat.zero_le _
  · rcases Nat.eq_zero_or_pos (dnine 0 0 l).1 with h | h
    · have := dnine_used l 0 0 h; omega
    · rw [dnine_err l 0 0 (by omega)]; exact Nat.zero_le _
/-- By a letter. -/
def decX (x : UInt8) (l : List UInt8) : Nat × Nat × Nat := match frms[fi x.toNat]? with
  | some f => decF f l
  | none => (22, 0, 0)
theorem decX_of {x : UInt8} {f : Frm} (h : frms[fi x.toNat]? = some f) (l : List UInt8) : decX x l = decF f l := by unfold decX; rw [h]
/-- By a pattern: behind the numbers ns and p bytes. -/
def goL : List UInt8 → List UInt8 → List Nat → Nat → Nat × List Nat × Nat
  | [], _, ns, p => (0, ns, p)
  | x :: pt, l, ns, p => if (decX x l).1 = 0 then goL pt (l.drop (decX x l).2.2) (ns ++ [(decX x l).2.1]) (p + (decX x l).2.2) else ((decX x l).1, [], 0)
def getW (pt l : List UInt8) : Nat × List Nat × Nat := if rightB pt then goL pt l [] 0 else (22, [], 0)
def GetPost (w : World) (r : Nat × List Nat × Nat) (e : Ending) (w' : World) : Prop := ∃ A c, e = .returned (.tuple #[.slice A r.2.1.length c, .int .i64 (r.2.2 : Nat), .int .i64 (r.1 : Nat)]) ∧ OwnU w' w.heap.size A c r.2.1 ∧ Below w.heap.size w w'
theorem ok_at {a : ByteArray} (h : a.data.toList.all okL = true) {i : Nat} (hi : i < a.size) : ∃ f, frms[fi a[i].toNat]? = some f := by
  rw [List.all_eq_true] at h
  have h1 := h a[i] (List.mem_of_getElem? (str_at a i hi))
  have h2 : fi a[i].toNat < 10 := of_decide_eq_true h1
  exact ⟨_, List.getElem?_eq_getElem h2⟩
theorem drop_str {a : ByteArray} {i : Nat} (hi : i < a.size) : a.data.toList.drop i = a[i] :: a.data.toList.drop (i + 1) := by
  have h := str_at a i hi
  obtain ⟨h1, h2⟩ := List.getElem?_eq_some_iff.1 h
  rw [List.drop_eq_getElem_cons h1, h2]
/-- Behind a step of the reader: the numbers are as they were. -/
theorem get_mid {w wo w1 : World} {base gr cr : Nat} {Ar : Option Addr} {l : List UInt8} {p p' c : Nat} {A : Option Addr} {ns : List Nat} (hr : Rdr wo base gr Ar cr l p) (hu : OwnU wo w.heap.size A c ns) (hbel : Below w.heap.size w wo) (hgr : w.heap.size ≤ gr)
    (_h1 : Rdr w1 base gr Ar cr l p') (h2 : Only (RK gr) wo w1) : OwnU w1 w.heap.size A c ns ∧ Below w.heap.size w w1 :=
  ⟨Own.only hu h2 (fun g hg e => Own.ne_blk hu hr.1 (by decide) (by rw [hg, e])), hbel.trans (h2.below hbel.size (fun i hi => by rw [hi]; exact hgr))⟩
/-- Behind the append: the reader is as it was. -/
theorem get_app {w1 w3 : World} {base base' gr cr : Nat} {Ar : Option Addr} {l : List UInt8} {p c : Nat} {A : Option Addr} {ns : List Nat} {cs : Array Value} (hr : Rdr w1 base gr Ar cr l p) (hu : OwnU w1 base' A c ns)
    (g3 : (w1.alloc (.cells cs 37)).grownBy w3 (blockOf A)) : Rdr w3 base gr Ar cr l p := by
  have hu2 := Own.alloc (show Own w1 base' 37 1 A ns.length c (uvs ns) from hu) (.cells cs 37)
  have hb2 := hr.1.alloc (.cells cs 37)
  have ho2 := Own.alloc (show Own w1 base 5 1 Ar l.length cr (bvs l) from hr.2) (.cells cs 37)
  refine ⟨hb2.grown g3 (fun e => Own.ne_blk hu2 hb2 (by decide) e.symm), Own.kept ho2 g3 ?_⟩
  cases hA : blockOf Ar with
  | none => exact .inl rfl
  | some g => exact .inr (fun e => Own.ne_own ho2 hu2 (by decide) g hA e.symm)
set_option maxRecDepth 100000 in
set_option maxHeartbeats 3200000 in
theorem get_t (a : ByteArray) (A0 : Option Addr) (c0 : Nat) (l : List UInt8) (w : World) (hb : Bts w w.heap.size A0 l) (hl : l.length ≤ 100000000) :
    Calls Try.prog 11 #[.string a, .slice A0 l.length c0] w (GetPost w (getW a.data.toList l)) := by
  have hs : a.data.toList.length = a.size := by simp
  by_cases hR : rightB a.data.toList = true
  · have hall : a.data.toList.all okL = true := by
      unfold rightB at hR
      rw [Bool.and_eq_true] at hR
      exact hR.2
    have h64 : a.size ≤ 64 := by
      unfold rightB at hR
      rw [Bool.and_eq_true] at hR
      have := of_decide_eq_true hR.1
      omega
    have ha : (a.size : Int) ≤ 64 := by omega
    have HRT := Lib.hid (fun W => right_t a W)
    obtain ⟨R, hRe⟩ : ∃ R, R = getW a.data.toList l := ⟨_, rfl⟩
    rw [← hRe]
    have HRE : Hid (R = goL a.data.toList l [] 0) := Lib.hid (by rw [hRe, getW, if_pos hR])
    rw [hR] at HRT
    have HA := Lib.hid hall
    have HS := Lib.hid hs
    have HB := Lib.hid hb
    clear hRe hR hall hs hb h64
    go_enter Try.func11, Try.ntmps11
    go_wp2_with fail
    refine (HRT.out _).mono ?_
    rintro e w1 ⟨rfl, h1⟩
    have H1 := Lib.hid h1
    clear h1
    go_wp2_with fail
    refine (new_t A0 c0 l w1 (HB.out.at_below H1.out) hl).mono ?_
    rintro e w2 ⟨gr, Ar, cr, rfl, hgr, hrd, hb2⟩
    have HGR : Hid (w.heap.size ≤ gr) := Lib.hid (Nat.le_trans H1.out.size hgr)
    have HRD := Lib.hid hrd
    have HB2 := Lib.hid (nextB H1.out hb2)
    clear hgr hrd hb2
    go_wp2_with fail
    go_loopw [9, 22] (fun u v wr => ∃ (i p : Nat) (ns : List Nat) (A : Option Addr) (c : Nat), u = .slice A ns.length c ∧ v = .int .i64 (i : Int) ∧ i ≤ a.size ∧ ns.length = i ∧ p ≤ l.length ∧ R = goL (a.data.toList.drop i) (l.drop p) ns p ∧ Rdr wr w1.heap.size gr Ar cr l p ∧ OwnU wr w.heap.size A c ns ∧ Below w.heap.size w wr) (fun _ v _ => a.size - (intOf v).toNat)
    case atStart => exact ⟨0, 0, [], none, 0, rfl, rfl, Nat.zero_le _, rfl, Nat.zero_le _, HRE.out, HRD.out, Own.nil _ _ _ _, HB2.out⟩
    case round =>
      obtain ⟨i, p, ns, A, c, rfl, rfl, hi, hns, hp, hRi, hrd, hu, hbel⟩ := hrel
      obtain ⟨wo, rfl⟩ : ∃ wo : World, wo = wr := ⟨_, rfl⟩
      have HW := Lib.hid hbel
      have HU := Lib.hid hu
      have HR := Lib.hid hrd
      have HP := Lib.hid hp
      have HN := Lib.hid hns
      have HRI := Lib.hid hRi
      clear hbel hu hrd hp hRi hns
      by_cases hlt : i < a.size
      · have hii : (i : Int) < (a.size : Int) := by omega
        have hi0 : (0 : Int) ≤ (i : Int) := by omega
        obtain ⟨f, hf⟩ := ok_at HA.out hlt
        have HG := Lib.hid (next_t w1.heap.size gr Ar cr l p a[i].toNat wo HR.out HP.out hl hf)
        have hRn : R = goL (a[i] :: a.data.toList.drop (i + 1)) (l.drop p) ns p := by rw [HRI.out, drop_str hlt]
        unfold goL at hRn
        rw [decX_of hf] at hRn
        have hu1 := dec_used f (l.drop p)
        have hu2 := dec_lt f (l.drop p) (frm_size hf)
        have hpu : p + (decF f (l.drop p)).2.2 ≤ l.length := by have := HP.out; rw [List.length_drop] at hu1; omega
        generalize decF f (l.drop p) = r at *
        obtain ⟨re, rn, ru⟩ := r
        dsimp only at hRn hu1 hu2 hpu
        have HI := Lib.hid hlt
        have HPU := Lib.hid hpu
        clear hf hu1 hi hpu
        by_cases hre : re = 0
        · rw [if_pos hre] at hRn
          subst hre
          have HRN := Lib.hid hRn
          have hnl : ns.length ≤ 100 := by have := HN.out; have := HI.out; omega
          clear hRn
          go_wp2_with fail
          refine HG.out.mono ?_
          rintro e w3 ⟨rfl, h3, h4⟩
          obtain ⟨hu3, hb3⟩ := get_mid HR.out HU.out HW.out HGR.out h3 h4
          have HR3 := Lib.hid h3
          have HU3 := Lib.hid hu3
          have HB3 := Lib.hid hb3
          clear h3 h4 hu3 hb3
          dsimp only
          go_wp2_with (at_builtin; refine Hid.out ?_)
          have hO2 := Own.alloc (show Own w3 w.heap.size 37 1 A ns.length c (uvs ns) from HU3.out) (.cells #[.int .u64 (rn : Int)] 37)
          refine wpList_app (xs := uvs ns) rfl rfl elem_u64 rfl hO2 rfl (u64_new w3 rn) (uvs_one _) (ns.length + 1) rfl (uvs (ns ++ [rn])) (uvs_append _ _).symm (by unfold maxLen; omega) (by omega) (by have := HB3.out.size; simp; omega) ?_
          intro A3 c3 w4 o3 g3 q3
          have HR4 := Lib.hid (get_app HR3.out HU3.out g3)
          have HB4 := Lib.hid (appB (newB HB3.out (.cells #[.int .u64 (rn : Int)] 37)) hO2 g3 (Nat.le_refl _) (newB HB3.out (.cells #[.int .u64 (rn : Int)] 37)).size)
          have HU4 : Hid (OwnU w4 w.heap.size A3 c3 (ns ++ [rn])) := Lib.hid (by unfold OwnU; rw [List.length_append]; exact o3)
          clear hO2 o3 g3 q3
          go_wp2_with fail
          go_roundw
          case rel => exact ⟨i + 1, p + ru, ns ++ [rn], A3, c3, by rw [List.length_append]; rfl, by go_num, HI.out, by rw [List.length_append, HN.out]; rfl, HPU.out, by rw [HRN.out, List.drop_drop], HR4.out, HU4.out, HB4.out⟩
          case measure => have := HI.out; simp [intOf]; omega
        · rw [if_neg hre] at hRn
          have e1 : ((re : Int) != 0) = true := by simp; omega
          have e2 : ((re : Int) == 0) = false := by simp; omega
          have HRN := Lib.hid hRn
          clear hRn hre
          go_wp2_with fail
          refine HG.out.mono ?_
          rintro e w3 ⟨rfl, h3, h4⟩
          obtain ⟨hu3, hb3⟩ := get_mid HR.out HU.out HW.out HGR.out h3 h4
          have HB3 := Lib.hid hb3
          clear h3 h4 hu3 hb3
          dsimp only
          go_wp2_with fail
          go_ret3
          rw [HRN.out]
          exact ⟨none, 0, rfl, Own.nil _ _ _ _, HB3.out⟩
      · have hi2 : a.size = i := by omega
        have hge : decide (i < a.size) = false := by simp; omega
        have hge2 : ¬ (i : Int) < (a.size : Int) := by omega
        have HX : Hid (R = (0, ns, p)) := Lib.hid (by rw [HRI.out, List.drop_of_length_le (by rw [HS.out]; omega)]; rfl)
        have HAT := Lib.hid (fun W (h : wo = W) => rat_t w1.heap.size gr Ar cr l p W (h ▸ HR.out))
        clear hi hlt hi2
        go_wp2_with fail
        refine (HAT.out _ rfl).mono ?_
        rintro e w3 ⟨rfl, rfl⟩
        go_wp2_with fail
        go_ret3
        rw [HX.out]
        exact ⟨A, c, rfl, HU.out, HW.out⟩
  · have hR2 : rightB a.data.toList = false := by simpa using hR
    have hg : getW a.data.toList l = (22, [], 0) := by unfold getW; rw [hR2]; rfl
    rw [hg]
    have HRT := Lib.hid (fun W => right_t a W)
    rw [hR2] at HRT
    clear hR hR2 hg hs hb
    go_enter Try.func11, Try.ntmps11
    go_wp2_with fail
    refine (HRT.out _).mono ?_
    rintro e w1 ⟨rfl, h1⟩
    have H1 := Lib.hid h1
    clear h1
    go_wp2_with fail
    go_ret3
    exact ⟨none, 0, rfl, Own.nil _ _ _ _, H1.out⟩
end Go.Proofs.Ytfeoalimkolebaa
