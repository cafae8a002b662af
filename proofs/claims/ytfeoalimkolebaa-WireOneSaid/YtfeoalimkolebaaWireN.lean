/- Wire: what every letter's reader reads; Next walked. -/
import Derived.Test.YtfeoalimkolebaaWireM
namespace Go.Proofs.Ytfeoalimkolebaa
open Go.RowKit
open Wi
/-- What bytes are read as by a form: an error's number, the number, how many bytes. -/
def decF (f : Frm) (l : List UInt8) : Nat × Nat × Nat :=
  if f.2.2.2 = 30 then (if l.length < f.2.1 then (20, 0, 0) else (0, lov (l.take f.2.1), f.2.1))
  else if f.2.2.2 = 32 then (if l.length < f.2.1 then (20, 0, 0) else (0, hov (l.take f.2.1), f.2.1))
  else if f.2.2.2 = 34 then dleb 0 0 l
  else if f.2.2.2 = 36 then dzig l
  else dnine 0 0 l
theorem glow (base g : Nat) (A : Option Addr) (c : Nat) (l : List UInt8) (p k : Nat) (w : World) (h : Rdr w base g A c l p) (hp : p ≤ l.length) (hk : k ≤ 8) (hl : l.length ≤ 100000000) :
    Calls Try.prog 30 #[.pointer (some ⟨g, 0, none⟩), .int .i64 (k : Int)] w (LebPost base g A c l p (if (l.drop p).length < k then (20, 0, 0) else (0, lov ((l.drop p).take k), k)) w) := by
  have hd : (l.drop p).length = l.length - p := List.length_drop
  split
  · refine (rlow_end base g A c l p k w h hp (by omega) hl).mono ?_
    rintro e w' ⟨rfl, q, rfl⟩
    exact ⟨rfl, ⟨h.1.drewN q, h.2⟩, (Only.refl _ _).drewN q⟩
  · exact rlow_t base g A c l p k w h (by omega) hk hl
theorem ghigh (base g : Nat) (A : Option Addr) (c : Nat) (l : List UInt8) (p k : Nat) (w : World) (h : Rdr w base g A c l p) (hp : p ≤ l.length) (hk : k ≤ 8) (hl : l.length ≤ 100000000) :
    Calls Try.prog 32 #[.pointer (some ⟨g, 0, none⟩), .int .i64 (k : Int)] w (LebPost base g A c l p (if (l.drop p).length < k then (20, 0, 0) else (0, hov ((l.drop p).take k), k)) w) := by
  have hd : (l.drop p).length = l.length - p := List.length_drop
  split
  · refine (rhigh_end base g A c l p k w h hp (by omega) hl).mono ?_
    rintro e w' ⟨rfl, q, rfl⟩
    exact ⟨rfl, ⟨h.1.drewN q, h.2⟩, (Only.refl _ _).drewN q⟩
  · exact rhigh_t base g A c l p k w h (by omega) hk hl
theorem get_any {k : Nat} {f : Frm} (hf : frms[k]? = some f) (base g : Nat) (A : Option Addr) (c : Nat) (l : List UInt8) (p : Nat) (w : World) (h : Rdr w base g A c l p) (hp : p ≤ l.length) (hl : l.length ≤ 100000000) :
    Calls Try.prog f.2.2.2 #[.pointer (some ⟨g, 0, none⟩), .int .i64 (f.2.1 : Int)] w (LebPost base g A c l p (decF f (l.drop p)) w) := by
  have hk : k < 10 := (List.getElem?_eq_some_iff.1 hf).1
  rcases k with _ | _ | _ | _ | _ | _ | _ | _ | _ | _ | k
  · injection hf with hf; subst hf; exact glow base g A c l p 1 w h hp (by omega) hl
  · injection hf with hf; subst hf; exact glow base g A c l p 2 w h hp (by omega) hl
  · injection hf with hf; subst hf; exact ghigh base g A c l p 2 w h hp (by omega) hl
  · injection hf with hf; subst hf; exact glow base g A c l p 4 w h hp (by omega) hl
  · injection hf with hf; subst hf; exact ghigh base g A c l p 4 w h hp (by omega) hl
  · injection hf with hf; subst hf; exact glow base g A c l p 8 w h hp (by omega) hl
  · injection hf with hf; subst hf; exact ghigh base g A c l p 8 w h hp (by omega) hl
  · injection hf with hf; subst hf; exact rleb_t base g A c l p _ w h hp hl
  · injection hf with hf; subst hf; exact rzig_t base g A c l p _ w h hp hl
  · injection hf with hf; subst hf; exact rnine_t base g A c l p _ w h hp hl
  · omega
/-- The cells of a form that was stored in a new block. -/
theorem row_new {w w' : World} {cs0 cs : Array Value} {t : TypeId} (h : w' = (w.alloc (.cells cs0 t)).setRow w.heap.size cs) : Blk w' w.heap.size t cs := by
  rw [h]
  exact setRow_heap _ _ _ _ t _ (heap_alloc_new _ _)
theorem row_below {B : Nat} {a w : World} (h : Below B a w) (hB : B ≤ w.heap.size) (o : Obj) (cs : Array Value) : Below B a ((w.alloc o).setRow w.heap.size cs) :=
  below_setRow (h.alloc hB _) hB _
/-- What the table names is entered. -/
theorem enter_get {k : Nat} {f : Frm} (hf : frms[k]? = some f) : ∀ (args : Array Value) (w : World), (callFunc f.2.2.2 args).run Try.prog w = .ok (.enter f.2.2.2 args) w := by
  have hk : k < 10 := (List.getElem?_eq_some_iff.1 hf).1
  intro args w
  rcases k with _ | _ | _ | _ | _ | _ | _ | _ | _ | _ | k <;> first | omega | (injection hf with hf; subst hf; kernel_rfl)
theorem enter_put {k : Nat} {f : Frm} (hf : frms[k]? = some f) : ∀ (args : Array Value) (w : World), (callFunc f.2.2.1 args).run Try.prog w = .ok (.enter f.2.2.1 args) w := by
  have hk : k < 10 := (List.getElem?_eq_some_iff.1 hf).1
  intro args w
  rcases k with _ | _ | _ | _ | _ | _ | _ | _ | _ | _ | k <;> first | omega | (injection hf with hf; subst hf; kernel_rfl)
set_option maxHeartbeats 1600000 in
theorem next_t (base g : Nat) (A : Option Addr) (c : Nat) (l : List UInt8) (p : Nat) (x : Nat) (w : World) (h : Rdr w base g A c l p) (hp : p ≤ l.length) (hl : l.length ≤ 100000000) {f : Frm} (hf : frms[fi x]? = some f) :
    Calls Try.prog 22 #[.pointer (some ⟨g, 0, none⟩), .int .u8 (x : Int)] w (LebPost base g A c l p (decF f (l.drop p)) w) := by
  have H := Lib.hid h
  have HF := Lib.hid hf
  have HP := Lib.hid hp
  clear h hf hp
  go_enter Try.func22, Try.ntmps22
  go_wp2_with fail
  refine (formOf_t x w).mono ?_
  rintro e w1 ⟨hc, hb1⟩
  have HB1 := Lib.hid hb1
  clear hb1
  rcases hc with ⟨f', hf', rfl⟩ | ⟨h10, rfl⟩
  · obtain rfl : f' = f := by
      have := HF.out
      rw [hf'] at this
      injection this
    clear hf'
    obtain ⟨W2, hW2⟩ : ∃ W2, W2 = (w1.alloc (.cells zeroC.toArray 49)).setRow w1.heap.size (frmC f').toArray := ⟨_, rfl⟩
    have B2 := row_new hW2
    have c1 : W2.cell? ⟨w1.heap.size, 1, none⟩ = some (.int .i64 (f'.2.1 : Int)) := by rw [B2.cell]; rfl
    have c3 : W2.cell? ⟨w1.heap.size, 3, none⟩ = some (fn0 f'.2.2.2) := by rw [B2.cell]; rfl
    have hbw : Below w.heap.size w W2 := by rw [hW2]; exact row_below HB1.out HB1.out.size _ _
    have HG := Lib.hid (get_any HF.out base g A c l p W2 (H.out.below hbw) HP.out hl)
    have HON := Lib.hid (Only.of_below (K := RK g) hbw)
    rw [hW2] at c1 c3 HG HON
    unfold zeroC at c1 c3 HG HON
    unfold fn0 at c3
    have hent := enter_get HF.out
    clear B2 hbw hW2 W2
    unfold frmV
    go_wp2_with (first | (refine wpList_store_row rfl 49 _ _ rfl w1.heap.size (frmC f').toArray rfl rfl 49 _ (heap_alloc_new _ _) frm_info rfl (frmC_one _) ?_) | fail)
    refine HG.out.mono ?_
    rintro e w3 ⟨rfl, h3, h4⟩
    have H3 := Lib.hid h3
    have H4 := Lib.hid h4
    clear h3 h4 c1 c3
    go_wp2_with fail
    go_ret2
    exact ⟨rfl, H3.out, HON.out.trans H4.out⟩
  · exfalso
    have := (List.getElem?_eq_some_iff.1 HF.out).1
    have e : frms.length = 10 := rfl
    omega
end Go.Proofs.Ytfeoalimkolebaa
