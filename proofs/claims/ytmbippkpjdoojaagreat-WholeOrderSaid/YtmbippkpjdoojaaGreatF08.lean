/- Parts of a proof, merged. -/
import Derived.Test.YtmbippkpjdoojaaGreatF07
import Derived.Lib.BitFns
import Derived.Deep.Light
set_option maxRecDepth 100000
set_option maxHeartbeats 1600000
namespace Go.Proofs.YtmbippkpjdoojaaGreat
open Tryz
open Go.RowKit
section
open Pl
theorem Lst.ne_blk{w:World}{g i c:Nat}{A:Option Addr}{L:List Pr}{t:TypeId}{cs:Array Value}(h:Lst w g A c L)(hb:Blk w i t cs)(h1:t≠426)(h2:t≠176):¬LK g A i:=fun e=>by
 rcases e with rfl|e
 ·exact absurd rfl (Blk.ne hb h.1 h1)
 ·exact Own.ne_blk (show Own w g 176 2 A L.length c (pcs L) from h.2) hb (fun e=>h2 e.symm) e
def Did(gl:Nat)(A:Option Addr)(L':List Pr)(er:Int)(w:World)(e:Ending)(w':World):Prop:=e=.returned (.int .i64 er)∧∃A' c',dE gl A L' w w' A' c'
theorem MD(g gl p:Nat)(A:Option Addr)(c:Nat)(C:List Pr)(m:Int)(f:Nat)(k:Int)(n:Nat)(w:World)(hb:Blk w g 360 #[.int .i64 m,.pointer (some ⟨gl,0,none⟩),.int .u64 (f:Nat)])(hl:Lst w gl A c C)(hf:aV C)(p0:Blk w p 267 #[.pointer (some ⟨g,0,none⟩)])(p1:Blk w (p+1) 3 #[.int .i64 k])(p2:Blk w (p+1+1) 35 #[.int .u64 (n:Nat)]):
  Cl 277 #[.pointer (some ⟨p,0,none⟩),.pointer (some ⟨p+1,0,none⟩),.pointer (some ⟨p+1+1,0,none⟩)] w (Did gl A (cq C k n 0).1 (cq C k n 0).2 w):=by
 have Y1:=Oh (fun W h=>zM gl A c C k n W h hf);have d0:=p0.c0;have d1:=p1.c0;have d2:=p2.c0;have dg:=hb.c1;have HL:=Oh hl;have Rn:=Oh (And.intro hb (And.intro p0 (And.intro p1 p2)));generalize cq C k n 0=R at*;clear hb hl hf p0 p1 p2;go_enter func277,ntmps277;go_wp2_with fail;refine wp_region_noPanic ?_;refine wp_region_held_drew (S:=(fun w'=>w'.cell? ⟨p,0,none⟩=some (.pointer (some ⟨g,0,none⟩))∧w'.cell? ⟨g,1,none⟩=some (.pointer (some ⟨gl,0,none⟩))∧w'.cell? ⟨p+1,0,none⟩=some (.int .i64 k)∧w'.cell? ⟨p+1+1,0,none⟩=some (.int .u64 (n:Nat)))) ok' ⟨d0,dg,d1,d2⟩ (fun hHeld=>?_);refine tH 0 ?_;refine tH 1 ?_;refine tH 2 ?_;refine tH 3 ?_;refine tH 4 ?_;refine tH 5 ?_;refine dQ 6 fun K hK=>?_;go_simp;refine(Y1.out _ (show Lst w.drew gl A c C from HL.out)).mono ?_;rintro e w2 ⟨rfl,Ql⟩;obtain⟨A2,c2,Qm⟩:=Ql.acted;have PU:dE gl A R.1 w w2 A2 c2:=⟨Qm.1,(ab.refl (LK gl A) w).drew.trans Qm.2.1,Qm.2.2⟩;have e0:=(Rn.out.2.1.only PU.2.1 (HL.out.ne_blk Rn.out.2.1 (by decide) (by decide))).c0;have e1:=(Rn.out.2.2.1.only PU.2.1 (HL.out.ne_blk Rn.out.2.2.1 (by decide) (by decide))).c0;have e2:=(Rn.out.2.2.2.only PU.2.1 (HL.out.ne_blk Rn.out.2.2.2 (by decide) (by decide))).c0;have eg:=(Rn.out.1.only PU.2.1 (HL.out.ne_blk Rn.out.1 (by decide) (by decide))).c1;have T3:=Oh PU;clear Ql Qm PU;refine hK.out _ _ ?_ (fun hHeld=>?_)
 ·exact⟨e0,eg,e1,e2⟩
 clear hK K
 try go_simp
 refine tH 7 ?_;refine jR ?_;go_wp2_with fail;go_ret;exact⟨rfl,A2,c2,T3.out⟩
theorem GD(g gl p g2 QB:Nat)(A A2:Option Addr)(c c2:Nat)(C D:List Pr)(m m2:Int)(f f2:Nat)(w:World)(hb:Blk w g 360 #[.int .i64 m,.pointer (some ⟨gl,0,none⟩),.int .u64 (f:Nat)])(hl:Lst w gl A c C)(hf:aV C)(aT:Blk w g2 360 #[.int .i64 m2,.pointer (some ⟨QB,0,none⟩),.int .u64 (f2:Nat)])(PT:Lst w QB A2 c2 D)(OT:aV D)(hlen:C.length+D.length≤100000)(p0:Blk w p 267 #[.pointer (some ⟨g,0,none⟩)])(p1:Blk w (p+1) 267 #[.pointer (some ⟨g2,0,none⟩)]):
  Cl 285 #[.pointer (some ⟨p,0,none⟩),.pointer (some ⟨p+1,0,none⟩)] w (Did gl A (bE C D 0).1 (bE C D 0).2 w):=by
 have Qh:=Oh (fun W h h2=>KF gl QB A A2 c c2 C D W h h2 hf OT hlen);have d0:=p0.c0;have d1:=p1.c0;have dg:=hb.c1;have dg2:=aT.c1;have HL:=Oh hl;have HL2:=Oh PT;have Rn:=Oh (And.intro hb (And.intro p0 (And.intro p1 aT)));generalize bE C D 0=R at*;clear hb hl hf p0 p1 aT PT OT hlen;go_enter func285,ntmps285;go_wp2_with fail;refine wp_region_noPanic ?_;refine wp_region_held_drew (S:=(fun w'=>w'.cell? ⟨p,0,none⟩=some (.pointer (some ⟨g,0,none⟩))∧w'.cell? ⟨g,1,none⟩=some (.pointer (some ⟨gl,0,none⟩))∧w'.cell? ⟨p+1,0,none⟩=some (.pointer (some ⟨g2,0,none⟩))∧w'.cell? ⟨g2,1,none⟩=some (.pointer (some ⟨QB,0,none⟩)))) ok' ⟨d0,dg,d1,dg2⟩ (fun hHeld=>?_);refine tH 0 ?_;refine tH 1 ?_;refine tH 2 ?_;refine tH 3 ?_;refine tH 4 ?_;refine tH 5 ?_;refine tH 6 ?_;refine tH 7 ?_;refine dQ 8 fun K hK=>?_;go_simp;refine(Qh.out _ (show Lst w.drew gl A c C from HL.out) (show Lst w.drew QB A2 c2 D from HL2.out)).mono ?_;rintro e w2 ⟨rfl,Ql⟩;obtain⟨A3,c3,Qm⟩:=Ql.acted;have PU:dE gl A R.1 w w2 A3 c3:=⟨Qm.1,(ab.refl (LK gl A) w).drew.trans Qm.2.1,Qm.2.2⟩;have e0:=(Rn.out.2.1.only PU.2.1 (HL.out.ne_blk Rn.out.2.1 (by decide) (by decide))).c0;have e1:=(Rn.out.2.2.1.only PU.2.1 (HL.out.ne_blk Rn.out.2.2.1 (by decide) (by decide))).c0;have e2:=(Rn.out.2.2.2.only PU.2.1 (HL.out.ne_blk Rn.out.2.2.2 (by decide) (by decide))).c1;have eg:=(Rn.out.1.only PU.2.1 (HL.out.ne_blk Rn.out.1 (by decide) (by decide))).c1;have Ss:=Oh PU;clear Ql Qm PU;refine hK.out _ _ ?_ (fun hHeld=>?_)
 ·exact⟨e0,eg,e1,e2⟩
 clear hK K
 try go_simp
 refine tH 9 ?_;refine jR ?_;go_wp2_with fail;go_ret;exact⟨rfl,A3,c3,Ss.out⟩
theorem dE.then{gl:Nat}{A A1 A2:Option Addr}{L1 L2:List Pr}{w w1 w2:World}{c1 c2:Nat}(h:dE gl A L1 w w1 A1 c1)(k:dE gl A1 L2 w1 w2 A2 c2):dE gl A L2 w w2 A2 c2:=
 ⟨k.1,h.2.1.step k.2.1 (fun i hi=>by
  rcases hi with hi|hi
  ·exact .inl (.inl hi)
  ·rcases h.2.2 i hi with e|e
   ·exact .inl (.inr e)
   ·exact .inr e),fun x hx=>by
  rcases k.2.2 x hx with e|e
  ·exact h.2.2 x e
  ·exact .inr (Oo h.2.1.size e)⟩
theorem dE.near{gl:Nat}{A A1:Option Addr}{L:List Pr}{w0 w w1:World}{c1:Nat}(hb:Below w0.heap.size w0 w)(h:dE gl A L w w1 A1 c1):dE gl A L w0 w1 A1 c1:=
 ⟨h.1,(ab.of_below hb).trans h.2.1,fun x hx=>(h.2.2 x hx).imp id (Oo hb.size)⟩
structure CS(w:World)(g:Nat)(oth:Value)(x0 x1:Int)(y0 y1:Nat)(W:World):Prop where
 bel:Below w.heap.size w W
 b0:Blk W w.heap.size 267 #[.pointer (some ⟨g,0,none⟩),oth]
 b1:Blk W (w.heap.size+1) 452 #[.int .i64 x0,.int .i64 x1]
 b2:Blk W (w.heap.size+1+1) 453 #[.int .u64 (y0:Nat),.int .u64 (y1:Nat)]
section
variable {w W W':World} {g:Nat} {oth:Value} {x0 x1:Int} {y0 y1:Nat}
theorem CS.below(h:CS w g oth x0 x1 y0 y1 W)(hb:Below W.heap.size W W'):CS w g oth x0 x1 y0 y1 W':=
 ⟨ai h.bel hb,h.b0.below hb h.b0.lt,h.b1.below hb h.b1.lt,h.b2.below hb h.b2.lt⟩
theorem CS.set0(h:CS w g oth x0 x1 y0 y1 W)(x:Int)(y:Nat):CS w g oth x x1 y y1 ((W.setCell ⟨w.heap.size+1,0,none⟩ (.int .i64 x)).setCell ⟨w.heap.size+1+1,0,none⟩ (.int .u64 (y:Nat))):=
 ⟨(h.bel.setCell os' _).setCell sq _,(h.b0.far (p:=⟨w.heap.size+1,0,none⟩) os' _).far (p:=⟨w.heap.size+1+1,0,none⟩) sq _,(h.b1.put 0 _).far (p:=⟨w.heap.size+1+1,0,none⟩) os' _,(h.b2.far (p:=⟨w.heap.size+1,0,none⟩) os' _).put 0 _⟩
theorem CS.set1(h:CS w g oth x0 x1 y0 y1 W)(x:Int)(y:Nat):CS w g oth x0 x y0 y ((W.setCell ⟨w.heap.size+1,1,none⟩ (.int .i64 x)).setCell ⟨w.heap.size+1+1,1,none⟩ (.int .u64 (y:Nat))):=
 ⟨(h.bel.setCell os' _).setCell sq _,(h.b0.far (p:=⟨w.heap.size+1,1,none⟩) os' _).far (p:=⟨w.heap.size+1+1,1,none⟩) sq _,(h.b1.put 1 _).far (p:=⟨w.heap.size+1+1,1,none⟩) os' _,(h.b2.far (p:=⟨w.heap.size+1,1,none⟩) os' _).put 1 _⟩
end
theorem dE.stored{g gl c c':Nat}{A A':Option Addr}{m:Int}{all Ge L':List Pr}{w w':World}(hs:Sto w g gl A c m all)(k:dE gl A L' w w' A' c')(hL:L'=(ah Ge m).1)(hf:(ah Ge m).2=(ah all m).2):eB g gl A m Ge w w' A' c':=by
 subst hL;refine⟨⟨?_,k.1⟩,k.2.1.mono (fun i hi=>.inr hi),k.2.2⟩;rw[hf];exact hs.blk.only k.2.1 (hs.lst.ne_blk hs.blk od od)
set_option maxHeartbeats 12800000 in
theorem Mr(g gl p:Nat)(A:Option Addr)(c:Nat)(m:Int)(all Ge L':List Pr)(er:Int)(w:World)(hs:Sto w g gl A c m all)(hf:aV all)(oS:2≤m)(gE:m≤4097)(U6:∀W,Below w.heap.size w W→Cl 277 #[.pointer (some ⟨p,0,none⟩),.pointer (some ⟨p+1,0,none⟩),.pointer (some ⟨p+1+1,0,none⟩)] W (Did gl A L' er W))(Wq:aV L')(hfa:aV Ge)(h0:er=0→(ah L' m).1=(ah Ge m).1∧(ah Ge m).2=(ah L' m).2+dx (ah all m) (aZ (ah Ge m).1)+dx (ah [] m) (aZ (ah Ge m).1))(h1:er≠0→L'=(ah all m).1∧Ge=all):
  Cl 276 #[.pointer (some ⟨g,0,none⟩),.func (Fn.func 277) #[] #[.pointer (some ⟨p,0,none⟩),.pointer (some ⟨p+1,0,none⟩),.pointer (some ⟨p+1+1,0,none⟩)],.pointer none] w fun e w'=>e=.returned (.int .i64 er)∧∃A' c',eB g gl A m Ge w w' A' c':=by
 have e9:dx (ah [] m) (aZ (ah Ge m).1)=(if 0<0∧(0:Int)=aZ (ah Ge m).1 then 0 else 0):=by rw[cB];rfl
 rw[e9] at h0;clear e9;have Rj:=Oh (fun W (h:Sto W g gl A c m all)=>ki g gl A c m all W h hf);have T4:=Oh (fun W (h:Sto W g gl A c m all)=>h.c2);have HS:=Oh hs;have HC:=Oh U6;have HCU:=Oh (fun W A c (h:Lst W gl A c L')=>Kf gl A c L' m W h Wq oq oq);have HFM:=Oh (fun W A c (h:Lst W gl A c (ah L' m).1) (hc:W.cell? ⟨g,1,none⟩=some (.pointer (some ⟨gl,0,none⟩)))=>nP g gl A c (ah L' m).1 W hc h (dw Wq m));have H1:=Oh h1;have TY:Hid (er≠0→(ah Ge m).2=(ah all m).2):=Oh (fun h=>by rw[(h1 h).2]);obtain⟨kA,hkA⟩:=nm (aZ (ah all m).1);obtain⟨fA,hfA⟩:=nm ((ah all m).2);have HFE:=Oh hfA;have aa3:(fA:Int)≤4611686018427387904:=by have:=jt (L:=all) m;have:=hf.tot;omega
 have hgq:g<w.heap.size:=hs.blk.lt
 try unfold dx at h0
 rw[←hkA] at Rj h0;rw[←hfA] at T4 h0;have H0:=Oh h0;have HFA:=Oh (show(ah Ge m).2≤4611686018427387904 from Oo (jt m) hfa.tot);have aa6:¬g=w.heap.size+1:=oq;have aa7:¬g=w.heap.size+1+1:=oq
 have U7:CS w g (.pointer none) 0 0 0 0 (((w.alloc (.cells #[.pointer (some ⟨g,0,none⟩),.pointer none] 267)).alloc (.cells #[.int .i64 0,.int .i64 0] 452)).alloc (.cells #[.int .u64 0,.int .u64 0] 453)):=by
  have k0:=Blk.new w 267 #[.pointer (some ⟨g,0,none⟩),.pointer none];have k1:=Blk.new (w.alloc (.cells #[.pointer (some ⟨g,0,none⟩),.pointer none] 267)) 452 #[.int .i64 0,.int .i64 0];have k2:=Blk.new ((w.alloc (.cells #[.pointer (some ⟨g,0,none⟩),.pointer none] 267)).alloc (.cells #[.int .i64 0,.int .i64 0] 452)) 453 #[.int .u64 0,.int .u64 0];exact ux
 have Za:=Oh U7;clear hs U6 hf Wq hfa h0 h1 hkA hfA oS gE U7;go_enter func276,ntmps276;go_wp2_with fail;generalize((w.alloc (.cells #[.pointer (some ⟨g,0,none⟩),.pointer none] 267)).alloc (.cells #[.int .i64 0,.int .i64 0] 452)).alloc (.cells #[.int .u64 0,.int .u64 0] 453)=W0 at*;have a1:=Za.out.b0.c0;refine wp_loop_rounds 3 ?_;rw[rounds_succ];go_wp2_with fail;clear a1;refine(Rj.out W0 (HS.out.below Za.out.bel)).mono ?_;rintro e w1 ⟨⟨bb,rfl⟩,eQ⟩;have TG:=Za.out.below eQ;have a2:=TG.b1.c0;have a2f:=TG.b1.free 0;have a3:=TG.b2.c0;have a3f:=TG.b2.free 0;have a4:=T4.out w1 (HS.out.below TG.bel);have Y8:=TG.set0 kA fA;have Y9:=Oh Y8;clear eQ TG Y8;go_wp2_with fail;clear a2 a2f a3 a3f a4;obtain⟨W1,Oy⟩:=nm ((w1.setCell ⟨w.heap.size+1,0,none⟩ (.int .i64 kA)).setCell ⟨w.heap.size+1+1,0,none⟩ (.int .u64 (fA:Nat)));rw[←Oy] at Y9 ⊢;have Wg:=Y9;clear Oy;rw[rounds_succ];have a1:=Wg.out.b0.c1;go_wp2_with fail;clear a1;obtain⟨W2,Pe⟩:=nm (W1);rw[←Pe] at Wg ⊢;have P9:=Wg;clear Pe;rw[rounds_succ];go_wp2_with fail;refine(HC.out W2 P9.out.bel).mono ?_;rintro e w3 ⟨rfl,A3,c3,Vw⟩;have Qu:=HS.out.below P9.out.bel;have SU:=Qu.blk.only Vw.2.1 (Qu.lst.ne_blk Qu.blk od od);have d1:=SU.c1;have d0:=SU.c0;have SC:=Oh (And.intro SU (And.intro (P9.out.b1.only Vw.2.1 (Qu.lst.ne_blk P9.out.b1 od od)) (P9.out.b2.only Vw.2.1 (Qu.lst.ne_blk P9.out.b2 od od))));have Ss:=Oh (dE.near P9.out.bel Vw);clear Vw Qu SU
 by_cases her:er=0
 ·subst her;go_wp2_with fail;refine wp_region_noPanic ?_;refine wp_region_held_drew (S:=(fun w'=>w'.cell? ⟨g,1,none⟩=some (.pointer (some ⟨gl,0,none⟩))∧w'.cell? ⟨g,0,none⟩=some (.int .i64 m))) ok' ⟨d1,d0⟩ (fun hHeld=>?_);refine tH 0 ?_;refine tH 1 ?_;refine tH 2 ?_;refine tH 3 ?_;refine tH 4 ?_;refine tH 5 ?_;refine tH 6 ?_;refine tH 7 ?_;refine dQ 8 fun K hK=>?_;go_simp;refine(HCU.out _ A3 c3 (show Lst w3.drew gl A3 c3 L' from Ss.out.1)).mono ?_;rintro e w4 ⟨rfl,hc4⟩;obtain⟨A4,c4,Qm⟩:=hc4.acted;have Ya:dE gl A3 (ah L' m).1 w3 w4 A4 c4:=⟨Qm.1,(ab.refl (LK gl A3) w3).drew.trans Qm.2.1,Qm.2.2⟩;have Yb:=SC.out.1.only Ya.2.1 (Ss.out.1.ne_blk SC.out.1 od od);have e1:=Yb.c1;have e0:=Yb.c0;have Ws:=Oh (And.intro Yb (And.intro (SC.out.2.1.only Ya.2.1 (Ss.out.1.ne_blk SC.out.2.1 od od)) (SC.out.2.2.only Ya.2.1 (Ss.out.1.ne_blk SC.out.2.2 od od))));have ZU:=Oh (Ss.out.then Ya);clear hc4 Qm Ya Yb;refine hK.out _ _ ?_ (fun hHeld=>?_)
  ·exact⟨e1,e0⟩
  clear hK K
  try go_simp
  refine tH 9 ?_;refine jR ?_;clear d0 d1;go_wp2_with fail;refine(HFM.out _ A4 c4 ZU.out.1 e1).mono ?_;rintro e w5 ⟨⟨bb5,rfl⟩,T6⟩;have XL:=Oh (And.intro (Ws.out.1.below T6 Ws.out.1.lt) (And.intro (Ws.out.2.1.below T6 Ws.out.2.1.lt) (Ws.out.2.2.below T6 Ws.out.2.2.lt)));have HA5:Hid (dE gl A (ah L' m).1 w w5 A4 c4):=Oh ⟨ZU.out.1.below T6,ZU.out.2.1.trans (ab.of_below T6),ZU.out.2.2⟩;clear T6 e0 e1;obtain⟨UL,UE⟩:=H0.out (by first|trivial|rfl);have hK:aZ (ah L' m).1=aZ (ah Ge m).1:=by rw[UL]
  rw[hK];have HZ1:=Oh UL;have Rl:=HFA.out;clear UL hK;generalize aZ (ah Ge m).1=K at*;obtain⟨F0,Zb⟩:=nm ((ah L' m).2);obtain⟨S1,QV⟩:=nm ((if 0<fA∧kA=K then fA else 0));obtain⟨S2,Sp⟩:=nm ((if 0<0∧0=K then 0 else 0));rw[←Zb];rw[←Zb,←QV,←Sp] at UE;have QI:(F0:Int)+(S1:Int)+(S2:Int)≤4611686018427387904:=oq;have HZ2:=Oh UE;have By:=Oh QV;have Sk:=Oh Sp;clear UE Rl Zb QV Sp;have i0:∀w,(Instr.index 453 (.agg #[.int .u64 (fA:Nat),.int .u64 0]) (.int .i64 0)).run prog w=.ok (.int .u64 (fA:Nat)) w:=fun _=>by kernel_rfl
  have i1:∀w,(Instr.index 453 (.agg #[.int .u64 (fA:Nat),.int .u64 0]) (.int .i64 1)).run prog w=.ok (.int .u64 0) w:=fun _=>by kernel_rfl
  go_wp2_with (refine wpList_load_row rfl 453 (.tmp 9) rfl (w.heap.size+1+1) rfl 453 #[.int .u64 (fA:Nat),.int .u64 0] (0,0) _ XL.out.2.2 underlying453 rfl rfl ?_);have b0:=XL.out.2.1.c0;have b1:=XL.out.2.1.c1;go_loop [13,64] (fun f v=>(f=.int .u64 (F0:Nat)∧v=.int .i64 0)∨(f=.int .u64 ((F0+S1:Nat):Int)∧v=.int .i64 1)∨(f=.int .u64 ((F0+S1+S2:Nat):Int)∧v=.int .i64 2)) (fun _ v=>2-(intOf v).toNat)
  case atStart=>exact .inl ⟨rfl,rfl⟩
  case round=>
   rcases hrel with⟨rfl,rfl⟩|⟨rfl,rfl⟩|⟨rfl,rfl⟩
   ·exact ul
   ·have HN:Hid ((F0+S1+S2:Nat)=F0+S1):=Oh (by have:=Sk.out;rw[if_neg oq] at this;omega);go_wp2_with fail;go_round
    case rel=>exact .inr (.inr ⟨by rw[HN.out],rfl⟩)
    case measure=>simp[intOf]
   ·exact vq
 ·exact uE
set_option maxHeartbeats 12800000 in
theorem Mq(g gl p:Nat)(A:Option Addr)(c:Nat)(m:Int)(all Ge L':List Pr)(er:Int)(w:World)(hs:Sto w g gl A c m all)(hf:aV all)(oS:2≤m)(gE:m≤4097)(g2 QB:Nat)(A2:Option Addr)(c2:Nat)(gO:List Pr)(SB:Sto w g2 QB A2 c2 m gO)(OT:aV gO)(U6:∀W,Below w.heap.size w W→Cl 285 #[.pointer (some ⟨p,0,none⟩),.pointer (some ⟨p+1,0,none⟩)] W (Did gl A L' er W))(Wq:aV L')(hfa:aV Ge)(h0:er=0→(ah L' m).1=(ah Ge m).1∧(ah Ge m).2=(ah L' m).2+dx (ah all m) (aZ (ah Ge m).1)+dx (ah gO m) (aZ (ah Ge m).1))(h1:er≠0→L'=(ah all m).1∧Ge=all):
  Cl 276 #[.pointer (some ⟨g,0,none⟩),.func (Fn.func 285) #[] #[.pointer (some ⟨p,0,none⟩),.pointer (some ⟨p+1,0,none⟩)],.pointer (some ⟨g2,0,none⟩)] w fun e w'=>e=.returned (.int .i64 er)∧∃A' c',eB g gl A m Ge w w' A' c':=by
 have a5t:=Oh (fun W (h:Sto W g2 QB A2 c2 m gO)=>ki g2 QB A2 c2 m gO W h OT);have a5u:=Oh (fun W (h:Sto W g2 QB A2 c2 m gO)=>h.c2);have uN:=Oh SB;obtain⟨kB,hkB⟩:=nm (aZ (ah gO m).1);obtain⟨fB,hfB⟩:=nm ((ah gO m).2);have agN:(fB:Int)≤4611686018427387904:=by have:=jt (L:=gO) m;have:=OT.tot;omega
 have agO:g2<w.heap.size:=SB.blk.lt;unfold dx at h0;rw[←hkB] at a5t h0;rw[←hfB] at a5u h0;clear SB OT hkB hfB;have Rj:=Oh (fun W (h:Sto W g gl A c m all)=>ki g gl A c m all W h hf);have T4:=Oh (fun W (h:Sto W g gl A c m all)=>h.c2);have HS:=Oh hs;have HC:=Oh U6;have HCU:=Oh (fun W A c (h:Lst W gl A c L')=>Kf gl A c L' m W h Wq oq oq);have HFM:=Oh (fun W A c (h:Lst W gl A c (ah L' m).1) (hc:W.cell? ⟨g,1,none⟩=some (.pointer (some ⟨gl,0,none⟩)))=>nP g gl A c (ah L' m).1 W hc h (dw Wq m));have H1:=Oh h1;have TY:Hid (er≠0→(ah Ge m).2=(ah all m).2):=Oh (fun h=>by rw[(h1 h).2]);obtain⟨kA,hkA⟩:=nm (aZ (ah all m).1);obtain⟨fA,hfA⟩:=nm ((ah all m).2);have HFE:=Oh hfA;have aa3:(fA:Int)≤4611686018427387904:=by have:=jt (L:=all) m;have:=hf.tot;omega
 have hgq:g<w.heap.size:=hs.blk.lt
 try unfold dx at h0
 rw[←hkA] at Rj h0;rw[←hfA] at T4 h0;have H0:=Oh h0;have HFA:=Oh (show(ah Ge m).2≤4611686018427387904 from Oo (jt m) hfa.tot);have aa6:¬g=w.heap.size+1:=oq;have aa7:¬g=w.heap.size+1+1:=oq;have agP:¬g2=w.heap.size+1:=oq;have agQ:¬g2=w.heap.size+1+1:=oq
 have U7:CS w g (.pointer (some ⟨g2,0,none⟩)) 0 0 0 0 (((w.alloc (.cells #[.pointer (some ⟨g,0,none⟩),.pointer (some ⟨g2,0,none⟩)] 267)).alloc (.cells #[.int .i64 0,.int .i64 0] 452)).alloc (.cells #[.int .u64 0,.int .u64 0] 453)):=by
  have k0:=Blk.new w 267 #[.pointer (some ⟨g,0,none⟩),.pointer (some ⟨g2,0,none⟩)];have k1:=Blk.new (w.alloc (.cells #[.pointer (some ⟨g,0,none⟩),.pointer (some ⟨g2,0,none⟩)] 267)) 452 #[.int .i64 0,.int .i64 0];have k2:=Blk.new ((w.alloc (.cells #[.pointer (some ⟨g,0,none⟩),.pointer (some ⟨g2,0,none⟩)] 267)).alloc (.cells #[.int .i64 0,.int .i64 0] 452)) 453 #[.int .u64 0,.int .u64 0];exact ux
 have Za:=Oh U7;clear hs U6 hf Wq hfa h0 h1 hkA hfA oS gE U7;go_enter func276,ntmps276;go_wp2_with fail;generalize((w.alloc (.cells #[.pointer (some ⟨g,0,none⟩),.pointer (some ⟨g2,0,none⟩)] 267)).alloc (.cells #[.int .i64 0,.int .i64 0] 452)).alloc (.cells #[.int .u64 0,.int .u64 0] 453)=W0 at*;have a1:=Za.out.b0.c0;refine wp_loop_rounds 3 ?_;rw[rounds_succ];go_wp2_with fail;clear a1;refine(Rj.out W0 (HS.out.below Za.out.bel)).mono ?_;rintro e w1 ⟨⟨bb,rfl⟩,eQ⟩;have TG:=Za.out.below eQ;have a2:=TG.b1.c0;have a2f:=TG.b1.free 0;have a3:=TG.b2.c0;have a3f:=TG.b2.free 0;have a4:=T4.out w1 (HS.out.below TG.bel);have Y8:=TG.set0 kA fA;have Y9:=Oh Y8;clear eQ TG Y8;go_wp2_with fail;clear a2 a2f a3 a3f a4;obtain⟨W1,Oy⟩:=nm ((w1.setCell ⟨w.heap.size+1,0,none⟩ (.int .i64 kA)).setCell ⟨w.heap.size+1+1,0,none⟩ (.int .u64 (fA:Nat)));rw[←Oy] at Y9 ⊢;have Wg:=Y9;clear Oy;rw[rounds_succ];have a1:=Wg.out.b0.c1;go_wp2_with fail;clear a1;refine(a5t.out W1 (uN.out.below Wg.out.bel)).mono ?_;rintro e w2 ⟨⟨bb2,rfl⟩,aT⟩;have hx2:=Wg.out.below aT;have a2:=hx2.b1.c1;have a2f:=hx2.b1.free 1;have a3:=hx2.b2.c1;have a3f:=hx2.b2.free 1;have a4:=a5u.out w2 (uN.out.below hx2.bel);have a5v:=hx2.set1 kB fB;have a5w:=Oh a5v;clear aT hx2 a5v;go_wp2_with fail;clear a2 a2f a3 a3f a4;obtain⟨W2,Pe⟩:=nm ((w2.setCell ⟨w.heap.size+1,1,none⟩ (.int .i64 kB)).setCell ⟨w.heap.size+1+1,1,none⟩ (.int .u64 (fB:Nat)));rw[←Pe] at a5w ⊢;have P9:=a5w;clear Pe;rw[rounds_succ];go_wp2_with fail;refine(HC.out W2 P9.out.bel).mono ?_;rintro e w3 ⟨rfl,A3,c3,Vw⟩;have Qu:=HS.out.below P9.out.bel;have SU:=Qu.blk.only Vw.2.1 (Qu.lst.ne_blk Qu.blk od od);have d1:=SU.c1;have d0:=SU.c0;have SC:=Oh (And.intro SU (And.intro (P9.out.b1.only Vw.2.1 (Qu.lst.ne_blk P9.out.b1 od od)) (P9.out.b2.only Vw.2.1 (Qu.lst.ne_blk P9.out.b2 od od))));have Ss:=Oh (dE.near P9.out.bel Vw);clear Vw Qu SU
 by_cases her:er=0
 ·subst her;go_wp2_with fail;refine wp_region_noPanic ?_;refine wp_region_held_drew (S:=(fun w'=>w'.cell? ⟨g,1,none⟩=some (.pointer (some ⟨gl,0,none⟩))∧w'.cell? ⟨g,0,none⟩=some (.int .i64 m))) ok' ⟨d1,d0⟩ (fun hHeld=>?_);refine tH 0 ?_;refine tH 1 ?_;refine tH 2 ?_;refine tH 3 ?_;refine tH 4 ?_;refine tH 5 ?_;refine tH 6 ?_;refine tH 7 ?_;refine dQ 8 fun K hK=>?_;go_simp;refine(HCU.out _ A3 c3 (show Lst w3.drew gl A3 c3 L' from Ss.out.1)).mono ?_;rintro e w4 ⟨rfl,hc4⟩;obtain⟨A4,c4,Qm⟩:=hc4.acted;have Ya:dE gl A3 (ah L' m).1 w3 w4 A4 c4:=⟨Qm.1,(ab.refl (LK gl A3) w3).drew.trans Qm.2.1,Qm.2.2⟩;have Yb:=SC.out.1.only Ya.2.1 (Ss.out.1.ne_blk SC.out.1 od od);have e1:=Yb.c1;have e0:=Yb.c0;have Ws:=Oh (And.intro Yb (And.intro (SC.out.2.1.only Ya.2.1 (Ss.out.1.ne_blk SC.out.2.1 od od)) (SC.out.2.2.only Ya.2.1 (Ss.out.1.ne_blk SC.out.2.2 od od))));have ZU:=Oh (Ss.out.then Ya);clear hc4 Qm Ya Yb;refine hK.out _ _ ?_ (fun hHeld=>?_)
  ·exact⟨e1,e0⟩
  clear hK K
  try go_simp
  refine tH 9 ?_;refine jR ?_;clear d0 d1;go_wp2_with fail;refine(HFM.out _ A4 c4 ZU.out.1 e1).mono ?_;rintro e w5 ⟨⟨bb5,rfl⟩,T6⟩;have XL:=Oh (And.intro (Ws.out.1.below T6 Ws.out.1.lt) (And.intro (Ws.out.2.1.below T6 Ws.out.2.1.lt) (Ws.out.2.2.below T6 Ws.out.2.2.lt)));have HA5:Hid (dE gl A (ah L' m).1 w w5 A4 c4):=Oh ⟨ZU.out.1.below T6,ZU.out.2.1.trans (ab.of_below T6),ZU.out.2.2⟩;clear T6 e0 e1;obtain⟨UL,UE⟩:=H0.out (by first|trivial|rfl);have hK:aZ (ah L' m).1=aZ (ah Ge m).1:=by rw[UL]
  rw[hK];have HZ1:=Oh UL;have Rl:=HFA.out;clear UL hK;generalize aZ (ah Ge m).1=K at*;obtain⟨F0,Zb⟩:=nm ((ah L' m).2);obtain⟨S1,QV⟩:=nm ((if 0<fA∧kA=K then fA else 0));obtain⟨S2,Sp⟩:=nm ((if 0<fB∧kB=K then fB else 0));rw[←Zb];rw[←Zb,←QV,←Sp] at UE;have QI:(F0:Int)+(S1:Int)+(S2:Int)≤4611686018427387904:=oq;have HZ2:=Oh UE;have By:=Oh QV;have Sk:=Oh Sp;clear UE Rl Zb QV Sp;have i0:∀w,(Instr.index 453 (.agg #[.int .u64 (fA:Nat),.int .u64 ((fB:Nat):Int)]) (.int .i64 0)).run prog w=.ok (.int .u64 (fA:Nat)) w:=fun _=>by kernel_rfl
  have i1:∀w,(Instr.index 453 (.agg #[.int .u64 (fA:Nat),.int .u64 ((fB:Nat):Int)]) (.int .i64 1)).run prog w=.ok (.int .u64 ((fB:Nat):Int)) w:=fun _=>by kernel_rfl
  go_wp2_with (refine wpList_load_row rfl 453 (.tmp 9) rfl (w.heap.size+1+1) rfl 453 #[.int .u64 (fA:Nat),.int .u64 ((fB:Nat):Int)] (0,0) _ XL.out.2.2 underlying453 rfl rfl ?_);have b0:=XL.out.2.1.c0;have b1:=XL.out.2.1.c1;go_loop [13,64] (fun f v=>(f=.int .u64 (F0:Nat)∧v=.int .i64 0)∨(f=.int .u64 ((F0+S1:Nat):Int)∧v=.int .i64 1)∨(f=.int .u64 ((F0+S1+S2:Nat):Int)∧v=.int .i64 2)) (fun _ v=>2-(intOf v).toNat)
  case atStart=>exact .inl ⟨rfl,rfl⟩
  case round=>
   rcases hrel with⟨rfl,rfl⟩|⟨rfl,rfl⟩|⟨rfl,rfl⟩
   ·exact ul
   ·by_cases hp:0<fB
    ·have UV:decide ((0:Int)<(fB:Int))=true:=sq;have Ts:decide (0<fB)=true:=sq
     by_cases hq:kB=K
     ·have HN:Hid ((F0+S1+S2:Nat)=F0+S1+fB):=Oh (by have:=Sk.out;rw[if_pos ⟨hp,hq⟩] at this;omega);have Z1:(kB==K)=true:=by simp;exact hq
      have hsm:((F0+S1:Nat):Int)+(fB:Int)≤4611686018427387904:=by have:=Sk.out;rw[if_pos ⟨hp,hq⟩] at this;omega
      clear hp hq;obtain⟨F1,hF1⟩:=nm (F0+S1:Nat);rw[←hF1] at hsm HN ⊢;clear hF1;go_wp2_with fail;go_round
      case rel=>exact .inr (.inr ⟨by rw[HN.out];go_num,rfl⟩)
      case measure=>simp[intOf]
     ·have HN:Hid ((F0+S1+S2:Nat)=F0+S1):=Oh (by have:=Sk.out;rw[if_neg (fun h=>hq h.2)] at this;omega);have Z1:(kB==K)=false:=by simp;exact hq
      clear hp hq;go_wp2_with fail;go_round
      case rel=>exact .inr (.inr ⟨by rw[HN.out],rfl⟩)
      case measure=>simp[intOf]
    ·have HN:Hid ((F0+S1+S2:Nat)=F0+S1):=Oh (by have:=Sk.out;rw[if_neg (fun h=>hp h.1)] at this;omega);have UV:decide ((0:Int)<(fB:Int))=false:=sq;have Ts:decide (0<fB)=false:=sq;clear hp;go_wp2_with fail;go_round
     case rel=>exact .inr (.inr ⟨by rw[HN.out],rfl⟩)
     case measure=>simp[intOf]
   ·exact vq
 ·exact uE
theorem AM{all:List Pr}(hf:aV all)(m:Int)(k:Int)(n:Nat):(cq (ah all m).1 k n 0).2=(cq all k n 0).2∧
  ((cq all k n 0).2=0→(ah (cq (ah all m).1 k n 0).1 m).1=(ah (cq all k n 0).1 m).1∧(ah (cq all k n 0).1 m).2=(ah (cq (ah all m).1 k n 0).1 m).2+dx (ah all m) (aZ (ah (cq all k n 0).1 m).1)+dx (ah [] m) (aZ (ah (cq all k n 0).1 m).1))∧
  ((cq all k n 0).2≠0→(cq (ah all m).1 k n 0).1=(ah all m).1∧(cq all k n 0).1=all):=by
 have ht:=iQ hf m;have e9:∀K,dx (ah [] m) K=0:=fun K=>by rw[cB];unfold dx;rw[if_neg os']
 rw[ml,ml,ht]
 by_cases h0:n=0
 ·simp[h0]
 ·by_cases h1:k< -1048576∨1048576<k
  ·simp[h0,h1]
  ·by_cases h2:4611686018427387904-tot all<n
   ·simp[h0,h1,h2]
   ·rw[if_neg h0,if_neg h1,if_neg h2,if_neg h0,if_neg h1,if_neg h2];refine⟨rfl,fun _=>⟨DW hf.srt hf.pos m k oq,?_⟩,fun h=>absurd rfl h⟩;rw[e9,El hf.srt hf.pos m k oq,Nat.add_zero]
theorem wV{all gO:List Pr}(hf:aV all)(OT:aV gO)(m:Int):(bE (ah all m).1 (ah gO m).1 0).2=(bE all gO 0).2∧
  ((bE all gO 0).2=0→(ah (bE (ah all m).1 (ah gO m).1 0).1 m).1=(ah (bE all gO 0).1 m).1∧(ah (bE all gO 0).1 m).2=(ah (bE (ah all m).1 (ah gO m).1 0).1 m).2+dx (ah all m) (aZ (ah (bE all gO 0).1 m).1)+dx (ah gO m) (aZ (ah (bE all gO 0).1 m).1))∧
  ((bE all gO 0).2≠0→(bE (ah all m).1 (ah gO m).1 0).1=(ah all m).1∧(bE all gO 0).1=all):=by
 have ht:=iQ hf m;have ht2:=iQ OT m
 have hn:∀(L:List Pr),L=[]∨(ah L m).1≠ []∧L≠ []:=fun L=>by
  by_cases h:L=[]
  ·exact .inl h
  ·exact .inr ⟨zr h m,h⟩
 have hp:(bE all gO 0)=if 4611686018427387904-tot all<tot gO then(all,6) else(az all gO,0):=by
  rw[oY];rcases hn gO with h|⟨_,h⟩
  ·rw[if_pos h,h,dX,if_neg (Nat.not_lt_zero _)];rfl
  ·rw[if_neg h]
 have hq:(bE (ah all m).1 (ah gO m).1 0)=if 4611686018427387904-tot all<tot gO then((ah all m).1,6) else(az (ah all m).1 (ah gO m).1,0):=by
  rw[oY,ht,ht2];rcases hn gO with h|⟨h,_⟩
  ·rw[h,cB,if_pos rfl,dX,if_neg (Nat.not_lt_zero _)];rfl
  ·rw[if_neg h]
 rw[hp,hq]
 by_cases h2:4611686018427387904-tot all<tot gO
 ·simp[h2]
 ·rw[if_neg h2,if_neg h2];exact⟨rfl,fun _=>⟨lF hf.srt hf.pos OT.srt OT.pos m,qv hf.srt hf.pos OT.srt OT.pos m⟩,fun h=>absurd rfl h⟩
theorem KN(g gl:Nat)(A:Option Addr)(c:Nat)(m:Int)(all:List Pr)(k:Int)(n:Nat)(w:World)(h:Sto w g gl A c m all)(hf:aV all)(hl:all.length<100000)(oS:2≤m)(gE:m≤4097):
  Cl 197 #[.pointer (some ⟨g,0,none⟩),.int .i64 k,.int .u64 (n:Int)] w fun e w'=>e=.returned (.int .i64 (cq all k n 0).2)∧∃A' c',eB g gl A m (cq all k n 0).1 w w' A' c':=by
 obtain⟨r1,r2,r3⟩:=AM hf m k n;have hfC:=dw hf m;have hlC:=(eM hf m).2.2;have Xc:=(lr (k:=k) (n:=n) hfC oq).1;have OT:=(lr (k:=k) (n:=n) hf hl).1;have HB:=Oh (fun W p (hs:Sto W g gl A c m all) p0 p1 p2=>MD g gl p A c (ah all m).1 m (ah all m).2 k n W hs.blk hs.lst hfC p0 p1 p2);rw[r1] at HB;obtain⟨R,hR⟩:=nm (cq (ah all m).1 k n 0);rw[←hR] at HB r2 r3 Xc;have hc:=fun p W hs Ro=>Mr g gl p A c m all (cq all k n 0).1 R.1 (cq all k n 0).2 W hs hf oS gE Ro Xc OT r2 r3;have HC:=Oh hc;have HS:=Oh h;generalize cq all k n 0=RR at*;clear h hf hl oS gE r1 r2 r3 hfC hlC Xc OT hR hc;go_enter func197,ntmps197;go_wp2_with fail;have dO:Below w.heap.size w (((w.alloc (.cells #[.pointer (some ⟨g,0,none⟩)] 267)).alloc (.cells #[.int .i64 k] 3)).alloc (.cells #[.int .u64 (n:Int)] 35)):=((Ba).alloc os' _).alloc sq _;have k0:=Blk.new w 267 #[.pointer (some ⟨g,0,none⟩)];have k1:=Blk.new (w.alloc (.cells #[.pointer (some ⟨g,0,none⟩)] 267)) 3 #[.int .i64 k];have k2:=Blk.new ((w.alloc (.cells #[.pointer (some ⟨g,0,none⟩)] 267)).alloc (.cells #[.int .i64 k] 3)) 35 #[.int .u64 (n:Int)];simp only[World.size_alloc] at k1 k2;have HK:=Oh (And.intro ((k0.alloc (.cells #[.int .i64 k] 3)).alloc (.cells #[.int .u64 (n:Int)] 35)) (And.intro (k1.alloc (.cells #[.int .u64 (n:Int)] 35)) k2));have fR:=Oh dO;clear dO k0 k1 k2;generalize((w.alloc (.cells #[.pointer (some ⟨g,0,none⟩)] 267)).alloc (.cells #[.int .i64 k] 3)).alloc (.cells #[.int .u64 (n:Int)] 35)=W at*;refine(HC.out w.heap.size W (HS.out.below fR.out) (fun W' ZW=>HB.out W' w.heap.size ((HS.out.below fR.out).below ZW) (HK.out.1.below ZW HK.out.1.lt) (HK.out.2.1.below ZW HK.out.2.1.lt) (HK.out.2.2.below ZW HK.out.2.2.lt))).mono ?_;exact uc
theorem GK(g gl g2 QB:Nat)(A A2:Option Addr)(c c2:Nat)(m:Int)(all gO:List Pr)(w:World)(h:Sto w g gl A c m all)(h2:Sto w g2 QB A2 c2 m gO)(hf:aV all)(OT:aV gO)(hl:all.length+gO.length≤100000)(oS:2≤m)(gE:m≤4097):
  Cl 203 #[.pointer (some ⟨g,0,none⟩),.pointer (some ⟨g2,0,none⟩)] w fun e w'=>e=.returned (.int .i64 (bE all gO 0).2)∧∃A' c',eB g gl A m (bE all gO 0).1 w w' A' c':=by
 obtain⟨r1,r2,r3⟩:=wV hf OT m;have hfC:=dw hf m;have hfD:=dw OT m;have hlC:=(eM hf m).2.2;have hlD:=(eM OT m).2.2;have a2q:=(li hfC hfD oq).1;have a5x:=(li hf OT hl).1;have HB:=Oh (fun W p (hs:Sto W g gl A c m all) (SB:Sto W g2 QB A2 c2 m gO) p0 p1=>GD g gl p g2 QB A A2 c c2 (ah all m).1 (ah gO m).1 m m (ah all m).2 (ah gO m).2 W hs.blk hs.lst hfC SB.blk SB.lst hfD oq p0 p1);rw[r1] at HB;obtain⟨R,hR⟩:=nm (bE (ah all m).1 (ah gO m).1 0);rw[←hR] at HB r2 r3 a2q;have hc:=fun p W hs SB Ro=>Mq g gl p A c m all (bE all gO 0).1 R.1 (bE all gO 0).2 W hs hf oS gE g2 QB A2 c2 gO SB OT Ro a2q a5x r2 r3;have HC:=Oh hc;have HS:=Oh h;have uN:=Oh h2;have d0:=h.c0;have d2:=h2.c0;have hg:g<w.heap.size:=h.blk.lt;have PK:g2<w.heap.size:=h2.blk.lt;have n1:¬g=w.heap.size:=oq;have n2:¬g=w.heap.size+1:=oq;have n3:¬g2=w.heap.size:=oq;have n4:¬g2=w.heap.size+1:=oq;generalize bE all gO 0=RR at*;clear h h2 hf OT hl oS gE r1 r2 r3 hfC hfD hlC hlD a2q a5x hR hc;go_enter func203,ntmps203;go_wp2_with fail;go_quiet (fail);go_wp2_with fail;have dO:Below w.heap.size w (((w.alloc (.cells #[.pointer (some ⟨g,0,none⟩)] 267)).alloc (.cells #[.pointer (some ⟨g2,0,none⟩)] 267)).drewN nq):=ae ((Ba).alloc os' _) _;have k0:=Blk.new w 267 #[.pointer (some ⟨g,0,none⟩)];have k1:=Blk.new (w.alloc (.cells #[.pointer (some ⟨g,0,none⟩)] 267)) 267 #[.pointer (some ⟨g2,0,none⟩)];simp only[World.size_alloc] at k1;have HK:=Oh (And.intro ((k0.alloc (.cells #[.pointer (some ⟨g2,0,none⟩)] 267)).drewN nq) (k1.drewN nq));have fR:=Oh dO;clear dO k0 k1;generalize((w.alloc (.cells #[.pointer (some ⟨g,0,none⟩)] 267)).alloc (.cells #[.pointer (some ⟨g2,0,none⟩)] 267)).drewN nq=W at*;refine(HC.out w.heap.size W (HS.out.below fR.out) (uN.out.below fR.out) (fun W' ZW=>HB.out W' w.heap.size ((HS.out.below fR.out).below ZW) ((uN.out.below fR.out).below ZW) (HK.out.1.below ZW HK.out.1.lt) (HK.out.2.below ZW HK.out.2.lt))).mono ?_;exact uc
theorem yo:∀(l:List Pr),(∀j p q,l[j]?=some p→l[j+1]?=some q→p.1<q.1)→Srt l
 | [],_=>Srt.nil
 | [p],_=>aq.2 ⟨(fun q hq=>by cases hq),Srt.nil⟩
 |p::q::l,h=>by
  have h1:=yo (q::l) (fun j x y hx hy=>h (j+1) x y (by simpa using hx) (by simpa using hy));have h2:=h 0 p q rfl rfl;refine aq.2 ⟨fun r hr=>?_,h1⟩;rcases List.mem_cons.1 hr with rfl|hr
  ·exact h2
  ·have:=(aq.1 h1).1 r hr;omega
theorem tp{l:List Pr}(h:Srt l){j:Nat}{p q:Pr}(hp:l[j]?=some p)(hq:l[j+1]?=some q):p.1<q.1:=by
 obtain⟨h1,e1⟩:=List.getElem?_eq_some_iff.1 hp;obtain⟨h2,e2⟩:=List.getElem?_eq_some_iff.1 hq;have:=List.pairwise_iff_getElem.1 h j (j+1) h1 h2 oq;rw[e1,e2] at this;exact this
theorem F6{l:List Pr}{j i:Nat}{p q:Pr}(hi:i=j+1)(hq:l[j]?=some q)(hp:l[i]?=some p)(Wt:∀j p q,i≤j→l[j]?=some p→l[j+1]?=some q→p.1<q.1)(hlt:q.1<p.1):∀j' p' q',j≤j'→l[j']?=some p'→l[j'+1]?=some q'→p'.1<q'.1:=fun j' p' q' hj' h1 h2=>by
 subst hi;rcases Nat.lt_or_ge j j' with h|h
 ·exact Wt j' p' q' h h1 h2
 ·obtain rfl:j'=j:=oq;have e1:q=p':=Option.some.inj (hq.symm.trans h1);have e2:p=q':=Option.some.inj (hp.symm.trans h2);rw[←e1,←e2];exact hlt
theorem jp{L:List Pr}{k:Int}{n:Nat}(h:∀q∈L,q.1<k):put L k n=L++[(k,n)]:=by
 induction L with
 |nil=>rfl
 |cons p L ih=>rw[iE (h p os'),ih (fun q hq=>h q (by simp[hq]))];rfl
theorem yF:∀(l L:List Pr),Srt (L++l)→Pos l→eD l→tot (L++l)≤4611686018427387904→ofL l L=(L++l,0)
 | [],L,_,_,_,_=>by rw[List.append_nil];rfl
 |p::l,L,hs,hp,hk,ht=>by
  obtain⟨_,a2,a3⟩:=List.pairwise_append.1 hs;have h0:=(aH.1 hp).1;have h1:=hk p os';rw[cj,aK] at ht
  have e:cq L p.1 p.2 0=(L++[p],0):=by
   rw[ml,if_neg oq,if_neg oq,if_neg oq,jp (fun q hq=>a3 q hq p os')]
  have h2:=yF l (L++[p]) (by rw[List.append_assoc];exact hs) (aH.1 hp).2 (fun q hq=>hk q (by simp[hq])) (by rw[cj,cj,aK,dX];omega);rw[List.append_assoc] at h2;unfold ofL;rw[e,if_pos rfl];exact h2
theorem Dr{l:List Pr}(h:aV l):ofL l []=(l,0):=yF l [] h.srt h.pos h.keys h.tot
theorem I9(p q:Pr)(w:World)(h:q.1<p.1):
  Cl 386 #[.agg #[.int .i64 p.1,.int .u64 (p.2:Nat)],.agg #[.int .i64 q.1,.int .u64 (q.2:Nat)]] w (Rb (.int .i64 1) w):=by
 obtain⟨x,n⟩:=p;obtain⟨y,k⟩:=q;dsimp only at*;have e1:decide (y<x)=true:=by simpa using h
 clear h;go_enter func386,ntmps386;go_wp2_with fail;go_ret;exact⟨rfl,(Ba).alloc os' _⟩
theorem I8(p q:Pr)(w:World)(h:¬q.1<p.1):
  Cl 386 #[.agg #[.int .i64 p.1,.int .u64 (p.2:Nat)],.agg #[.int .i64 q.1,.int .u64 (q.2:Nat)]] w (Rb (.int .i64 (-1)) w):=by
 obtain⟨x,n⟩:=p;obtain⟨y,k⟩:=q;dsimp only at*;have e1:decide (y<x)=false:=by simpa using h
 clear h;go_enter func386,ntmps386;go_wp2_with fail;go_ret;exact⟨rfl,(Ba).alloc os' _⟩
noncomputable def Cc(l:List Pr):Bool:= @decide (Srt l) (Classical.propDecidable _)
theorem fZ{l:List Pr}:Cc l=true↔Srt l:=by unfold Cc;exact@decide_eq_true_iff _ (Classical.propDecidable _)
set_option maxHeartbeats 3200000 in
theorem tr(A:Option Addr)(c:Nat)(l:List Pr)(w:World)(h:Prs w w.heap.size A l)(hl:l.length≤100000):
  Cl 385 #[.slice A l.length c,.func (Fn.func 386) #[] #[]] w (Rb (.bool (Cc l)) w):=by
 by_cases h0:l=[]
 ·subst h0;have e0:Cc []=true:=fZ.2 Srt.nil;rw[e0];clear h hl e0;go_enter func385,ntmps385;go_wp2_with fail;refine wp_loop_rounds 1 ?_;rw[rounds_succ];go_wp2_with fail;go_ret;exact⟨rfl,Oq _ _⟩
 ·obtain⟨n,hn⟩:∃n,l.length=n+1:=⟨l.length-1,by have:=List.length_pos_iff.2 h0;omega⟩;obtain⟨N,hN⟩:=nm (l.length);obtain⟨B,hB⟩:=nm (Cc l);rw[←hB,←hN];have HB:=Oh hB;have HN:=Oh hN;have OG:=Oh (show N=n+1 by omega);have HP:=Oh h;have hnl:(N:Int)≤100000:=oq;have Zy:(1:Int)≤(N:Int):=oq;have Sz:(N:Int)-1=(n:Int):=oq;clear h hl hB hn h0 hN;go_enter func385,ntmps385;go_wp2_with fail;clear Sz;go_loopw [5] (fun v wr=>∃k:Nat,k≤n∧v=.int .i64 (k:Int)∧(∀j p q,k≤j→l[j]?=some p→l[j+1]?=some q→p.1<q.1)∧Below w.heap.size w wr) (fun v _=>(intOf v).toNat)
  case atStart=>exact⟨n,Oi _,rfl,fun j p q hj _ hq=>by have:=(List.getElem?_eq_some_iff.1 hq).1;have:=HN.out;have:=OG.out;omega,Oq _ _⟩
  case round=>
   obtain⟨i,hk,rfl,Wt,aC⟩:=hrel;obtain⟨wo,rfl⟩:=nm (wr:World)
   by_cases hz:i=0
   ·subst hz;have hs:Srt l:=yo l (fun j p q hp hq=>Wt j p q (Nat.zero_le _) hp hq);have HT:=Oh (HB.out.trans (fZ.2 hs));have Mk:=Oh aC;clear hs Wt aC hk;go_wp2_with fail;go_ret;exact⟨by rw[HT.out];rfl,Mk.out⟩
   ·obtain⟨j,hj⟩:∃j,i=j+1:=⟨i-1,oq⟩;have hlen:=HN.out;have a5y:=OG.out;have Yc:(0:Int)≤(j:Int):=oq;have RT:(0:Int)<(i:Int):=oq;have TC:(j:Int)<(N:Int):=oq;have hi3:(i:Int)<(N:Int):=oq;have hi5:decide (0<i)=true:=sq;have hw:IntKind.i64.wrap ((i:Int)-1)=(j:Int):=by rw[i6];omega
    obtain⟨p,hp⟩:=gs l i;obtain⟨q,hq⟩:=gs l j;obtain⟨b,o,rfl,hb,hc⟩:=HP.out.at_ oq;obtain⟨p1,p2⟩:=hc _ p hp;obtain⟨q1,q2⟩:=hc _ q hq
    have hcell:∀W,Below w.heap.size w W→W.cell? ⟨b,o+i*2,none⟩=some (.int .i64 p.1)∧W.cell? ⟨b,o+i*2+1,none⟩=some (.int .u64 (p.2:Nat))∧W.cell? ⟨b,o+j*2,none⟩=some (.int .i64 q.1)∧W.cell? ⟨b,o+j*2+1,none⟩=some (.int .u64 (q.2:Nat)):=fun W hW=>
     ⟨(hW.cell (p:=⟨b,o+i*2,none⟩) hb).trans p1,(hW.cell (p:=⟨b,o+i*2+1,none⟩) hb).trans p2,(hW.cell (p:=⟨b,o+j*2,none⟩) hb).trans q1,(hW.cell (p:=⟨b,o+j*2+1,none⟩) hb).trans q2⟩
    have HCE:=Oh hcell;obtain⟨d1,d2,d3,d4⟩:=hcell wo aC;have Mk:=Oh aC;have HK:=Oh hk;have HJ:=Oh hj;have Y1:=Oh (F6 hj hq hp Wt)
    have HNO:Hid (¬q.1<p.1→B=false):=Oh (fun hlt=>by
     rw[HB.out]
     cases hh:Cc l with
     |false=>rfl
     |true=>exact absurd (tp (fZ.1 hh) hq (by rw[←hj];exact hp)) hlt)
    have U1:=Oh (fun W h=>I9 p q W h);have Qy:=Oh (fun W h=>I8 p q W h);clear hcell p1 p2 q1 q2 hc hp hq aC hk Wt hlen a5y hj hz;obtain⟨x,nx⟩:=p;obtain⟨y,ny⟩:=q;dsimp only at d1 d2 d3 d4 Y1 HNO U1 Qy HCE;go_wp2_with fail
    by_cases hgt:y<x
    ·have HX:=Oh (Y1.out hgt);refine wp_region_noPanic ?_;refine wp_region_held_drew (S:=(fun W=>W.cell? ⟨b,o+i*2,none⟩=some (.int .i64 x)∧W.cell? ⟨b,o+i*2+1,none⟩=some (.int .u64 (nx:Nat))∧W.cell? ⟨b,o+j*2,none⟩=some (.int .i64 y)∧W.cell? ⟨b,o+j*2+1,none⟩=some (.int .u64 (ny:Nat)))) ok' ⟨d1,d2,d3,d4⟩ (fun hHeld=>?_);refine tH 0 ?_;refine tH 1 ?_;refine tH 2 ?_;refine tH 3 ?_;refine tH 4 ?_;refine tH 5 ?_;refine tH 6 ?_;refine tH 7 ?_;refine tH 8 ?_;refine tH 9 ?_;refine dQ 10 fun K hK=>?_;go_simp;refine(U1.out _ hgt).mono ?_;rintro e w2 ⟨rfl,aT⟩;have V6:Below w.heap.size w w2:=Mk.out.trans (show Below w.heap.size wo w2 from⟨aT.os,aT.tape,aT.output,aT.size,fun i hi=>aT.block i (Nat.lt_of_lt_of_le hi Mk.out.size)⟩);have bY:=Oh V6;obtain⟨e1,e2,e3,e4⟩:=HCE.out w2 V6;clear aT V6;refine hK.out _ _ ?_ (fun hHeld=>?_)
     ·exact⟨e1,e2,e3,e4⟩
     clear hK K
     try go_simp
     refine tH 11 ?_;refine jR ?_;go_wp2_with fail;go_roundw
     case rel=>exact⟨j,by have:=HK.out;have:=HJ.out;omega,by first|rfl|rw[hw],HX.out,bY.out⟩
     case measure=>exact ms HJ
    ·have HX:=Oh (HNO.out oq);refine wp_region_noPanic ?_;refine wp_region_held_drew (S:=(fun W=>W.cell? ⟨b,o+i*2,none⟩=some (.int .i64 x)∧W.cell? ⟨b,o+i*2+1,none⟩=some (.int .u64 (nx:Nat))∧W.cell? ⟨b,o+j*2,none⟩=some (.int .i64 y)∧W.cell? ⟨b,o+j*2+1,none⟩=some (.int .u64 (ny:Nat)))) ok' ⟨d1,d2,d3,d4⟩ (fun hHeld=>?_);refine tH 0 ?_;refine tH 1 ?_;refine tH 2 ?_;refine tH 3 ?_;refine tH 4 ?_;refine tH 5 ?_;refine tH 6 ?_;refine tH 7 ?_;refine tH 8 ?_;refine tH 9 ?_;refine dQ 10 fun K hK=>?_;go_simp;refine(Qy.out _ oq).mono ?_;rintro e w2 ⟨rfl,aT⟩;have V6:Below w.heap.size w w2:=Mk.out.trans (show Below w.heap.size wo w2 from⟨aT.os,aT.tape,aT.output,aT.size,fun i hi=>aT.block i (Nat.lt_of_lt_of_le hi Mk.out.size)⟩);have bY:=Oh V6;obtain⟨e1,e2,e3,e4⟩:=HCE.out w2 V6;clear aT V6;refine hK.out _ _ ?_ (fun hHeld=>?_)
     ·exact⟨e1,e2,e3,e4⟩
     clear hK K
     try go_simp
     refine tH 11 ?_;refine jR ?_;go_wp2_with fail;go_ret;exact⟨by rw[HX.out];rfl,bY.out⟩
set_option maxHeartbeats 3200000 in
theorem Ld(A:Option Addr)(c:Nat)(m:Int)(l:List Pr)(f:Nat)(w:World)(h:Prs w w.heap.size A l)(hf:aV l)(oS:2≤m)(gE:m≤4096)(hl:(l.length:Int)≤m)(h50:l.length≤50000)(Xd:f=0∨(l.length:Int)=m∧∃p R,l=p::R∧f<p.2):
  Cl 318 #[.int .i64 m,.slice A l.length c,.int .u64 (f:Int)] w fun e w'=>∃g gl A' c',e=.returned (.tuple #[.pointer (some ⟨g,0,none⟩),.int .i64 0])∧w.heap.size≤g∧w.heap.size≤gl∧Blk w' g 360 #[.int .i64 m,.pointer (some ⟨gl,0,none⟩),.int .u64 (f:Nat)]∧Lst w' gl A' c' l∧Below w.heap.size w w':=by
 have Rp:=Oh (yc m w oS gE);have V7:=Oh (fun W (h:Prs W W.heap.size A l)=>tr A c l W h hf.len);rw[fZ.2 hf.srt] at V7;have HOF:=Oh (fun W (h:Prs W W.heap.size A l)=>JJ A c l W h h50);rw[Dr hf] at HOF;have HP:=Oh h;have x1:decide (m<(l.length:Int))=false:=sq
 have hc:(decide ((0:Int)<(f:Int))=false∧decide (0<f)=false)∨(decide ((0:Int)<(f:Int))=true∧decide (0<f)=true∧decide ((l.length:Int)<m)=false∧(0:Int)<(l.length:Int)∧∃b o n,A=some ⟨b,o,none⟩∧b<w.heap.size∧w.cell? ⟨b,o+1,none⟩=some (.int .u64 (n:Nat))∧decide ((n:Int)≤(f:Int))=false∧decide (n≤f)=false):=by
  rcases Xd with h0|⟨h1,p,R,e,h2⟩
  ·exact .inl ⟨by simp;omega,by simp;omega⟩
  ·by_cases h0:f=0
   ·exact .inl ⟨by simp;omega,by simp;omega⟩
   ·obtain⟨b,o,e2,hb,hc⟩:=h.at_ oq;have:=(hc 0 p (by rw[e];rfl)).2;exact .inr ⟨by simp;omega,by simp;omega,by simp;omega,oq,b,o,p.2,e2,hb,by simpa using this,by simp;omega,by simp;omega⟩
 clear h hf oS gE hl h50 Xd;rcases hc with⟨z1,z2⟩|⟨z1,z2,z3,z5,b,o,n,rfl,hb,d1,z6,z7⟩
 ·go_enter func318,ntmps318;go_wp2_with fail;refine Rp.out.mono ?_;rintro e w1 ⟨rfl,s1,b1⟩;have S1:=Oh s1.blk;have B1:=Oh b1;clear s1 b1;go_wp2_with fail;refine(V7.out w1 (HP.out.at_below B1.out)).mono ?_;rintro e w2 ⟨rfl,b2⟩;have S2:=Oh (S1.out.below b2 S1.out.lt);have B2:=Oh (ai B1.out b2);clear b2;go_wp2_with fail;refine(HOF.out w2 (HP.out.at_below B2.out)).mono ?_;rintro e w3 (⟨_,⟨gl,A3,c3,rfl,If,Si⟩,b3⟩|⟨h0,_⟩)
  case inr=>exact absurd rfl h0
  have s3:=S2.out.below b3 S2.out.lt;have Uy:=Oh Si;have HGL:=Oh (Oo B2.out.size If);have B3:=Oh (ai B2.out b3);have k1:=s3.c1;have k2:w3.cell? ⟨w.heap.size+1,2,none⟩=some (.int .u64 0):=by rw[s3.cell,cB];rfl
  have kf1:=s3.free 1;have kf2:=s3.free 2;have hne:w.heap.size+1≠gl:=fun e=>Blk.ne s3 Si.1 od e;have S3:=Oh s3;have PX:=Oh hne;clear b3 Si If s3 hne;exact ud
 ·go_enter func318,ntmps318;go_wp2_with fail;refine Rp.out.mono ?_;rintro e w1 ⟨rfl,s1,b1⟩;have S1:=Oh s1.blk;have B1:=Oh b1;clear s1 b1;go_wp2_with fail;refine(V7.out w1 (HP.out.at_below B1.out)).mono ?_;rintro e w2 ⟨rfl,b2⟩;have S2:=Oh (S1.out.below b2 S1.out.lt);have B2:=Oh (ai B1.out b2);have d2:w2.cell? ⟨b,o+1,none⟩=some (.int .u64 (n:Nat)):=(B2.out.cell (p:=⟨b,o+1,none⟩) hb).trans d1;clear b2 d1;go_wp2_with fail;refine(HOF.out w2 (HP.out.at_below B2.out)).mono ?_;rintro e w3 (⟨_,⟨gl,A3,c3,rfl,If,Si⟩,b3⟩|⟨h0,_⟩)
  case inr=>exact absurd rfl h0
  have s3:=S2.out.below b3 S2.out.lt;have Uy:=Oh Si;have HGL:=Oh (Oo B2.out.size If);have B3:=Oh (ai B2.out b3);have k1:=s3.c1;have k2:w3.cell? ⟨w.heap.size+1,2,none⟩=some (.int .u64 0):=by rw[s3.cell,cB];rfl
  have kf1:=s3.free 1;have kf2:=s3.free 2;have hne:w.heap.size+1≠gl:=fun e=>Blk.ne s3 Si.1 od e;have S3:=Oh s3;have PX:=Oh hne;clear b3 Si If s3 hne d2;exact ud
def zx(m:Int)(l:List Pr)(f:Nat):Prop:=(ofL l []).2≠0∨0<f∧((l.length:Int)<m∨∃p R,l=p::R∧p.2≤f)
set_option maxHeartbeats 3200000 in
theorem I5(A:Option Addr)(c:Nat)(m:Int)(l:List Pr)(f:Nat)(w:World)(h:Prs w w.heap.size A l)(hs:Srt l)(oS:2≤m)(gE:m≤4096)(hl:(l.length:Int)≤m)(a2s:zx m l f):
  Cl 318 #[.int .i64 m,.slice A l.length c,.int .u64 (f:Int)] w (Rb (.tuple #[.pointer none,.int .i64 1]) w):=by
 have Rp:=Oh (yc m w oS gE);have V7:=Oh (fun W (h:Prs W W.heap.size A l)=>tr A c l W h oq);rw[fZ.2 hs] at V7;have HOF:=Oh (fun W (h:Prs W W.heap.size A l)=>JJ A c l W h oq);have HP:=Oh h;have x1:decide (m<(l.length:Int))=false:=sq
 have hc:(decide ((0:Int)<(f:Int))=true∧decide (0<f)=true∧decide ((l.length:Int)<m)=true)∨
   (decide ((0:Int)<(f:Int))=true∧decide (0<f)=true∧decide ((l.length:Int)<m)=false∧(0:Int)<(l.length:Int)∧∃b o n,A=some ⟨b,o,none⟩∧b<w.heap.size∧w.cell? ⟨b,o+1,none⟩=some (.int .u64 (n:Nat))∧decide ((n:Int)≤(f:Int))=true∧decide (n≤f)=true)∨
   (ofL l []).2≠0∧((decide ((0:Int)<(f:Int))=false∧decide (0<f)=false)∨(decide ((0:Int)<(f:Int))=true∧decide (0<f)=true∧decide ((l.length:Int)<m)=false∧(0:Int)<(l.length:Int)∧∃b o n,A=some ⟨b,o,none⟩∧b<w.heap.size∧w.cell? ⟨b,o+1,none⟩=some (.int .u64 (n:Nat))∧decide ((n:Int)≤(f:Int))=false∧decide (n≤f)=false)):=by
  by_cases h0:f=0
  ·refine .inr (.inr ⟨?_,.inl ⟨by simp;omega,by simp;omega⟩⟩);rcases a2s with h1|⟨h1,_⟩
   ·exact h1
   ·omega
  by_cases h1:(l.length:Int)<m
  ·exact .inl ⟨by simp;omega,by simp;omega,by simp;omega⟩
  obtain⟨p,R,e⟩:∃p R,l=p::R:=by
   cases l with
   |nil=>simp at h1;omega
   |cons p R=>exact⟨p,R,rfl⟩
  have Qk:0<l.length:=by rw[e];simp
  obtain⟨b,o,e2,hb,hc⟩:=h.at_ Qk;have hq:=(hc 0 p (by rw[e];rfl)).2
  by_cases h2:p.2≤f
  ·exact .inr (.inl ⟨by simp;omega,by simp;omega,by simp;omega,oq,b,o,p.2,e2,hb,by simpa using hq,by simp;omega,by simp;omega⟩)
  ·refine .inr (.inr ⟨?_,.inr ⟨by simp;omega,by simp;omega,by simp;omega,oq,b,o,p.2,e2,hb,by simpa using hq,by simp;omega,by simp;omega⟩⟩);rcases a2s with h3|⟨_,h3|⟨p',R',e',h3⟩⟩
   ·exact h3
   ·exact absurd h3 h1
   ·rw[e] at e';obtain⟨rfl,rfl⟩:=List.cons.inj e';exact absurd h3 h2
 clear h hs oS gE hl a2s;rcases hc with⟨z1,z2,z3⟩|⟨z1,z2,z3,z5,b,o,n,rfl,hb,d1,z6,z7⟩|⟨hof,⟨z1,z2⟩|⟨z1,z2,z3,z5,b,o,n,rfl,hb,d1,z6,z7⟩⟩
 ·go_enter func318,ntmps318;go_wp2_with fail;refine Rp.out.mono ?_;rintro e w1 ⟨rfl,s1,b1⟩;have B1:=Oh b1;clear s1 b1;go_wp2_with fail;refine(V7.out w1 (HP.out.at_below B1.out)).mono ?_;rintro e w2 ⟨rfl,b2⟩;have B2:=Oh (ai B1.out b2);clear b2;go_wp2_with fail;go_ret2;exact⟨rfl,B2.out⟩
 ·go_enter func318,ntmps318;go_wp2_with fail;refine Rp.out.mono ?_;rintro e w1 ⟨rfl,s1,b1⟩;have B1:=Oh b1;clear s1 b1;go_wp2_with fail;refine(V7.out w1 (HP.out.at_below B1.out)).mono ?_;rintro e w2 ⟨rfl,b2⟩;have B2:=Oh (ai B1.out b2);have d2:w2.cell? ⟨b,o+1,none⟩=some (.int .u64 (n:Nat)):=(B2.out.cell (p:=⟨b,o+1,none⟩) hb).trans d1;clear b2 d1;go_wp2_with fail;go_ret2;exact⟨rfl,B2.out⟩
 ·go_enter func318,ntmps318;go_wp2_with fail;refine Rp.out.mono ?_;rintro e w1 ⟨rfl,s1,b1⟩;have B1:=Oh b1;clear s1 b1;go_wp2_with fail;refine(V7.out w1 (HP.out.at_below B1.out)).mono ?_;rintro e w2 ⟨rfl,b2⟩;have B2:=Oh (ai B1.out b2);clear b2;go_wp2_with fail;refine(HOF.out w2 (HP.out.at_below B2.out)).mono ?_;rintro e w3 (⟨h0,_⟩|⟨h0,rfl,b3⟩)
  case inl=>exact absurd h0 hof
  have B3:=Oh (ai B2.out b3);have aac:((ofL l []).2==0)=false:=by simpa using h0
  clear b3 hof h0;generalize(ofL l []).2=E at*;go_wp2_with fail;go_ret2;exact⟨rfl,B3.out⟩
 ·go_enter func318,ntmps318;go_wp2_with fail;refine Rp.out.mono ?_;rintro e w1 ⟨rfl,s1,b1⟩;have B1:=Oh b1;clear s1 b1;go_wp2_with fail;refine(V7.out w1 (HP.out.at_below B1.out)).mono ?_;rintro e w2 ⟨rfl,b2⟩;have B2:=Oh (ai B1.out b2);have d2:w2.cell? ⟨b,o+1,none⟩=some (.int .u64 (n:Nat)):=(B2.out.cell (p:=⟨b,o+1,none⟩) hb).trans d1;clear b2 d1;go_wp2_with fail;refine(HOF.out w2 (HP.out.at_below B2.out)).mono ?_;rintro e w3 (⟨h0,_⟩|⟨h0,rfl,b3⟩)
  case inl=>exact absurd h0 hof
  have B3:=Oh (ai B2.out b3);have aac:((ofL l []).2==0)=false:=by simpa using h0
  clear b3 hof h0 d2;generalize(ofL l []).2=E at*;go_wp2_with fail;go_ret2;exact⟨rfl,B3.out⟩
end
namespace Sc
abbrev cK:=Nat×Nat×Nat
def ec(a low:Nat):Nat:=min (low+low*a/10000) 9223372036854775807
def dV(a mid:Nat):Nat:=min (mid*10000/(10000-a)) 9223372036854775807
def aX(a low:Nat):cK:=(low,ec a low,dV a (ec a low))
def fg(a:Nat):Nat→Nat→List cK
 |0,_=>[]
 |f+1,low=>if(aX a low).2.2=9223372036854775807 then[aX a low] else aX a low::fg a f ((aX a low).2.2+1)
def aB(a:Nat):List cK:=fg a 4410 1
theorem sw{a low:Nat}(h:low≤9223372036854775807):low≤ec a low∧ec a low≤9223372036854775807:=by unfold ec;omega
theorem kZ{a mid:Nat}(ha:a≤5000)(h:mid≤9223372036854775807):mid≤dV a mid∧dV a mid≤9223372036854775807:=by
 unfold dV
 have h1:mid≤mid*10000/(10000-a):=by
  rw[Nat.le_div_iff_mul_le oq];exact Nat.mul_le_mul_left _ oq
 omega
theorem jI{a low:Nat}(Gt:100≤a)(ha:a≤5000)(h:low≤9223372036854775807)(hh:(aX a low).2.2≠9223372036854775807):
  low<(aX a low).2.2+1∧(aX a low).2.2+1≤9223372036854775807∧101*low≤100*((aX a low).2.2+1):=by
 obtain⟨m1,m2⟩:=sw (a:=a) h;obtain⟨h1,h2⟩:=kZ ha m2;have hs:(aX a low).2.2=dV a (ec a low):=rfl;rw[hs] at hh ⊢;have hlt:ec a low<9223372036854775807:=oq
 have hm:ec a low=low+low*a/10000:=by
  unfold ec at hlt ⊢;omega
 have h3:low*100/10000≤low*a/10000:=Nat.div_le_div_right (Nat.mul_le_mul_left _ Gt);omega
structure At(a:Nat)(T:List cK)(low f:Nat):Prop where
 all:aB a=T++fg a f low
 len:T.length+f=4410
 low1:1≤low
 low2:low≤9223372036854775807
 grow:101^T.length≤low*100^T.length
theorem At.start(a:Nat):At a [] 1 4410:=⟨by unfold aB;rw[List.nil_append],by simp,Oi _,od,by simp⟩
theorem few(K:Nat)(hK:K=70*63):9223372036854775807*100^K<101^K:=by
 have h0:2*100^70≤101^70:=by decide+kernel
 have h1:(2*100^70)^63≤(101^70)^63:=Nat.pow_le_pow_left h0 63;rw[Nat.mul_pow,←Nat.pow_mul,←Nat.pow_mul,←hK] at h1;have h2:9223372036854775807<2^63:=by decide
 have h3:0<100^K:=Nat.pow_pos od;exact Nat.lt_of_lt_of_le (Nat.mul_lt_mul_of_pos_right h2 h3) h1
theorem At.pos{a:Nat}{T:List cK}{low f:Nat}(h:At a T low f):0<f:=by
 rcases Nat.eq_zero_or_pos f with h0|h0
 ·exfalso;have h1:=h.len;have h2:T.length=70*63:=oq;have h3:=h.grow;have h4:low*100^T.length≤9223372036854775807*100^T.length:=Nat.mul_le_mul_right _ h.low2;exact absurd (Nat.lt_of_le_of_lt (Oo h3 h4) (few _ h2)) (Nat.lt_irrefl _)
 ·exact h0
theorem At.step{a:Nat}{T:List cK}{low f:Nat}(h:At a T low f)(Gt:100≤a)(ha:a≤5000):
  ((aX a low).2.2=9223372036854775807→aB a=T++[aX a low])∧((aX a low).2.2≠9223372036854775807→At a (T++[aX a low]) ((aX a low).2.2+1) (f-1)):=by
 obtain⟨g,rfl⟩:∃g,f=g+1:=⟨f-1,by have:=h.pos;omega⟩;have lT:=h.all;unfold fg at lT;refine⟨fun he=>by rw[lT,if_pos he],fun he=>?_⟩;rw[if_neg he] at lT;obtain⟨g1,g2,g3⟩:=jI Gt ha h.low2 he;refine⟨by rw[lT,List.append_assoc];rfl,by have:=h.len;rw[Ok,List.length_singleton];omega,oq,g2,?_⟩;rw[Ok,List.length_singleton,Nat.pow_succ,Nat.pow_succ];have h1:101^T.length*101≤low*100^T.length*101:=Nat.mul_le_mul_right _ h.grow;have h2:101*low*100^T.length≤100*((aX a low).2.2+1)*100^T.length:=Nat.mul_le_mul_right _ g3
 calc 101^T.length*101≤low*100^T.length*101:=h1
  _=101*low*100^T.length:=by rw[Nat.mul_right_comm,Nat.mul_comm low 101]
  _≤100*((aX a low).2.2+1)*100^T.length:=h2
  _=((aX a low).2.2+1)*(100^T.length*100):=by rw[Nat.mul_comm 100 ((aX a low).2.2+1),Nat.mul_assoc,Nat.mul_comm 100]
theorem Ai{a:Nat}{T:List cK}{low f:Nat}(h:At a T low f):T.length<4410:=by have:=h.pos;have:=h.len;omega
end Sc
theorem qX:(Lib.len8tab.size:Int)=256:=by
 have:Lib.len8tab.size=256:=by decide
 omega
theorem dY(k a b:Nat)(hk:k≤56)(ha:a≤8)(hb:b=k+a):wrap64 ((k:Int)+wrap64 (a:Int))=(b:Int):=by
 unfold wrap64;omega
theorem zS(a:Nat)(ha:a≤8):wrap64 (wrap64 (a:Int))=(a:Int):=by
 unfold wrap64;omega
theorem ed(y:Int)(h:y.toNat<Lib.len8tab.size):((Lib.len8tab[y.toNat]'h).toNat:Int)=Lib.len8 y:=by
 unfold Lib.len8;rw[getElem?_pos Lib.len8tab y.toNat h];rfl
set_option maxHeartbeats 4000000 in
set_option maxRecDepth 1000000 in
theorem rI(x:Int)(w:World)(h0:0≤x)(h1:x≤18446744073709551615):
  Cl 132 #[.int .u64 x] w (Rs (.int .i64 (Lib.bitLen x.toNat)) w):=by
 go_enter func132,ntmps132;go_wp2
 all_goals first
  |(go_ret;refine⟨congrArg Ending.returned (congrArg (Value.int IntKind.i64) ?_),rfl⟩;go_light)
  |(exfalso
    go_light;have hs:=qX;omega)
 all_goals first
  |(rw[ed (x/4294967296/65536/256) _,Lib.len8_of (x/4294967296/65536/256) oq oq]
    have e:(x/4294967296/65536/256).toNat=x.toNat/72057594037927936:=oq;have l:=Lib.bitLen_le8' (x/4294967296/65536/256) oq oq;have s:=Lib.bitLen_shift56 x.toNat oq oq;rw[e] at l ⊢;exact dY 56 _ _ od l s)
  |(rw[ed (x/4294967296/65536) _,Lib.len8_of (x/4294967296/65536) oq oq]
    have e:(x/4294967296/65536).toNat=x.toNat/281474976710656:=oq;have l:=Lib.bitLen_le8' (x/4294967296/65536) oq oq;have s:=Lib.bitLen_shift48 x.toNat oq oq;rw[e] at l ⊢;exact dY 48 _ _ od l s)
  |(rw[ed (x/4294967296/256) _,Lib.len8_of (x/4294967296/256) oq oq]
    have e:(x/4294967296/256).toNat=x.toNat/1099511627776:=oq;have l:=Lib.bitLen_le8' (x/4294967296/256) oq oq;have s:=Lib.bitLen_shift40 x.toNat oq oq;rw[e] at l ⊢;exact dY 40 _ _ od l s)
  |(rw[ed (x/4294967296) _,Lib.len8_of (x/4294967296) oq oq]
    have e:(x/4294967296).toNat=x.toNat/4294967296:=oq;have l:=Lib.bitLen_le8' (x/4294967296) oq oq;have s:=Lib.bitLen_shift32 x.toNat oq oq;rw[e] at l ⊢;exact dY 32 _ _ od l s)
  |(rw[ed (x/65536/256) _,Lib.len8_of (x/65536/256) oq oq]
    have e:(x/65536/256).toNat=x.toNat/16777216:=oq;have l:=Lib.bitLen_le8' (x/65536/256) oq oq;have s:=Lib.bitLen_shift24 x.toNat oq oq;rw[e] at l ⊢;exact dY 24 _ _ od l s)
  |(rw[ed (x/65536) _,Lib.len8_of (x/65536) oq oq]
    have e:(x/65536).toNat=x.toNat/65536:=oq;have l:=Lib.bitLen_le8' (x/65536) oq oq;have s:=Lib.bitLen_shift16 x.toNat oq oq;rw[e] at l ⊢;exact dY 16 _ _ od l s)
  |(rw[ed (x/256) _,Lib.len8_of (x/256) oq oq]
    have e:(x/256).toNat=x.toNat/256:=oq;have l:=Lib.bitLen_le8' (x/256) oq oq;have s:=Lib.bitLen_shift8 x.toNat oq oq;rw[e] at l ⊢;exact dY 8 _ _ od l s)
  |(rw[ed (x) _,Lib.len8_of (x) oq oq]
    have e:(x).toNat=x.toNat:=oq;have l:=Lib.bitLen_le8' (x) oq oq;rw[e] at l ⊢
    first|exact zS _ l|exact dY 0 _ _ od l oq|exact wrap_one _ l)
theorem sW(hi lo d:Nat)(h1:hi<d)(P4:lo<18446744073709551616)(OH:8192≤d)(uP:d<16384):
  ∃Z mK Pm Ph q1 r1 q0 r0:Nat,d*1125899906842624=Z*4294967296∧2147483648≤Z∧Z<4294967296∧hi*1125899906842624+lo/16384=mK∧mK<18446744073709551616∧lo*1125899906842624%18446744073709551616=Pm*4294967296+Ph∧Pm<4294967296∧Ph<4294967296∧
   mK/Z=q1∧q1<4294967296∧Z*q1+r1=mK∧r1<4294967296∧(r1*4294967296+Pm)/Z=q0∧q0<4294967296∧Z*q0+r0=r1*4294967296+Pm∧r0<4294967296∧
   q1*4294967296+q0=(hi*18446744073709551616+lo)/d∧(r0*4294967296+Ph)/1125899906842624=(hi*18446744073709551616+lo)%d:=by
 obtain⟨Z,hZ⟩:=nm (d*262144);obtain⟨mK,hu⟩:=nm (hi*1125899906842624+lo/16384);obtain⟨V8,hv⟩:=nm (lo*1125899906842624%18446744073709551616);obtain⟨Pm,MK⟩:=nm (V8/4294967296);obtain⟨Ph,Pc⟩:=nm (V8%4294967296);have hN:mK*18446744073709551616+(Pm*4294967296+Ph)=(hi*18446744073709551616+lo)*1125899906842624:=oq;have hZ2:d*1125899906842624=Z*4294967296:=by rw[hZ,Nat.mul_assoc]
 have hul:mK<Z*4294967296:=oq;have a1Q:mK<18446744073709551616:=oq;have PF:V8=Pm*4294967296+Ph:=oq;have SQ:Pm<4294967296:=oq;have hv4:Ph<4294967296:=oq;have hZ3:2147483648≤Z:=oq;have hZ4:Z<4294967296:=oq;have Q0:0<Z:=oq;have e1:=Nat.div_add_mod mK Z;have gE:=Nat.mod_lt mK Q0;have UA:mK/Z<4294967296:=(Nat.div_lt_iff_lt_mul Q0).2 (by rw[Nat.mul_comm];exact hul);obtain⟨q1,ZF⟩:∃q,mK/Z=q:=⟨_,rfl⟩;obtain⟨r1,a2t⟩:∃q,mK%Z=q:=⟨_,rfl⟩;rw[ZF] at e1 UA;rw[a2t] at e1 gE;obtain⟨x,hx⟩:=nm (r1*4294967296+Pm);have XM:x<Z*4294967296:=oq;have e2:=Nat.div_add_mod x Z;have QL:=Nat.mod_lt x Q0;have Vs:x/Z<4294967296:=(Nat.div_lt_iff_lt_mul Q0).2 (by rw[Nat.mul_comm];exact XM);obtain⟨q0,ZG⟩:∃q,x/Z=q:=⟨_,rfl⟩;obtain⟨r0,a2u⟩:∃q,x%Z=q:=⟨_,rfl⟩;rw[ZG] at e2 Vs;rw[a2u] at e2 QL
 have key:(q1*4294967296+q0)*(d*1125899906842624)+(r0*4294967296+Ph)=(hi*18446744073709551616+lo)*1125899906842624:=by
  exact uO
 have hR:r0*4294967296+Ph<d*1125899906842624:=oq;obtain⟨U,hU⟩:=nm (hi*18446744073709551616+lo);obtain⟨Q,hQ⟩:=nm (q1*4294967296+q0);obtain⟨R,Ot⟩:=nm (r0*4294967296+Ph);rw[←hU,←hQ,←Ot] at key;rw[←Ot] at hR;have e5:Q*(d*1125899906842624)=Q*d*1125899906842624:=(Nat.mul_assoc _ _ _).symm;rw[e5] at key;have hUQ:U=Q*d+R/1125899906842624:=by generalize Q*d=B at*;omega
 have U8:R/1125899906842624<d:=oq
 have e6:U/d=Q:=by
  rw[hUQ,Nat.add_comm,Nat.add_mul_div_right _ _ oq,Nat.div_eq_of_lt U8,Nat.zero_add]
 have e7:U%d=R/1125899906842624:=by
  rw[hUQ,Nat.add_comm,Nat.add_mul_mod_self_right,Nat.mod_eq_of_lt U8]
 exact uZ
theorem sV(hi lo d:Nat)(h1:hi<d)(P4:lo<18446744073709551616)(OH:4096≤d)(uP:d<8192):
  ∃Z mK Pm Ph q1 r1 q0 r0:Nat,d*2251799813685248=Z*4294967296∧2147483648≤Z∧Z<4294967296∧hi*2251799813685248+lo/8192=mK∧mK<18446744073709551616∧lo*2251799813685248%18446744073709551616=Pm*4294967296+Ph∧Pm<4294967296∧Ph<4294967296∧
   mK/Z=q1∧q1<4294967296∧Z*q1+r1=mK∧r1<4294967296∧(r1*4294967296+Pm)/Z=q0∧q0<4294967296∧Z*q0+r0=r1*4294967296+Pm∧r0<4294967296∧
   q1*4294967296+q0=(hi*18446744073709551616+lo)/d∧(r0*4294967296+Ph)/2251799813685248=(hi*18446744073709551616+lo)%d:=by
 obtain⟨Z,hZ⟩:=nm (d*524288);obtain⟨mK,hu⟩:=nm (hi*2251799813685248+lo/8192);obtain⟨V8,hv⟩:=nm (lo*2251799813685248%18446744073709551616);obtain⟨Pm,MK⟩:=nm (V8/4294967296);obtain⟨Ph,Pc⟩:=nm (V8%4294967296);have hN:mK*18446744073709551616+(Pm*4294967296+Ph)=(hi*18446744073709551616+lo)*2251799813685248:=oq;have hZ2:d*2251799813685248=Z*4294967296:=by rw[hZ,Nat.mul_assoc]
 have hul:mK<Z*4294967296:=oq;have a1Q:mK<18446744073709551616:=oq;have PF:V8=Pm*4294967296+Ph:=oq;have SQ:Pm<4294967296:=oq;have hv4:Ph<4294967296:=oq;have hZ3:2147483648≤Z:=oq;have hZ4:Z<4294967296:=oq;have Q0:0<Z:=oq;have e1:=Nat.div_add_mod mK Z;have gE:=Nat.mod_lt mK Q0;have UA:mK/Z<4294967296:=(Nat.div_lt_iff_lt_mul Q0).2 (by rw[Nat.mul_comm];exact hul);obtain⟨q1,ZF⟩:∃q,mK/Z=q:=⟨_,rfl⟩;obtain⟨r1,a2t⟩:∃q,mK%Z=q:=⟨_,rfl⟩;rw[ZF] at e1 UA;rw[a2t] at e1 gE;obtain⟨x,hx⟩:=nm (r1*4294967296+Pm);have XM:x<Z*4294967296:=oq;have e2:=Nat.div_add_mod x Z;have QL:=Nat.mod_lt x Q0;have Vs:x/Z<4294967296:=(Nat.div_lt_iff_lt_mul Q0).2 (by rw[Nat.mul_comm];exact XM);obtain⟨q0,ZG⟩:∃q,x/Z=q:=⟨_,rfl⟩;obtain⟨r0,a2u⟩:∃q,x%Z=q:=⟨_,rfl⟩;rw[ZG] at e2 Vs;rw[a2u] at e2 QL
 have key:(q1*4294967296+q0)*(d*2251799813685248)+(r0*4294967296+Ph)=(hi*18446744073709551616+lo)*2251799813685248:=by
  exact uO
 have hR:r0*4294967296+Ph<d*2251799813685248:=oq;obtain⟨U,hU⟩:=nm (hi*18446744073709551616+lo);obtain⟨Q,hQ⟩:=nm (q1*4294967296+q0);obtain⟨R,Ot⟩:=nm (r0*4294967296+Ph);rw[←hU,←hQ,←Ot] at key;rw[←Ot] at hR;have e5:Q*(d*2251799813685248)=Q*d*2251799813685248:=(Nat.mul_assoc _ _ _).symm;rw[e5] at key;have hUQ:U=Q*d+R/2251799813685248:=by generalize Q*d=B at*;omega
 have U8:R/2251799813685248<d:=oq
 have e6:U/d=Q:=by
  rw[hUQ,Nat.add_comm,Nat.add_mul_div_right _ _ oq,Nat.div_eq_of_lt U8,Nat.zero_add]
 have e7:U%d=R/2251799813685248:=by
  rw[hUQ,Nat.add_comm,Nat.add_mul_mod_self_right,Nat.mod_eq_of_lt U8]
 exact uZ
end Go.Proofs.YtmbippkpjdoojaaGreat
