/- Parts of a proof, merged. -/
import Derived.Test.YtmbippkpjdoojaaGreatF19
set_option maxRecDepth 100000
set_option maxHeartbeats 1600000
namespace Go.Proofs.YtmbippkpjdoojaaGreat
open Tryz
open Go.RowKit
section
open Pl Sc Wi
theorem yx{w W:World}{v:Value}{z:Int}(h:RdS w W v z):W.cell? ⟨w.heap.size+1,0,none⟩=some (.int .i64 z)∧RdS w W v z:=⟨h.e.ce,h⟩
theorem iJ{P:Program}{fn:Func}{t1 t2:Array Value}{R:Ending→World→Prop}(h:∀w,(results fn t1).run P w=(results fn t2).run P w):∀(ds:List Deferred) (u:FrameMode) (w:World),Leaves P fn t1 R ds u w→Leaves P fn t2 R ds u w
 | [],.returning,w,hh=>by
  obtain⟨v,h1,h2⟩:=hh;exact⟨v,by rw[←h];exact h1,h2⟩
 | [],.panicking _,_,hh=>hh
 | [],.run,_,hh=>hh
 |d::ds,u,w,hh=>by
  obtain⟨hu,fv,cap,f,args,h1,h2,h3⟩:=hh;refine⟨hu,fv,cap,f,args,h1,h2,h3.mono ?_⟩;intro e u' w' hq
  cases e with
  |returned v=>exact iJ h ds _ _ hq
  |panicked c=>exact iJ h ds _ _ hq
  |outgrown=>exact hq
theorem fh{k:Nat}(hk:3<k){v:Value}{R:Ending→World→Prop}{c:List PanicEntry}{a:Act}{w:World}(h:bodyPostD prog Tryz.f166 R (.panic c) (a.put (some k) v) w):bodyPostD prog Tryz.f166 R (.panic c) a w:=by
 refine iJ (t1:=(a.put (some k) v).tmps) (fun W=>?_) _ _ _ h
 have e2:(a.put (some k) v).tmps.getD 2 undef=a.tmps.getD 2 undef:=by
  simp only[Act.put,Array.getD_eq_getD_getElem?];rw[Array.getElem?_setIfInBounds_ne oq]
 have e3:(a.put (some k) v).tmps.getD 3 undef=a.tmps.getD 3 undef:=by
  simp only[Act.put,Array.getD_eq_getD_getElem?];rw[Array.getElem?_setIfInBounds_ne oq]
 simp only[results,results166];simp only[Array.getD_eq_getD_getElem?] at e2 e3;simp[e2,e3]
def C9(w:World)(r:Option (Nat×Nat×List Pr×Nat))(e:Ending)(w':World):Prop:=match r with
 |none=>e=.returned (.tuple #[.pointer none,.int .i64 9])∧Below w.heap.size w w'
 |some (a,m,L,f)=>∃p q As cs g gl A c,e=.returned (.tuple #[.pointer (some ⟨p,0,none⟩),.int .i64 0])∧Skt w' p q As cs a g gl A c (m:Int) (gZ L f)∧Below w.heap.size w w'∧w.heap.size≤g∧w.heap.size≤gl∧w.heap.size≤p∧w.heap.size≤q
structure RdM(w W:World)(base g:Nat)(A:Option Addr)(c:Nat)(l:List UInt8)(NR p:Nat):Prop where
 rs:RdS w W (.pointer none) 0
 rd:Rdr W base g A c l p
 nr:Blk W NR 337 #[eU g]
 hg:w.heap.size≤g
theorem RdM.num{w W W':World}{base g:Nat}{A:Option Addr}{c:Nat}{l:List UInt8}{NR p p':Nat}(h:RdM w W base g A c l NR p)(hr:Rdr W' base g A c l p')(k:ab (RK g) W W'):RdM w W' base g A c l NR p':=
 ⟨h.rs.step h.rd h.hg k,hr,h.nr.only k (fun e=>Blk.ne h.nr h.rd.1 od e),h.hg⟩
theorem RdM.drew{w W:World}{base g:Nat}{A:Option Addr}{c:Nat}{l:List UInt8}{NR p:Nat}(h:RdM w W base g A c l NR p):RdM w W.drew base g A c l NR p:=
 ⟨⟨h.rs.s,h.rs.e,h.rs.below.drew⟩,h.rd,h.nr,h.hg⟩
theorem RdM.z{w W:World}{base g:Nat}{A:Option Addr}{c:Nat}{l:List UInt8}{NR p:Nat}(h:RdM w W base g A c l NR p):W.cell? ⟨NR,0,none⟩=some (.func (Fn.func 223) #[.pointer (some ⟨g,0,none⟩)] #[]):=h.nr.ce
set_option maxHeartbeats 3200000 in
theorem KU(A:Option Addr)(c:Nat)(l:List UInt8)(w:World)(hb:Bts w w.heap.size A l)(hl:l.length≤100000000):
  Cl 166 #[.slice A l.length c] w (C9 w (fU l)):=by
 have Rp:=Oh (fun W (hb:Bts W W.heap.size A l)=>ir A c l W hb hl);have UO:=Oh (fun W base g A c p lo hi (h:Rdr W base g A c l p) (hp:p≤l.length)=>JX base g A c l p lo hi W h hp hl);have HB:=Oh hb;have HL:=Oh hl;have SX:∀(fn:Fn) (first cap:Array Value) (w:World),(Instr.makeFunc fn first cap).run prog w=.ok (.func fn first cap) w:=fun _ _ _ _=>rfl;obtain⟨R,hR⟩:=nm (fU l);rw[←hR];have HR:=Oh hR;clear hb hl hR;go_enter_defers func166,ntmps166;go_wp2_with fail
 have s0:RdS w ((w.alloc (.cells #[.pointer none] 99)).alloc (.cells #[.int .i64 0] 34)) (.pointer none) 0:=by
  have h1:=Blk.new w 99 #[.pointer none];have h2:=Blk.new (w.alloc (.cells #[.pointer none] 99)) 34 #[.int .i64 0];simp only[World.size_alloc] at h2;exact⟨h1.alloc _,h2,(Ba).alloc os' _⟩
 refine(Rp.out _ (HB.out.at_below s0.below)).mono ?_;rintro e w2 ⟨g,A2,c2,rfl,hg,r2,b2⟩;have S2:=Oh (s0.next b2);have R2:=Oh r2;have HG:Hid (w.heap.size≤g):=Oh (Oo s0.below.size hg);clear s0 b2 r2 hg;generalize((w.alloc (.cells #[.pointer none] 99)).alloc (.cells #[.int .i64 0] 34))=W0 at*;go_wp2_with fail;have dO:Below w2.heap.size w2 (w2.alloc (.cells #[eU g] 337)):=Ba;obtain⟨NR,hNR⟩:=nm (w2.heap.size);have M3:Hid (RdM w (w2.alloc (.cells #[eU g] 337)) W0.heap.size g A2 c2 l NR 0):=Oh ⟨S2.out.next dO,R2.out.below dO,by rw[hNR];exact Blk.new _ _ _,HG.out⟩;have z3:=M3.out.z;rw[←hNR];clear dO S2 R2 hNR;unfold eU at*;generalize w2.alloc (.cells #[.func (Fn.func 223) #[.pointer (some ⟨g,0,none⟩)] #[]] 337)=W3 at*;obtain⟨r1,U3⟩:=nm (eE 100 5000 l 0);have OG:=Oh (fun W (h:Rdr W W0.heap.size g A2 c2 l 0)=>UO.out W W0.heap.size g A2 c2 0 100 5000 h (Nat.zero_le _));rw[←U3] at OG;have T7:=Oh U3
 cases r1 with
 |none=>
  have OQ:R=none:=by rw[HR.out];unfold fU;rw[←U3]
  subst OQ;clear U3;refine wp_region_held_drew (S:=(fun W=>W.cell? ⟨NR,0,none⟩=some (.func (Fn.func 223) #[.pointer (some ⟨g,0,none⟩)] #[]))) ok' z3 (fun hHeld=>?_);refine tH 0 ?_ (hQ:=by exact fun _ _ _ h=>fh od h);refine tH 3 ?_ (hQ:=by exact fun _ _ _ h=>fh od h);refine dQ 1 fun K hK=>?_;go_simp;refine(OG.out _ M3.out.drew.rd).mono ?_;rintro e w4 ⟨rfl,k4⟩;exact kR (M3.out.drew.num (M3.out.drew.rd) (ab.refl _ _) |>.rs.step M3.out.drew.rd M3.out.hg k4) _ rfl rfl _ (fun W' hW=>⟨rfl,hW⟩)
 |some r1=>
  obtain⟨a,p1⟩:=r1;obtain⟨Gt,Ug,_,UV⟩:=dv U3.symm (Nat.zero_le _);have ha':(a:Int)≤5000:=oq;have HA:=Oh (And.intro Gt (And.intro Ug UV));obtain⟨r2,QZ⟩:=nm (eE 2 4096 l p1);have Tz:=Oh (fun W (h:Rdr W W0.heap.size g A2 c2 l p1)=>UO.out W W0.heap.size g A2 c2 p1 2 4096 h HA.out.2.2);rw[←QZ] at Tz;have Qa:=Oh QZ;clear Gt Ug UV U3
  cases r2 with
  |none=>
   have OQ:R=none:=by rw[HR.out];unfold fU;rw[←T7.out];dsimp only;rw[←QZ]
   subst OQ;clear QZ;refine wp_region_held_drew (S:=(fun W=>W.cell? ⟨NR,0,none⟩=some (.func (Fn.func 223) #[.pointer (some ⟨g,0,none⟩)] #[]))) ok' z3 (fun hHeld=>?_);refine tH 0 ?_ (hQ:=by exact fun _ _ _ h=>fh od h);refine tH 3 ?_ (hQ:=by exact fun _ _ _ h=>fh od h);refine dQ 1 fun K hK=>?_;go_simp;refine(OG.out _ M3.out.drew.rd).mono ?_;rintro e w4 ⟨rfl,r4,k4⟩;have M4:=Oh (M3.out.drew.num r4 k4);clear r4 k4;refine hK.out _ _ ?_ (fun hHeld=>?_)
   ·exact M4.out.z
   clear hK K
   try go_simp
   refine tH 2 ?_ (hQ:=by exact fun _ _ _ h=>fh od h);refine dQ 4 fun K hK=>?_;go_simp;refine(Tz.out _ M4.out.rd).mono ?_;rintro e w5 ⟨rfl,k5⟩;exact kR (M4.out.rs.step M4.out.rd M4.out.hg k5) _ rfl rfl _ (fun W' hW=>⟨rfl,hW⟩)
  |some r2=>
   obtain⟨m,p2⟩:=r2;obtain⟨oS,gE,_,Ts⟩:=dv QZ.symm HA.out.2.2;have hm':(m:Int)≤4096:=oq;have HM:=Oh (And.intro oS (And.intro gE Ts));have hwa:IntKind.i64.wrap (a:Int)=(a:Int):=i6;have hwm:IntKind.i64.wrap (m:Int)=(m:Int):=i6;clear oS gE Ts QZ;refine wp_region_held_drew (S:=(fun W=>W.cell? ⟨NR,0,none⟩=some (.func (Fn.func 223) #[.pointer (some ⟨g,0,none⟩)] #[]))) ok' z3 (fun hHeld=>?_);refine tH 0 ?_ (hQ:=by exact fun _ _ _ h=>fh od h);refine tH 3 ?_ (hQ:=by exact fun _ _ _ h=>fh od h);refine dQ 1 fun K hK=>?_;go_simp;refine(OG.out _ M3.out.drew.rd).mono ?_;rintro e w4 ⟨rfl,r4,k4⟩;have M4:=Oh (M3.out.drew.num r4 k4);clear r4 k4;refine hK.out _ _ ?_ (fun hHeld=>?_)
   ·exact M4.out.z
   clear hK K
   try go_simp
   refine tH 2 ?_ (hQ:=by exact fun _ _ _ h=>fh od h);refine dQ 4 fun K hK=>?_;go_simp;refine(Tz.out _ M4.out.rd).mono ?_;rintro e w5 ⟨rfl,r5,k5⟩;have M5:=Oh (M4.out.num r5 k5);clear r5 k5;refine hK.out _ _ ?_ (fun hHeld=>?_)
   ·exact M5.out.z
   clear hK K
   try go_simp
   refine tH 5 ?_ (hQ:=by exact fun _ _ _ h=>fh od h);refine tH 6 ?_ (hQ:=by exact fun _ _ _ h=>fh od h);refine tH 7 ?_ (hQ:=by exact fun _ _ _ h=>fh od h);refine wpAnyH_done ok' ?_ _;clear hHeld;have z5:=M5.out.z;obtain⟨r3,SL⟩:=nm (eE 0 m l p2);have SW:=Oh (fun W (h:Rdr W W0.heap.size g A2 c2 l p2)=>UO.out W W0.heap.size g A2 c2 p2 0 m h HM.out.2.2);rw[←SL] at SW;have Oz:=Oh SL;clear SL;go_wp2_with fail;refine(SW.out _ M5.out.rd).mono ?_
   cases r3 with
   |none=>
    have OQ:R=none:=by rw[HR.out];unfold fU;rw[←T7.out];dsimp only;rw[←Qa.out];dsimp only;rw[←Oz.out]
    subst OQ;rintro e w6 ⟨rfl,k6⟩;exact kR (M5.out.rs.step M5.out.rd M5.out.hg k6) _ rfl rfl _ (fun W' hW=>⟨rfl,hW⟩)
   |some r3=>
    obtain⟨n,p3⟩:=r3;obtain⟨_,Sz,_,Xq⟩:=dv Oz.out.symm HM.out.2.2;have hn4:n≤4096:=Oo Sz HM.out.2.1;have hn':(n:Int)≤4096:=oq;have HN:=Oh (And.intro Sz (And.intro hn4 Xq));have VY:IntKind.i64.wrap (n:Int)=(n:Int):=i6;clear Sz hn4 Xq;rintro e w6 ⟨rfl,r6,k6⟩;have M6:=Oh (M5.out.num r6 k6);have z6:=M6.out.z;clear r6 k6 z5;obtain⟨r4,Vm⟩:=nm (eE 0 4611686018427387904 l p3);have RH:=Oh (fun W (h:Rdr W W0.heap.size g A2 c2 l p3)=>UO.out W W0.heap.size g A2 c2 p3 0 4611686018427387904 h HN.out.2.2);rw[←Vm] at RH;have VB:=Oh Vm;clear Vm;go_wp2_with fail;refine(RH.out _ M6.out.rd).mono ?_
    cases r4 with
    |none=>
     have OQ:R=none:=by rw[HR.out];unfold fU;rw[←T7.out];dsimp only;rw[←Qa.out];dsimp only;rw[←Oz.out];dsimp only;rw[←VB.out]
     subst OQ;rintro e w7 ⟨rfl,k7⟩;exact kR (M6.out.rs.step M6.out.rd M6.out.hg k7) _ rfl rfl _ (fun W' hW=>⟨rfl,hW⟩)
    |some r4=>
     obtain⟨f,p4⟩:=r4;obtain⟨_,Xc,_,hp4⟩:=dv VB.out.symm HN.out.2.2;have HF:=Oh (And.intro Xc hp4);clear Xc hp4;rintro e w7 ⟨rfl,r7,k7⟩;have M7:=Oh (M6.out.num r7 k7);have z7:=M7.out.z;clear r7 k7 z6;obtain⟨r5,VN⟩:=nm (cH n none l p4);have HPR:=Oh (fun W (h:Rdr W W0.heap.size g A2 c2 l p4)=>Dj W0.heap.size g A2 c2 l p4 n W h HF.out.2 HL.out HN.out.2.1);rw[←VN] at HPR;have YE:=Oh VN;clear VN;go_wp2_with fail;refine(HPR.out _ M7.out.rd).mono ?_
     cases r5 with
     |none=>
      have OQ:R=none:=by rw[HR.out];unfold fU;rw[←T7.out];dsimp only;rw[←Qa.out];dsimp only;rw[←Oz.out];dsimp only;rw[←VB.out];dsimp only;rw[←YE.out]
      subst OQ;rintro e w8 ⟨rfl,k8⟩;exact kR (M7.out.rs.step M7.out.rd M7.out.hg k8) _ rfl rfl _ (fun W' hW=>⟨rfl,hW⟩)
     |some r5=>
      obtain⟨LP,p5⟩:=r5;rintro e w8 ⟨A8,c8,rfl,o8,r8,k8⟩;have M8:=Oh (M7.out.num r8 k8);have O8:=Oh o8;clear r8 k8 o8 z7;obtain⟨q1,q2,q3,q4,_⟩:=jY n none l p4 LP p5 YE.out.symm HF.out.2;obtain⟨k,hk⟩:∃k,p5+k=l.length:=⟨l.length-p5,oq⟩;have HQ:=Oh (And.intro q1 (And.intro q2 (And.intro q3 q4)));have HK:=Oh hk;have oR:=Oh (fun W (h:Rdr W W0.heap.size g A2 c2 l p5)=>fj W0.heap.size g A2 c2 l p5 k W h HK.out HL.out);have Sb:(k:Int)≤100000000:=by have:=HL.out;omega
      clear q1 q2 q3 q4 hk;go_wp2_with fail;refine(oR.out _ M8.out.rd).mono ?_;rintro e w9 ⟨rfl,qq,UI⟩;have M9:Hid (RdS w w9 (.pointer none) 0):=Oh (by rw[UI];exact⟨M8.out.rs.s,M8.out.rs.e,ae M8.out.rs.below _⟩);have B9:Hid (Below w8.heap.size w8 w9):=Oh (by rw[UI];exact ae (Oq _ _) _);clear UI
      by_cases VZ:k=0
      ·have hp5:p5=l.length:=by have:=HK.out;omega
       have HP5:=Oh hp5;have hkp:decide ((0:Int)<(k:Int))=false:=sq;have abU:decide (0<k)=false:=sq;have HLD:=Oh (fun W (h:Prs W W.heap.size A8 LP)=>J6 a m A8 c8 LP f W h HA.out.1 HA.out.2.1 HM.out.1 HM.out.2.1 HQ.out.2.2.1 HQ.out.2.2.2 (by have h1:=HQ.out.2.1;have h2:=HN.out.1;omega))
       have HRY:Hid (ey a m LP f→iX a m LP f=l→R=some (a,m,LP,f)):=Oh (fun h1 h2=>by
        rw[HR.out];unfold fU;rw[←T7.out];dsimp only;rw[←Qa.out];dsimp only;rw[←Oz.out];dsimp only;rw[←VB.out];dsimp only;rw[←YE.out];dsimp only;rw[if_pos ⟨HP5.out,h1,h2⟩])
       have Wf:Hid (¬(ey a m LP f∧iX a m LP f=l)→R=none):=Oh (fun hn=>by
        rw[HR.out];unfold fU;rw[←T7.out];dsimp only;rw[←Qa.out];dsimp only;rw[←Oz.out];dsimp only;rw[←VB.out];dsimp only;rw[←YE.out];dsimp only;rw[if_neg (fun hh=>hn hh.2)])
       clear VZ hp5;go_wp2_with fail;refine(HLD.out _ ((bI.reads O8.out).at_below B9.out)).mono ?_;rintro e Qr (⟨hke,⟨p,q,As,cs,gg,gl,AA,cc,rfl,Y7,Uq,If,sk⟩,Vf⟩|⟨hnk,rfl,Vf⟩)
       ·have m10:=M9.out.next Vf;have x1:=m10.s.c0;have x2:=m10.s.free 0;have PH:=m10.e.far (p:=⟨w.heap.size,0,none⟩) os' (.pointer (some ⟨p,0,none⟩));have x3:=PH.c0;have x4:=PH.free 0;have Z9:Hid (w.heap.size≤gg∧w.heap.size≤gl∧w.heap.size≤p∧w.heap.size≤q):=Oh ⟨Oo M9.out.below.size Uq,Oo M9.out.below.size If,Oo M9.out.below.size Y7.1,Oo M9.out.below.size Y7.2⟩;have HKE:=Oh hke;have SK:=Oh sk;have M10:=Oh m10;clear hke sk m10 Vf Y7 Uq If PH;go_wp2_with fail;have PH:=M10.out.e.far (p:=⟨w.heap.size,0,none⟩) os' (.pointer (some ⟨p,0,none⟩));have sk1:=(SK.out.set M10.out.s od od od od od od 0 (.pointer (some ⟨p,0,none⟩))).set PH od od od od od od 0 (.int .i64 0);have m11:RdS w ((Qr.setCell ⟨w.heap.size,0,none⟩ (.pointer (some ⟨p,0,none⟩))).setCell ⟨w.heap.size+1,0,none⟩ (.int .i64 0)) (.pointer (some ⟨p,0,none⟩)) 0:=⟨(M10.out.s.put 0 (.pointer (some ⟨p,0,none⟩))).far (p:=⟨w.heap.size+1,0,none⟩) os' _,PH.put 0 _,(M10.out.below.setCell os' _).setCell os' _⟩;refine(Cn sk1 HA.out.2.1 HM.out.1 HM.out.2.1 HKE.out HQ.out.2.2.1 HQ.out.2.2.2 (by have h1:=HQ.out.2.1;have h2:=HN.out.1;omega)).mono ?_;rintro e Tn ⟨A9,c9,rfl,o9,b12⟩;have M12:=Oh (m11.next b12);have abX:=Oh (sk1.below b12);have O9:=Oh o9;clear PH sk1 m11 o9 x1 x2 x3 x4;have y1:=M12.out.e.c0;have y2:=M12.out.e.free 0;have he3:=M12.out.e.put 0 (.int .i64 0);have y3:=he3.c0;have m13:RdS w (Tn.setCell ⟨w.heap.size+1,0,none⟩ (.int .i64 0)) (.pointer (some ⟨p,0,none⟩)) 0:=⟨M12.out.s.far (p:=⟨w.heap.size+1,0,none⟩) os' _,he3,M12.out.below.setCell os' _⟩;have bA:Bts (Tn.setCell ⟨w.heap.size+1,0,none⟩ (.int .i64 0)) (Tn.setCell ⟨w.heap.size+1,0,none⟩ (.int .i64 0)).heap.size A l:=HB.out.at_below m13.below;have M13:=Oh m13;have BA:=Oh bA;have o13:ak (Tn.setCell ⟨w.heap.size+1,0,none⟩ (.int .i64 0)) _ A9 c9 (iX a m LP f):=Own.setOther O9.out (p:=⟨w.heap.size+1,0,none⟩) (Own.ne_blk O9.out M12.out.e od) _;have abZ:=Oh (abX.out.set M12.out.e od od od od od od 0 (.int .i64 0));have O13:=Oh (ak.reads o13);clear he3 m13 bA b12 o13;go_wp2_with fail
        refine(ju A9 A c9 c (iX a m LP f) l _ O13.out BA.out HL.out).mono ?_;rintro e YW ⟨rfl,qe,Ve⟩;have M14:Hid (RdS w YW (.pointer (some ⟨p,0,none⟩)) 0):=Oh (by rw[Ve];exact M13.out.next (ae (Oq _ _) _));have ac0:Hid (Skt YW p q As cs a gg gl AA cc (m:Int) (gZ LP f)):=Oh (by rw[Ve];exact abZ.out.below (ae (Oq _ _) _));clear Ve y1 y2 y3;have x1:=M14.out.s.c0;have x2:=M14.out.s.free 0
        by_cases hd:iX a m LP f=l
        ·have hb:(iX a m LP f==l)=true:=by rw[hd];simp
         rw[hb];have OQ:=HRY.out HKE.out hd;subst OQ;have PH:=M14.out.e.far (p:=⟨w.heap.size,0,none⟩) os' (.pointer (some ⟨p,0,none⟩));have x3:=PH.c0;have x4:=PH.free 0;have M15:Hid (RdS w ((YW.setCell ⟨w.heap.size,0,none⟩ (.pointer (some ⟨p,0,none⟩))).setCell ⟨w.heap.size+1,0,none⟩ (.int .i64 0)) (.pointer (some ⟨p,0,none⟩)) 0):=Oh ⟨(M14.out.s.put 0 (.pointer (some ⟨p,0,none⟩))).far (p:=⟨w.heap.size+1,0,none⟩) os' _,PH.put 0 _,(M14.out.below.setCell os' _).setCell os' _⟩;have ac1:=Oh ((ac0.out.set M14.out.s od od od od od od 0 (.pointer (some ⟨p,0,none⟩))).set PH od od od od od od 0 (.int .i64 0));clear hd hb PH;go_wp2_with fail;exact Hb M15.out _ rfl rfl _ ⟨p,q,As,cs,gg,gl,AA,cc,rfl,ac1.out,M15.out.below,Z9.out.1,Z9.out.2.1,Z9.out.2.2⟩
        ·have hb:(iX a m LP f==l)=false:=by simpa using hd
         rw[hb];have OQ:=Wf.out (fun hh=>hd hh.2);subst OQ;have PH:=M14.out.e.far (p:=⟨w.heap.size,0,none⟩) os' (.pointer none);have x3:=PH.c0;have x4:=PH.free 0;have M15:Hid (RdS w ((YW.setCell ⟨w.heap.size,0,none⟩ (.pointer none)).setCell ⟨w.heap.size+1,0,none⟩ (.int .i64 9)) (.pointer none) 9):=Oh ⟨(M14.out.s.put 0 (.pointer none)).far (p:=⟨w.heap.size+1,0,none⟩) os' _,PH.put 0 _,(M14.out.below.setCell os' _).setCell os' _⟩;clear hd hb PH;go_wp2_with fail;exact G4 M15.out od _ rfl rfl _ (fun W' hW=>⟨rfl,hW⟩)
       ·have OQ:=Wf.out (fun hh=>hnk hh.1);subst OQ;have m10:=M9.out.next Vf;have x1:=m10.s.c0;have x2:=m10.s.free 0;have PH:=m10.e.far (p:=⟨w.heap.size,0,none⟩) os' (.pointer none);have x3:=PH.c0;have x4:=PH.free 0;have m11:RdS w ((Qr.setCell ⟨w.heap.size,0,none⟩ (.pointer none)).setCell ⟨w.heap.size+1,0,none⟩ (.int .i64 1)) (.pointer none) 1:=⟨(m10.s.put 0 (.pointer none)).far (p:=⟨w.heap.size+1,0,none⟩) os' _,PH.put 0 _,(m10.below.setCell os' _).setCell os' _⟩;have x5:=m11.e.c0;have M11:=Oh m11;clear m10 PH m11 hnk Vf;go_wp2_with fail;refine wp_region_noPanic ?_;refine wp_region_held_drew (S:=(fun W=>W.cell? ⟨w.heap.size+1,0,none⟩=some (.int .i64 1)∧RdS w W (.pointer none) 1)) ok' ⟨x5,⟨M11.out.s,M11.out.e,M11.out.below.drew⟩⟩ (fun hHeld=>?_);refine tH 0 ?_;refine dQ 1 fun K hK=>?_;have q1:=hHeld.2.s.cell 0;have q2:=hHeld.2.s.free 0;simp only[List.getElem?_toArray,List.getElem?_cons_zero] at q1;go_simp;refine hK.out _ _ ?_ (fun hHeld=>?_)
        ·have hq:=hHeld.2.e.far (p:=⟨w.heap.size,0,none⟩) os' (.pointer none);exact yx ⟨hHeld.2.s.put 0 _,hq,hHeld.2.below.setCell os' _⟩
        clear hK K q1 q2
        try go_simp
        refine dQ 2 fun K hK=>?_;have q1:=hHeld.2.e.cell 0;have q2:=hHeld.2.e.free 0;simp only[List.getElem?_toArray,List.getElem?_cons_zero] at q1;go_simp;refine hK.out _ _ ?_ (fun hHeld=>?_)
        ·have hq:=hHeld.2.e.put 0 (.int .i64 1);exact yx ⟨hHeld.2.s.far (p:=⟨w.heap.size+1,0,none⟩) os' _,hq,hHeld.2.below.setCell os' _⟩
        clear hK K q1 q2
        try go_simp
        refine jR ?_;go_wp2_with fail;exact G4 hHeld.2 od _ rfl rfl _ (fun W' hW=>⟨rfl,hW⟩)
      ·have OQ:R=none:=by
        rw[HR.out];unfold fU;rw[←T7.out];dsimp only;rw[←Qa.out];dsimp only;rw[←Oz.out];dsimp only;rw[←VB.out];dsimp only;rw[←YE.out];dsimp only;rw[if_neg (fun hh=>VZ (by have:=HK.out;omega))]
       subst OQ;have hkp:decide ((0:Int)<(k:Int))=true:=sq;have abU:decide (0<k)=true:=sq;have x1:=M9.out.s.c0;have x2:=M9.out.s.free 0;have PH:=M9.out.e.far (p:=⟨w.heap.size,0,none⟩) os' (.pointer none);have x3:=PH.c0;have x4:=PH.free 0;have M10:Hid (RdS w ((w9.setCell ⟨w.heap.size,0,none⟩ (.pointer none)).setCell ⟨w.heap.size+1,0,none⟩ (.int .i64 9)) (.pointer none) 9):=Oh ⟨(M9.out.s.put 0 (.pointer none)).far (p:=⟨w.heap.size+1,0,none⟩) os' _,PH.put 0 _,(M9.out.below.setCell os' _).setCell os' _⟩;clear VZ PH;go_wp2_with fail;exact G4 M10.out od _ rfl rfl _ (fun W' hW=>⟨rfl,hW⟩)
end
section
open Pl Wi
theorem Ej(a b c g:Nat)(W:List UInt8)(ha:a<18446744073709551616)(hb:b<18446744073709551616)(hc:c<18446744073709551616)(hg:g<256):
  s7 [118,118,118,98] ((leb a++leb b++leb c++low 1 g)++W)=(0,[a,b,c,g],(leb a++leb b++leb c++low 1 g).length):=by
 have h1:=lv a b c g hg;unfold dh at h1;rw[if_pos ⟨od,rfl⟩] at h1
 obtain⟨B,hB,hgo,_⟩:=xU [118,118,118,98] [a,b,c,g] [] (leb a++leb b++leb c++low 1 g) od rfl (by
  intro n hn;simp at hn;rcases hn with rfl|rfl|rfl|rfl<;>omega) h1
 rw[List.nil_append] at hB;subst hB;unfold s7;rw[if_pos od,hgo W [] 0];simp
section
variable {w:World} {p:Nat}
theorem NW(hb:Blk w p 103 xI)(A:Option Addr)(n c:Nat)(R:Nat→World→Prop)(HN:Hid (Cl 166 #[.slice A n c] w fun e w'=>∃q,e=.returned (.tuple #[.pointer (some ⟨q,0,none⟩),.int .i64 0])∧R q w'∧Below w.heap.size w w')):
  Cl 87 #[.pointer (some ⟨p,0,none⟩),.slice A n c] w fun e w'=>e=.returned (.int .i64 0)∧∃q W,R q W∧Below w.heap.size w W∧w'=W.setCell ⟨p,2,none⟩ (.pointer (some ⟨q,0,none⟩)):=by
 have HB:=Oh hb;clear hb;go_enter func87,ntmps87;go_wp2_with fail;refine HN.out.mono ?_;rintro e w2 ⟨q,rfl,hr,b2⟩;have EQ:=HB.out.below b2 HB.out.lt;have c2:=EQ.c2;exact nY
theorem NV(hb:Blk w p 103 xH)(A:Option Addr)(n c:Nat)(R:Nat→World→Prop)(HN:Hid (Cl 168 #[.slice A n c] w fun e w'=>∃q,e=.returned (.tuple #[.pointer (some ⟨q,0,none⟩),.int .i64 0])∧R q w'∧Below w.heap.size w w')):
  Cl 89 #[.pointer (some ⟨p,0,none⟩),.slice A n c] w fun e w'=>e=.returned (.int .i64 0)∧∃q W,R q W∧Below w.heap.size w W∧w'=W.setCell ⟨p,3,none⟩ (.pointer (some ⟨q,0,none⟩)):=by
 have HB:=Oh hb;clear hb;go_enter func89,ntmps89;go_wp2_with fail;refine HN.out.mono ?_;rintro e w2 ⟨q,rfl,hr,b2⟩;have EQ:=HB.out.below b2 HB.out.lt;have c2:=EQ.c3;exact nY
theorem NU(hb:Blk w p 103 xG)(A:Option Addr)(n c:Nat)(R:Nat→World→Prop)(HN:Hid (Cl 170 #[.slice A n c] w fun e w'=>∃q,e=.returned (.tuple #[.pointer (some ⟨q,0,none⟩),.int .i64 0])∧R q w'∧Below w.heap.size w w')):
  Cl 91 #[.pointer (some ⟨p,0,none⟩),.slice A n c] w fun e w'=>e=.returned (.int .i64 0)∧∃q W,R q W∧Below w.heap.size w W∧w'=W.setCell ⟨p,4,none⟩ (.pointer (some ⟨q,0,none⟩)):=by
 have HB:=Oh hb;clear hb;go_enter func91,ntmps91;go_wp2_with fail;refine HN.out.mono ?_;rintro e w2 ⟨q,rfl,hr,b2⟩;have EQ:=HB.out.below b2 HB.out.lt;have c2:=EQ.c4;exact nY
theorem Bq(hb:Blk w p 103 xJ)(A:Option Addr)(c lo hi d b:Nat)(u m:Nat)(iR:Int)(W:List UInt8)(L:List Pr)(hA:Bts w w.heap.size A (bD lo hi d true W))(OA:(bD lo hi d true W).length≤c)(h1:lo≤9223372036854775807)(h2:hi≤9223372036854775807)(h3:d≤5)(hW:W.length≤50000000)(hf:fl L)(Ty:Hid (∀V A c,Bts V V.heap.size A W→W.length≤c→Cl 161 #[.slice A W.length c] V fun e w'=>∃q gm bm,e=.returned (.tuple #[.pointer (some ⟨q,0,none⟩),.int .i64 0])∧Hst w' q gm bm (lo:Int) iR (d:Int) u m false b L∧Below V.heap.size V w'))(HLD:Hid (∀V A c,Prs V V.heap.size A L→Cl 162 #[.agg (i3' lo hi d),.bool true,.int .i64 (b:Int),.slice A L.length c] V fun e w'=>∃q gm bm,e=.returned (.tuple #[.pointer (some ⟨q,0,none⟩),.int .i64 0])∧V.heap.size≤q∧V.heap.size≤gm∧V.heap.size≤bm∧Hst w' q gm bm (lo:Int) (hi:Int) (d:Int) u m true b L∧Below V.heap.size V w')):
  Cl 85 #[.pointer (some ⟨p,0,none⟩),.slice A (bD lo hi d true W).length c] w fun e w'=>e=.returned (.int .i64 0)∧∃q gm bm V,(Hst V q gm bm (lo:Int) (hi:Int) (d:Int) u m true b L∧w.heap.size≤q∧w.heap.size≤gm∧w.heap.size≤bm)∧Below w.heap.size w V∧w'=V.setCell ⟨p,1,none⟩ (.pointer (some ⟨q,0,none⟩)):=by
 have l1:=af (show lo<18446744073709551616 by omega);have l2:=af (show hi<18446744073709551616 by omega);have l3:=af (show d<18446744073709551616 by omega);obtain⟨H,hH⟩:=nm (leb lo++leb hi++leb d++low 1 1);have hXX:bD lo hi d true W=H++W:=by rw[hH];rfl
 have hHl:H.length≤100:=by rw[hH];simp only[Ok,aJ];omega
 have a3G:=Ej lo hi d 1 W oq oq oq oq;rw[←hH] at a3G;rw[hXX] at hA OA ⊢;have Sg:(H++W).length=H.length+W.length:=Ok;have U1:=Oh (Kb ⟨#[118,118,118,98]⟩ A c (H++W) w hA oq);rw[show(⟨#[118,118,118,98]⟩:ByteArray).data.toList=[118,118,118,98] from rfl,a3G] at U1;have RA:((H++W).drop H.length).take ((H++W).length-H.length)=W:=by rw[List.drop_left,List.take_of_length_le oq]
 have HAB:=Oh (fun V (hv:Below w.heap.size w V)=>by
  have h:=lp (hA.at_below hv) c H.length (H++W).length (Oi _) OA;rw[RA] at h;exact h)
 have St:=fun V=>lP A (H++W).length c H.length oq V;rw[show(H++W).length-H.length=W.length by omega] at St;have HCP:Hid (W.length≤c-H.length):=Oh oq;have HK:=Oh hb;have HF:=Oh hf;have e1:decide ((9223372036854775807:Int)<(lo:Int))=false:=decide_eq_false oq;have e2:decide ((9223372036854775807:Int)<(hi:Int))=false:=decide_eq_false oq;have e3:decide ((5:Int)<(d:Int))=false:=decide_eq_false oq;have e1b:decide (9223372036854775807<lo)=false:=decide_eq_false oq;have e2b:decide (9223372036854775807<hi)=false:=decide_eq_false oq;have e3b:decide (5<d)=false:=decide_eq_false oq;have e4:IntKind.i64.wrap (lo:Int)=(lo:Int):=i6;have e5:IntKind.i64.wrap (hi:Int)=(hi:Int):=i6;have e6:IntKind.i64.wrap (d:Int)=(d:Int):=i6;obtain⟨T,hT⟩:=nm (H++W);rw[←hT] at U1 St ⊢;generalize H.length=HL at*;clear hb hA OA h1 h2 h3 hW hf l1 l2 l3 hH hXX hHl a3G Sg RA hT;go_enter func85,ntmps85;go_wp2_with fail;refine U1.out.mono ?_;rintro e w2 ⟨AU,cU,rfl,oU,bU⟩;have bY:=Oh bU;have HUO:=Oh oU;clear bU oU U1;dsimp only;obtain⟨gU,rfl,_,hgU,_,Xr,_⟩:=Own.form HUO.out os';obtain⟨cs,hcs⟩:=Own.blk HUO.out (g:=gU) rfl;have hu0:cs[0]?=some (.int .u64 (lo:Int)):=by rw[←hcs.cell];exact Xr 0 _ rfl
 have hu1:cs[1]?=some (.int .u64 (hi:Int)):=by rw[←hcs.cell];exact Xr 1 _ rfl
 have VA:cs[2]?=some (.int .u64 (d:Int)):=by rw[←hcs.cell];exact Xr 2 _ rfl
 have hu3:cs[3]?=some (.int .u64 1):=by rw[←hcs.cell];exact Xr 3 _ rfl
 have HU2:=Oh hcs;have u0:w2.cell? ⟨gU,0,none⟩=some (.int .u64 (lo:Int)):=(hcs.cell 0).trans hu0;have u1:w2.cell? ⟨gU,1,none⟩=some (.int .u64 (hi:Int)):=(hcs.cell 1).trans hu1;have u2:w2.cell? ⟨gU,2,none⟩=some (.int .u64 (d:Int)):=(hcs.cell 2).trans VA;have Ur:=Oh (And.intro hu0 (And.intro hu1 (And.intro VA hu3)));clear Xr hcs hgU HUO hu0 hu1 VA hu3;go_wp2_with fail;refine(Ty.out _ _ _ (HAB.out _ bY.out) HCP.out).mono ?_;rintro e w3 ⟨q,gm,bm,rfl,h3,b3⟩;have HH3:=Oh h3;have fR:=Oh (ai bY.out b3);have HU3:=Oh (HU2.out.below b3 HU2.out.lt);clear h3 b3 u0 u1 u2 bY HU2 HAB Ty;have u0:w3.cell? ⟨gU,0,none⟩=some (.int .u64 (lo:Int)):=(HU3.out.cell 0).trans Ur.out.1;have u1:w3.cell? ⟨gU,1,none⟩=some (.int .u64 (hi:Int)):=(HU3.out.cell 1).trans Ur.out.2.1;have u2:w3.cell? ⟨gU,2,none⟩=some (.int .u64 (d:Int)):=(HU3.out.cell 2).trans Ur.out.2.2.1;have a6X:Hid (gU<w3.heap.size):=Oh HU3.out.lt;dsimp only;go_upto_region 7 with(fail);refine wp_region_noPanic ?_;refine ag (S:=(fun(V:World)=>V.cell? ⟨gU,0,none⟩=some (.int .u64 (lo:Int))∧V.cell? ⟨gU,1,none⟩=some (.int .u64 (hi:Int))∧V.cell? ⟨gU,2,none⟩=some (.int .u64 (d:Int)))) (L:=14) ok' ⟨u0,u1,u2⟩ (fun hHeld=>?_);have oR:Hid (gU<w3.drew.heap.size):=Oh a6X.out;have a6Y:Hid (Hst w3.drew q gm bm (lo:Int) iR (d:Int) u m false b L):=Oh (HH3.out.drewN 1);have a3H:Hid (Below w.heap.size w w3.drew):=Oh fR.out.drew;have a3I:=Oh HU3.out.drew;clear HH3 fR HU3 a6X u0 u1 u2;generalize w3.drew=wd at*;refine fV 0 ?_;refine tV 1 ?_;refine tV 2 ?_;refine tV 3 ?_;refine fV 4 ?_;refine tV 5 ?_;refine tV 6 ?_;refine tV 7 ?_;refine fV 8 ?_;refine tV 9 ?_;refine tV 10 ?_;refine tV 11 ?_;refine tV 12 ?_;refine bO 13 fun K hK=>?_;go_simp;replace hHeld:=(show(fun(V:World)=>V.cell? ⟨gU,0,none⟩=some (.int .u64 (lo:Int))∧V.cell? ⟨gU,1,none⟩=some (.int .u64 (hi:Int))∧V.cell? ⟨gU,2,none⟩=some (.int .u64 (d:Int))) (wd.alloc (.cells #[.int .i64 0,.int .i64 0,.int .i64 0] 27)) from⟨((Ba).cell (p:=⟨gU,0,none⟩) oR.out).trans hHeld.1,((Ba).cell (p:=⟨gU,1,none⟩) oR.out).trans hHeld.2.1,((Ba).cell (p:=⟨gU,2,none⟩) oR.out).trans hHeld.2.2⟩)
 refine hK.out _ _ hHeld ?_;clear hK K;try go_simp
 refine aL 14 ?_;refine cD ?_;clear hHeld;have Sf:Hid (Blk (wd.alloc (.cells (i3' lo hi d) 27)) wd.heap.size 27 (i3' lo hi d)):=Oh (Blk.new _ _ _);have UB:Below wd.heap.size wd (wd.alloc (.cells (i3' lo hi d) 27)):=Ba;have HU8:=Oh (a3I.out.below UB a3I.out.lt);have HH8:=Oh (a6Y.out.below UB);have Qg:Hid (Below w.heap.size w (wd.alloc (.cells (i3' lo hi d) 27))):=Oh (a3H.out.trans (UB.mono a3H.out.size));clear UB a3I a6Y a3H oR;obtain⟨N,hN⟩:=nm (wd.heap.size);rw[←hN] at Sf ⊢;clear hN;generalize wd.alloc (.cells (i3' lo hi d) 27)=w8 at*;have s3:w8.cell? ⟨gU,3,none⟩=some (.int .u64 1):=(HU8.out.cell 3).trans Ur.out.2.2.2;have s0:=Sf.out.c0;have s1:=Sf.out.c1;have s2:=Sf.out.c2;go_upto_region 8 with(fail);refine wp_region_noPanic ?_;refine ag (S:=(fun(V:World)=>V.cell? ⟨gU,3,none⟩=some (.int .u64 1)∧V.cell? ⟨N,0,none⟩=some (.int .i64 (lo:Int))∧V.cell? ⟨N,1,none⟩=some (.int .i64 (hi:Int))∧V.cell? ⟨N,2,none⟩=some (.int .i64 (d:Int)))) (L:=16) ok' ⟨s3,s0,s1,s2⟩ (fun hHeld=>?_);have HUd:=Oh HU8.out.drew;have HNd:=Oh Sf.out.drew;have HHd:Hid (Hst w8.drew q gm bm (lo:Int) iR (d:Int) u m false b L):=Oh (HH8.out.drewN 1);have OL:Hid (Below w.heap.size w w8.drew):=Oh Qg.out.drew;clear HU8 Sf HH8 Qg;refine fV 0 ?_;refine tV 1 ?_;refine fV 2 ?_;refine tV 3 ?_;refine tV 4 ?_;refine tV 5 ?_;refine fV 6 ?_;refine fV 8 ?_;refine bO 7 fun K hK=>?_;go_simp;refine(xp HHd.out).mono ?_;rintro e v7 ⟨rfl,hv7⟩;obtain rfl:=hv7.symm;replace hHeld:=hHeld;refine hK.out _ _ hHeld ?_;clear hK K;try go_simp
 refine bO 9 fun K hK=>?_;go_simp;refine(kD HHd.out HF.out).mono ?_;rintro e v9 ⟨A9,c9,rfl,o9,b9⟩;have Yp:=Oh (HUd.out.below b9 HUd.out.lt);have Ti:=Oh (HNd.out.below b9 HNd.out.lt);have HP9:Hid (Prs v9 v9.heap.size A9 L):=Oh (Own.reads o9);have QF:Hid (Below w.heap.size w v9):=Oh (OL.out.trans (b9.mono OL.out.size));clear o9 b9;replace hHeld:=(show(fun(V:World)=>V.cell? ⟨gU,3,none⟩=some (.int .u64 1)∧V.cell? ⟨N,0,none⟩=some (.int .i64 (lo:Int))∧V.cell? ⟨N,1,none⟩=some (.int .i64 (hi:Int))∧V.cell? ⟨N,2,none⟩=some (.int .i64 (d:Int))) v9 from⟨by rw[Yp.out.cell];exact Ur.out.2.2.2,Ti.out.ce,Ti.out.ce,Ti.out.ce⟩);refine hK.out _ _ hHeld ?_;clear hK K;try go_simp
 refine bO 10 fun K hK=>?_;go_simp;refine(HLD.out _ _ _ HP9.out).mono ?_;rintro e v10 ⟨q2,Zg,Xh,rfl,n1,n2,n3,VQ,Vf⟩;have Rw:=Oh (Yp.out.below Vf Yp.out.lt);have Rv:=Oh (Ti.out.below Vf Ti.out.lt);have RB:Hid (Below w.heap.size w v10):=Oh (QF.out.trans (Vf.mono QF.out.size));have ac7:=Oh (And.intro VQ (And.intro (Oo QF.out.size n1) (And.intro (Oo QF.out.size n2) (Oo QF.out.size n3))));have hpk:=HK.out.below RB.out HK.out.lt;have cp:=hpk.c1;have frp:=hpk.free;clear VQ Vf n1 n2 n3 hpk;replace hHeld:=(show(fun(V:World)=>V.cell? ⟨gU,3,none⟩=some (.int .u64 1)∧V.cell? ⟨N,0,none⟩=some (.int .i64 (lo:Int))∧V.cell? ⟨N,1,none⟩=some (.int .i64 (hi:Int))∧V.cell? ⟨N,2,none⟩=some (.int .i64 (d:Int))) v10 from⟨by rw[Rw.out.cell];exact Ur.out.2.2.2,Rv.out.ce,Rv.out.ce,Rv.out.ce⟩);refine hK.out _ _ hHeld ?_;clear hK K;try go_simp
 refine fV 11 ?_;refine fV 12 ?_;refine fV 13 ?_;refine fV 14 ?_;refine fV 15 ?_;refine aL 16 ?_;refine aA 17 ?_;refine cD ?_
 try clear hHeld
 go_wp2_with fail;go_ret;exact⟨rfl,q2,Zg,Xh,v10,ac7.out,RB.out,rfl⟩
end
end
theorem ab.none_below{w w':World}(h:ab (fun _=>False) w w'):Below w.heap.size w w':=h.below (Oi _) (fun _ h=>h.elim)
section
variable {w:World} {x m c:Nat} {A:Option Addr} {Q:List (Option Ent)} {M:List (Nat×Nat)} {a:Ac}
theorem Sui.hld(h:Sui w x m A c Q M):ar (fun w=>Sui w x m A c Q M) (SG x m A Q) w:=⟨h,h.lt,fun _ _ k hd=>h.only k hd⟩
theorem BP:∀args w,(callFunc 36 args).run prog w=.ok (.enter 36 args) w:=enters_of func36 ok' rfl
theorem BN:∀args w,(callFunc 37 args).run prog w=.ok (.enter 37 args) w:=enters_of func37 ok' rfl
theorem Eu:∀args w,(callFunc 38 args).run prog w=.ok (.enter 38 args) w:=enters_of func38 ok' rfl
theorem Et:∀args w,(callFunc 39 args).run prog w=.ok (.enter 39 args) w:=enters_of func39 ok' rfl
theorem Ev:∀args w,(callFunc 41 args).run prog w=.ok (.enter 41 args) w:=enters_of func41 ok' rfl
theorem BO:∀args w,(callFunc 42 args).run prog w=.ok (.enter 42 args) w:=enters_of func42 ok' rfl
theorem J2:∀args w,(callFunc 43 args).run prog w=.ok (.enter 43 args) w:=enters_of func43 ok' rfl
theorem qA(h:Sui w x m A c Q M)(hk:a.k=1)(hH:a.H<4294967296)(hM:M.lookup a.H=none)(QA:M.length<64)(hl:Q.length≤999)(ha:∀o∈Q,o≠none)(S:Ent→Prop)(HC:Hid (∀W,Below w.heap.size w W→Cl 65 #[.agg (JS a)] W (eH S W))):
  Cl 11 #[.pointer (some ⟨x,0,none⟩),.agg (acC a)] w fun e w'=>e=.returned (.agg (ap 0))∧rp S x m A Q M a.H w w':=by
 refine(pq (σ:=Ent×Option Addr×Nat) (fun _=>ap 0) (fun s=>S s.1) (fun s w=>Sui w x m s.2.1 s.2.2 (Q++[some s.1]) (M++[(a.H,Q.length)])) (SG x m A Q) (fun s=>SG x m s.2.1 (Q++[some s.1])) x 36 true false none oq oq (by rw[hk];rfl) (by rw[hk];rfl) (.inr rfl) BP (Oh h.lt) (Oh fun W hb=>tB (h.below hb) hH hM) (Oh fun s _=>⟨0,0,false,0,0,0,0,none,0,0,rfl,.inl rfl⟩) (Oh fun W hb=>?_)).mono ?_
 ·refine(AB (h.below hb) hH hM QA hl ha (.pointer none) S (Oh fun V hv=>HC.out V (ai hb hv))).mono ?_;rintro o w' ⟨rfl,f,A',c',hf,hs,ht⟩;exact⟨(f,A',c'),rfl,hf,hs.hld,ht⟩
 ·rintro o w' ⟨⟨f,A',c'⟩,rfl,hf,hh,ht⟩;exact⟨rfl,f,A',c',hf,hh.it,ht⟩
theorem J5(h:Sui w x m A c Q M)(hk:a.k=8)(hH:a.H<4294967296)(hM:M.lookup a.H=none)(QA:M.length<64)(hl:Q.length≤999)(ha:∀o∈Q,o≠none)(S:Ent→Prop)(HC:Hid (∀W,Below w.heap.size w W→Cl 16 #[.slice a.bA a.bn a.bc,.int .i64 a.lim] W (eH S W))):
  Cl 11 #[.pointer (some ⟨x,0,none⟩),.agg (acC a)] w fun e w'=>e=.returned (.agg (ap 0))∧rp S x m A Q M a.H w w':=by
 refine(pq (σ:=Ent×Option Addr×Nat) (fun _=>ap 0) (fun s=>S s.1) (fun s w=>Sui w x m s.2.1 s.2.2 (Q++[some s.1]) (M++[(a.H,Q.length)])) (SG x m A Q) (fun s=>SG x m s.2.1 (Q++[some s.1])) x 43 true false none oq oq (by rw[hk];rfl) (by rw[hk];rfl) (.inr rfl) J2 (Oh h.lt) (Oh fun W hb=>tB (h.below hb) hH hM) (Oh fun s _=>⟨0,0,false,0,0,0,0,none,0,0,rfl,.inl rfl⟩) (Oh fun W hb=>?_)).mono ?_
 ·refine(GR (h.below hb) hH hM QA hl ha (.pointer none) S (Oh fun V hv=>HC.out V (ai hb hv))).mono ?_;rintro o w' ⟨rfl,f,A',c',hf,hs,ht⟩;exact⟨(f,A',c'),rfl,hf,hs.hld,ht⟩
 ·rintro o w' ⟨⟨f,A',c'⟩,rfl,hf,hh,ht⟩;exact⟨rfl,f,A',c',hf,hh.it,ht⟩
def zN(S:Ent→Prop)(x m:Nat)(A:Option Addr)(c:Nat)(Q:List (Option Ent))(M:List (Nat×Nat))(i:Nat)(w w':World):Prop:=∃f,S f∧Sui w' x m A c (Q.set i (some f)) M∧aD (SG x m A Q) (SG x m A (Q.set i (some f))) w w'
theorem yH(hA:a.cA=none)(hn:a.cn=0)(W:World):Cl 68 #[.slice a.cA a.cn a.cc] W fun e w'=>∃g,e=.returned (.pointer (some ⟨g,0,none⟩))∧Below W.heap.size W w':=by
 rw[hA,hn];exact Jo none a.cc [] W (Bts.empty _ _ _) os'
theorem qy(h:Sui w x m A c Q M)(hk:a.k=2)(hH:a.H<4294967296){i:Nat}{e:Ent}(hM:M.lookup a.H=some i)(hi:Q[i]?=some (some e))(hA:a.cA=none)(hn:a.cn=0)(S:Ent→Prop)(cd:Int)(HC:Hid (∀W g,Below w.heap.size w W→Cl 67 #[.pointer (some ⟨e.p,0,none⟩),.int .i64 a.v,.int .u64 (a.n:Int),.pointer (some ⟨g,0,none⟩)] W fun o w'=>o=.returned (.int .i64 cd)∧cT S e.p e.F W w')):
  Cl 11 #[.pointer (some ⟨x,0,none⟩),.agg (acC a)] w fun o w'=>o=.returned (.agg (ap cd))∧zN S x m A c Q M i w w':=by
 have hem:some e∈Q:=Om hi;refine(pq (σ:=Ent) (fun _=>ap cd) S (fun f w=>Sui w x m A c (Q.set i (some f)) M) (SG x m A Q) (fun f=>SG x m A (Q.set i (some f))) x 37 false true (some ⟨e.p,0,none⟩) oq oq (by rw[hk];rfl) (by rw[hk];rfl) (.inl rfl) BN (Oh h.lt) (Oh fun W hb=>jn (h.below hb) hH hM hi) (Oh fun s _=>⟨cd,0,false,0,0,0,0,none,0,0,rfl,.inr rfl⟩) (Oh fun W hb=>?_)).mono ?_
 ·refine(Au (.pointer (some ⟨x,0,none⟩)) cd S e.F (Oh ((h.below hb).held e hem).lt) (Oh fun V _=>yH hA hn V) (Oh fun V g hv=>HC.out V g (ai hb hv))).mono ?_;exact uL
 ·rintro o w' ⟨f,rfl,hf,hh,ht⟩;exact⟨rfl,f,hf,hh.it,ht⟩
theorem Ey(h:Sui w x m A c Q M)(hk:a.k=3)(hH:a.H<4294967296)(hG:a.G<4294967296){i j:Nat}{e e2:Ent}(hM:M.lookup a.H=some i)(hi:Q[i]?=some (some e))(hM2:M.lookup a.G=some j)(hj:Q[j]?=some (some e2))(hA:a.cA=none)(hn:a.cn=0)(S:Ent→Prop)(cd:Int)(HC:Hid (∀W g,Below w.heap.size w W→Cl 69 #[.pointer (some ⟨e.p,0,none⟩),.pointer (some ⟨e2.p,0,none⟩),.pointer (some ⟨g,0,none⟩)] W fun o w'=>o=.returned (.int .i64 cd)∧cT S e.p e.F W w')):
  Cl 11 #[.pointer (some ⟨x,0,none⟩),.agg (acC a)] w fun o w'=>o=.returned (.agg (ap cd))∧zN S x m A c Q M i w w':=by
 have hem:some e∈Q:=Om hi;refine(pq (σ:=Ent) (fun _=>ap cd) S (fun f w=>Sui w x m A c (Q.set i (some f)) M) (SG x m A Q) (fun f=>SG x m A (Q.set i (some f))) x 38 false true (some ⟨e.p,0,none⟩) oq oq (by rw[hk];rfl) (by rw[hk];rfl) (.inl rfl) Eu (Oh h.lt) (Oh fun W hb=>jn (h.below hb) hH hM hi) (Oh fun s _=>⟨cd,0,false,0,0,0,0,none,0,0,rfl,.inr rfl⟩) (Oh fun W hb=>?_)).mono ?_
 ·refine(CR (.pointer (some ⟨x,0,none⟩)) cd S e.F (Oh ((h.below hb).held e hem).lt) (Oh fun V hv=>jn (h.below (ai hb hv)) hG hM2 hj) (Oh fun V _=>yH hA hn V) (Oh fun V g hv=>HC.out V g (ai hb hv))).mono ?_;exact uL
 ·rintro o w' ⟨f,rfl,hf,hh,ht⟩;exact⟨rfl,f,hf,hh.it,ht⟩
theorem qz(h:Sui w x m A c Q M)(hk:a.k=7)(hH:a.H<4294967296){i:Nat}{e:Ent}(hM:M.lookup a.H=some i)(hi:Q[i]?=some (some e))(l:List UInt8)(HC:Hid (∀W,Below w.heap.size w W→Cl 17 #[.pointer (some ⟨e.p,0,none⟩),.int .i64 a.ver] W fun o w'=>∃A c,o=.returned (.tuple #[.slice A l.length c,.int .i64 0])∧ak w' W.heap.size A c l∧Below W.heap.size W w')):
  Cl 11 #[.pointer (some ⟨x,0,none⟩),.agg (acC a)] w fun o w'=>∃A' c',o=.returned (.agg (bC 0 0 false 0 0 0 0 (.slice A' l.length c')))∧ak w' w.heap.size A' c' l∧Below w.heap.size w w':=by
 refine(pq (σ:=Option Addr×Nat) (fun s=>bC 0 0 false 0 0 0 0 (.slice s.1 l.length s.2)) (fun _=>True) (fun s W=>ak W w.heap.size s.1 s.2 l) (fun _=>False) (fun s i=>aa s.1=some i) x 42 false true (some ⟨e.p,0,none⟩) oq oq (by rw[hk];rfl) (by rw[hk];rfl) (.inl rfl) BO (Oh fun _ h=>h.elim) (Oh fun W hb=>jn (h.below hb) hH hM hi) (Oh fun s _=>⟨0,0,false,0,0,0,0,s.1,l.length,s.2,rfl,.inl rfl⟩) (Oh fun W hb=>?_)).mono ?_
 ·refine(Az (.pointer (some ⟨x,0,none⟩)) l (Oh fun V hv=>HC.out V (ai hb hv))).mono ?_;rintro o w' ⟨A',c',rfl,ho,aT⟩;have ho2:ak w' w.heap.size A' c' l:=Own.mono (show Own w' W.heap.size 5 1 A' l.length c' (bvs l) from ho) hb.size;exact⟨(A',c'),rfl,trivial,ar.own ho2,ab.of_below aT,fun i hi=>.inr (Own.block (show Own w' W.heap.size 5 1 A' l.length c' (bvs l) from ho) hi).1⟩
 ·rintro o w' ⟨⟨A',c'⟩,rfl,_,hh,ht⟩;exact⟨A',c',rfl,hh.it,ht.only.none_below⟩
theorem Ex(h:Sui w x m A c Q M)(hk:a.k=4)(hH:a.H<4294967296){i:Nat}{e:Ent}(hM:M.lookup a.H=some i)(hi:Q[i]?=some (some e))(v:Int)(vg:Bool)(lg:Nat)(HC:Hid (∀W,Below w.heap.size w W→Cl 70 #[.pointer (some ⟨e.p,0,none⟩),.int .u64 (a.num:Int),.int .u64 (a.den:Int)] W fun o w'=>o=.returned (.tuple #[.agg #[.int .i64 v,.bool vg,.int .u64 (lg:Int)],.int .i64 0])∧Below W.heap.size W w')):
  Cl 11 #[.pointer (some ⟨x,0,none⟩),.agg (acC a)] w fun o w'=>o=.returned (.agg (bC 0 v vg lg 0 0 0 (.slice none 0 0)))∧Below w.heap.size w w':=by
 refine(pq (σ:=Unit) (fun _=>bC 0 v vg lg 0 0 0 (.slice none 0 0)) (fun _=>True) (fun _ _=>True) (fun _=>False) (fun _ _=>False) x 39 false true (some ⟨e.p,0,none⟩) oq oq (by rw[hk];rfl) (by rw[hk];rfl) (.inl rfl) Et (Oh fun _ h=>h.elim) (Oh fun W hb=>jn (h.below hb) hH hM hi) (Oh fun s _=>⟨0,v,vg,lg,0,0,0,none,0,0,rfl,.inl rfl⟩) (Oh fun W hb=>?_)).mono ?_
 ·refine(CJ (.pointer (some ⟨x,0,none⟩)) v vg lg (Oh fun V hv=>HC.out V (ai hb hv))).mono ?_;rintro o w' ⟨rfl,aT⟩;exact⟨(),rfl,trivial,ar.pure trivial,ab.of_below aT,fun i hi=>hi.elim⟩
 ·rintro o w' ⟨_,rfl,_,_,ht⟩;exact⟨rfl,ht.only.none_below⟩
theorem Ez(h:Sui w x m A c Q M)(hk:a.k=6)(hH:a.H<4294967296){i:Nat}{e:Ent}(hM:M.lookup a.H=some i)(hi:Q[i]?=some (some e))(n:Nat)(HC:Hid (∀W,Below w.heap.size w W→Cl 72 #[.pointer (some ⟨e.p,0,none⟩)] W fun o w'=>o=.returned (.int .u64 (n:Int))∧Below W.heap.size W w')):
  Cl 11 #[.pointer (some ⟨x,0,none⟩),.agg (acC a)] w fun o w'=>o=.returned (.agg (bC 0 0 false 0 0 0 n (.slice none 0 0)))∧Below w.heap.size w w':=by
 refine(pq (σ:=Unit) (fun _=>bC 0 0 false 0 0 0 n (.slice none 0 0)) (fun _=>True) (fun _ _=>True) (fun _=>False) (fun _ _=>False) x 41 false true (some ⟨e.p,0,none⟩) oq oq (by rw[hk];rfl) (by rw[hk];rfl) (.inl rfl) Ev (Oh fun _ h=>h.elim) (Oh fun W hb=>jn (h.below hb) hH hM hi) (Oh fun s _=>⟨0,0,false,0,0,0,n,none,0,0,rfl,.inl rfl⟩) (Oh fun W hb=>?_)).mono ?_
 ·refine(CZ (.pointer (some ⟨x,0,none⟩)) n (Oh fun V hv=>HC.out V (ai hb hv))).mono ?_;rintro o w' ⟨rfl,aT⟩;exact⟨(),rfl,trivial,ar.pure trivial,ab.of_below aT,fun i hi=>hi.elim⟩
 ·rintro o w' ⟨_,rfl,_,_,ht⟩;exact⟨rfl,ht.only.none_below⟩
end
section
open Pl
def mkE(p:Nat)(cs:Array Value)(X:World→Prop)(F:Nat→Prop):Ent:=⟨p,fun i=>i=p∨F i,fun w=>Blk w p 103 cs∧X w⟩
section
variable {w w' V:World} {p k:Nat} {cz cs:Array Value} {X X':World→Prop} {F F':Nat→Prop} {v:Value} {S:Ent→Prop}
theorem ou(hb:Blk w p 103 cs)(hx:ar X F w):ar (mkE p cs X F).I (mkE p cs X F).F w:=(ar.blk hb).and hx
theorem fI(hb:Blk w p 103 cz)(hV:Below w.heap.size w V)(hx:ar X F V)(hF:∀i,F i→w.heap.size≤i)(hc:cz.setIfInBounds k v=cs):
  ar (mkE p cs X F).I (mkE p cs X F).F (V.setCell ⟨p,k,none⟩ v)∧(∀i,(mkE p cs X F).F i→i=p∨w.heap.size≤i)∧ab (fun i=>i=p) w (V.setCell ⟨p,k,none⟩ v):=by
 have hlt:=hb.lt;refine⟨ou (by rw[←hc];exact(hb.below hV hlt).put k v) (hx.only (ab.set (p:=⟨p,k,none⟩) (ab.refl (fun i=>i=p) V) (.inl rfl) v) (fun i hi e=>?_)),fun i hi=>hi.imp id (hF i),ab.set (K:=fun i=>i=p) (p:=⟨p,k,none⟩) (ab.of_below hV) (.inl rfl) v⟩;have:=hF i hi;omega
theorem jh(hb:Blk w p 103 cs)(hF:∀i,F i→w.heap.size≤i):¬F p:=fun h=>by
 have h1:=hF p h;have h2:=hb.lt;omega
theorem mJ(hb:Blk w p 103 cs)(hp:¬F p)(ht:aD F F' w w'):¬F' p:=fun h=>by
 rcases ht.new p h with h1|h1
 ·exact hp h1
 ·have h2:=hb.lt;omega
theorem jr(hb:Blk w p 103 cs)(hp:¬F p)(hx:ar X' F' w')(ht:aD F F' w w')(hS:S (mkE p cs X' F')):cT S p (mkE p cs X F).F w w':=
 ⟨mkE p cs X' F',hS,rfl,ou (hb.only ht.only hp) hx,⟨ht.only.mono fun _ h=>.inr h,fun i hi=>hi.elim (fun h=>.inl (.inl h)) fun h=>(ht.new i h).imp .inr id⟩⟩
theorem om(hb:Blk w p 103 cs)(hx:ar X F w)(hw:Below w.heap.size w w')(hS:S (mkE p cs X F)):cT S p (mkE p cs X F).F w w':=
 ⟨mkE p cs X F,hS,rfl,(ou hb hx).below hw,aD.self hw⟩
end
def HF(q gm bm:Nat)(i:Nat):Prop:=i=q∨i=gm∨i=bm
def p7(p q gm bm:Nat)(lo hi d:Int)(u m:Nat)(g:Bool)(b:Nat)(L:List Pr):Ent:=mkE p (rZ q) (fun w=>Hst w q gm bm lo hi d u m g b L) (HF q gm bm)
def jE(lo hi d:Int)(u m:Nat)(g:Bool)(b:Nat)(L:List Pr)(e:Ent):Prop:=∃p q gm bm,e=p7 p q gm bm lo hi d u m g b L∧¬HF q gm bm p
section
variable {w:World} {q gm bm b:Nat} {lo hi d:Int} {u m:Nat} {g:Bool} {L:List Pr} {e:Ent}
theorem Hst.held(h:Hst w q gm bm lo hi d u m g b L):ar (fun w=>Hst w q gm bm lo hi d u m g b L) (HF q gm bm) w:=
 ⟨h,fun i hi=>by
  rcases hi with rfl|rfl|rfl
  ·exact h.blk.lt
  ·exact Blk.lt h.mp
  ·exact h.own.lt,fun K w' k hd=>h.only k (hd _ (.inl rfl)) (hd _ (.inr (.inl rfl))) (hd _ (.inr (.inr rfl)))⟩
theorem nl{w':World}(k:ab (HK q bm) w w'):aD (HF q gm bm) (HF q gm bm) w w':=
 ⟨k.mono fun _ hi=>hi.elim .inl fun h=>.inr (.inr h),fun _ hi=>.inl hi⟩
theorem oA(he:jE lo hi d u m g b L e)(hh:ar e.I e.F w):
  Cl 74 #[.pointer (some ⟨e.p,0,none⟩)] w fun o w'=>o=.returned (.agg (spC 1 lo hi d g 0 0))∧Below w.heap.size w w':=by
 obtain⟨p,q,gm,bm,rfl,hn⟩:=he;obtain⟨hb,hx⟩:=hh.it;exact LC hb lo hi d g (Oh fun W hw=>gF (hx.below hw)) (Oh fun W hw=>oy (hx.below hw))
theorem vS(lo D:Nat)(hi:Int)(g:Bool)(w:World)(h1:1≤D)(h5:D≤5)(hL:1≤lo)(SD:2*(lo:Int)≤hi)(FR:hi≤9223372036854775807)(lE:Hdr.uOf lo+Hdr.mOf D≤62):
  Cl 65 #[.agg (spC 1 lo hi D g 0 0)] w (eH (jE lo hi D (Hdr.uOf lo) (Hdr.mOf D) g (1+Hdr.Hd.bk (Hdr.uOf lo) (Hdr.mOf D) hi.toNat) []) w):=by
 refine LM lo hi D g 0 0 w _ (Oh fun W p hb hblk hp=>?_) (Oh fun W f hf hh=>oA hf hh);refine(O0 hblk lo hi D g 0 0 (fun q w'=>∃gm bm,Hst w' q gm bm (lo:Int) hi (D:Int) (Hdr.uOf lo) (Hdr.mOf D) g (1+Hdr.Hd.bk (Hdr.uOf lo) (Hdr.mOf D) hi.toNat) []∧W.heap.size≤q∧W.heap.size≤gm∧W.heap.size≤bm) (Oh fun V hv=>(FN lo D hi g V h1 h5 hL SD FR lE).mono ?_)).mono ?_
 ·rintro e w' ⟨q,gm,bm,rfl,a1,a2,a3,hs,aT⟩;have:=hv.size;exact⟨q,rfl,⟨gm,bm,hs,oq,oq,oq⟩,aT⟩
 ·rintro e w' ⟨rfl,q,V,⟨gm,bm,hs,a1,a2,a3⟩,hV,rfl⟩
  have hF:∀i,HF q gm bm i→W.heap.size≤i:=by
   rintro i (rfl|rfl|rfl)<;>assumption
  exact⟨rfl,p7 p q gm bm lo hi D _ _ g _ [],rfl,⟨p,q,gm,bm,rfl,jh hblk hF⟩,fI hblk hV hs.held hF rfl⟩
theorem yY(he:jE lo hi d u m g b L e)(hh:ar e.I e.F w)(hf:fl L)(gE:1≤m)(hm:m≤18)(lE:u+m≤62)(h1:1≤b)(h2:b≤64)(v n:Nat)(hv:v<2^63)(hn:1≤n)(hg:g=true∨v≤mq u m b)(ht:tot L+n≤4611686018427387904)(co:Value):
  Cl 67 #[.pointer (some ⟨e.p,0,none⟩),.int .i64 (v:Int),.int .u64 (n:Int),co] w fun o w'=>o=.returned (.int .i64 0)∧cT (jE lo hi d u m g (max b (1+Hdr.Hd.bk u m v)) (put L (Hdr.Hd.idx u m v) n)) e.p e.F w w':=by
 obtain⟨p,q,gm,bm,rfl,Pa⟩:=he;obtain⟨hb,hx⟩:=hh.it;refine K9 hb v n co 0 (fun w'=>cT (jE lo hi d u m g (max b (1+Hdr.Hd.bk u m v)) (put L (Hdr.Hd.idx u m v) n)) p (p7 p q gm bm lo hi d u m g b L).F w w') ((Br hx hf gE hm lE h1 h2 v n hv hn hg ht).mono ?_);rintro o w' ⟨rfl,hs,k⟩;exact⟨rfl,jr hb Pa hs.held (nl k) ⟨p,q,gm,bm,rfl,Pa⟩⟩
theorem FO(he:jE lo hi d u m g b L e)(hh:ar e.I e.F w)(lE:u+m≤62)(h1:1≤b)(h2:b≤64)(v:Int)(n:Nat)(ht:tot L≤4611686018427387904)(c:Nat)(hc:pw (n==0) (decide (v<0)) (decide ((mq u m b:Int)<v)) g (decide (4611686018427387904-tot L<n))=c)(hc0:c≠0)(co:Value):
  Cl 67 #[.pointer (some ⟨e.p,0,none⟩),.int .i64 v,.int .u64 (n:Int),co] w fun o w'=>o=.returned (.int .i64 (c:Int))∧cT (jE lo hi d u m g b L) e.p e.F w w':=by
 obtain⟨p,q,gm,bm,rfl,Pa⟩:=he;obtain⟨hb,hx⟩:=hh.it;refine K9 hb v n co c (fun w'=>cT (jE lo hi d u m g b L) p (p7 p q gm bm lo hi d u m g b L).F w w') ((xm hx lE h1 h2 v n ht c hc hc0).mono ?_);rintro o w' ⟨rfl,k,rfl⟩;exact⟨rfl,om hb hx.held (ae (Oq _ _) k) ⟨p,q,gm,bm,rfl,Pa⟩⟩
theorem Bu(he:jE lo hi d u m g b L e)(hh:ar e.I e.F w):
  Cl 72 #[.pointer (some ⟨e.p,0,none⟩)] w fun o w'=>o=.returned (.int .u64 (tot L:Nat))∧Below w.heap.size w w':=by
 obtain⟨p,q,gm,bm,rfl,Pa⟩:=he;obtain⟨hb,hx⟩:=hh.it;refine Ir hb (tot L) (fun w'=>Below w.heap.size w w') ((E8 hx).mono ?_);rintro o w' ⟨rfl,rfl⟩;exact⟨rfl,Oq _ _⟩
end
section
variable {w:World} {lo D:Nat} {hi b:Nat} {u m:Nat} {L:List Pr} {e:Ent}
theorem oz(g:Bool)(he:jE (lo:Int) (hi:Int) (D:Int) u m g b L e)(hh:ar e.I e.F w)(hf:fl L)(lE:u+m≤62)(Xf:hi≤9223372036854775807)(h1:1≤b)(h2:b≤64)(hD:D≤5)(P4:lo≤9223372036854775807)(R:Nat)(hR:dU (hi:Int) u m b=(R:Int))(Ot:R≤9223372036854775807)(hW:(hwF D lo R (an L)).length≤50000000):
  Cl 29 #[.pointer (some ⟨e.p,0,none⟩)] w fun o w'=>∃A c,o=.returned (.slice A (bD lo hi D g (hwF D lo R (an L))).length c)∧ak w' w.heap.size A c (bD lo hi D g (hwF D lo R (an L)))∧Below w.heap.size w w':=by
 obtain⟨p,q,gm,bm,rfl,Pa⟩:=he;obtain⟨hb,hx⟩:=hh.it;refine Lv hb _ ?_
 cases g with
 |true=>exact pJ hb lo hi D _ P4 Xf oq hW (Oh fun V hv=>gF (hx.below hv)) (Oh fun V hv=>oy (hx.below hv)) (Oh fun V hv=>lz (hx.below hv) hf lE oq oq h1 h2 hD P4 R hR Ot)
 |false=>exact mU hb lo hi D _ P4 Xf oq hW (Oh fun V hv=>gF (hx.below hv)) (Oh fun V hv=>oy (hx.below hv)) (Oh fun V hv=>lz (hx.below hv) hf lE oq oq h1 h2 hD P4 R hR Ot)
end
end
end Go.Proofs.YtmbippkpjdoojaaGreat
namespace Go.Proofs.YtmbippkpjdoojaaGreat.Bt
open Tryz
open Go.RowKit
def num:List Bool→Nat
 | []=>0
 |x::r=>x.toNat+2*num r
theorem nL(x:Bool):x.toNat≤1:=by cases x<;>decide
theorem xX(l:List Bool):num l<2^l.length:=by
 induction l with
 |nil=>decide
 |cons x r ih=>
  have:=nL x;rw[num,List.length_cons,Nat.pow_succ];omega
theorem nd(l m:List Bool):num (l++m)=num l+2^l.length*num m:=by
 induction l with
 |nil=>simp[num]
 |cons x r ih=>
  rw[List.cons_append,num,num,ih,List.length_cons,Nat.pow_succ,Nat.mul_add];have:2*(2^r.length*num m)=2^r.length*2*num m:=by rw[←Nat.mul_assoc,Nat.mul_comm 2 (2^r.length)]
  omega
theorem Dt(l:List Bool)(x:Bool):num (l++[x])=num l+x.toNat*2^l.length:=by
 rw[nd,num,num,Nat.mul_zero,Nat.add_zero,Nat.mul_comm]
def gb:Nat→Nat→List Bool
 |_,0=>[]
 |n,c+1=>decide (n%2=1)::gb (n/2) c
theorem ao(n c:Nat):(gb n c).length=c:=by
 induction c generalizing n with
 |zero=>rfl
 |succ c ih=>simp[gb,ih]
theorem qJ(n:Nat):(decide (n%2=1)).toNat=n%2:=by
 rcases Nat.mod_two_eq_zero_or_one n with h|h<;>rw[h]<;>rfl
theorem L5(n c:Nat):num (gb n c)=n%2^c:=by
 induction c generalizing n with
 |zero=>simp[gb,num,Nat.mod_one]
 |succ c ih=>
  rw[gb,num,ih,qJ,Nat.pow_succ,Nat.mul_comm (2^c) 2,Nat.mod_mul]
theorem LW(l:List Bool):gb (num l) l.length=l:=by
 induction l with
 |nil=>rfl
 |cons x r ih=>
  have h1:(x.toNat+2*num r)%2=x.toNat:=by
   have:=nL x;omega
  have h2:(x.toNat+2*num r)/2=num r:=by
   have:=nL x;omega
  rw[num,List.length_cons,gb,h1,h2,ih];cases x<;>rfl
theorem IQ(n c:Nat):gb n (c+1)=gb n c++[decide (n/2^c%2=1)]:=by
 induction c generalizing n with
 |zero=>simp[gb]
 |succ c ih=>
  rw[gb,ih (n/2),gb,List.cons_append,Nat.div_div_eq_div_mul,Nat.mul_comm 2 (2^c),←Nat.pow_succ]
theorem FP(n c i:Nat):(gb n c)[i]?=if i<c then some (n.testBit i) else none:=by
 induction c generalizing n i with
 |zero=>simp[gb]
 |succ c ih=>
  cases i with
  |zero=>simp[gb,Nat.testBit_zero]
  |succ i=>
   rw[gb,List.getElem?_cons_succ,ih,Nat.testBit_succ]
   by_cases h:i<c
   ·rw[if_pos h,if_pos oq]
   ·rw[if_neg h,if_neg oq]
def pk(L:List Bool)(i:Nat):UInt8:=UInt8.ofNat (num ((L.drop (8*i)).take 8))
def bM(L:List Bool):List UInt8:=(List.range ((L.length+7)/8)).map (pk L)
theorem aU(L:List Bool):(bM L).length=(L.length+7)/8:=by simp[bM]
theorem eX(L:List Bool)(i:Nat):(bM L)[i]?=if i<(L.length+7)/8 then some (pk L i) else none:=by
 unfold bM;rw[List.getElem?_map]
 by_cases h:i<(L.length+7)/8
 ·rw[if_pos h,List.getElem?_range h];rfl
 ·rw[if_neg h,List.getElem?_eq_none (by simpa using h)];rfl
theorem yB{L M:List Bool}{i:Nat}(h:(L.drop (8*i)).take 8=(M.drop (8*i)).take 8):pk L i=pk M i:=by
 unfold pk;rw[h]
def room(L:List Bool):List UInt8:=if L.length%8=0 then bM L++[0] else bM L
theorem cW(L:List Bool):(room L).length=L.length/8+1:=by
 unfold room;split
 ·simp[aU];omega
 ·rw[aU];omega
theorem yv(L:List Bool):(room L)[L.length/8]?=some (UInt8.ofNat (num (L.drop (8*(L.length/8))))):=by
 unfold room
 by_cases h:L.length%8=0
 ·rw[if_pos h,List.getElem?_append_right (by rw[aU];omega),aU,show L.length/8-(L.length+7)/8=0 by omega];rw[show List.drop (8*(L.length/8)) L=[] from List.drop_eq_nil_iff.2 oq];rfl
 ·rw[if_neg h,eX,if_pos oq];unfold pk;rw[List.take_of_length_le sq]
theorem Dk(L:List Bool)(x:Bool):(room L).set (L.length/8) (UInt8.ofNat (num (L.drop (8*(L.length/8)))+x.toNat*2^(L.length%8)))=bM (L++[x]):=by
 apply List.ext_getElem?
 intro i;rw[List.getElem?_set,cW,eX,Ok,List.length_singleton];have Re:(L.drop (8*(L.length/8))).length=L.length%8:=sq
 by_cases h1:L.length/8=i
 ·subst h1;rw[if_pos rfl,if_pos oq,if_pos oq];unfold pk;rw[List.drop_append_of_le_length oq,List.take_of_length_le sq,Dt,Re]
 ·rw[if_neg h1]
  by_cases h2:i<(L.length+1+7)/8
  ·have h3:8*i+8≤L.length:=oq;rw[if_pos h2]
   have hp:pk (L++[x]) i=pk L i:=yB (by
    rw[List.drop_append_of_le_length oq,List.take_append_of_le_length sq])
   rw[hp];have hg:=eX L i;rw[if_pos oq] at hg;unfold room;split
   ·rw[List.getElem?_append_left (by rw[aU];omega)];exact hg
   ·exact hg
  ·rw[if_neg h2,List.getElem?_eq_none];rw[cW];omega
theorem Hp{a b r:Nat}(ha:a<2^r):a|||b*2^r=a+b*2^r:=by
 rw[Nat.or_comm,←Nat.shiftLeft_eq,←Nat.shiftLeft_add_eq_or_of_lt ha,Nat.add_comm]
def ML(n:Nat):Nat:=8*((n+7)/8)-n
def dl(L:List Bool):List Bool:=L++List.replicate (ML L.length) false
theorem cG(L:List Bool):(dl L).length=8*((L.length+7)/8):=by
 simp[dl,ML];omega
theorem Bf(l:List Bool)(n:Nat):num (l++List.replicate n false)=num l:=by
 have h:∀n,num (List.replicate n false)=0:=by
  intro n
  induction n with
  |zero=>rfl
  |succ n ih=>rw[List.replicate_succ,num,ih];rfl
 rw[nd,h];simp
theorem jJ(L:List Bool):bM (dl L)=bM L:=by
 apply List.ext_getElem?
 intro i;rw[eX,eX,cG]
 by_cases h:i<(L.length+7)/8
 ·rw[if_pos oq,if_pos h];unfold pk
  by_cases h2:8*i+8≤L.length
  ·unfold dl;rw[List.drop_append_of_le_length oq,List.take_append_of_le_length sq]
  ·unfold dl;rw[List.drop_append_of_le_length oq,List.take_append,List.take_replicate,Bf]
 ·rw[if_neg oq,if_neg h]
def dH(b:List UInt8):List Bool:=b.flatMap fun x=>gb x.toNat 8
theorem iL(x:UInt8)(b:List UInt8):dH (x::b)=gb x.toNat 8++dH b:=rfl
theorem dM(b:List UInt8):(dH b).length=8*b.length:=by
 induction b with
 |nil=>rfl
 |cons x b ih=>rw[iL,Ok,ao,ih,List.length_cons];omega
theorem ta(b:List UInt8)(i:Nat):(dH b).drop (8*i)=dH (b.drop i):=by
 induction i generalizing b with
 |zero=>rfl
 |succ i ih=>
  cases b with
  |nil=>simp[dH]
  |cons x b=>
   rw[iL,show 8*(i+1)=8+8*i by omega,←List.drop_drop,List.drop_append_of_le_length (by rw[ao];exact Oi _)];have e:List.drop 8 (gb x.toNat 8)=[]:=List.drop_of_length_le (by rw[ao];exact Oi _);rw[e,List.nil_append,ih];rfl
theorem Hi(b:List UInt8)(i:Nat)(h:i<b.length):pk (dH b) i=b[i]:=by
 unfold pk;rw[ta,List.drop_eq_getElem_cons h,iL,List.take_append_of_le_length (by rw[ao];exact Oi _),List.take_of_length_le (by rw[ao];exact Oi _),L5];rw[Nat.mod_eq_of_lt b[i].toNat_lt];exact UInt8.ofNat_toNat
theorem Bb(A:List Bool)(b:List UInt8)(h:A.length%8=0):bM (A++dH b)=bM A++b:=by
 have hA:8*(A.length/8)=A.length:=oq
 apply List.ext_getElem?
 intro i;rw[eX,Ok,dM]
 by_cases h1:i<A.length/8
 ·rw[if_pos oq,List.getElem?_append_left (by rw[aU];omega),eX,if_pos oq]
  congr 1
  exact yB (by rw[List.drop_append_of_le_length oq,List.take_append_of_le_length sq])
 ·rw[List.getElem?_append_right (by rw[aU];omega),aU,show(A.length+7)/8=A.length/8 by omega]
  by_cases h2:i-A.length/8<b.length
  ·rw[if_pos oq,Oj h2,←Hi b _ h2]
   congr 1
   unfold pk;rw[List.drop_append,List.drop_of_length_le oq,List.nil_append,show 8*i-A.length=8*(i-A.length/8) by omega]
  ·rw[if_neg oq,List.getElem?_eq_none oq]
def eV(n:Nat)(c:Int):Bool:=decide (0≤c)&&(decide (c≤32)&&(n/2^c.toNat==0))
theorem rN{n:Nat}{c:Int}(h:c<0∨32<c):eV n c=false:=by
 unfold eV;rcases h with h|h
 ·rw[decide_eq_false oq];rfl
 ·rw[decide_eq_false (p:=c≤32) oq];simp
theorem ib{n:Nat}{c:Nat}(h:c≤32):eV n (c:Int)=(n/2^c==0):=by
 unfold eV;rw[decide_eq_true oq,decide_eq_true oq];rfl
def l9(n c:Nat):Nat:=num (gb n c).reverse
theorem nH(n c:Nat):l9 n c<2^c:=by
 have:=xX (gb n c).reverse
 rwa [List.length_reverse,ao] at this
theorem zc(n c:Nat):gb (l9 n c) c=(gb n c).reverse:=by
 have:=LW (gb n c).reverse
 rwa [List.length_reverse,ao] at this
end Go.Proofs.YtmbippkpjdoojaaGreat.Bt
namespace Go.Proofs.YtmbippkpjdoojaaGreat.Bit
open Tryz
open Go.RowKit
section
open Bt
theorem bu:fH prog 24 5 1 1:=cy underlying24 (z:=.int .u8 0) ok' od od
theorem cX(w:World)(x:UInt8):am (w.alloc (.cells #[.int .u8 (x.toNat:Int)] 5)) (w.alloc (.cells #[.int .u8 (x.toNat:Int)] 5)).heap.size 1 (some ⟨w.heap.size,0,none⟩) 1 (bvs [x]):=
 am.lit (bQ _ _) rfl rfl
def ak(w:World)(base:Nat)(A:Option Addr)(c:Nat)(l:List UInt8):Prop:=Own w base 5 1 A l.length c (bvs l)
theorem ak.reads{w:World}{base:Nat}{A:Option Addr}{c:Nat}{l:List UInt8}(h:ak w base A c l):Bts w w.heap.size A l:=Own.reads h
def Wri(w:World)(g:Nat)(A:Option Addr)(c:Nat)(L:List Bool):Prop:=Blk w g 371 #[.slice A (bM L).length c,.int .i64 (L.length:Int)]∧ak w g A c (bM L)
def WK(g:Nat)(A:Option Addr)(i:Nat):Prop:=i=g∨aa A=some i
def br(g:Nat)(A:Option Addr)(L:List Bool)(w w':World):Prop:=∃A' c',Wri w' g A' c' L∧ab (WK g A) w w'∧(aa A'=aa A∨∃i,aa A'=some i∧w.heap.size≤i)
theorem yy{a n r:Nat}(hr:r<8)(ha:a<2^r):bits .or .u8 (a:Int) (IntKind.u8.wrap (IntKind.u8.wrap ((n:Int)%2)*2^r))=((UInt8.ofNat (a+(decide (n%2=1)).toNat*2^r)).toNat:Int):=by
 have h1:2^r≤128:=Oo (Nat.pow_le_pow_right od (show r≤7 by omega)) od;have h2:n%2<2:=Nat.mod_lt _ od;have h3:n%2*2^r≤1*2^r:=Nat.mul_le_mul_right _ oq
 have e1:IntKind.u8.wrap ((n:Int)%2)=((n%2:Nat):Int):=by
  rw[IntWalk.u8_in _ ⟨oq,oq⟩];omega
 have e2:IntKind.u8.wrap (((n%2:Nat):Int)*2^r)=((n%2*2^r:Nat):Int):=by
  have:(((n%2:Nat):Int)*2^r)=((n%2*2^r:Nat):Int):=by simp
  rw[this];exact IntWalk.u8_in _ ⟨oq,oq⟩
 rw[e1,e2,u8_or_nat _ _ oq oq,Hp ha,qJ,UInt8.toNat_ofNat',Nat.mod_eq_of_lt (show a+n%2*2^r<2^8 by omega)]
theorem jp{W:World}{g gb c q n:Nat}{L:List Bool}{P:List UInt8}(hP:P=room L)(hq:q=L.length/8)(hb:Blk W g 371 #[.slice (some ⟨gb,0,none⟩) P.length c,.int .i64 (L.length:Int)])(ho:Own W g 5 1 (some ⟨gb,0,none⟩) P.length c (bvs P))(hne:g≠gb):
  Wri ((W.setCell ⟨gb,q,none⟩ (.int .u8 ((UInt8.ofNat (num (L.drop (8*q))+(decide (n%2=1)).toNat*2^(L.length%8))).toNat:Int))).setCell ⟨g,1,none⟩ (.int .i64 ((L.length:Int)+1))) g (some ⟨gb,0,none⟩) c (L++[decide (n%2=1)]):=by
 exact uj
theorem Blk.ne_own{w:World}{g gb b2 size k c:Nat}{t e:TypeId}{cs:Array Value}{xs:List Value}(h:Blk w g t cs)(ho:Own w b2 e size (some ⟨gb,0,none⟩) k c xs)(hne:e≠t:=by decide):¬g=gb:=fun e1=>Own.ne_blk ho h hne (by rw[e1];rfl)
set_option maxHeartbeats 3200000 in
theorem gY(g:Nat)(A:Option Addr)(c:Nat)(L:List Bool)(n:Nat)(w:World)(h:Wri w g A c L)(hn:n<4294967296)(hL:L.length≤1000000000):
  Cl 338 #[.pointer (some ⟨g,0,none⟩),.int .u32 (n:Int)] w fun e w'=>e=.returned (.tuple #[])∧br g A (L++[decide (n%2=1)]) w w':=by
 exact uV
end
end Go.Proofs.YtmbippkpjdoojaaGreat.Bit
