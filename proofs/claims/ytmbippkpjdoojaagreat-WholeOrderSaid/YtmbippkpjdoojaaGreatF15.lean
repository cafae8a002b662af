/- Parts of a proof, merged. -/
import Derived.Test.YtmbippkpjdoojaaGreatF14
import Derived.Test.YtmbippkpjdoojaaGreatF12
set_option maxRecDepth 100000
set_option maxHeartbeats 1600000
namespace Go.Proofs.YtmbippkpjdoojaaGreat
open Tryz
open Go.RowKit
section
open Pl Wi
def zb(v:Int):List UInt8:=leb (bG (zk v))
def mnB(pv:Option Int)(p:Pr):List UInt8:=(match pv with
 |none=>zb p.1
 |some q=>leb (zk (p.1-q)))++leb p.2
def lsB:Option Int→List Pr→List UInt8
 |_,[]=>[]
 |pv,p::l=>mnB pv p++lsB (some p.1) l
def wtB:List Pr→List UInt8
 | []=>[]
 |p::l=>mnB none p++wtB l
def loF(s:DgS):Int:=if s.n=0 then 0 else s.lo
def hiF(s:DgS):Int:=if s.n=0 then 0 else s.hi
def tdF(s:DgS):List UInt8:=leb s.d++zb (loF s)++zb (hiF s)++leb s.l.length++lsB none s.l++leb s.wt.length++wtB s.wt
def Tw(w:World)(B g:Nat)(A:Option Addr)(c:Nat)(S:List UInt8):Prop:=Blk w g 180 #[.slice A S.length c]∧ak w B A c S
def TdK(g:Nat)(A:Option Addr)(i:Nat):Prop:=i=g∨aa A=some i
def jk(B g:Nat)(A:Option Addr)(S L:List UInt8)(w:World)(e:Ending)(w':World):Prop:=
 ∃A' c',e=.returned (.tuple #[])∧Tw w' B g A' c' (S++L)∧ab (TdK g A) w w'∧(aa A'=aa A∨∃i,aa A'=some i∧w.heap.size≤i)
theorem Tw.below{w w':World}{B g:Nat}{A:Option Addr}{c:Nat}{S:List UInt8}(h:Tw w B g A c S)(hb:Below w.heap.size w w'):Tw w' B g A c S:=⟨h.1.below hb h.1.lt,Own.below h.2 hb⟩
theorem jl(s:ByteArray)(n:Nat)(L:List UInt8)(hp:dh s.data.toList [n]=(0,L))(hn:n<18446744073709551616){w:World}{B g:Nat}{A:Option Addr}{c:Nat}{S:List UInt8}(h:Tw w B g A c S)(hB:B≤w.heap.size)(hl:S.length+L.length≤90000000):
  Cl 104 #[.pointer (some ⟨g,0,none⟩),.string s,.int .u64 (n:Int)] w (jk B g A S L w):=by
 have HP:=Oh (fun W A0 (hb:Us W W.heap.size A0 [n])=>gY s A0 1 [n] W hb os' (by simpa using hn));rw[hp] at HP;have HH:=Oh h;have Tx:=Oh hB;have HL:=Oh hl;clear hp hn h hB hl;go_enter func104,ntmps104;go_wp2_with fail;have b1:Below w.heap.size w (w.alloc (.cells #[.int .u64 (n:Int)] 35)):=Ba;refine(HP.out _ (some ⟨w.heap.size,0,none⟩) (kP w n)).mono ?_;rintro e w2 ⟨A2,c2,rfl,o2,b2⟩;have B2:=Oh (ai b1 b2);have O2:=Oh o2;have H2:=Oh (HH.out.below B2.out);clear b1 b2 o2;have d0:=H2.out.1.c0;dsimp only;go_wp2_with (at_builtin;refine Hid.out ?_);refine aj (xs:=bvs S) rfl rfl bu rfl H2.out.2 rfl (ak.reads O2.out) (aO _) (S.length+L.length) rfl (bvs (S++L)) (aE _ _).symm (by have:=HL.out;unfold maxLen;omega) (by have:=HL.out;omega) (Oo Tx.out B2.out.size) ?_;intro A3 c3 w3 o3 g3 q3;have hne:aa A≠some g:=Own.ne_blk H2.out.2 H2.out.1 od;have fR:Hid (Blk w3 g 180 #[.slice A S.length c]):=Oh (H2.out.1.grown g3 (fun e=>hne e.symm));have O3:Hid (ak w3 B A3 c3 (S++L)):=Oh (by unfold ak;rw[Ok];exact o3);have YX:Hid (aa A3=aa A∨∃i,aa A3=some i∧w.heap.size≤i):=Oh (q3.imp id fun e=>⟨_,e,B2.out.size⟩);have Pb:Hid (ab (TdK g A) w w3):=Oh ((ab.of_below B2.out).trans ((ab.of_grown g3).mono fun i hi=>.inr hi));have x0:=fR.out.c0;have fr:=fR.out.free;clear o3 g3 q3 d0 hne;go_wp2_with fail;go_end0;refine⟨A3,c3,rfl,⟨?_,Own.setOther O3.out (p:=⟨g,0,none⟩) (Own.ne_blk O3.out fR.out od) _⟩,Pb.out.set (p:=⟨g,0,none⟩) (.inl (.inl rfl)) _,YX.out⟩;rw[Ok];exact fR.out.put 0 _
theorem Gy{w w1 w2:World}{B g:Nat}{A A1 A2:Option Addr}{c2:Nat}{S L1 L2:List UInt8}(k1:ab (TdK g A) w w1)(q1:aa A1=aa A∨∃i,aa A1=some i∧w.heap.size≤i)(h2:Tw w2 B g A2 c2 (S++L1++L2))(k2:ab (TdK g A1) w1 w2)(q2:aa A2=aa A1∨∃i,aa A2=some i∧w1.heap.size≤i):jk B g A S (L1++L2) w (.returned (.tuple #[])) w2:=by
 refine⟨A2,c2,rfl,by rw[←List.append_assoc];exact h2,k1.step k2 ?_,?_⟩
 ·rintro i (hi|hi)
  ·exact .inl (.inl hi)
  ·rcases q1 with q|⟨j,q,hj⟩
   ·exact .inl (.inr (by rw[←q];exact hi))
   ·rw[q] at hi;injection hi with hi;exact .inr oq
 ·rcases q2 with q|⟨j,q,hj⟩
  ·rcases q1 with q'|⟨j,q',hj⟩
   ·exact .inl (q.trans q')
   ·exact .inr ⟨j,q.trans q',hj⟩
  ·exact .inr ⟨j,q,Oo k1.size hj⟩
theorem Kw{w0 w w':World}{B g:Nat}{A:Option Addr}{S L:List UInt8}{e:Ending}(hb:Below w0.heap.size w0 w)(h:jk B g A S L w e w'):jk B g A S L w0 e w':=by
 obtain⟨A',c',h1,h2,h3,h4⟩:=h;exact⟨A',c',h1,h2,(ab.of_below hb).trans h3,h4.imp id fun⟨i,a,b⟩=>⟨i,a,Oo hb.size b⟩⟩
theorem tl(v:Int)(n:Nat)(hn:n<18446744073709551616){w:World}{B g:Nat}{A:Option Addr}{c:Nat}{S:List UInt8}(h:Tw w B g A c S)(hB:B≤w.heap.size)(hl:S.length≤80000000):
  Cl 107 #[.pointer (some ⟨g,0,none⟩),.agg #[.int .i64 v,.int .u64 (n:Int)],.pointer none] w (jk B g A S (mnB none (v,n)) w):=by
 have UL:=af (bK (cu v));have UE:=af hn;have OG:=Oh (fun W (h:Tw W B g A c S) (hB:B≤W.heap.size)=>jl ⟨#[122]⟩ (zk v) (zb v) (sr _) (cu v) h hB (by unfold zb;omega));have Tz:=Oh (fun W A' c' (h:Tw W B g A' c' (S++zb v)) (hB:B≤W.heap.size)=>jl ⟨#[118]⟩ n (leb n) (lW _) hn h hB (by rw[Ok];unfold zb;omega));have HH:=Oh h;have Tx:=Oh hB;have x1:=da v;clear hn h hB hl UL UE;show Calls _ _ _ _ (jk B g A S (zb v++leb n) w);go_enter func107,ntmps107;go_wp2_with fail;have b1:Below w.heap.size w (w.alloc (.cells #[.int .i64 v,.int .u64 (n:Int)] 186)):=Ba;have HM:=Oh (Blk.new w 186 #[.int .i64 v,.int .u64 (n:Int)]);refine(OG.out _ (HH.out.below b1) (Oo Tx.out b1.size)).mono ?_;rintro e w2 ⟨A2,c2,rfl,h2,k2,q2⟩;have H2:=Oh h2;have OC:=Oh k2;have Vq:=Oh q2;have aS:=Oh b1
 have d1:w2.cell? ⟨w.heap.size,1,none⟩=some (.int .u64 (n:Int)):=by
  rw[(HM.out.only k2 (by
   rintro(hi|hi)
   ·have:=HH.out.1.lt;omega
   ·have:=(Own.block HH.out.2 hi).2;omega)).cell];rfl
 clear h2 k2 q2 b1;exact uW
theorem Cy(v q:Int)(n:Nat)(hn:n<18446744073709551616){w:World}{B g b o:Nat}{A:Option Addr}{c:Nat}{S:List UInt8}(h:Tw w B g A c S)(hB:B≤w.heap.size)(hl:S.length≤80000000)(hq:w.cell? ⟨b,o,none⟩=some (.int .i64 q))(hb:b<w.heap.size):
  Cl 107 #[.pointer (some ⟨g,0,none⟩),.agg #[.int .i64 v,.int .u64 (n:Int)],.pointer (some ⟨b,o,none⟩)] w (jk B g A S (mnB (some q) (v,n)) w):=by
 have UL:=af (cu (v-q));have UE:=af hn;have OG:=Oh (fun W (h:Tw W B g A c S) (hB:B≤W.heap.size)=>jl ⟨#[118]⟩ (zk (v-q)) (leb (zk (v-q))) (lW _) (cu _) h hB oq);have Tz:=Oh (fun W A' c' (h:Tw W B g A' c' (S++leb (zk (v-q)))) (hB:B≤W.heap.size)=>jl ⟨#[118]⟩ n (leb n) (lW _) hn h hB (by rw[Ok];omega));have HH:=Oh h;have Tx:=Oh hB;have x1:=da v;have x2:=da q
 have x3:IntKind.u64.wrap ((zk v:Int)-(zk q:Int))=(zk (v-q):Int):=by
  rw[On];unfold zk;omega
 clear hn h hB hl UL UE;show Calls _ _ _ _ (jk B g A S (leb (zk (v-q))++leb n) w);generalize zk (v-q)=D at*;generalize zk v=ZV at*;generalize zk q=ZQ at*;go_enter func107,ntmps107;go_upto_region 3 with(fail);have aS:Hid (Below w.heap.size w (w.alloc (.cells #[.int .i64 v,.int .u64 (n:Int)] 186))):=Oh (Ba);have HM:=Oh (Blk.new w 186 #[.int .i64 v,.int .u64 (n:Int)]);have H1:=Oh (HH.out.below aS.out);have UA:(w.alloc (.cells #[.int .i64 v,.int .u64 (n:Int)] 186)).cell? ⟨b,o,none⟩=some (.int .i64 q):=(aS.out.cell (p:=⟨b,o,none⟩) hb).trans hq;have gE:=HM.out.c0
 have a6y:Hid (¬TdK g A w.heap.size):=Oh (by
  rintro(hi|hi)
  ·have:=HH.out.1.lt;omega
  ·have:=(Own.block HH.out.2 hi).2;omega)
 clear hq hb;obtain⟨N,hN⟩:=nm (w.heap.size);rw[←hN] at gE HM a6y ⊢;obtain⟨w1,iF⟩:=nm (w.alloc (.cells #[.int .i64 v,.int .u64 (n:Int)] 186));rw[←iF] at gE UA HM H1 aS ⊢;clear iF hN HH;refine wp_region_noPanic ?_;refine ag (S:=(fun w2=>w2.cell? ⟨b,o,none⟩=some (.int .i64 q)∧w2.cell? ⟨N,0,none⟩=some (.int .i64 v))) (L:=10) ok' ⟨UA,gE⟩ (fun hHeld=>?_);refine tV 0 ?_;refine tV 1 ?_;refine tV 2 ?_;refine tV 3 ?_;refine tV 4 ?_;refine tV 5 ?_;refine tV 6 ?_;refine tV 7 ?_;refine tV 8 ?_;refine tV 9 ?_;refine iV 10 fun K hK=>?_;go_simp;refine(OG.out _ (H1.out.below (Oq _ _).drew) (Oo Tx.out aS.out.size)).mono ?_;rintro e w2 ⟨A2,c2,rfl,h2,k2,q2⟩;have H2:=Oh h2;have OC:=Oh (show ab (TdK g A) w1 w2 from(ab.of_below (Oq _ _).drew).trans k2);have Vq:=Oh q2;clear h2 k2 q2;refine hK.out _ _ ?_;clear hK K;try go_simp
 refine cD ?_
 have d1:w2.cell? ⟨N,1,none⟩=some (.int .u64 (n:Int)):=by
  rw[(HM.out.only OC.out a6y.out).cell];rfl
 clear hHeld gE UA;exact uW
theorem vH:∀(l:List Pr) (pv:Option Int) (i:Nat) (p:Pr),l[i]?=some p→lsB pv (l.take (i+1))=lsB pv (l.take i)++mnB (if i=0 then pv else(l[i-1]?).map (·.1)) p
 | [],_,_,_,h=>by simp at h
 |x::l,pv,0,p,h=>by simp at h;subst h;simp[lsB]
 |x::l,pv,i+1,p,h=>by
  have ih:=vH l (some x.1) i p (by simpa using h);rw[List.take_succ_cons,List.take_succ_cons];simp only[lsB,ih,List.append_assoc]
  congr 2
  cases i with
  |zero=>simp
  |succ j=>simp
theorem Ck(l:List Pr)(i:Nat)(p:Pr)(h:l[i]?=some p):wtB (l.take (i+1))=wtB (l.take i)++mnB none p:=by
 have abe:∀a b:List Pr,wtB (a++b)=wtB a++wtB b:=by
  intro a b
  induction a with
  |nil=>rfl
  |cons x a ih=>simp only[List.cons_append,wtB,ih,List.append_assoc]
 rw[List.take_add_one,h,abe];simp[wtB]
theorem yM(pv:Option Int)(p:Pr)(h:p.2<18446744073709551616):(mnB pv p).length≤20:=by
 have h2:=af h;unfold mnB;rw[Ok]
 cases pv with
 |none=>have h1:=af (bK (cu p.1));show(zb p.1).length+_≤_;unfold zb;omega
 |some q=>have h1:=af (cu (p.1-q));show(leb (zk (p.1-q))).length+_≤_;omega
theorem mM:∀(l:List Pr) (pv:Option Int),(∀p∈l,p.2<18446744073709551616)→(lsB pv l).length≤20*l.length
 | [],_,_=>Nat.zero_le _
 |p::l,pv,h=>by
  have h1:=yM pv p (h p os');have h2:=mM l (some p.1) (fun q hq=>h q (by simp[hq]));rw[show lsB pv (p::l)=mnB pv p++lsB (some p.1) l from rfl,Ok,List.length_cons];omega
theorem rq:∀(l:List Pr),(∀p∈l,p.2<18446744073709551616)→(wtB l).length≤20*l.length
 | [],_=>Nat.zero_le _
 |p::l,h=>by
  have h1:=yM none p (h p os');have h2:=rq l (fun q hq=>h q (by simp[hq]));rw[show wtB (p::l)=mnB none p++wtB l from rfl,Ok,List.length_cons];omega
theorem xv{w:World}{x:Nat}{W:DgW}{s:DgS}(h:Dig w x W s):∃k:Int,Cl 103 #[.pointer (some ⟨x,0,none⟩)] w (Rq (.tuple #[.int .i64 (loF s),.int .i64 (hiF s),.int .i64 k]) w):=by
 unfold loF hiF
 by_cases h0:s.n=0
 ·rw[if_pos h0,if_pos h0];exact⟨8,(EF h h0).mono fun e w' ⟨a,b⟩=>⟨a,0,b⟩⟩
 ·rw[if_neg h0,if_neg h0];exact⟨0,EE h h0⟩
theorem mi{w w1 w':World}{g:Nat}{A:Option Addr}{c:Nat}{S:List UInt8}(hb:Below w.heap.size w w1)(h:Tw w1 w.heap.size g A c S)(hg:w.heap.size≤g)(k:ab (TdK g A) w1 w'):Below w.heap.size w w':=
 hb.trans (k.below hb.size (by
  rintro i (rfl|hi)
  ·exact hg
  ·exact(Own.block h.2 hi).1))
theorem pT{w:World}{x:Nat}{W:DgW}{s:DgS}(h:Dig w x W s)(hd:s.d≤1000)(hl:s.l.length≤100000)(hw:s.wt.length≤100000)(hln:∀p∈s.l,p.2<18446744073709551616)(VY:∀p∈s.wt,p.2<18446744073709551616):
  Cl 56 #[.pointer (some ⟨x,0,none⟩)] w fun e w'=>∃A c,e=.returned (.tuple #[.slice A (tdF s).length c,.int .i64 0])∧ak w' w.heap.size A c (tdF s)∧Below w.heap.size w w':=by
 have Rj:=Oh (fun W1 (h:Dig W1 x W s)=>wj h);have HEN:=Oh (fun W1 (h:Dig W1 x W s)=>xv h);have HLI:=Oh (fun W1 (h:Dig W1 x W s)=>ED h oq);have HWA:=Oh (fun W1 (h:Dig W1 x W s)=>BS h oq);have Xl:=Oh (fun(n:Nat) (hn:n<18446744073709551616) W1 g A c S (h:Tw W1 w.heap.size g A c S) (hB:w.heap.size≤W1.heap.size) (hl:S.length≤80000000)=>jl ⟨#[118]⟩ n (leb n) (lW _) hn h hB (by have:=af hn;omega));have Xm:=Oh (fun(v:Int) W1 g A c S (h:Tw W1 w.heap.size g A c S) (hB:w.heap.size≤W1.heap.size) (hl:S.length≤80000000)=>jl ⟨#[122]⟩ (zk v) (zb v) (sr _) (cu v) h hB (by have:=af (bK (cu v));unfold zb;omega));have OB:=Oh (And.intro hl (And.intro hw (And.intro hln VY)));have HH:=Oh h;have x0:IntKind.u64.wrap (s.d:Int)=(s.d:Int):=u6;have x1:=da (loF s);have x2:=da (hiF s);have x3:IntKind.u64.wrap (s.l.length:Int)=(s.l.length:Int):=u6;have x4:IntKind.u64.wrap (s.wt.length:Int)=(s.wt.length:Int):=u6;have y3:(s.l.length:Int)≤100000:=oq;have y4:(s.wt.length:Int)≤100000:=oq;have Up:Hid (s.d≤1000):=Oh hd;obtain⟨T,hT⟩:=nm (tdF s);have HT0:Hid (T=leb s.d++zb (loF s)++zb (hiF s)++leb s.l.length++lsB none s.l++leb s.wt.length++wtB s.wt):=Oh hT;rw[←hT];clear hd hl hw hln VY h hT;obtain⟨D,hD⟩:=nm (s.d);rw[←hD] at x0 Rj Up HT0;generalize loF s=LO at*;generalize hiF s=HI at*;clear hD;go_enter func56,ntmps56;go_wp2_with fail;have QX:Hid (Tw (w.alloc (.cells #[.slice none 0 0] 180)) w.heap.size w.heap.size none 0 []):=Oh ⟨Blk.new _ _ _,Own.nil _ _ _ _⟩;have aS:Hid (Below w.heap.size w (w.alloc (.cells #[.slice none 0 0] 180))):=Oh (Ba);obtain⟨kE,hE⟩:=HEN.out _ (HH.out.below aS.out);refine hE.mono ?_;rintro e w2 ⟨rfl,n2,Ox⟩;have OM:Hid (Tw w2 w.heap.size w.heap.size none 0 []):=Oh (by rw[Ox];exact QX.out.below (ae (Oq _ _) _));have bY:Hid (Below w.heap.size w w2):=Oh (by rw[Ox];exact ae aS.out _);clear hE Ox QX aS;go_wp2_with fail;refine(Rj.out _ (HH.out.below bY.out)).mono ?_;rintro e w3 ⟨rfl,OU⟩;obtain rfl:=OU.symm;go_wp2_with fail;refine(Xl.out D (by have:=Up.out;omega) _ _ _ _ _ OM.out bY.out.size os').mono ?_
 rintro e w3 ⟨A3,c3,rfl,h3,k3,q3⟩;have Vr:=Oh h3;have fR:=Oh (mi bY.out OM.out (Oi _) k3);clear h3 k3 q3;go_wp2_with fail;refine(Xm.out LO _ _ _ _ _ Vr.out fR.out.size (by have:=af (show D<18446744073709551616 by have:=Up.out;omega);simp;omega)).mono ?_;rintro e w4 ⟨A4,c4,rfl,h4,k4,q4⟩;have VH:=Oh h4;have oN:=Oh (mi fR.out Vr.out (Oi _) k4);clear h4 k4 q4;go_wp2_with fail;obtain⟨S4,Yy⟩:=nm ([]++leb D++zb LO);rw[←Yy] at VH
 have OX:Hid (S4.length≤20):=Oh (by
  rw[Yy];have:=af (show D<18446744073709551616 by have:=Up.out;omega);have:=af (bK (cu LO));simp only[Ok,List.nil_append,zb];omega)
 refine(Xm.out HI _ _ _ _ _ VH.out oN.out.size (by have:=OX.out;omega)).mono ?_;rintro e w5 ⟨A5,c5,rfl,h5,k5,q5⟩;have HT5:=Oh h5;have OE:=Oh (mi oN.out VH.out (Oi _) k5);clear h5 k5 q5;go_wp2_with fail;refine(HLI.out _ (HH.out.below OE.out)).mono ?_;rintro e w6 ⟨A8,c8,rfl,o6,b6⟩;have SS:=Oh (HT5.out.below b6);have PS:=Oh (ai OE.out b6);have Ow:=Oh o6;clear o6 b6;go_wp2_with fail;obtain⟨S6,hS6⟩:=nm (S4++zb HI);rw[←hS6] at SS
 have QU:Hid (S6.length≤30):=Oh (by
  rw[hS6];have:=OX.out;have:=af (bK (cu HI));simp only[Ok,zb];omega)
 refine(Xl.out s.l.length (by have:=OB.out.1;omega) _ _ _ _ _ SS.out PS.out.size (by have:=QU.out;omega)).mono ?_;rintro e w7 ⟨A7,c7,rfl,h7,k7,q7⟩;have YV:=Oh h7;have Qx:=Oh (mi PS.out SS.out (Oi _) k7)
 have HO7:Hid (dk w7 w.heap.size A8 c8 s.l):=Oh (Own.mono (Own.only Ow.out k7 (by
  rintro i hi (h1|h1)
  ·exact Own.ne_blk Ow.out SS.out.1 od (by rw[hi,h1])
  ·exact Own.ne_own Ow.out SS.out.2 od i hi h1)) OE.out.size)
 clear h7 k7 q7;go_wp2_with fail;obtain⟨S7,hS7⟩:=nm (S6++leb s.l.length);rw[←hS7] at YV
 have Xn:Hid (S7.length≤40):=Oh (by
  rw[hS7];have:=QU.out;have:=af (show s.l.length<18446744073709551616 by have:=OB.out.1;omega);simp only[Ok];omega)
 have HSS:Hid (S7=leb D++zb LO++zb HI++leb s.l.length):=Oh (by rw[hS7,hS6,Yy];simp);clear Yy hS6 hS7 OM VH HT5 SS Ow HLI Xm bY oN OE PS OX QU;go_loopw [46] (fun u wr=>∃(i:Nat) (A:Option Addr) (c:Nat),i≤s.l.length∧u=.int .i64 (i:Int)∧Tw wr w.heap.size w.heap.size A c (S7++lsB none (s.l.take i))∧dk wr w.heap.size A8 c8 s.l∧Below w.heap.size w wr) (fun u _=>s.l.length-(intOf u).toNat)
 case atStart=>exact⟨0,A7,c7,Nat.zero_le _,rfl,by rw[List.take_zero];simpa [lsB] using YV.out,HO7.out,Qx.out⟩
 case round=>
  obtain⟨i,A,c,hi,rfl,ht,ho,hb⟩:=hrel;have HT:=Oh ht;have HO:=Oh ho;have HB:=Oh hb;clear ht ho hb YV HO7 Qx
  by_cases hlt:i<s.l.length
  ·obtain⟨⟨v,n⟩,hp⟩:∃p,s.l[i]?=some p:=⟨_,Oj hlt⟩;obtain⟨b,o,rfl,Te,hcell⟩:=Prs.at_ (show Prs wr wr.heap.size A8 s.l from Own.reads HO.out) oq;obtain⟨d0,d1⟩:=hcell i _ hp;dsimp only at d0 d1;have Le:=vH s.l none i _ hp;have hn:=OB.out.2.2.1 _ (Om hp);dsimp only at hn;have PE:=Oh Le;have HN:=Oh hn
   have hlen:Hid ((S7++lsB none (s.l.take i)).length≤80000000):=Oh (by
    have h1:=mM (s.l.take i) none (fun p hp=>OB.out.2.2.1 p (List.mem_of_mem_take hp));have h2:=Xn.out;have h3:=OB.out.1;rw[Ok];rw[List.length_take] at h1;omega)
   have t1:(i:Int)<(s.l.length:Int):=oq;have oR:=Oh hlt
   have Tv:Hid (∀j,i=j+1→∃q:Pr,s.l[j]?=some q∧wr.cell? ⟨b,o+j*2,none⟩=some (.int .i64 q.1)):=Oh (fun j hj=>by
    obtain⟨q,hq⟩:=gs s.l j;exact⟨q,hq,(hcell j q hq).1⟩)
   have T9:=Oh Te;clear hcell Le hn hp hlt hi Te;go_upto_region 13 with(fail);have b1:Below wr.heap.size wr (wr.alloc (.cells #[.int .i64 v,.int .u64 (n:Int)] 186)):=Ba;have HM:=Oh (Blk.new wr 186 #[.int .i64 v,.int .u64 (n:Int)]);have QX:=Oh (HT.out.below b1);have IF:=Oh (Own.below HO.out b1);have aS:=Oh (ai HB.out b1)
   have a6z:Hid (∀j,i=j+1→∃q:Pr,s.l[j]?=some q∧(wr.alloc (.cells #[.int .i64 v,.int .u64 (n:Int)] 186)).cell? ⟨b,o+j*2,none⟩=some (.int .i64 q.1)):=Oh (fun j hj=>by
    obtain⟨q,hq,hc⟩:=Tv.out j hj;exact⟨q,hq,(b1.cell (p:=⟨b,o+j*2,none⟩) T9.out).trans hc⟩)
   have a6A:Hid (b<(wr.alloc (.cells #[.int .i64 v,.int .u64 (n:Int)] 186)).heap.size):=Oh (Nat.lt_of_lt_of_le T9.out b1.size);obtain⟨Nn,hNn⟩:=nm (wr.heap.size);obtain⟨w1,iF⟩:=nm (wr.alloc (.cells #[.int .i64 v,.int .u64 (n:Int)] 186));rw[←iF] at HM QX IF aS a6z a6A ⊢;rw[←hNn] at HM ⊢;clear iF hNn b1 d0 d1 Tv T9 HT HO HB;have m0:=HM.out.c0;have m1:=HM.out.c1
   by_cases hz:i=0
   ·have z1:((i:Int)==0)=true:=by rw[beq_iff_eq];omega
    have HZ:Hid ((if i=0 then none else(s.l[i-1]?).map (·.1))=(none:Option Int)):=Oh (by rw[if_pos hz]);have HMN:=Oh (tl v n HN.out QX.out aS.out.size hlen.out);clear hz;go_wp2_with fail;refine(HMN.out).mono ?_;rintro e w3 ⟨A3,c3,rfl,h3,k3,q3⟩;have Vr:Hid (Tw w3 w.heap.size w.heap.size A3 c3 (S7++lsB none (s.l.take (i+1)))):=Oh (by rw[PE.out,HZ.out,←List.append_assoc];exact h3);have fR:=Oh (mi aS.out QX.out (Oi _) k3)
    have sO:Hid (dk w3 w.heap.size (some ⟨b,o,none⟩) c8 s.l):=Oh (Own.only IF.out k3 (by
     rintro i hi (h1|h1)
     ·exact Own.ne_blk IF.out QX.out.1 od (by rw[hi,h1])
     ·exact Own.ne_own IF.out QX.out.2 od i hi h1))
    clear h3 k3 q3;exact nR
   ·have z1:((i:Int)==0)=false:=by rw[beq_eq_false_iff_ne];omega
    obtain⟨j,hj⟩:∃j,i=j+1:=⟨i-1,oq⟩;obtain⟨q,hq,hqc⟩:=a6z.out j hj;have z2:IntKind.i64.wrap ((i:Int)-1)=(j:Int):=by rw[show(i:Int)-1=(j:Int) by omega];exact i6
    have z3:(j:Int)<(s.l.length:Int):=oq;have HZ:Hid ((if i=0 then none else(s.l[i-1]?).map (·.1))=some q.1):=Oh (by rw[if_neg hz,show i-1=j by omega,hq];rfl);have HMN:=Oh (Cy v q.1 n HN.out (b:=b) (o:=o+j*2) (show Tw w1.drew _ _ _ _ _ from QX.out.below (Oq _ _).drew) aS.out.size hlen.out hqc a6A.out);clear hz hj hq;go_upto_region 15 with(fail);refine wp_region_noPanic ?_;refine ag (S:=(fun w2=>w2.cell? ⟨b,o+j*2,none⟩=some (.int .i64 q.1)∧w2.cell? ⟨Nn,0,none⟩=some (.int .i64 v)∧w2.cell? ⟨Nn,1,none⟩=some (.int .u64 (n:Int)))) (L:=6) ok' ⟨hqc,m0,m1⟩ (fun hHeld=>?_);refine tV 0 ?_;refine tV 1 ?_;refine tV 2 ?_;refine tV 3 ?_;refine tV 4 ?_;refine tV 5 ?_;refine iV 6 fun K hK=>?_;go_simp;refine(HMN.out).mono ?_;rintro e w3 ⟨A3,c3,rfl,h3,k3,q3⟩;have k3':ab (TdK w.heap.size A) w1 w3:=(ab.of_below (Oq _ _).drew).trans k3;clear k3;have k3:=k3';clear k3';have Vr:Hid (Tw w3 w.heap.size w.heap.size A3 c3 (S7++lsB none (s.l.take (i+1)))):=Oh (by rw[PE.out,HZ.out,←List.append_assoc];exact h3);have fR:=Oh (mi aS.out QX.out (Oi _) k3)
    have sO:Hid (dk w3 w.heap.size (some ⟨b,o,none⟩) c8 s.l):=Oh (Own.only IF.out k3 (by
     rintro i hi (h1|h1)
     ·exact Own.ne_blk IF.out QX.out.1 od (by rw[hi,h1])
     ·exact Own.ne_own IF.out QX.out.2 od i hi h1))
    clear h3 k3 q3;refine hK.out _ _ ?_;clear hK K;try go_simp
    refine cD ?_;exact nR
  ·obtain rfl:i=s.l.length:=oq;rw[List.take_length] at HT;have t1:¬(s.l.length:Int)<(s.l.length:Int):=oq;clear hi hlt HO;go_wp2_with fail;refine(HWA.out _ (HH.out.below HB.out)).mono ?_;rintro e w8 ⟨A9,c9,rfl,o8,b8⟩;have HT8:=Oh (HT.out.below b8);have Qg:=Oh (ai HB.out b8);have Vb:Hid (dk w8 w.heap.size A9 c9 s.wt):=Oh (Own.mono o8 HB.out.size);clear o8 b8 t1 HT HB HWA
   have Yz:Hid ((S7++lsB none s.l).length≤70000000):=Oh (by
    have h1:=mM s.l none (fun p hp=>OB.out.2.2.1 p hp);have h2:=Xn.out;have h3:=OB.out.1;rw[Ok];omega)
   go_wp2_with fail;refine(Xl.out s.wt.length (by have:=OB.out.2.1;omega) _ _ _ _ _ HT8.out Qg.out.size (by have:=Yz.out;omega)).mono ?_;rintro e w9 ⟨A10,c10,rfl,h9,k9,q9⟩;obtain⟨S9,hS9⟩:=nm (S7++lsB none s.l++leb s.wt.length);rw[←hS9] at h9;have Tl:=Oh hS9;have WX:=Oh h9;have QF:=Oh (mi Qg.out HT8.out (Oi _) k9)
   have Xo:Hid (dk w9 w.heap.size A9 c9 s.wt):=Oh (Own.only Vb.out k9 (by
    rintro i hi (h1|h1)
    ·exact Own.ne_blk Vb.out HT8.out.1 od (by rw[hi,h1])
    ·exact Own.ne_own Vb.out HT8.out.2 od i hi h1))
   have a6C:Hid (S9.length≤70000010):=Oh (by
    rw[hS9,Ok];have:=Yz.out;have:=af (show s.wt.length<18446744073709551616 by have:=OB.out.2.1;omega);omega)
   clear h9 k9 q9 hS9 HT8 Qg Vb Xl Yz;go_wp2_with fail;go_loopw [73] (fun u wr=>∃(i:Nat) (A:Option Addr) (c:Nat),i≤s.wt.length∧u=.int .i64 (i:Int)∧Tw wr w.heap.size w.heap.size A c (S9++wtB (s.wt.take i))∧dk wr w.heap.size A9 c9 s.wt∧Below w.heap.size w wr) (fun u _=>s.wt.length-(intOf u).toNat)
   case atStart=>exact⟨0,A10,c10,Nat.zero_le _,rfl,by rw[List.take_zero];simpa [wtB] using WX.out,Xo.out,QF.out⟩
   case round=>
    obtain⟨i,A,c,hi,rfl,ht,ho,hb⟩:=hrel;have HT:=Oh ht;have HO:=Oh ho;have HB:=Oh hb;clear ht ho hb WX Xo QF
    by_cases hlt:i<s.wt.length
    ·obtain⟨⟨v,n⟩,hp⟩:∃p,s.wt[i]?=some p:=⟨_,Oj hlt⟩;obtain⟨b,o,rfl,Te,hcell⟩:=Prs.at_ (show Prs wr wr.heap.size A9 s.wt from Own.reads HO.out) oq;obtain⟨d0,d1⟩:=hcell i _ hp;dsimp only at d0 d1;have Le:=Ck s.wt i _ hp;have hn:=OB.out.2.2.2 _ (Om hp);dsimp only at hn;have PE:=Oh Le;have HN:=Oh hn
     have hlen:Hid ((S9++wtB (s.wt.take i)).length≤80000000):=Oh (by
      have h1:=rq (s.wt.take i) (fun p hp=>OB.out.2.2.2 p (List.mem_of_mem_take hp));have h2:=a6C.out;have h3:=OB.out.2.1;rw[Ok];rw[List.length_take] at h1;omega)
     have t1:(i:Int)<(s.wt.length:Int):=oq;have oR:=Oh hlt;clear hcell Le hn hp hlt hi Te;go_upto_region 22 with(fail);have b1:Below wr.heap.size wr (wr.alloc (.cells #[.int .i64 v,.int .u64 (n:Int)] 186)):=Ba;have HM:=Oh (Blk.new wr 186 #[.int .i64 v,.int .u64 (n:Int)]);have QX:=Oh (HT.out.below b1);have IF:=Oh (Own.below HO.out b1);have aS:=Oh (ai HB.out b1);obtain⟨Nn,hNn⟩:=nm (wr.heap.size);obtain⟨w1,iF⟩:=nm (wr.alloc (.cells #[.int .i64 v,.int .u64 (n:Int)] 186));rw[←iF] at HM QX IF aS ⊢;rw[←hNn] at HM ⊢;clear iF hNn b1 d0 d1 HT HO HB;have m0:=HM.out.c0;have m1:=HM.out.c1;have HMN:=Oh (tl v n HN.out QX.out aS.out.size hlen.out);go_wp2_with fail;refine(HMN.out).mono ?_;rintro e w3 ⟨A3,c3,rfl,h3,k3,q3⟩;have Vr:Hid (Tw w3 w.heap.size w.heap.size A3 c3 (S9++wtB (s.wt.take (i+1)))):=Oh (by rw[PE.out,←List.append_assoc];exact h3);have fR:=Oh (mi aS.out QX.out (Oi _) k3)
     have sO:Hid (dk w3 w.heap.size (some ⟨b,o,none⟩) c9 s.wt):=Oh (Own.only IF.out k3 (by
      rintro i hi (h1|h1)
      ·exact Own.ne_blk IF.out QX.out.1 od (by rw[hi,h1])
      ·exact Own.ne_own IF.out QX.out.2 od i hi h1))
     clear h3 k3 q3;exact nR
    ·obtain rfl:i=s.wt.length:=oq;rw[List.take_length] at HT;have t1:¬(s.wt.length:Int)<(s.wt.length:Int):=oq;have f0:=HT.out.1.c0;have hTE:T=S9++wtB s.wt:=by rw[HT0.out,Tl.out,HSS.out]
     have HTE:=Oh hTE;rw[←hTE] at f0;clear hi hlt HO hTE;go_wp2_with fail;go_ret2;exact⟨A,c,rfl,by rw[HTE.out];exact HT.out.2,HB.out⟩
end
section
open Wi
structure Lvs(w:World)(base:Nat)(S:Option Addr)(cS:Nat)(R:List KR)(L:List (List Int)):Prop where
 top:fP w base S cS R
 rows:∀r∈R,jD w base r.A r.c r.l
 is:R.map (·.l)=L
theorem Lvs.below{w w':World}{base:Nat}{S:Option Addr}{cS:Nat}{R:List KR}{L:List (List Int)}(h:Lvs w base S cS R L)(hb:Below w.heap.size w w'):Lvs w' base S cS R L:=
 ⟨Own.below h.top hb,fun r hr=>Own.below (h.rows r hr) hb,h.is⟩
theorem Lvs.len{w:World}{base:Nat}{S:Option Addr}{cS:Nat}{R:List KR}{L:List (List Int)}(h:Lvs w base S cS R L):R.length=L.length:=by rw[←h.is,List.length_map]
theorem Lvs.only{w w':World}{base:Nat}{S:Option Addr}{cS:Nat}{R:List KR}{L:List (List Int)}{K:Nat→Prop}(h:Lvs w base S cS R L)(k:ab K w w')(hS:∀i,aa S=some i→¬K i)(hR:∀r∈R,∀i,aa r.A=some i→¬K i):Lvs w' base S cS R L:=
 ⟨Own.only h.top k hS,fun r hr=>Own.only (h.rows r hr) k (hR r hr),h.is⟩
theorem Bl{w:World}{x:Nat}{S:Option Addr}{cS:Nat}{R:List KR}{s:KS}(h:Stk w x S cS R s)(hm:s.L.length≤1000)(hr:∀l∈s.L,l.length≤1000000):
  Cl 109 #[.pointer (some ⟨x,0,none⟩)] w fun e w'=>∃S' cS' R',e=.returned (.slice S' s.L.length cS')∧Lvs w' w.heap.size S' cS' R' s.L∧Below w.heap.size w w':=by
 have HH:=Oh h;have c1:=h.c1;have RY:=Oh (fun W r (QZ:r∈R) (h:Stk W x S cS R s)=>wz r.A r.l.length r.c (ivs r.l) W (Own.reads (h.rows r QZ)) (kX _) (by have:=hr r.l (by rw[←h.is];exact List.mem_map_of_mem QZ);omega));have WH:Hid (R.length=s.L.length∧R.length≤1000):=Oh (by have:=h.len;omega);have U8:(R.length:Int)≤1000:=by have:=h.len;omega
 have hls:s.L.length=R.length:=h.len.symm;rw[hls];clear h hm hr hls;go_enter func109,ntmps109;go_wp2_with fail;go_loopw [3,11] (fun u v wr=>∃(i:Nat) (S':Option Addr) (c':Nat) (R':List KR),i≤R.length∧R'.length=i∧u=.slice S' i c'∧v=.int .i64 (i:Int)∧Lvs wr w.heap.size S' c' R' (s.L.take i)∧Below w.heap.size w wr) (fun _ v _=>R.length-(intOf v).toNat)
 case atStart=>exact⟨0,none,0,[],Nat.zero_le _,rfl,rfl,rfl,⟨Own.nil _ _ _ _,(fun r hr=>by cases hr),rfl⟩,Oq _ _⟩
 case round=>
  obtain⟨i,S',c',R',hi,Sx,rfl,rfl,hl,hb⟩:=hrel;have Vc:=Oh hl;have HB:=Oh hb;have Sy:=Oh Sx;have HS:=Oh (HH.out.below hb);clear hl hb Sx c1
  by_cases hlt:i<R.length
  ·obtain⟨r,hr⟩:=gs R i hlt;have Ry:=HS.out.top;obtain⟨g,hSg,d0⟩:=Ry.at_ hr;subst hSg;have HC:=Oh (RY.out wr r (Om hr) HS.out)
   have Qh:Hid (s.L.take (i+1)=s.L.take i++[r.l]):=Oh (by
    have:s.L[i]?=some r.l:=by rw[←HH.out.is,List.getElem?_map,hr];rfl
    rw[List.take_add_one,this];rfl)
   have t1:(i:Int)<(R.length:Int):=oq;have oR:=Oh hlt;clear Ry hr hlt hi;go_wp2_with fail;refine HC.out.mono ?_;rintro e w2 ⟨A2,c2,rfl,o2,b2⟩;have nO:=Oh (show jD w2 w.heap.size A2 c2 r.l from Own.mono o2 HB.out.size);have abj:=Oh (Vc.out.below b2);have bY:=Oh (ai HB.out b2);clear o2 b2;go_wp2_with (at_builtin;refine Hid.out ?_);have b3:Below w2.heap.size w2 (w2.alloc (.cells #[.slice A2 r.l.length c2] 192)):=Ba;have hL3:=abj.out.below b3;have hO3:=Own.below (show Own w2 w.heap.size 2 1 A2 r.l.length c2 (ivs r.l) from nO.out) b3;have PZ:=ai bY.out b3;have hT3:Own (w2.alloc (.cells #[.slice A2 r.l.length c2] 192)) w.heap.size 192 1 S' i c' (R'.map krV):=by have h:=hL3.top;unfold fP at h;rw[Sy.out] at h;exact h
   refine aj (xs:=R'.map krV) (news:=[krV (KR.mk A2 c2 r.l)]) rfl rfl zh rfl hT3 rfl (am.lit (bQ w2 _) rfl rfl) (by intro u hu;simp at hu;rw[hu];rfl) (i+1) rfl ((R'++[KR.mk A2 c2 r.l]).map krV) os' (by have:=oR.out;have:=WH.out;unfold maxLen;omega) (by have:=oR.out;have:=WH.out;omega) PZ.size ?_;intro S4 c4 w4 o4 g4 q4
   have abk:Hid (Lvs w4 w.heap.size S4 c4 (R'++[KR.mk A2 c2 r.l]) (s.L.take (i+1))):=Oh ⟨by
     unfold fP;rw[Ok,Sy.out];exact o4,by
     intro q hq;rcases List.mem_append.1 hq with hq|hq
     ·exact cI (hL3.rows q hq) hT3 od g4
     ·rw[List.mem_singleton] at hq;subst hq;exact cI hO3 hT3 od g4,by
     rw[List.map_append,hL3.is,Qh.out];rfl⟩
   have oN:=Oh (PZ.grown g4 PZ.size (fun i hi=>(Own.block hT3 hi).1));clear b3 hL3 hO3 PZ hT3 o4 g4 q4;go_wp2_with fail;go_roundw
   case rel=>exact⟨i+1,S4,c4,R'++[KR.mk A2 c2 r.l],oR.out,by rw[Ok,Sy.out];rfl,rfl,by go_num,abk.out,oN.out⟩
   case measure=>exact ms oR
  ·obtain rfl:i=R.length:=oq;have t1:¬(R.length:Int)<(R.length:Int):=oq;clear hi hlt;go_wp2_with fail;go_ret;refine⟨S',c',rfl,⟨R',?_⟩,HB.out⟩;have h:=Vc.out;rw[WH.out.1,List.take_length] at h;exact h
theorem rJ(st:ByteArray)(ns:List Nat)(L:List UInt8)(hw:dh st.data.toList ns=(0,L))(hn:∀n∈ns,n<18446744073709551616)(Ww:ns.length≤1000)(base:Nat)(A:Option Addr)(c:Nat)(S:List UInt8)(w:World)(B0:Option Addr)(d0:Nat)(hu:Us w w.heap.size B0 ns)(ho:ak w base A c S)(hb:base≤w.heap.size)(hl:S.length+L.length≤90000000):
  Cl 110 #[.slice A S.length c,.string st,.slice B0 ns.length d0] w (sy base A S L w):=by
 have HP:=Oh (gY st B0 d0 ns w hu oq hn);rw[hw] at HP;have HO:=Oh ho;have Tx:=Oh hb;have HL:=Oh hl;clear hw hn ho hb hl hu Ww;go_enter func110,ntmps110;go_wp2_with fail;refine HP.out.mono ?_;rintro e w2 ⟨A2,c2,rfl,o2,b2⟩;have B2:=Oh b2;have O2:=Oh o2;clear b2 o2;exact vh
def kvB(pv:Option Int)(v:Int):List UInt8:=match pv with
 |none=>zb v
 |some q=>leb (zk (v-q))
def dA:Option Int→List Int→List UInt8
 |_,[]=>[]
 |pv,v::l=>kvB pv v++dA (some v) l
def klB(l:List Int):List UInt8:=leb l.length++dA none l
theorem qo:∀(l:List Int) (pv:Option Int) (i:Nat) (v:Int),l[i]?=some v→dA pv (l.take (i+1))=dA pv (l.take i)++kvB (if i=0 then pv else l[i-1]?) v
 | [],_,_,_,h=>by simp at h
 |x::l,pv,0,v,h=>by simp at h;subst h;simp[dA]
 |x::l,pv,i+1,v,h=>by
  have ih:=qo l (some x) i v (by simpa using h);rw[List.take_succ_cons,List.take_succ_cons];simp only[dA,ih,List.append_assoc]
  congr 2
  cases i with
  |zero=>simp
  |succ j=>simp
theorem Ie(pv:Option Int)(v:Int):(kvB pv v).length≤10:=by
 cases pv with
 |none=>have h1:=af (bK (cu v));show(zb v).length≤_;unfold zb;omega
 |some q=>exact af (cu (v-q))
theorem ow:∀(l:List Int) (pv:Option Int),(dA pv l).length≤10*l.length
 | [],_=>Nat.zero_le _
 |v::l,pv=>by
  have h1:=Ie pv v;have h2:=ow l (some v);rw[show dA pv (v::l)=kvB pv v++dA (some v) l from rfl,Ok,List.length_cons];omega
theorem jf{w0 w w':World}{base:Nat}{A:Option Addr}{c:Nat}{S:List UInt8}(hb:Below base w0 w)(ho:ak w base A c S)(hs:base≤w.heap.size)(k:ab (fun i=>aa A=some i) w w'):Below base w0 w':=
 hb.trans (k.below hs (fun _ hi=>(Own.block (show Own w base 5 1 A S.length c (bvs S) from ho) hi).1))
def dD(w w':World):Prop:=∀(b:Nat) (e:TypeId) (sz:Nat) (A:Option Addr) (n c:Nat) (xs:List Value),e≠5→Own w b e sz A n c xs→Own w' b e sz A n c xs
theorem dD.trans{a b c:World}(h:dD a b)(k:dD b c):dD a c:=fun _ _ _ _ _ _ _ he ho=>k _ _ _ _ _ _ _ he (h _ _ _ _ _ _ _ he ho)
theorem dD.of_below{w w':World}(h:Below w.heap.size w w'):dD w w':=fun _ _ _ _ _ _ _ _ ho=>Own.below ho h
theorem dD.of_only{w w':World}{base c:Nat}{A:Option Addr}{S:List UInt8}(ho:ak w base A c S)(k:ab (fun i=>aa A=some i) w w'):dD w w':=fun _ _ _ _ _ _ _ he h=>Own.only h k (fun g hg e=>Own.ne_own h (show Own w base 5 1 A S.length c (bvs S) from ho) he g hg e)
theorem sa(w:World)(n:Nat):Us (w.alloc (.cells #[.int .u64 (n:Int)] 35)) (w.alloc (.cells #[.int .u64 (n:Int)] 35)).heap.size (some ⟨w.heap.size,0,none⟩) [n]:=kP w n
theorem DS(base:Nat)(A:Option Addr)(c:Nat)(S:List UInt8)(w:World)(ho:ak w base A c S)(hb:base≤w.heap.size)(hl:S.length≤60000000)(b0:Nat)(D:Option Addr)(d:Nat)(l:List Int)(hD:jD w b0 D d l)(Lt:l.length≤1000000):
  Cl 113 #[.slice A S.length c,.slice D l.length d] w fun e w'=>∃A' c',e=.returned (.slice A' (S++klB l).length c')∧ak w' base A' c' (S++klB l)∧Below base w w'∧dD w w':=by
 have Tv:=Oh (fun(n:Nat) (hn:n<18446744073709551616) A c S W B0 (hu:Us W W.heap.size B0 [n]) (ho:ak W base A c S) (hb:base≤W.heap.size) (hl:S.length≤80000000)=>rJ ⟨#[118]⟩ [n] (leb n) (lW n) (by simpa using hn) os' base A c S W B0 1 hu ho hb (by have:=af hn;omega));have HPZ:=Oh (fun(v:Int) A c S W B0 (hu:Us W W.heap.size B0 [zk v]) (ho:ak W base A c S) (hb:base≤W.heap.size) (hl:S.length≤80000000)=>rJ ⟨#[122]⟩ [zk v] (zb v) (sr _) (by simpa using cu v) os' base A c S W B0 1 hu ho hb (by have:=af (bK (cu v));unfold zb;omega));have HO:=Oh ho;have Tx:=Oh hb;have HL:=Oh hl;have HD:=Oh hD;have OB:=Oh Lt;have x0:IntKind.u64.wrap (l.length:Int)=(l.length:Int):=u6;have y0:(l.length:Int)≤1000000:=oq;clear ho hb hl hD Lt;go_enter func113,ntmps113;go_wp2_with fail;have b1:Below w.heap.size w (w.alloc (.cells #[.int .u64 (l.length:Int)] 35)):=Ba;have RP:=Own.below (show Own w base 5 1 A S.length c (bvs S) from HO.out) b1;refine(Tv.out l.length (by have:=OB.out;omega) _ _ _ _ _ (sa w l.length) RP (Oo Tx.out b1.size) (by have:=HL.out;omega)).mono ?_;rintro e w2 ⟨A2,c2,rfl,o2,k2⟩;have nO:=Oh o2;have bY:Hid (Below base w w2):=Oh (jf (b1.mono Tx.out) RP (Oo Tx.out b1.size) k2);have OC:Hid (dD w w2):=Oh ((dD.of_below b1).trans (dD.of_only RP k2));have uN:Hid (base≤w2.heap.size):=Oh (Oo Tx.out (Oo b1.size k2.size));obtain⟨S2,Sp⟩:=nm (S++leb l.length);rw[←Sp] at nO ⊢;have Xe:=Oh Sp;have HL2:Hid (S2.length≤60000010):=Oh (by rw[Sp,Ok];have:=HL.out;have:=af (show l.length<18446744073709551616 by have:=OB.out;omega);omega);clear b1 RP o2 k2 Sp;go_wp2_with fail;go_loopw [0,15] (fun u v wr=>∃(i:Nat) (A':Option Addr) (c':Nat),i≤l.length∧u=.slice A' (S2++dA none (l.take i)).length c'∧v=.int .i64 (i:Int)∧ak wr base A' c' (S2++dA none (l.take i))∧Below base w wr∧dD w wr∧base≤wr.heap.size) (fun _ v _=>l.length-(intOf v).toNat)
 case atStart=>exact⟨0,A2,c2,Nat.zero_le _,by simp[dA],rfl,by rw[List.take_zero];simpa [dA] using nO.out,bY.out,OC.out,uN.out⟩
 case round=>
  obtain⟨i,A',c',hi,rfl,rfl,ho,hb,hk,hs⟩:=hrel;have sO:=Oh ho;have fR:=Oh hb;have Pb:=Oh hk;have Pp:=Oh hs;clear ho hb hk hs nO bY OC uN
  by_cases hlt:i<l.length
  ·obtain⟨v,hv⟩:=gs l i hlt;have hDr:=Pb.out _ _ _ _ _ _ _ od HD.out;obtain⟨g,hDg,_,If,_,hc,_⟩:=Own.form hDr oq;have d0:=hc i _ (kY hv);subst hDg;have Le:=qo l none i v hv
   have HLB:Hid ((S2++dA none (l.take i)).length≤80000000):=Oh (by
    have h1:=ow (l.take i) none;have h2:=HL2.out;have h3:=OB.out;rw[Ok];rw[List.length_take] at h1;omega)
   have t1:(i:Int)<(l.length:Int):=oq;have z4:=da v;have oR:=Oh hlt
   by_cases hz:i=0
   ·have z1:((i:Int)==0)=true:=by rw[beq_iff_eq];omega
    have PE:Hid (dA none (l.take (i+1))=dA none (l.take i)++zb v):=Oh (by rw[Le,if_pos hz];rfl);obtain⟨S3,VK⟩:=nm (S2++dA none (l.take i));have SW:Hid (S2++dA none (l.take (i+1))=S3++zb v):=Oh (by rw[PE.out,VK,List.append_assoc]);rw[←VK] at sO HLB ⊢;clear Le VK hc If hDr hz hlt hi hv PE;go_wp2_with fail;have b1:Below wr.heap.size wr (wr.alloc (.cells #[.int .u64 (zk v:Int)] 35)):=Ba;have RP:=Own.below (show Own wr base 5 1 A' S3.length c' (bvs S3) from sO.out) b1;refine(HPZ.out v _ _ _ _ _ (sa wr (zk v)) RP (Oo Pp.out b1.size) HLB.out).mono ?_;exact YtmbippkpjdoojaaGreat.u9
   ·obtain⟨j,hj⟩:∃j,i=j+1:=⟨i-1,oq⟩;obtain⟨q,hq⟩:=gs l j;have d1:=hc j _ (kY hq);have z1:((i:Int)==0)=false:=by rw[beq_eq_false_iff_ne];omega
    have z2:wrap64 ((i:Int)-1)=(j:Int):=by unfold wrap64;omega
    have z2b:(i:Int)-1=(j:Int):=oq;have z3:(j:Int)<(l.length:Int):=oq;have z5:=da q;have z6:IntKind.u64.wrap ((zk v:Int)-(zk q:Int))=(zk (v-q):Int):=by rw[On];unfold zk;omega
    have PE:Hid (dA none (l.take (i+1))=dA none (l.take i)++leb (zk (v-q))):=Oh (by rw[Le,if_neg hz,show i-1=j by omega,hq];rfl);obtain⟨S3,VK⟩:=nm (S2++dA none (l.take i));have SW:Hid (S2++dA none (l.take (i+1))=S3++leb (zk (v-q))):=Oh (by rw[PE.out,VK,List.append_assoc]);have HZL:=Oh (cu (v-q));rw[←VK] at sO HLB ⊢;clear Le VK hc If hDr hz hlt hi hv PE hj hq;generalize zk (v-q)=DV at*;generalize zk v=ZV at*;generalize zk q=ZQ at*;go_wp2_with fail;have b1:Below wr.heap.size wr (wr.alloc (.cells #[.int .u64 (DV:Int)] 35)):=Ba;have RP:=Own.below (show Own wr base 5 1 A' S3.length c' (bvs S3) from sO.out) b1;refine(Tv.out DV HZL.out _ _ _ _ _ (sa wr DV) RP (Oo Pp.out b1.size) HLB.out).mono ?_;exact YtmbippkpjdoojaaGreat.u9
  ·obtain rfl:i=l.length:=oq;have t1:¬(l.length:Int)<(l.length:Int):=oq;have HE:Hid (S2++dA none (l.take l.length)=S++klB l):=Oh (by rw[List.take_length,Xe.out,klB,List.append_assoc]);rw[HE.out] at sO ⊢;clear hi hlt;go_wp2_with fail;go_ret;exact⟨A',c',rfl,sO.out,fR.out,Pb.out⟩
def dB:List (List Int)→List UInt8
 | []=>[]
 |l::L=>klB l++dB L
def dR(s:KS):List UInt8:=leb s.k++leb s.g++leb s.L.length++dB s.L
theorem vO(a b:List (List Int)):dB (a++b)=dB a++dB b:=by
 induction a with
 |nil=>rfl
 |cons x a ih=>simp only[List.cons_append,dB,ih,List.append_assoc]
theorem Bj{L:List (List Int)}{i:Nat}{l:List Int}(h:L[i]?=some l):dB (L.take (i+1))=dB (L.take i)++klB l:=by
 rw[List.take_add_one,h,vO];simp[dB]
structure MQ(s:KS):Prop where
 k:s.k≤4096
 g:s.g<18446744073709551616
 len:s.L.length≤1000
 each:∀l∈s.L,l.length≤1000000
 all:(dB s.L).length≤40000000
theorem Dd(a m n:Nat):dh [118,118,118] [a,m,n]=(0,leb a++leb m++leb n):=by
 unfold dh;rw[if_pos ⟨od,rfl⟩,dG,dG,dG];rfl
theorem us3{w:World}(a m n:Nat):Us (w.alloc (.cells #[.int .u64 (a:Int),.int .u64 (m:Int),.int .u64 (n:Int)] 35)) (w.alloc (.cells #[.int .u64 (a:Int),.int .u64 (m:Int),.int .u64 (n:Int)] 35)).heap.size (some ⟨w.heap.size,0,none⟩) [a,m,n]:=
 am.lit (bQ _ _) rfl rfl
theorem vM{w:World}{x:Nat}{S:Option Addr}{cS:Nat}{R:List KR}{s:KS}(h:Stk w x S cS R s)(hf:MQ s):
  Cl 57 #[.pointer (some ⟨x,0,none⟩)] w fun e w'=>∃A c,e=.returned (.tuple #[.slice A (dR s).length c,.int .i64 0])∧ak w' w.heap.size A c (dR s)∧Below w.heap.size w w':=by
 have Vc:=Oh (Bl h hf.len hf.each);have S8:=Oh (fun W (h:Stk W x S cS R s)=>yU h);have HLG:=Oh (fun W (h:Stk W x S cS R s)=>Bn h);have HH:=Oh h;have HF:=Oh hf;have x0:IntKind.u64.wrap (s.k:Int)=(s.k:Int):=by have:=hf.k;rw[On];omega
 have x1:IntKind.u64.wrap (s.L.length:Int)=(s.L.length:Int):=by have:=hf.len;rw[On];omega
 have y0:(s.L.length:Int)≤1000:=by have:=hf.len;omega
 clear h hf;go_enter func57,ntmps57;go_wp2_with fail;refine Vc.out.mono ?_;rintro e w1 ⟨S1,c1,R1,rfl,l1,b1⟩;have ST:=Oh l1;have aS:=Oh b1;clear l1 b1;go_wp2_with fail;refine(S8.out _ (HH.out.below aS.out)).mono ?_;rintro e w2 ⟨rfl,Ox⟩;obtain rfl:=Ox.symm;go_wp2_with fail;refine(HLG.out _ (HH.out.below aS.out)).mono ?_;rintro e w2 ⟨rfl,Ox⟩;obtain rfl:=Ox.symm;go_wp2_with fail;have b2:Below w1.heap.size w1 (w1.alloc (.cells #[.int .u64 (s.k:Int),.int .u64 (s.g:Int),.int .u64 (s.L.length:Int)] 35)):=Ba;have ho0:ak (w1.alloc (.cells #[.int .u64 (s.k:Int),.int .u64 (s.g:Int),.int .u64 (s.L.length:Int)] 35)) w.heap.size none 0 []:=Own.nil _ _ _ _;have hs0:w.heap.size≤(w1.alloc (.cells #[.int .u64 (s.k:Int),.int .u64 (s.g:Int),.int .u64 (s.L.length:Int)] 35)).heap.size:=Oo aS.out.size b2.size
 refine(rJ ⟨#[118,118,118]⟩ [s.k,s.g,s.L.length] (leb s.k++leb s.g++leb s.L.length) (Dd _ _ _) (by
  have h1:=HF.out.k;have h2:=HF.out.g;have h3:=HF.out.len;intro n hn;simp at hn;rcases hn with rfl|rfl|rfl<;>omega) os' w.heap.size none 0 [] _ (some ⟨w1.heap.size,0,none⟩) 3 (us3 _ _ _) ho0 hs0 (by
  have h1:=af (show s.k<18446744073709551616 by have:=HF.out.k;omega);have h2:=af HF.out.g;have h3:=af (show s.L.length<18446744073709551616 by have:=HF.out.len;omega);simp only[Ok,List.length_nil];omega)).mono ?_
 rintro e w3 ⟨A3,c3,rfl,o3,k3⟩;rw[List.nil_append] at o3 ⊢;obtain⟨S3,VK⟩:=nm (leb s.k++leb s.g++leb s.L.length);rw[←VK] at o3 ⊢;have Pp:=Oh VK
 have Uu:Hid (S3.length≤30):=Oh (by
  rw[VK];have h1:=af (show s.k<18446744073709551616 by have:=HF.out.k;omega);have h2:=af HF.out.g;have h3:=af (show s.L.length<18446744073709551616 by have:=HF.out.len;omega);simp only[Ok];omega)
 have sO:=Oh o3;have fR:Hid (Below w.heap.size w w3):=Oh (jf (ai aS.out b2) ho0 hs0 k3);have Pb:Hid (dD w1 w3):=Oh ((dD.of_below b2).trans (dD.of_only ho0 k3));clear b2 ho0 hs0 o3 k3 VK Vc;go_wp2_with fail;go_loopw [5,24] (fun u v wr=>∃(i:Nat) (A':Option Addr) (c':Nat),i≤s.L.length∧u=.slice A' (S3++dB (s.L.take i)).length c'∧v=.int .i64 (i:Int)∧ak wr w.heap.size A' c' (S3++dB (s.L.take i))∧Below w.heap.size w wr∧dD w1 wr) (fun _ v _=>s.L.length-(intOf v).toNat)
 case atStart=>exact⟨0,A3,c3,Nat.zero_le _,by simp[dB],rfl,by rw[List.take_zero];simpa [dB] using sO.out,fR.out,Pb.out⟩
 case round=>
  obtain⟨i,A',c',hi,rfl,rfl,ho,hb,hk⟩:=hrel;have HO:=Oh ho;have HB:=Oh hb;have HK:=Oh hk;clear ho hb hk sO fR Pb
  by_cases hlt:i<s.L.length
  ·obtain⟨r,hr⟩:=gs R1 i (by rw[ST.out.len];exact hlt);have hl:s.L[i]?=some r.l:=by rw[←ST.out.is,List.getElem?_map,hr];rfl
   have Ry:fP wr w.heap.size S1 c1 R1:=HK.out _ _ _ _ _ _ _ od ST.out.top;have Rg:jD wr w.heap.size r.A r.c r.l:=HK.out _ _ _ _ _ _ _ od (ST.out.rows r (Om hr));obtain⟨g,hSg,d0⟩:=Ry.at_ hr;subst hSg;have SM:=Bj hl
   have lT:(dB (s.L.take i)).length+(klB r.l).length≤40000000:=by
    have h1:=HF.out.all;have h2:dB s.L=dB (s.L.take (i+1))++dB (s.L.drop (i+1)):=by rw[←vO,List.take_append_drop]
    rw[h2,SM,Ok,Ok] at h1;omega
   have a3l:(S3++dB (s.L.take i)).length≤60000000:=by rw[Ok];have:=Uu.out;omega
   obtain⟨S4,Yy⟩:=nm (S3++dB (s.L.take i));rw[←Yy] at HO a3l ⊢;have Qy:=Oh (DS w.heap.size A' c' S4 wr HO.out HB.out.size a3l w.heap.size r.A r.c r.l Rg (HF.out.each _ (Om hl)));have t1:(i:Int)<(s.L.length:Int):=oq;have Qh:Hid (S3++dB (s.L.take (i+1))=S4++klB r.l):=Oh (by rw[SM,Yy,List.append_assoc]);have oR:=Oh hlt;clear SM lT hl Ry Rg hr hlt hi Yy a3l;go_wp2_with fail;refine Qy.out.mono ?_;rintro e w5 ⟨A5,c5,rfl,o5,b5,k5⟩;have RZ:=Oh o5;have OE:Hid (Below w.heap.size w w5):=Oh (HB.out.trans b5);have HK5:=Oh (HK.out.trans k5);clear o5 b5 k5;go_wp2_with fail;go_roundw
   case rel=>exact⟨i+1,A5,c5,oR.out,by rw[Qh.out,Ok],by go_num,by rw[Qh.out];exact RZ.out,OE.out,HK5.out⟩
   case measure=>exact ms oR
  ·obtain rfl:i=s.L.length:=oq;have t1:¬(s.L.length:Int)<(s.L.length:Int):=oq;have HE:Hid (S3++dB (s.L.take s.L.length)=dR s):=Oh (by rw[List.take_length,Pp.out];rfl);rw[HE.out] at HO ⊢;clear hi hlt;go_wp2_with fail;go_ret2;exact⟨A',c',rfl,HO.out,HB.out⟩
end
end Go.Proofs.YtmbippkpjdoojaaGreat
namespace Go.Proofs.YtmbippkpjdoojaaGreat.Cr
open Tryz
open Go.RowKit
abbrev W32:=BitVec 32
def MJ:W32:=0xedb88320#32
def stp(c:W32):W32:=(c>>>1)^^^(if c.getLsbD 0 then MJ else 0#32)
def it:Nat→W32→W32
 |0,c=>c
 |n+1,c=>it n (stp c)
theorem LQ(m n:Nat):∀c,it (m+n) c=it n (it m c):=by
 induction m with
 |zero=>intro c;simp[it]
 |succ m ih=>intro c;rw[Nat.succ_add];exact ih _
theorem Iv(n:Nat)(c:W32):it (n+1) c=stp (it n c):=by rw[LQ n 1];rfl
theorem GH(a b:W32):stp (a^^^b)=stp a^^^stp b:=by
 unfold stp;rw[BitVec.getLsbD_xor,BitVec.ushiftRight_xor_distrib];cases a.getLsbD 0<;>cases b.getLsbD 0<;>simp
 ·rw[BitVec.xor_assoc]
 ·rw[BitVec.xor_assoc,BitVec.xor_assoc,BitVec.xor_comm MJ]
 ·have:∀x y z:W32,x^^^y=x^^^z^^^(y^^^z):=by
   intro x y z;rw[BitVec.xor_assoc,BitVec.xor_comm y z,←BitVec.xor_assoc z z y,BitVec.xor_self,BitVec.zero_xor]
  exact this _ _ _
theorem LN(n:Nat):∀a b,it n (a^^^b)=it n a^^^it n b:=by
 induction n with
 |zero=>intro a b;rfl
 |succ n ih=>intro a b;simp only[it,GH,ih]
theorem DY(n:Nat):∀z:W32,(∀k,k<n→z.getLsbD k=false)→it n z=z>>>n:=by
 induction n with
 |zero=>intro z _;simp[it]
 |succ n ih=>
  intro z h;have h0:stp z=z>>>1:=by unfold stp;rw[h 0 oq];simp
  rw[it,h0,ih _ (fun k hk=>by rw[BitVec.getLsbD_ushiftRight];exact h (1+k) oq),←BitVec.shiftRight_add,Nat.add_comm]
theorem C3(c:W32):it 8 c=(c>>>8)^^^it 8 (c&&& 0xff#32):=by
 have e:c=((c>>>8)<<<8)^^^(c&&& 0xff#32):=by
  apply BitVec.eq_of_getLsbD_eq
  intro i hi;rw[BitVec.getLsbD_xor,BitVec.getLsbD_and,BitVec.getLsbD_shiftLeft,BitVec.getLsbD_ushiftRight]
  have hm:(0xff#32:W32).getLsbD i=decide (i<8):=by
   have:∀i,i<32→(0xff#32:W32).getLsbD i=decide (i<8):=by decide
   exact this i hi
  rw[hm]
  by_cases h8:i<8
  ·simp[h8]
  ·simp[h8,hi];rw[show 8+(i-8)=i by omega,BitVec.getLsbD_eq_getElem]
 have h1:it 8 ((c>>>8)<<<8)=c>>>8:=by
  rw[DY 8 _ (fun k hk=>by rw[BitVec.getLsbD_shiftLeft];simp[hk])]
  apply BitVec.eq_of_getLsbD_eq
  intro i hi;rw[BitVec.getLsbD_ushiftRight,BitVec.getLsbD_shiftLeft,BitVec.getLsbD_ushiftRight]
  by_cases h:8+i<32
  ·simp[h]
  ·simp[h];apply BitVec.getLsbD_of_ge;omega
 calc it 8 c=it 8 (((c>>>8)<<<8)^^^(c&&& 0xff#32)):=by rw[←e]
  _=_:=by rw[LN,h1]
def bw(x:UInt8):W32:=BitVec.ofNat 32 x.toNat
def ma(c:W32)(l:List UInt8):W32:=l.foldl (fun c x=>it 8 (c^^^bw x)) c
theorem sR(c:W32)(l m:List UInt8):ma c (l++m)=ma (ma c l) m:=by simp[ma]
def m7(c:W32)(l:List UInt8):W32:= ~~~ (ma (~~~ c) l)
def sum(l:List UInt8):W32:=m7 0#32 l
def MN:W32:=0xffffffff#32
theorem L7(c:W32): ~~~ c=c^^^MN:=by
 apply BitVec.eq_of_getLsbD_eq
 intro i hi;have:∀i,i<32→MN.getLsbD i=true:=by decide
 rw[BitVec.getLsbD_not,BitVec.getLsbD_xor,this i hi];simp[hi]
theorem Ae(a b:W32):(a^^^b).toNat=a.toNat^^^b.toNat:=BitVec.toNat_xor ..
theorem lk(a:W32)(n:Nat):(a>>>n).toNat=a.toNat/2^n:=by rw[BitVec.toNat_ushiftRight,Nat.shiftRight_eq_div_pow]
theorem yR(a:W32):a.getLsbD 0=decide (a.toNat%2=1):=by
 rw[BitVec.getLsbD];simp[Nat.testBit];rfl
theorem GJ(c:W32)(h:c.toNat%2=1):stp c=(c>>>1)^^^MJ:=by unfold stp;rw[yR];simp[h]
theorem CE(c:W32)(h:¬c.toNat%2=1):stp c=c>>>1:=by unfold stp;rw[yR];simp[h]
theorem vx(c:W32)(x:UInt8):(c.toNat%256)^^^x.toNat<256:=by
 have h1:c.toNat%256<2^8:=Nat.mod_lt _ od;have h2:x.toNat<2^8:=x.toNat_lt;exact Nat.xor_lt_two_pow h1 h2
theorem wB(x:UInt8):(bw x).toNat=x.toNat:=by
 have:=x.toNat_lt;simp[bw]
theorem Bz(c:W32)(x:UInt8):it 8 (c^^^bw x)=(c>>>8)^^^it 8 (BitVec.ofNat 32 ((c.toNat%256)^^^x.toNat)):=by
 have hx:=x.toNat_lt;rw[C3]
 have e1:(c^^^bw x)>>>8=c>>>8:=by
  rw[BitVec.ushiftRight_xor_distrib]
  have:bw x>>>8=0#32:=by
   apply BitVec.eq_of_toNat_eq
   rw[BitVec.toNat_ushiftRight,wB,Nat.shiftRight_eq_div_pow];simp;omega
  rw[this,BitVec.xor_zero]
 have e2:(c^^^bw x)&&& 0xff#32=BitVec.ofNat 32 ((c.toNat%256)^^^x.toNat):=by
  apply BitVec.eq_of_toNat_eq
  have hp:=vx c x;have abm:(0xff#32:W32).toNat=2^8-1:=by decide
  rw[BitVec.toNat_and,abm,Nat.and_two_pow_sub_one_eq_mod,BitVec.toNat_xor,wB,Nat.xor_mod_two_pow,BitVec.toNat_ofNat,Nat.mod_eq_of_lt (b:=2^32) oq,Nat.mod_eq_of_lt (a:=x.toNat) oq]
 rw[e1,e2]
theorem BB(c:W32)(l:List UInt8)(k:Nat)(hk:k<l.length):ma c (l.take (k+1))=it 8 (ma c (l.take k)^^^bw l[k]):=by
 rw[List.take_succ_eq_append_getElem hk,sR];rfl
def le(c:W32):List UInt8:=[UInt8.ofNat c.toNat,UInt8.ofNat (c.toNat/256),UInt8.ofNat (c.toNat/65536),UInt8.ofNat (c.toNat/16777216)]
end Go.Proofs.YtmbippkpjdoojaaGreat.Cr
namespace Go.Proofs.YtmbippkpjdoojaaGreat.Crc
open Tryz
open Go.RowKit
section
open Cr (W32)
theorem xO(c:W32):c.toNat<4294967296:=c.isLt
theorem G3(a b:W32):bits .xor .u32 (a.toNat:Int) (b.toNat:Int)=((a^^^b).toNat:Int):=by
 rw[u32_xor_nat _ _ a.isLt b.isLt,Cr.Ae]
theorem KG(c:W32)(w:World):
  Cl 221 #[.int .u32 (c.toNat:Int)] w (Rt (.int .u32 ((Cr.stp c).toNat:Int)) w):=by
 have hlt:=xO c
 have hand:bits .and .u32 (c.toNat:Int) 1=((c.toNat%2:Nat):Int):=by
  rw[show(1:Int)=((1:Nat):Int) from rfl,u32_and_nat _ _ hlt oq,nat_mask1]
 by_cases h:c.toNat%2=1
 ·have hx:bits .xor .u32 ((c.toNat:Int)/2) 3988292384=((Cr.stp c).toNat:Int):=by
   rw[Cr.GJ c h,←G3,Cr.lk];rfl
  have ht:(((c.toNat%2:Nat):Int)==1)=true:=sq;rw[←hand] at ht;clear hand;go_enter func221,ntmps221;go_wp2;go_ret;exact⟨rfl,rfl⟩
 ·have hx:(c.toNat:Int)/2=((Cr.stp c).toNat:Int):=by
   rw[Cr.CE c h,Cr.lk];rfl
  have ht:(((c.toNat%2:Nat):Int)==1)=false:=sq;rw[←hand] at ht;clear hand;go_enter func221,ntmps221;go_wp2;go_ret;exact⟨rfl,rfl⟩
def mr:Nat→Array Value
 |0=>Array.replicate 256 (.int .u32 0)
 |k+1=>(mr k).setIfInBounds k (.int .u32 ((Cr.it 8 (BitVec.ofNat 32 k)).toNat:Int))
def tab:Array Value:=mr 256
theorem pV(k:Nat):(mr k).size=256:=by
 induction k with
 |zero=>simp[mr]
 |succ k ih=>simp[mr,ih]
theorem CC(k:Nat):∀i,i<k→i<256→(mr k)[i]?=some (.int .u32 ((Cr.it 8 (BitVec.ofNat 32 i)).toNat:Int)):=by
 induction k with
 |zero=>intro i h;omega
 |succ k ih=>
  intro i h h2;simp only[mr,Array.getElem?_setIfInBounds,pV]
  by_cases e:k=i
  ·subst e;simp[h2]
  ·rw[if_neg e];exact ih i oq h2
theorem CD(k i:Nat)(h:i<256):∃v,(mr k)[i]?=some v:=by
 rcases hh:(mr k)[i]? with _|v
 ·have:=Array.getElem?_eq_none_iff.1 hh;rw[pV] at this;omega
 ·exact⟨v,rfl⟩
theorem Md(g:Nat)(w:World)(hb:Blk w g 227 (mr 0)):
  Cl 153 #[.pointer (some ⟨g,0,none⟩)] w fun e w'=>e=.returned (.tuple #[])∧Blk w' g 227 tab∧w.grownBy w' (some g):=by
 have HB:=Oh hb;clear hb;go_enter func153,ntmps153;go_wp2_with fail;go_loopw [4] (fun i wr=>∃k:Nat,k≤256∧i=.int .i64 k∧Blk wr g 227 (mr k)∧w.grownBy wr (some g)) (fun i _=>256-(intOf i).toNat)
 case atStart=>exact⟨0,Nat.zero_le _,rfl,HB.out,⟨rfl,rfl,rfl,Oi _,fun _ _ _=>rfl⟩⟩
 case round=>
  obtain⟨k,hk,rfl,hblk,Uc⟩:=hrel
  by_cases hlt:k<256
  ·obtain⟨v,hv⟩:=CD k k hlt;have hc:wr.cell? ⟨g,k,none⟩=some v:=by rw[hblk.cell];exact hv
   have hf:=hblk.free k;have HK:=Oh hblk;clear hblk hv;have hlt':(k:Int)<256:=oq;go_wp2_with fail;have h0:(k:Int)=((Cr.it 0 (BitVec.ofNat 32 k)).toNat:Int):=by simp[Cr.it];omega
   go_loop [3,9] (fun v j=>∃m:Nat,m≤8∧j=.int .i64 m∧v=.int .u32 ((Cr.it m (BitVec.ofNat 32 k)).toNat:Int)) (fun _ j=>8-(intOf j).toNat)
   case atStart=>exact⟨0,Nat.zero_le _,rfl,by rw[←h0]⟩
   case round=>
    obtain⟨m,hm,rfl,rfl⟩:=hrel;clear h0
    by_cases hmt:m<8
    ·have hm':(m:Int)<8:=oq;have HS:=Oh (Cr.Iv m (BitVec.ofNat 32 k));go_wp2_with fail;refine(KG _ _).mono ?_;rintro e w2 ⟨rfl,rfl⟩;go_wp2;go_round
     case rel=>exact⟨m+1,oq,by go_num,by rw[HS.out]⟩
     case measure=>simp[intOf];omega
    ·obtain rfl:m=8:=oq;go_wp2_with fail;go_roundw
     case rel=>exact⟨k+1,oq,by go_num,HK.out.put k _,Hq Uc (.inl rfl) _⟩
     case measure=>simp[intOf];omega
  ·obtain rfl:k=256:=oq;have HK:=Oh hblk;clear hblk;go_wp2_with fail;exact bodyPost_end (v:=.tuple #[]) (results_none results153 _ _ _) rfl ⟨rfl,HK.out,Uc⟩
def rV(w:World)(e:Ending)(w':World):Prop:=∃g,e=.returned (.pointer (some ⟨g,0,none⟩))∧w.heap.size≤g∧Blk w' g 227 tab∧Below w.heap.size w w'
theorem Ch(w:World):(zeroValue 227).run prog w=.ok (.agg (mr 0)) w:=by kernel_rfl
theorem ir(w:World):Cl 77 #[] w (rV w):=by
 have hz:=Ch;go_enter func77,ntmps77;go_wp2_with fail;refine(Md w.heap.size _ (Blk.new _ _ _)).mono ?_;rintro e w1 ⟨rfl,hblk,hg⟩;have aC:=N8 hg (B:=w.heap.size) (Oi _) os';have hB:=(fG (Oq _ w) (.cells (mr 0) 227)).trans aC;have HK:=Oh hblk;clear hblk hg aC;go_wp2_with fail;go_ret;exact⟨w.heap.size,rfl,Oi _,HK.out,hB⟩
theorem NM(c:W32)(x:UInt8):bits .xor .u8 ((c.toNat:Int)%256) (x.toNat:Int)=(((c.toNat%256)^^^x.toNat:Nat):Int):=by
 have:=x.toNat_lt;rw[←u8_xor_nat _ _ (Nat.mod_lt _ od) oq];rfl
theorem MR(c:W32)(x:UInt8):bits .xor .u32 ((c.toNat:Int)/256) ((Cr.it 8 (BitVec.ofNat 32 ((c.toNat%256)^^^x.toNat))).toNat:Int)=((Cr.it 8 (c^^^Cr.bw x)).toNat:Int):=by
 rw[Cr.Bz,←G3,Cr.lk];rfl
theorem Me(g:Nat)(c:W32)(A:Option Addr)(cp:Nat)(l:List UInt8)(w:World)(hl:l.length≤maxLen)(hb:Blk w g 227 tab)(hr:Bts w w.heap.size A l):
  Cl 310 #[.pointer (some ⟨g,0,none⟩),.int .u32 (c.toNat:Int),.slice A l.length cp] w (Rt (.int .u32 ((Cr.ma c l).toNat:Int)) w):=by
 unfold maxLen at hl;have HB:=Oh hb;have HR:=Oh hr;clear hb hr;go_enter func310,ntmps310;go_wp2_with fail;go_loop [1,11] (fun v i=>∃k:Nat,k≤l.length∧i=.int .i64 k∧v=.int .u32 ((Cr.ma c (l.take k)).toNat:Int)) (fun _ i=>l.length-(intOf i).toNat)
 case atStart=>exact⟨0,Nat.zero_le _,rfl,by simp[Cr.ma]⟩
 case round=>
  obtain⟨k,hk,rfl,rfl⟩:=hrel
  by_cases hlt:k<l.length
  ·obtain⟨b,o,rfl,OO,hcell⟩:=HR.out.at_ oq;have hc:=hcell k hlt;have HS:=Oh (Cr.BB c l k hlt);clear hcell;have hlt':(k:Int)<(l.length:Int):=oq;generalize Cr.ma c (l.take k)=d at*;have hd:=xO d;have h8:=NM d l[k];have h32:=MR d l[k];have a6D:=Cr.vx d l[k];generalize(d.toNat%256)^^^l[k].toNat=i at*
   have ht:w.cell? ⟨g,i,none⟩=some (.int .u32 ((Cr.it 8 (BitVec.ofNat 32 i)).toNat:Int)):=by
    rw[HB.out.cell];exact CC 256 i a6D a6D
   generalize Cr.it 8 (BitVec.ofNat 32 i)=tv at*;have hx:=l[k].toNat_lt;go_wp2;go_round
   case rel=>exact⟨k+1,oq,by go_num,by rw[HS.out]⟩
   case measure=>simp[intOf];omega
  ·have hk':l.take k=l:=List.take_of_length_le oq;have HK:=Oh hk';clear hk';go_wp2;go_ret;exact⟨by rw[HK.out];rfl,rfl⟩
theorem JY(c:W32):bits .xor .u32 IntKind.u32.max (c.toNat:Int)=((~~~ c).toNat:Int):=by
 rw[show IntKind.u32.max=((Cr.MN.toNat:Nat):Int) from rfl,G3,Cr.L7,BitVec.xor_comm]
theorem xZ(g:Nat)(c:W32)(A:Option Addr)(cp:Nat)(l:List UInt8)(w:World)(hl:l.length≤maxLen)(hb:Blk w g 227 tab)(hr:Bts w w.heap.size A l):
  Cl 222 #[.pointer (some ⟨g,0,none⟩),.int .u32 (c.toNat:Int),.slice A l.length cp] w (Rt (.int .u32 ((Cr.m7 c l).toNat:Int)) w):=by
 have HB:=Oh hb;have HR:=Oh hr;clear hb hr;have n1:=JY c;have hm:Cr.m7 c l= ~~~ (Cr.ma (~~~ c) l):=rfl;rw[hm];clear hm;generalize ~~~ c=d at*;have n2:=JY (Cr.ma d l);generalize ~~~ (Cr.ma d l)=f at*;have HL:=Oh hl;clear hl;go_enter func222,ntmps222;go_wp2_with fail;refine(Me g _ A cp l _ HL.out HB.out HR.out).mono ?_;rintro e w1 ⟨rfl,rfl⟩;go_wp2_with fail;go_ret;exact⟨rfl,rfl⟩
theorem mj(g:Nat)(A:Option Addr)(cp:Nat)(l:List UInt8)(w:World)(hl:l.length≤maxLen)(hb:Blk w g 227 tab)(hr:Bts w w.heap.size A l):
  Cl 154 #[.pointer (some ⟨g,0,none⟩),.slice A l.length cp] w (Rt (.int .u32 ((Cr.sum l).toNat:Int)) w):=by
 have HB:=Oh hb;have HR:=Oh hr;have HL:=Oh hl;clear hb hr hl;go_enter func154,ntmps154;go_wp2_with fail;refine(xZ g 0#32 A cp l _ HL.out HB.out HR.out).mono ?_;rintro e w1 ⟨rfl,rfl⟩;go_wp2_with fail;go_ret;exact⟨rfl,rfl⟩
def eV(m z:List UInt8):Bool:=decide (z=Cr.le (Cr.sum m))
theorem pc(g b o cp:Nat)(m:List UInt8)(x0 x1 x2 x3:UInt8)(w:World)(hm:m.length≤1000000)(hcp:m.length+4≤cp)(hb:Blk w g 227 tab)(hr:Bts w w.heap.size (some ⟨b,o,none⟩) (m++[x0,x1,x2,x3])):
  Cl 78 #[.pointer (some ⟨g,0,none⟩),.slice (some ⟨b,o,none⟩) (m.length+4) cp] w (Rt (.bool (eV m [x0,x1,x2,x3])) w):=by
 obtain⟨b',o',hA,Ov,hcell⟩:=hr.at_ os';injection hA with hA
 injection hA with e1 e2 _
 subst e1;subst e2;have c0:w.cell? ⟨b,o+m.length,none⟩=some (.int .u8 (x0.toNat:Int)):=by rw[hcell m.length os'];simp
 have c1:w.cell? ⟨b,o+(m.length+1),none⟩=some (.int .u8 (x1.toNat:Int)):=by rw[hcell (m.length+1) os'];simp[List.getElem_append_right]
 have c2:w.cell? ⟨b,o+(m.length+2),none⟩=some (.int .u8 (x2.toNat:Int)):=by rw[hcell (m.length+2) os'];simp[List.getElem_append_right]
 have c3:w.cell? ⟨b,o+(m.length+3),none⟩=some (.int .u8 (x3.toNat:Int)):=by rw[hcell (m.length+3) os'];simp[List.getElem_append_right]
 have a1k:Bts w w.heap.size (some ⟨b,o,none⟩) m:=⟨by simp[bj],fun _=>⟨b,o,rfl,Ov,fun j u hu=>by
  have hj:j<m.length:=by have:=(List.getElem?_eq_some_iff.1 hu).1;rwa [bj] at this
  have e:(bvs m)[j]?=some (bv m[j]):=by simp[bvs,hj]
  rw[e] at hu;injection hu with hu
  rw[hcell j sq,←hu];simp[bv,List.getElem_append_left hj]⟩⟩
 have HB:=Oh hb;have HR:=Oh a1k;have HL:=Oh (show m.length≤maxLen by unfold maxLen;omega);clear hr hcell hb a1k;have U7:=x0.toNat_lt;have TG:=x1.toNat_lt;have hx2:=x2.toNat_lt;have hx3:=x3.toNat_lt
 have hF:eV m [x0,x1,x2,x3]=(decide ((x0.toNat:Int)=((Cr.sum m).toNat:Int)%256)&&decide ((x1.toNat:Int)=((Cr.sum m).toNat:Int)/256%256)&&decide ((x2.toNat:Int)=((Cr.sum m).toNat:Int)/65536%256)&&decide ((x3.toNat:Int)=((Cr.sum m).toNat:Int)/16777216%256)):=by
  have key:∀(x:UInt8) (N:Nat),(x=UInt8.ofNat N)↔((x.toNat:Int)=(N:Int)%256):=by
   intro x N;rw[←UInt8.toNat_inj,UInt8.toNat_ofNat'];have:=x.toNat_lt;omega
  unfold eV Cr.le;simp only[List.cons.injEq,and_true,key];generalize(Cr.sum m).toNat=S;rw[Bool.eq_iff_iff];simp only[Bool.and_eq_true,decide_eq_true_eq,Int.natCast_ediv,and_assoc];rfl
 have HF:=Oh hF;clear hF;have St:=xO (Cr.sum m);generalize hS:Cr.sum m=S at*;have HS:=Oh hS;clear hS;go_enter func78,ntmps78;go_wp2_with fail;refine(mj g _ _ m _ HL.out HB.out HR.out).mono ?_;rw[HS.out];rintro e w1 ⟨rfl,rfl⟩
 by_cases k0:(x0.toNat:Int)=(S.toNat:Int)%256
 ·have t0:((x0.toNat:Int)==(S.toNat:Int)%256)=true:=by simpa using k0
  have K0:=Oh k0;clear k0
  by_cases k1:(x1.toNat:Int)=(S.toNat:Int)/256%256
  ·have t1:((x1.toNat:Int)==(S.toNat:Int)/256%256)=true:=by simpa using k1
   have K1:=Oh k1;clear k1
   by_cases k2:(x2.toNat:Int)=(S.toNat:Int)/65536%256
   ·have t2:((x2.toNat:Int)==(S.toNat:Int)/65536%256)=true:=by simpa using k2
    have K2:=Oh k2;clear k2
    by_cases k3:(x3.toNat:Int)=(S.toNat:Int)/16777216%256
    ·have t3:((x3.toNat:Int)==(S.toNat:Int)/16777216%256)=true:=by simpa using k3
     have K3:=Oh k3;clear k3;go_wp2_with fail;go_ret;exact⟨by rw[HF.out];simp[K0.out,K1.out,K2.out,K3.out];omega,rfl⟩
    ·have t3:((x3.toNat:Int)==(S.toNat:Int)/16777216%256)=false:=by simpa using k3
     have K3:=Oh k3;clear k3;go_wp2_with fail;go_ret;exact⟨by rw[HF.out];have k:=K3.out;simp[k];omega,rfl⟩
   ·have t2:((x2.toNat:Int)==(S.toNat:Int)/65536%256)=false:=by simpa using k2
    have K2:=Oh k2;clear k2;go_wp2_with fail;go_ret;exact⟨by rw[HF.out];simp[K2.out],rfl⟩
  ·have t1:((x1.toNat:Int)==(S.toNat:Int)/256%256)=false:=by simpa using k1
   have K1:=Oh k1;clear k1;go_wp2_with fail;go_ret;exact⟨by rw[HF.out];simp[K1.out],rfl⟩
 ·have t0:((x0.toNat:Int)==(S.toNat:Int)%256)=false:=by simpa using k0
  have K0:=Oh k0;clear k0;go_wp2_with fail;go_ret;exact⟨by rw[HF.out];simp[K0.out],rfl⟩
theorem xq(g:Nat)(A:Option Addr)(n cp:Nat)(w:World)(hn:n<4):
  Cl 78 #[.pointer (some ⟨g,0,none⟩),.slice A n cp] w (Rt (.bool false) w):=by
 go_enter func78,ntmps78;go_wp2;go_ret;exact⟨rfl,rfl⟩
def lf(l:List UInt8):Bool:=if l.length<4 then false else eV (l.take (l.length-4)) (l.drop (l.length-4))
theorem xr(l:List UInt8):lf (l++Cr.le (Cr.sum l))=true:=by
 have h:(l++Cr.le (Cr.sum l)).length-4=l.length:=by simp[Cr.le]
 unfold lf;rw[if_neg (by simp[Cr.le]),h];simp[eV]
theorem Oc(z:List UInt8)(h:z.length=4):∃a b c d,z=[a,b,c,d]:=by
 match z,h with
 | [a,b,c,d],_=>exact⟨a,b,c,d,rfl⟩
theorem Eo(g:Nat)(A:Option Addr)(n cp:Nat)(l:List UInt8)(w:World)(hn:n=l.length)(hm:l.length≤1000000)(hcp:l.length≤cp)(hb:Blk w g 227 tab)(hr:am w w.heap.size 1 A n (bvs l)):
  Cl 78 #[.pointer (some ⟨g,0,none⟩),.slice A n cp] w (Rt (.bool (lf l)) w):=by
 subst hn
 by_cases h:l.length<4
 ·have e:lf l=false:=by unfold lf;rw[if_pos h]
  rw[e];exact xq g A _ cp w h
 ·have e:lf l=eV (l.take (l.length-4)) (l.drop (l.length-4)):=by unfold lf;rw[if_neg h]
  obtain⟨x0,x1,x2,x3,hz⟩:=Oc (l.drop (l.length-4)) sq;obtain⟨b,o,rfl,_,_⟩:=Bts.at_ hr oq;have hlen:(l.take (l.length-4)).length+4=l.length:=sq;have hl:l.take (l.length-4)++[x0,x1,x2,x3]=l:=by rw[←hz];exact List.take_append_drop _ _
  have:=pc g b o cp (l.take (l.length-4)) x0 x1 x2 x3 w oq oq hb (by rw[hl];exact hr);rw[hlen] at this;rw[e,hz];exact this
end
end Go.Proofs.YtmbippkpjdoojaaGreat.Crc
