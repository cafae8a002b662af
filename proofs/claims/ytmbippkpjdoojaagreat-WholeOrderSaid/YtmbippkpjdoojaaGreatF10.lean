/- Parts of a proof, merged. -/
import Derived.Test.YtmbippkpjdoojaaGreatF09
set_option maxRecDepth 100000
set_option maxHeartbeats 1600000
namespace Go.Proofs.YtmbippkpjdoojaaGreat
open Tryz
open Go.RowKit
section
open Pl Sc
theorem FQ(a m:Nat)(w:World)(Gt:100≤a)(ha:a≤5000)(oS:2≤m)(gE:m≤4096):
  Cl 165 #[.int .i64 (a:Int),.int .i64 (m:Int)] w fun e w'=>∃p q As cs g gl,e=.returned (.tuple #[.pointer (some ⟨p,0,none⟩),.int .i64 0])∧(w.heap.size≤p∧w.heap.size≤q)∧w.heap.size≤g∧w.heap.size≤gl∧Skt w' p q As cs a g gl none 0 (m:Int) []∧Below w.heap.size w w':=by
 have HS:=Oh (GX a w Gt ha);have HC:=Oh (fun W=>yc (m:Int) W oq oq);clear Gt ha oS gE;go_enter func165,ntmps165;go_wp2_with fail;refine HS.out.mono ?_;rintro e w1 ⟨q,As,cs,rfl,hq,h1,b1⟩;have H1:=Oh h1;have B1:=Oh b1;have HQ:=Oh hq;clear h1 b1 hq;go_wp2_with fail;refine(HC.out w1).mono ?_;rintro e w2 ⟨rfl,h2,b2⟩;have H2:=Oh h2;have B2:=Oh b2;clear h2 b2;go_wp2_with fail;go_ret2;have bb:Below w2.heap.size w2 (w2.alloc (.cells #[.pointer (some ⟨q,0,none⟩),.pointer (some ⟨w1.heap.size+1,0,none⟩)] 269)):=Ba;have s1:=B1.out.size;have s2:=B2.out.size;exact⟨w2.heap.size,q,As,cs,w1.heap.size+1,w1.heap.size,rfl,⟨oq,HQ.out⟩,oq,oq,⟨Blk.new _ _ _,(H1.out.below B2.out).below bb,H2.out.below bb⟩,ai (ai B1.out B2.out) bb⟩
theorem I1(g c a:Nat)(A:Option Addr)(k:Int)(w:World)(h:Scl w g A c a (aB a))(Gt:100≤a)(ha:a≤5000):
  Cl 292 #[.pointer (some ⟨g,0,none⟩),.int .i64 k] w fun e w'=>∃v,e=.returned (.tuple #[.int .i64 v,.int .i64 (if-((aB a).length:Int)≤k∧k≤((aB a).length:Int) then 0 else 1)])∧Below w.heap.size w w':=by
 have hl:=bV a
 by_cases h1: -((aB a).length:Int)≤k∧k≤((aB a).length:Int)
 ·rw[if_pos h1]
  by_cases h2:k=0
  ·subst h2;exact(DC g c a A (aB a) w h oq).mono fun e w' ⟨r1,r2⟩=>⟨0,r1,r2⟩
  ·by_cases h3:0<k
   ·obtain⟨s,hs⟩:=gs (aB a) (k.toNat-1);exact(yN g c a A (aB a) (k.toNat-1) s w h oq hs k oq).mono fun e w' ⟨r1,r2⟩=>⟨_,r1,r2⟩
   ·obtain⟨s,hs⟩:=gs (aB a) ((-k).toNat-1);have hf:=sG Gt ha s (Om hs);exact(I0 g c a A (aB a) ((-k).toNat-1) s w h oq hs oq k oq).mono fun e w' ⟨r1,r2⟩=>⟨_,r1,r2⟩
 ·rw[if_neg h1];exact(La g c a A (aB a) k w h oq oq).mono fun e w' ⟨r1,r2⟩=>⟨0,r1,by rw[←r2];exact Oq _ _⟩
def Gb(a:Nat)(p:Pr):Prop:= -((aB a).length:Int)≤p.1∧p.1≤((aB a).length:Int)
def NC(a m:Nat)(l:List Pr)(f:Nat)(w:World)(e:Ending)(w':World):Prop:=
 (ey a m l f∧(∃p q As cs g gl A c,e=.returned (.tuple #[.pointer (some ⟨p,0,none⟩),.int .i64 0])∧(w.heap.size≤p∧w.heap.size≤q)∧w.heap.size≤g∧w.heap.size≤gl∧Skt w' p q As cs a g gl A c (m:Int) (gZ l f))∧Below w.heap.size w w')∨
 (¬ey a m l f∧e=.returned (.tuple #[.pointer none,.int .i64 1])∧Below w.heap.size w w')
set_option maxHeartbeats 3200000 in
theorem J6(a m:Nat)(A0:Option Addr)(c0:Nat)(l:List Pr)(f:Nat)(w:World)(h:Prs w w.heap.size A0 l)(Gt:100≤a)(ha:a≤5000)(oS:2≤m)(gE:m≤4096)(hs:Srt l)(hp:Pos l)(hl:l.length≤m):
  Cl 245 #[.int .i64 (a:Int),.int .i64 (m:Int),.slice A0 l.length c0,.int .u64 (f:Int)] w (NC a m l f w):=by
 have Rp:=Oh (FQ a m w Gt ha oS gE);have ZI:Hid (∀W (h:Skt W 0 0 none 0 a 0 0 none 0 (m:Int) []),True):=Oh (fun _ _=>trivial);clear ZI;have a5L:=Oh (fun(g c:Nat) (A:Option Addr) (k:Int) (W:World) (h:Scl W g A c a (aB a))=>I1 g c a A k W h Gt ha);have ST:=Oh (fun W (h:Prs W W.heap.size A0 l) (hk:ey a m l f)=>Ld A0 c0 (m:Int) l f W h ⟨hs,hp,fun q hq=>by have:=hk.keys q hq;have:=bV a;omega,hk.tot,oq⟩ oq oq oq oq (hk.fold.imp id (fun h=>⟨oq,h.2⟩)));have HL0:=Oh (fun W (h:Prs W W.heap.size A0 l) (hk:∀p∈l,Gb a p) (hn:¬ey a m l f)=>I5 A0 c0 (m:Int) l f W h hs oq oq oq (Bp hk hs hp hl oS hn));have aaq:=Oh (fun(hk:ey a m l f)=>qL hk oS hl);have HP:=Oh h;have Lt:(l.length:Int)≤4096:=oq;clear h hs hp hl oS gE Gt ha;go_enter func245,ntmps245;go_wp2_with fail;refine Rp.out.mono ?_;rintro e w1 ⟨p,q,As,cs,g,gl,rfl,hp,hg,If,h1,b1⟩;have By:=Oh h1;have aS:=Oh b1;have HPP:=Oh (And.intro hp (And.intro hg If));have ZI:=Oh (fun W (h:Skt W p q As cs a g gl none 0 (m:Int) []) (k:Int)=>a5L.out q cs As k W h.scl);clear h1 b1 hp hg If a5L;go_wp2_with fail;go_loopw [28] (fun v wr=>∃i:Nat,v=.int .i64 (i:Int)∧i≤l.length∧(∀x∈l.take i,Gb a x)∧Skt wr p q As cs a g gl none 0 (m:Int) []∧Below w.heap.size w wr) (fun v _=>l.length-(intOf v).toNat)
 case atStart=>exact⟨0,rfl,Nat.zero_le _,by simp,By.out,aS.out⟩
 case round=>
  obtain⟨i,rfl,hi,hks,hsk,aC⟩:=hrel;obtain⟨wo,rfl⟩:=nm (wr:World);have Sk:=Oh hsk;have Ta:=Oh aC;have HKS:=Oh hks;clear hks hsk aC
  by_cases hlt:i<l.length
  ·have Ri:(i:Int)<(l.length:Int):=oq;have Qd:(0:Int)≤(i:Int):=oq;obtain⟨x,hx⟩:=gs l i hlt;obtain⟨b,o,rfl,OO,hc⟩:=(HP.out.at_below Ta.out).at_ oq;obtain⟨d1,d2⟩:=hc i x hx;have HX:=Oh hx;have HI:=Oh hlt;obtain⟨k,n⟩:=x;dsimp only at d1 d2;clear hc hx OO hi hlt;go_wp2_with fail;have QC:Below wo.heap.size wo (wo.alloc (.cells #[.int .i64 k,.int .u64 (n:Nat)] 176)):=Ba;have bY:=Oh (ai Ta.out QC);have uN:=Oh (Sk.out.below QC);obtain⟨N,hN⟩:=nm (wo.heap.size);have e1:=uN.out.c0;have e2:(wo.alloc (.cells #[.int .i64 k,.int .u64 (n:Nat)] 176)).cell? ⟨N,0,none⟩=some (.int .i64 k):=by rw[hN,(Blk.new wo 176 #[.int .i64 k,.int .u64 (n:Nat)]).cell];rfl
   have a5N:N<(wo.alloc (.cells #[.int .i64 k,.int .u64 (n:Nat)] 176)).heap.size:=by rw[hN];simp
   clear QC d1 d2;generalize wo.alloc (.cells #[.int .i64 k,.int .u64 (n:Nat)] 176)=W0 at*;rw[←hN];clear hN;refine wp_region_noPanic ?_;refine wp_region_held_drew (S:=(fun W=>W.cell? ⟨p,0,none⟩=some (.pointer (some ⟨q,0,none⟩))∧W.cell? ⟨N,0,none⟩=some (.int .i64 k)∧Below w.heap.size w W∧Skt W p q As cs a g gl none 0 (m:Int) []∧N<W.heap.size)) ok' ⟨e1,e2,bY.out.drew,uN.out.below (Oq _ _).drew,a5N⟩ (fun hHeld=>?_);refine tH 0 ?_;refine tH 1 ?_;refine tH 2 ?_;refine tH 3 ?_;refine tH 4 ?_;refine tH 5 ?_;refine dQ 6 fun K hK=>?_;go_simp;refine(ZI.out _ (by first|exact hHeld.2.2.2.1|assumption) k).mono ?_;rintro e w2 ⟨v,rfl,aT⟩;have fR:=Oh aT;clear aT;refine hK.out _ _ ?_ (fun hHeld=>?_)
   ·exact⟨(fR.out.cell (p:=⟨p,0,none⟩) hHeld.2.2.2.1.blk.lt).trans hHeld.1,(fR.out.cell (p:=⟨N,0,none⟩) hHeld.2.2.2.2).trans hHeld.2.1,ai hHeld.2.2.1 fR.out,hHeld.2.2.2.1.below fR.out,Nat.lt_of_lt_of_le hHeld.2.2.2.2 fR.out.size⟩
   clear hK K
   try go_simp
   refine tH 7 ?_;refine tH 8 ?_;refine tH 9 ?_;refine tH 10 ?_;refine tH 11 ?_;refine jR ?_;have HH:=Oh hHeld;clear hHeld e1 e2 a5N bY uN Sk Ta;obtain⟨r,hr⟩:=nm ((if-((aB a).length:Int)≤k∧k≤((aB a).length:Int) then 0 else 1):Int);rw[←hr]
   by_cases QO: -((aB a).length:Int)≤k∧k≤((aB a).length:Int)
   ·rw[if_pos QO] at hr;have HIN:=Oh QO;subst hr;clear QO;go_wp2_with fail;go_roundw
    case rel=>exact⟨i+1,by go_num,HI.out,by
     intro y hy;rw[List.take_succ_eq_append_getElem HI.out] at hy;rcases List.mem_append.1 hy with hy|hy
     ·exact HKS.out y hy
     ·rw[List.mem_singleton.1 hy,show l[i]'HI.out=(k,n) from(List.getElem?_eq_some_iff.1 HX.out).2];exact HIN.out,HH.out.2.2.2.1,HH.out.2.2.1⟩
    case measure=>exact ms HI
   ·rw[if_neg QO] at hr;have HIN:=Oh QO;subst hr;clear QO;go_wp2_with fail;go_ret2;exact .inr ⟨fun hk=>HIN.out (hk.keys _ (Om HX.out)),rfl,HH.out.2.2.1⟩
  ·have hge:¬(i:Int)<(l.length:Int):=oq;have lT:∀x∈l,Gb a x:=fun x hx=>HKS.out x (by rw[List.take_of_length_le oq];exact hx);clear hi hlt HKS
   by_cases hk:ey a m l f
   ·have HK:=Oh hk;clear lT hk;go_wp2_with fail;refine(ST.out _ (HP.out.at_below Ta.out) HK.out).mono ?_;rintro e w2 ⟨g2,QB,A2,c2,rfl,PK,a00,aT,PT,b2⟩;have fR:=Oh (ai Ta.out b2);have Pp:=Oh (Sk.out.below b2);have HG2:=Oh (Oo Ta.out.size PK);have aat:=Oh (Oo Ta.out.size a00);have Pw:=Oh aT;have OB:=Oh PT;have c1:=Pp.out.c1;have cf:=Pp.out.blk.free 1;have a2C:g2≠p:=fun e=>Blk.ne aT Pp.out.blk od e;have Qo:QB≠p:=fun e=>Blk.ne PT.1 Pp.out.blk od e;have hnA:aa A2≠some p:=Own.ne_blk (show Own w2 QB 176 2 A2 l.length c2 (pcs l) from PT.2) Pp.out.blk od;have UA:q≠p:=fun e=>Blk.ne Pp.out.scl.blk Pp.out.blk od e;have RQ:aa As≠some p:=Own.ne_blk (show Own w2 q 386 3 As (aB a).length cs (scs (aB a)) from Pp.out.scl.own) Pp.out.blk od;have PX:=Oh (And.intro a2C (And.intro Qo (And.intro hnA (And.intro UA RQ))));clear PK a00 aT PT b2 a2C Qo hnA UA RQ;go_wp2_with fail;go_ret2;have hcut:=aaq.out HK.out;refine .inl ⟨HK.out,⟨p,q,As,cs,g2,QB,A2,c2,rfl,HPP.out.1,HG2.out,aat.out,⟨?_,⟨Pp.out.scl.blk.far (p:=⟨p,1,none⟩) PX.out.2.2.2.1 _,?_⟩,⟨?_,?_⟩⟩⟩,fR.out.setCell (by exact HPP.out.1.1) _⟩
    ·have hx:=Pp.out.blk.put 1 (.pointer (some ⟨g2,0,none⟩));simpa using hx
    ·exact Own.setOther (show Own w2 q 386 3 As (aB a).length cs (scs (aB a)) from Pp.out.scl.own) (p:=⟨p,1,none⟩) PX.out.2.2.2.2 _
    ·rw[hcut];exact Pw.out.far (p:=⟨p,1,none⟩) PX.out.1 _
    ·rw[hcut];exact⟨OB.out.1.far (p:=⟨p,1,none⟩) PX.out.2.1 _,Own.setOther (show Own w2 QB 176 2 A2 l.length c2 (pcs l) from OB.out.2) (p:=⟨p,1,none⟩) PX.out.2.2.1 _⟩
   ·have HK:=Oh hk;have HA:=Oh lT;clear lT hk;go_wp2_with fail;refine(HL0.out _ (HP.out.at_below Ta.out) HA.out HK.out).mono ?_;rintro e w2 ⟨rfl,b2⟩;have fR:=Oh (ai Ta.out b2);clear b2;go_wp2_with fail;go_ret2;exact .inr ⟨HK.out,rfl,fR.out⟩
end
section
open Wi
def sg(n:Nat):Int:=if n<9223372036854775808 then(n:Int) else(n:Int)-18446744073709551616
theorem Ci{a:Nat}(h:a<18446744073709551616):a^^^18446744073709551615=18446744073709551615-a:=by
 have:=congrArg BitVec.toNat (BitVec.xor_allOnes (x:=BitVec.ofNat 64 a));rw[BitVec.toNat_xor,BitVec.toNat_allOnes,BitVec.toNat_not,BitVec.toNat_ofNat,Nat.mod_eq_of_lt (show a<2^64 from h)] at this;exact this
theorem qO(a b:Int):bits .xor .i64 a b=bits .xor .i64 b a:=by
 show IntKind.i64.wrap ((BitVec.ofInt 64 a^^^BitVec.ofInt 64 b).toNat:Int)=IntKind.i64.wrap ((BitVec.ofInt 64 b^^^BitVec.ofInt 64 a).toNat:Int);rw[BitVec.xor_comm]
theorem qN(a:Nat)(h:a<9223372036854775808):bits .xor .i64 (a:Int) 0=(a:Int):=by
 show IntKind.i64.wrap ((BitVec.ofInt 64 (a:Int)^^^BitVec.ofInt 64 0).toNat:Int)=_;rw[show BitVec.ofInt 64 0=0#64 from rfl,BitVec.xor_zero,ofInt_u64 a oq];exact i6
theorem Fs(n:Nat)(w:World)(hn:n<18446744073709551616):
  Cl 389 #[.int .i64 (sg n)] w (Rt (.int .u64 (bG n:Nat)) w):=by
 unfold sg bG;split
 ·have hx:bits .xor .u64 ((n:Int)*2) ((n:Int)/9223372036854775808)=((2*n:Nat):Int):=by
   rw[show(n:Int)*2=((2*n:Nat):Int) by omega,show(n:Int)/9223372036854775808=((0:Nat):Int) by omega,u64_xor_nat _ _ oq oq,Nat.xor_zero]
  exact vc
 ·have hx:bits .xor .u64 (IntKind.u64.wrap (IntKind.u64.wrap ((n:Int)-18446744073709551616)*2)) (IntKind.u64.wrap (((n:Int)-18446744073709551616)/9223372036854775808))=((2*(18446744073709551615-n)+1:Nat):Int):=by
   rw[On,On,On,show((n:Int)-18446744073709551616)%18446744073709551616*2%18446744073709551616=((2*n-18446744073709551616:Nat):Int) by omega,
    show((n:Int)-18446744073709551616)/9223372036854775808%18446744073709551616=((18446744073709551615:Nat):Int) by omega,u64_xor_nat _ _ oq oq,Ci oq]
   omega
  exact vc
theorem Oe(n:Nat)(hn:n<18446744073709551616):bits .and .u64 (n:Int) 1=((n%2:Nat):Int):=by
 rw[show(1:Int)=((1:Nat):Int) from rfl,u64_and_nat _ _ hn oq,nat_mask1]
theorem nG(n:Nat)(w:World)(hn:n<18446744073709551616):
  Cl 390 #[.int .u64 (n:Int)] w (Rt (.int .i64 (sg (cM n))) w):=by
 have hx:bits .xor .i64 ((n:Int)/2) (wrap64 (-wrap64 (bits .and .u64 (n:Int) 1)))=sg (cM n):=by
  rw[Oe n hn];unfold cM;split
  ·rename_i h;rw[h,show wrap64 (-wrap64 ((0:Nat):Int))=0 by unfold wrap64;omega,show(n:Int)/2=((n/2:Nat):Int) by omega,qN _ oq];unfold sg;rw[if_pos oq]
  ·rename_i h;rw[show n%2=1 by omega,show wrap64 (-wrap64 ((1:Nat):Int))= -1 by unfold wrap64;omega,show(n:Int)/2=((n/2:Nat):Int) by omega,qO,i64_not _ oq];unfold sg;rw[if_neg oq];omega
 have hx2:=Oh hx;clear hx;go_enter func390,ntmps390;go_wp2_with fail;go_ret;exact⟨congrArg (fun z=>Ending.returned (.int .i64 z)) hx2.out,rfl⟩
theorem yh{n:Nat}(hn:n<18446744073709551616):wrap64 (n:Int)=sg n:=by
 unfold wrap64 sg;split<;>omega
theorem Km(g:Nat)(A:Option Addr)(c:Nat)(L:List UInt8)(n:Nat)(k:Int)(w:World)(h:Wr w g A c L)(hn:n<18446744073709551616)(hL:L.length≤99999000):
  Cl 329 #[.pointer (some ⟨g,0,none⟩),.int .u64 (n:Int),.int .i64 k] w fun e w'=>e=.returned (.tuple #[])∧br g A (L++leb (bG n)) w w':=by
 have hsg:=yh hn;have HS:=Oh (fun W=>Fs n W hn);have HL:=Oh (Fi g A c L (bG n) k w h (bK hn) (by have:=af (bK hn);rw[Ok];omega));clear h hL hn;go_enter func329,ntmps329;go_wp2_with fail;refine(HS.out _).mono ?_;rintro e w1 ⟨rfl,rfl⟩;go_wp2_with fail;refine HL.out.mono ?_;rintro e w2 ⟨rfl,h2⟩;have H2:=Oh h2;clear h2;go_wp2_with fail;exact bodyPost_end (v:=.tuple #[]) (results_none results329 _ _ _) rfl ⟨rfl,H2.out⟩
theorem Gk(g:Nat)(A:Option Addr)(c:Nat)(L:List UInt8)(n:Nat)(k:Int)(w:World)(h:Wr w g A c L)(hn:n<18446744073709551616)(hL:L.length≤99999000):
  Cl 331 #[.pointer (some ⟨g,0,none⟩),.int .u64 (n:Int),.int .i64 k] w fun e w'=>e=.returned (.tuple #[])∧br g A (L++eF 8 (bG n)) w w':=by
 have hsg:=yh hn;have HS:=Oh (fun W=>Fs n W hn);have Uu:=Oh (bK hn);obtain⟨T,hT⟩:=nm (L++eF 8 (bG n));have Sg:T.length≤99999100:=by have:=ky 8 (bG n);rw[hT,Ok];omega
 rw[←hT];have H:=Oh h;have HT:=Oh hT;have Qf:=Oh Sg;clear h hT hn hL Sg;go_enter func331,ntmps331;go_wp2_with fail;refine(HS.out _).mono ?_;rintro e w1 ⟨rfl,rfl⟩;go_wp2_with fail;go_loopw [1,9] (fun u v wr=>∃(m i:Nat) (S:List UInt8) (A2:Option Addr) (c2:Nat),u=.int .u64 (m:Int)∧v=.int .i64 (i:Int)∧i≤8∧m<18446744073709551616∧T=S++eF (8-i) m∧Wr wr g A2 c2 S∧ab (WK g A) w wr∧(aa A2=aa A∨∃i,aa A2=some i∧w.heap.size≤i)) (fun _ v _=>8-(intOf v).toNat)
 case atStart=>exact⟨bG n,0,L,A,c,rfl,rfl,oq,Uu.out,HT.out,H.out,ab.refl _ _,.inl rfl⟩
 case round=>
  obtain⟨m,i,S,A2,c2,rfl,rfl,hi,hm,hT,hw,PR,Ov⟩:=hrel;obtain⟨wo,rfl⟩:=nm (wr:World);have Z5:S.length≤99999100:=by have:=Qf.out;rw[hT,Ok] at this;omega
  have c0:=hw.1.c0;have fr:=hw.1.free;have HW:=Oh hw;have Sr:=Oh PR;have Pg:=Oh Ov;have If:g<wo.heap.size:=hw.1.lt
  by_cases h8:i<8
  ·have Ri:(i:Int)<8:=oq;obtain⟨j,hj⟩:∃j,8-i=j+1:=⟨7-i,oq⟩;have TC:8-(i+1)=j:=oq;rw[hj,eF] at hT
   by_cases hlt:m<128
   ·have hd:decide ((m:Int)≤127)=true:=sq;have hx:IntKind.u8.wrap (m:Int)=((by8 m).toNat:Int):=by rw[dF oq,IntWalk.u8_in _ oq]
    rw[if_pos hlt] at hT;have OM:=Oh hT;clear hT hw PR Ov hlt HT H hj TC hi h8 hm;generalize by8 m=x at*;go_wp2_with (at_builtin;refine Hid.out ?_);have nE:=Own.alloc (show Own wo g 5 1 A2 S.length c2 (bvs S) from HW.out.2) (.cells #[.int .u8 (x.toNat:Int)] 5);refine aj (xs:=bvs S) rfl rfl bu rfl nE rfl (cX wo x) (aO _) (S.length+1) rfl (bvs (S++[x])) (aE _ _).symm (by unfold maxLen;omega) oq (by have:=HW.out.1.lt;simp;omega) ?_;intro A3 c3 w3 o3 g3 q3;obtain⟨dO,Qj⟩:=i9 HW.out o3 g3 q3;have WY:=dO.c0;have Xz:=dO.free;have TQ:g<w3.heap.size:=dO.lt;have HR:=Oh (br.then Sr.out Pg.out Qj);clear nE o3 g3 q3 dO Qj c0 fr If;go_wp2_with fail;refine bodyPost_ret (v:=.tuple #[]) (results_none results331 _ _ _) rfl ?_;exact⟨rfl,by rw[OM.out];exact HR.out⟩
   ·have hd:decide ((m:Int)≤127)=false:=sq;have hx:bits .or .u8 ((m:Int)%256) 128=((by8 (128+m%128)).toNat:Int):=JU;rw[if_neg hlt] at hT;have OM:=Oh hT;have HJ:=Oh TC;have HI:=Oh h8;have HM:=Oh hm;clear hT hw PR Ov hlt HT H hj TC hi h8 hm;generalize by8 (128+m%128)=x at*;go_wp2_with (at_builtin;refine Hid.out ?_);have nE:=Own.alloc (show Own wo g 5 1 A2 S.length c2 (bvs S) from HW.out.2) (.cells #[.int .u8 (x.toNat:Int)] 5);refine aj (xs:=bvs S) rfl rfl bu rfl nE rfl (cX wo x) (aO _) (S.length+1) rfl (bvs (S++[x])) (aE _ _).symm (by unfold maxLen;omega) oq (by have:=HW.out.1.lt;simp;omega) ?_;intro A3 c3 w3 o3 g3 q3;obtain⟨dO,Qj⟩:=i9 HW.out o3 g3 q3;have WY:=dO.c0;have Xz:=dO.free;have TQ:g<w3.heap.size:=dO.lt;have HR:=Oh (br.then Sr.out Pg.out Qj);clear nE o3 g3 q3 dO Qj c0 fr If;go_wp2_with fail;go_roundw
    case rel=>
     obtain⟨A4,c4,k1,k2,k3⟩:=HR.out;exact⟨m/128,i+1,S++[x],A4,c4,by go_num,by go_num,HI.out,by have:=HM.out;omega,by rw[OM.out,HJ.out];simp,k1,k2,k3⟩
    case measure=>exact ms HI
  ·obtain rfl:i=8:=oq;have hx:(m:Int)%256=((by8 m).toNat:Int):=by rw[ic];omega
   rw[show 8-8=0 from rfl,eF] at hT;have OM:=Oh hT;clear hT hw PR Ov HT H hi h8 hm;generalize by8 m=x at*;go_wp2_with (at_builtin;refine Hid.out ?_);have nE:=Own.alloc (show Own wo g 5 1 A2 S.length c2 (bvs S) from HW.out.2) (.cells #[.int .u8 (x.toNat:Int)] 5);refine aj (xs:=bvs S) rfl rfl bu rfl nE rfl (cX wo x) (aO _) (S.length+1) rfl (bvs (S++[x])) (aE _ _).symm (by unfold maxLen;omega) oq (by have:=HW.out.1.lt;simp;omega) ?_;intro A3 c3 w3 o3 g3 q3;obtain⟨dO,Qj⟩:=i9 HW.out o3 g3 q3;have WY:=dO.c0;have Xz:=dO.free;have TQ:g<w3.heap.size:=dO.lt;have HR:=Oh (br.then Sr.out Pg.out Qj);clear nE o3 g3 q3 dO Qj c0 fr If;go_wp2_with fail;refine bodyPost_end (v:=.tuple #[]) (results_none results331 _ _ _) rfl ?_;exact⟨rfl,by rw[OM.out];exact HR.out⟩
theorem rF:∀(k n i:Nat),i<k→(low k n)[i]?=some (by8 (n/256^i))
 |0,_,_,h=>absurd h (Nat.not_lt_zero _)
 |k+1,n,0,_=>by
  simp only[low,List.getElem?_cons_zero,Nat.pow_zero,Nat.div_one]
  congr 1
  refine UInt8.toNat_inj.1 ?_;rw[ic,ic,Nat.mod_mod]
 |k+1,n,i+1,h=>by
  rw[low,List.getElem?_cons_succ,rF k (n/256) i oq,Nat.div_div_eq_div_mul,Nat.pow_succ,Nat.mul_comm]
theorem ND(n i:Nat)(hi:i<8):Op.shift .shr .u64 (n:Int) .i64 (IntKind.i64.wrap (8*(i:Int)))=pure (.int .u64 ((n/256^i:Nat):Int)):=by
 rw[Ol (8*(i:Int)) ⟨oq,oq⟩,shift_shr_any _ _ _ _ oq]
 have e1:min (8*(i:Int)).toNat IntKind.u64.bits=8*i:=by
  have:IntKind.u64.bits=64:=rfl;omega
 rw[e1,show(256:Nat)=2^8 from rfl,←Nat.pow_mul,Int.natCast_ediv,Int.natCast_pow];rfl
theorem s9(g:Nat)(A:Option Addr)(c:Nat)(L:List UInt8)(n k:Nat)(w:World)(h:Wr w g A c L)(hn:n<18446744073709551616)(hk:k≤8)(hL:L.length≤99999000):
  Cl 323 #[.pointer (some ⟨g,0,none⟩),.int .u64 (n:Int),.int .i64 (k:Int)] w fun e w'=>e=.returned (.tuple #[])∧br g A (L++low k n) w w':=by
 have OZ:(k:Int)≤8:=oq;have hni:(n:Int)<18446744073709551616:=oq;have H:=Oh h;clear h hn;go_enter func323,ntmps323;go_wp2_with fail;go_loopw [8] (fun v wr=>∃(i:Nat) (A2:Option Addr) (c2:Nat),v=.int .i64 (i:Int)∧i≤k∧Wr wr g A2 c2 (L++(low k n).take i)∧ab (WK g A) w wr∧(aa A2=aa A∨∃i,aa A2=some i∧w.heap.size≤i)) (fun v _=>k-(intOf v).toNat)
 case atStart=>exact⟨0,A,c,rfl,Nat.zero_le _,by rw[List.take_zero,List.append_nil];exact H.out,ab.refl _ _,.inl rfl⟩
 case round=>
  obtain⟨i,A2,c2,rfl,hi,hw,PR,Ov⟩:=hrel;obtain⟨wo,rfl⟩:=nm (wr:World)
  by_cases hlt:i<k
  ·have Ri:(i:Int)<(k:Int):=oq;have hge:¬(8*(i:Int))<0:=oq
   have hT:(L++(low k n).take i)++[by8 (n/256^i)]=L++(low k n).take (i+1):=by
    rw[List.take_add_one,rF k n i hlt,List.append_assoc];rfl
   have St:(L++(low k n).take i).length≤99999008:=by rw[Ok,List.length_take,aJ];omega
   generalize L++(low k n).take i=S at*;have hsh:=ND n i oq
   have hx:IntKind.u8.wrap ((n/256^i:Nat):Int)=((by8 (n/256^i)).toNat:Int):=by
    rw[ic];simp[IntKind.wrap,IntKind.bits,IntKind.signed]
   have hx2:((n/256^i:Nat):Int)%256=((by8 (n/256^i)).toNat:Int):=by rw[ic];omega
   have OM:=Oh hT;have HI:=Oh hlt;have c0:=hw.1.c0;have fr:=hw.1.free;have HW:=Oh hw;have Sr:=Oh PR;have Pg:=Oh Ov;have If:g<wo.heap.size:=hw.1.lt;clear hT hw PR Ov hlt H hi;generalize by8 (n/256^i)=x at*;generalize n/256^i=m at*;go_wp2_with fail;refine wp_region_noPanic ?_;refine aR (S:=(fun w'=>w'.cell? ⟨g,0,none⟩=some (.slice A2 S.length c2))) (L:=14) ok' (by simpa using c0) (fun hHeld=>?_);refine tT 0 ?_;refine tT 1 ?_;refine tT 2 ?_;refine tT 3 ?_;refine tT 4 ?_;refine tT 5 ?_;refine tT 6 ?_;refine tT 7 ?_;refine tT 8 ?_;refine tT 9 ?_;refine dP 10 fun K hK=>?_;go_simp;refine hK.out _ _ ?_ (fun hHeld=>?_)
   ·exact fun _=>by simpa using(World.cell?_alloc_lt wo _ ⟨g,0,none⟩ If).trans c0
   clear hK K;replace hHeld:=hHeld od
   try go_simp
   refine dP 11 fun K hK=>?_;refine bo (s:=.tmp 15) (x:=.tmp 21) (t:=24) (base:=g) (A:=A2) (n:=S.length) (c:=c2) (xs:=bvs S) (B:=(wo.alloc (.cells #[.int .u8 (x.toNat:Int)] 5)).heap.size) (D:=some ⟨wo.heap.size,0,none⟩) (m:=1) (c2:=1) (news:=bvs [x]) (by rfl) (by rfl) bu (by rfl) (Own.alloc (show Own wo.drew g 5 1 A2 S.length c2 (bvs S) from HW.out.2) (.cells #[.int .u8 (x.toNat:Int)] 5)) (by rfl) (cX wo.drew x) (aO _) (S.length+1) rfl (bvs (S++[x])) (aE _ _).symm (by unfold maxLen;omega) oq (by have:=HW.out.1.lt;simp;omega) ?_;intro A3 c3 w3 o3 g3 q3;obtain⟨dO,Qj⟩:=i9 (wo:=wo.drew) (show Wr wo.drew g A2 c2 S from⟨HW.out.1.drew,HW.out.2⟩) o3 g3 q3;have WY:=dO.c0;have Xz:w3.frozen? ⟨g,0,none⟩=false:=dO.free 0;have TQ:g<w3.heap.size:=dO.lt;have HR:=Oh (br.then (Sr.out.drew) Pg.out Qj);clear o3 g3 q3 dO Qj c0 fr If;refine hK.out _ _ ?_ (fun hHeld=>?_)
   ·exact fun _=>WY
   clear hK K;replace hHeld:=hHeld od
   try go_simp
   refine tT 12 ?_;refine tT 13 ?_;refine dP 14 fun K hK=>?_;go_simp;refine hK.out _ _ ?_ (fun hHeld=>?_)
   ·exact fun h=>absurd rfl h
   clear hK K
   try go_simp
   refine me ?_;go_wp2_with fail;go_roundw
   case rel=>
    obtain⟨A4,c4,k1,k2,k3⟩:=HR.out;exact⟨i+1,A4,c4,by go_num,HI.out,by rw[←OM.out];exact k1,k2,k3⟩
   case measure=>exact ms HI
  ·obtain rfl:k=i:=oq;have e:(low k n).take k=low k n:=List.take_of_length_le (by rw[aJ];omega);rw[e] at hw;clear hlt hi;go_wp2_with fail;exact bodyPost_end (v:=.tuple #[]) (results_none results323 _ _ _) rfl ⟨rfl,A2,c2,hw,PR,Ov⟩
theorem rr(g:Nat)(A:Option Addr)(c:Nat)(L:List UInt8)(n k:Nat)(w:World)(h:Wr w g A c L)(hk:k≤8)(hL:L.length≤99999000):
  Cl 325 #[.pointer (some ⟨g,0,none⟩),.int .u64 (n:Int),.int .i64 (k:Int)] w fun e w'=>e=.returned (.tuple #[])∧br g A (L++eG k n) w w':=by
 have OZ:(k:Int)≤8:=oq;have H:=Oh h;clear h;go_enter func325,ntmps325;go_wp2_with fail;go_loopw [6] (fun v wr=>∃(j:Nat) (A2:Option Addr) (c2:Nat),v=.int .i64 ((j:Int)-1)∧j≤k∧Wr wr g A2 c2 (L++((low k n).drop j).reverse)∧ab (WK g A) w wr∧(aa A2=aa A∨∃i,aa A2=some i∧w.heap.size≤i)) (fun v _=>(intOf v+1).toNat)
 case atStart=>exact⟨k,A,c,rfl,Oi _,by rw[List.drop_of_length_le (by rw[aJ];omega),List.reverse_nil,List.append_nil];exact H.out,ab.refl _ _,.inl rfl⟩
 case round=>
  obtain⟨j,A2,c2,rfl,hi,hw,PR,Ov⟩:=hrel;obtain⟨wo,rfl⟩:=nm (wr:World);rcases j with _|i
  ·obtain⟨iv,hiv⟩:=nm (((0:Nat):Int)-1:Int);rw[←hiv];have hd:decide (0≤iv)=false:=by rw[hiv];rfl
   rw[List.drop_zero] at hw;clear hiv hi;go_wp2_with fail;exact bodyPost_end (v:=.tuple #[]) (results_none results325 _ _ _) rfl ⟨rfl,A2,c2,hw,PR,Ov⟩
  ·rw[show((i+1:Nat):Int)-1=(i:Int) by omega];have hd:decide (0≤(i:Int))=true:=by simp
   have Ri:(i:Int)<(k:Int):=oq
   have hT:(L++((low k n).drop (i+1)).reverse)++[by8 (n/256^i)]=L++((low k n).drop i).reverse:=by
    have hg:=rF k n i oq;obtain⟨hl,e⟩:=List.getElem?_eq_some_iff.1 hg;rw[List.drop_eq_getElem_cons hl,e,List.reverse_cons,List.append_assoc]
   have St:(L++((low k n).drop (i+1)).reverse).length≤99999008:=by rw[Ok,List.length_reverse,List.length_drop,aJ];omega
   generalize L++((low k n).drop (i+1)).reverse=S at*;have hsh:=ND n i oq
   have hx:IntKind.u8.wrap ((n/256^i:Nat):Int)=((by8 (n/256^i)).toNat:Int):=by
    rw[ic];simp[IntKind.wrap,IntKind.bits,IntKind.signed]
   have hx2:((n/256^i:Nat):Int)%256=((by8 (n/256^i)).toNat:Int):=by rw[ic];omega
   have OM:=Oh hT;have HI:=Oh hi;have c0:=hw.1.c0;have fr:=hw.1.free;have HW:=Oh hw;have Sr:=Oh PR;have Pg:=Oh Ov;have If:g<wo.heap.size:=hw.1.lt;clear hT hw PR Ov H hi;generalize by8 (n/256^i)=x at*;generalize n/256^i=m at*;go_wp2_with fail;refine wp_region_noPanic ?_;refine aR (S:=(fun w'=>w'.cell? ⟨g,0,none⟩=some (.slice A2 S.length c2))) (L:=14) ok' (by simpa using c0) (fun hHeld=>?_);refine tT 0 ?_;refine tT 1 ?_;refine tT 2 ?_;refine tT 3 ?_;refine tT 4 ?_;refine tT 5 ?_;refine tT 6 ?_;refine tT 7 ?_;refine tT 8 ?_;refine tT 9 ?_;refine dP 10 fun K hK=>?_;go_simp;refine hK.out _ _ ?_ (fun hHeld=>?_)
   ·exact fun _=>by simpa using(World.cell?_alloc_lt wo _ ⟨g,0,none⟩ If).trans c0
   clear hK K;replace hHeld:=hHeld od
   try go_simp
   refine dP 11 fun K hK=>?_;refine bo (s:=.tmp 17) (x:=.tmp 23) (t:=24) (base:=g) (A:=A2) (n:=S.length) (c:=c2) (xs:=bvs S) (B:=(wo.alloc (.cells #[.int .u8 (x.toNat:Int)] 5)).heap.size) (D:=some ⟨wo.heap.size,0,none⟩) (m:=1) (c2:=1) (news:=bvs [x]) (by rfl) (by rfl) bu (by rfl) (Own.alloc (show Own wo.drew g 5 1 A2 S.length c2 (bvs S) from HW.out.2) (.cells #[.int .u8 (x.toNat:Int)] 5)) (by rfl) (cX wo.drew x) (aO _) (S.length+1) rfl (bvs (S++[x])) (aE _ _).symm (by unfold maxLen;omega) oq (by have:=HW.out.1.lt;simp;omega) ?_;intro A3 c3 w3 o3 g3 q3;obtain⟨dO,Qj⟩:=i9 (wo:=wo.drew) (show Wr wo.drew g A2 c2 S from⟨HW.out.1.drew,HW.out.2⟩) o3 g3 q3;have WY:=dO.c0;have Xz:w3.frozen? ⟨g,0,none⟩=false:=dO.free 0;have TQ:g<w3.heap.size:=dO.lt;have HR:=Oh (br.then (Sr.out.drew) Pg.out Qj);clear o3 g3 q3 dO Qj c0 fr If;refine hK.out _ _ ?_ (fun hHeld=>?_)
   ·exact fun _=>WY
   clear hK K;replace hHeld:=hHeld od
   try go_simp
   refine tT 12 ?_;refine tT 13 ?_;refine dP 14 fun K hK=>?_;go_simp;refine hK.out _ _ ?_ (fun hHeld=>?_)
   ·exact fun h=>absurd rfl h
   clear hK K
   try go_simp
   refine me ?_;go_wp2_with fail;go_roundw
   case rel=>
    obtain⟨A4,c4,k1,k2,k3⟩:=HR.out;exact⟨i,A4,c4,rfl,by have:=HI.out;omega,by rw[←OM.out];exact k1,k2,k3⟩
   case measure=>simp[intOf]
def jB(f:Frm)(n:Nat):List UInt8:=
 if f.2.2.1=323 then low f.2.1 n
 else if f.2.2.1=325 then eG f.2.1 n
 else if f.2.2.1=327 then leb n
 else if f.2.2.1=329 then leb (bG n)
 else eF 8 (bG n)
theorem jq{k:Nat}{f:Frm}(hf:di[k]?=some f)(g:Nat)(A:Option Addr)(c:Nat)(L:List UInt8)(n:Nat)(w:World)(h:Wr w g A c L)(hn:n<18446744073709551616)(hL:L.length≤99999000):
  Cl f.2.2.1 #[.pointer (some ⟨g,0,none⟩),.int .u64 (n:Int),.int .i64 (f.2.1:Int)] w fun e w'=>e=.returned (.tuple #[])∧br g A (L++jB f n) w w':=by
 have hk:k<10:=(List.getElem?_eq_some_iff.1 hf).1;have Lt:(L++leb n).length≤100000000:=by have:=af hn;rw[Ok];omega
 rcases k with _|_|_|_|_|_|_|_|_|_|k
 ·injection hf with hf;subst hf;exact s9 g A c L n 1 w h hn oq hL
 ·injection hf with hf;subst hf;exact s9 g A c L n 2 w h hn oq hL
 ·injection hf with hf;subst hf;exact rr g A c L n 2 w h oq hL
 ·injection hf with hf;subst hf;exact s9 g A c L n 4 w h hn oq hL
 ·injection hf with hf;subst hf;exact rr g A c L n 4 w h oq hL
 ·injection hf with hf;subst hf;exact s9 g A c L n 8 w h hn oq hL
 ·injection hf with hf;subst hf;exact rr g A c L n 8 w h oq hL
 ·injection hf with hf;subst hf;exact Fi g A c L n _ w h hn Lt
 ·injection hf with hf;subst hf;exact Km g A c L n _ w h hn hL
 ·injection hf with hf;subst hf;exact Gk g A c L n _ w h hn hL
 ·omega
theorem J0{k:Nat}{f:Frm}(hf:di[k]?=some f){n:Nat}(hn:n<18446744073709551616):(jB f n).length≤10:=by
 have hk:k<10:=(List.getElem?_eq_some_iff.1 hf).1;have h1:=af hn;have h2:=af (bK hn);have h3:=ky 8 (bG n);rcases k with _|_|_|_|_|_|_|_|_|_|k
 ·injection hf with hf;subst hf;exact Oo (Nat.le_of_eq (aJ 1 n)) od
 ·injection hf with hf;subst hf;exact Oo (Nat.le_of_eq (aJ 2 n)) od
 ·injection hf with hf;subst hf;exact Oo (Nat.le_of_eq (eh 2 n)) od
 ·injection hf with hf;subst hf;exact Oo (Nat.le_of_eq (aJ 4 n)) od
 ·injection hf with hf;subst hf;exact Oo (Nat.le_of_eq (eh 4 n)) od
 ·injection hf with hf;subst hf;exact Oo (Nat.le_of_eq (aJ 8 n)) od
 ·injection hf with hf;subst hf;exact Oo (Nat.le_of_eq (eh 8 n)) od
 ·injection hf with hf;subst hf;exact h1
 ·injection hf with hf;subst hf;exact h2
 ·injection hf with hf;subst hf;exact Oo h3 od
 ·omega
def okL(x:UInt8):Bool:=decide (fi x.toNat<10)
def dz(l:List UInt8):Bool:=decide (l.length≤64)&&l.all okL
theorem sh(a:ByteArray)(i:Nat)(h:i<a.size):a.data.toList[i]?=some a[i]:=by
 rw[Array.getElem?_toList,Array.getElem?_eq_getElem h];rfl
theorem CB{a:ByteArray}{i:Nat}(h:i<a.size):(a.data.toList.take (i+1)).all okL=((a.data.toList.take i).all okL&&okL a[i]):=by
 rw[List.take_add_one,sh a i h];simp
theorem MC{a:ByteArray}{i:Nat}(h:i<a.size)(Qc:okL a[i]=false):a.data.toList.all okL=false:=by
 rw[List.all_eq_false];exact⟨a[i],Om (sh a i h),by simp[Qc]⟩
theorem ry(a:ByteArray)(w:World):
  Cl 171 #[.string a] w (Rb (.bool (dz a.data.toList)) w):=by
 have hs:a.data.toList.length=a.size:=by simp
 by_cases V9:a.size≤64
 ·have hd:decide ((64:Int)<(a.size:Int))=false:=sq;have hR:dz a.data.toList=a.data.toList.all okL:=by unfold dz;rw[hs,decide_eq_true V9,Bool.true_and]
  rw[hR];obtain⟨R,OQ⟩:=nm (a.data.toList.all okL);rw[←OQ];have PY:=Oh OQ;clear OQ;have ha:(a.size:Int)≤64:=oq;have HS:=Oh hs;clear hs hR V9;go_enter func171,ntmps171;go_wp2_with fail;go_loopw [11] (fun v wr=>∃i:Nat,v=.int .i64 (i:Int)∧i≤a.size∧(a.data.toList.take i).all okL=true∧Below w.heap.size w wr) (fun v _=>a.size-(intOf v).toNat)
  case atStart=>exact⟨0,rfl,Nat.zero_le _,rfl,Oq _ _⟩
  case round=>
   obtain⟨i,rfl,hi,hok,aC⟩:=hrel;obtain⟨wo,rfl⟩:=nm (wr:World)
   by_cases hlt:i<a.size
   ·have Ri:(i:Int)<(a.size:Int):=oq;have Qd:(0:Int)≤(i:Int):=oq;have HTA:=Oh (CB hlt);have HNO:=Oh (MC hlt);have Td:=Oh hok;have HI:=Oh hlt;have HW:=Oh aC;clear hok aC hi;go_wp2_with fail;refine(oC _ wo).mono ?_;rintro e w1 ⟨hc,eQ⟩;have aS:=Oh eQ;clear eQ;have a01:okL a[i]=decide (fi a[i].toNat<10):=rfl;generalize a[i]=x at*;rcases hc with⟨f,hf,rfl⟩|⟨VQ,rfl⟩
    ·have hx:okL x=true:=by
      rw[a01,decide_eq_true_iff];exact(List.getElem?_eq_some_iff.1 hf).1
     have HX:=Oh hx;clear hf hx a01;unfold xM;go_wp2_with (first|(refine wpList_store_row rfl 256 _ _ rfl w1.heap.size (kh f).toArray rfl rfl 256 _ (heap_alloc_new _ _) gH rfl (kF _) ?_)|fail);go_roundw
     case rel=>exact⟨i+1,by go_num,HI.out,by rw[HTA.out,Td.out,HX.out];rfl,below_setRow ((HW.out.trans (aS.out.mono HW.out.size)).alloc (by have:=HW.out.size;have:=aS.out.size;omega) _) (by have:=HW.out.size;have:=aS.out.size;omega) _⟩
     case measure=>exact ms HI
    ·have hx:okL x=false:=by
      rw[a01,VQ];rfl
     have HX:=Oh (PY.out.trans (HNO.out hx));clear VQ hx a01;go_wp2_with (first|(refine wpList_store_row rfl 256 _ _ rfl w1.heap.size eS.toArray rfl rfl 256 _ (heap_alloc_new _ _) gH rfl pS ?_)|fail);go_ret;exact⟨by rw[HX.out];rfl,below_setRow ((HW.out.trans (aS.out.mono HW.out.size)).alloc (by have:=HW.out.size;have:=aS.out.size;omega) _) (by have:=HW.out.size;have:=aS.out.size;omega) _⟩
   ·have hi2:a.size=i:=oq
    have lT:a.data.toList.all okL=true:=by
     rw[List.take_of_length_le (by rw[HS.out];omega)] at hok;exact hok
    have HX:=Oh (PY.out.trans lT);have hge:decide (i<a.size)=false:=sq;have a1R:¬(i:Int)<(a.size:Int):=oq;clear hok lT hi hlt hi2;go_wp2_with fail;go_ret;exact⟨by rw[HX.out];rfl,aC⟩
 ·have hd:decide ((64:Int)<(a.size:Int))=true:=sq;have hR:dz a.data.toList=false:=by unfold dz;rw[hs,decide_eq_false V9,Bool.false_and]
  rw[hR];clear hs hR V9;go_enter func171,ntmps171;go_wp2_with fail;go_ret;exact⟨rfl,Oq _ _⟩
def cY(w:World)(l:List UInt8)(e:Ending)(w':World):Prop:=∃A c,e=.returned (.slice A l.length c)∧ak w' w.heap.size A c l∧Below w.heap.size w w'
theorem l7(A:Option Addr)(c:Nat)(l:List UInt8)(w:World)(hb:Bts w w.heap.size A l)(hl:l.length≤100000000):
  Cl 50 #[.slice A l.length c] w (cY w l):=by
 exact ve
def RK(g:Nat)(i:Nat):Prop:=i=g
def Rdr(w:World)(base g:Nat)(A:Option Addr)(c:Nat)(l:List UInt8)(p:Nat):Prop:=Blk w g 230 #[.slice A l.length c,.int .i64 (p:Int)]∧ak w base A c l
theorem Rdr.moved{w w':World}{base g:Nat}{A:Option Addr}{c:Nat}{l:List UInt8}{p p':Nat}(h:Rdr w base g A c l p)(hb:Blk w' g 230 #[.slice A l.length c,.int .i64 (p':Int)])(ho:ab (RK g) w w'):Rdr w' base g A c l p':=
 ⟨hb,Own.only h.2 ho (fun i hi e=>Own.ne_blk h.2 h.1 od (by rw[hi,e]))⟩
theorem Rdr.below{w w':World}{base g:Nat}{A:Option Addr}{c:Nat}{l:List UInt8}{p:Nat}(h:Rdr w base g A c l p)(hb:Below w.heap.size w w'):Rdr w' base g A c l p:=⟨h.1.below hb h.1.lt,Own.below h.2 hb⟩
def rV(w:World)(l:List UInt8)(e:Ending)(w':World):Prop:=∃g A c,e=.returned (.pointer (some ⟨g,0,none⟩))∧w.heap.size≤g∧Rdr w' w.heap.size g A c l 0∧Below w.heap.size w w'
theorem ir(A:Option Addr)(c:Nat)(l:List UInt8)(w:World)(hb:Bts w w.heap.size A l)(hl:l.length≤100000000):
  Cl 79 #[.slice A l.length c] w (rV w l):=by
 have HC:=Oh (l7 A c l w hb hl);clear hb;go_enter func79,ntmps79;exact D8
theorem N7(base g:Nat)(A:Option Addr)(c:Nat)(l:List UInt8)(p:Nat)(w:World)(h:Rdr w base g A c l p):
  Cl 228 #[.pointer (some ⟨g,0,none⟩)] w (Rt (.int .i64 (p:Int)) w):=by
 have c1:=h.1.c1;clear h;go_enter func228,ntmps228;go_wp2_with fail;go_ret;exact⟨rfl,rfl⟩
theorem fj(base g:Nat)(A:Option Addr)(c:Nat)(l:List UInt8)(p k:Nat)(w:World)(h:Rdr w base g A c l p)(hk:p+k=l.length)(hl:l.length≤100000000):
  Cl 158 #[.pointer (some ⟨g,0,none⟩)] w fun e w'=>e=.returned (.int .i64 (k:Int))∧∃q,w'=w.drewN q:=by
 have c0:=h.1.c0;have c1:=h.1.c1;have e2:IntKind.i64.wrap ((l.length:Int)-(p:Int))=(k:Int):=by rw[show(l.length:Int)-(p:Int)=(k:Int) by omega];exact i6
 clear h hk;go_enter func158,ntmps158;go_wp2_with fail;go_quiet (fail);go_wp2_with fail;go_ret;exact⟨rfl,nq,rfl⟩
namespace Wi
def lov:List UInt8→Nat
 | []=>0
 |b::l=>b.toNat+256*lov l
theorem lY:∀l:List UInt8,lov l<256^l.length
 | []=>by simp[lov]
 |b::l=>by
  have h1:=b.toNat_lt;have h2:=lY l;rw[lov,List.length_cons,Nat.pow_succ];omega
theorem vJ:∀(l:List UInt8) (x:UInt8),lov (l++[x])=lov l+x.toNat*256^l.length
 | [],x=>by simp[lov]
 |b::l,x=>by
  rw[List.cons_append,lov,lov,vJ l x,List.length_cons,Nat.pow_succ,Nat.mul_add,←Nat.add_assoc]
  congr 1
  rw[Nat.mul_left_comm,Nat.mul_comm 256]
theorem Fy{a b i:Nat}(ha:a<256^i):a|||b*256^i=a+b*256^i:=by
 have e:(256:Nat)^i=2^(8*i):=by rw[show(256:Nat)=2^8 from rfl,←Nat.pow_mul]
 exact tS
end Wi
theorem pU{l:List UInt8}{p i:Nat}{x:UInt8}(h:l[p+i]?=some x):(l.drop p).take (i+1)=(l.drop p).take i++[x]:=by
 rw[List.take_add_one,List.getElem?_drop,h];rfl
theorem D4(base g:Nat)(A:Option Addr)(c:Nat)(l:List UInt8)(p k:Nat)(w:World)(h:Rdr w base g A c l p)(hp:p≤l.length)(hk:l.length<p+k)(hl:l.length≤100000000):
  Cl 324 #[.pointer (some ⟨g,0,none⟩),.int .i64 (k:Int)] w fun e w'=>e=.returned (.tuple #[.int .u64 0,.int .i64 20])∧∃q,w'=w.drewN q:=by
 obtain⟨m,hm⟩:∃m,p+m=l.length:=⟨l.length-p,oq⟩;have HL:=Oh (fj base g A c l p m w h hm hl);have hd:decide ((m:Int)<(k:Int))=true:=sq;have Rk:decide (m<k)=true:=sq;clear h hp hk hm;go_enter func324,ntmps324;go_wp2_with fail;refine HL.out.mono ?_;rintro e w1 ⟨rfl,q,rfl⟩;go_wp2_with fail;go_ret2;exact⟨rfl,q,rfl⟩
theorem DJ{l:List UInt8}{p i:Nat}{x:UInt8}(hx:l[p+i]?=some x)(hi:i<8):bits .or .u64 ((lov ((l.drop p).take i):Nat):Int) ((x.toNat*256^i:Nat):Int)=((lov ((l.drop p).take (i+1)):Nat):Int):=by
 have hl:p+i<l.length:=(List.getElem?_eq_some_iff.1 hx).1;have hlen:((l.drop p).take i).length=i:=by rw[List.length_take,List.length_drop];omega
 have h1:=lY ((l.drop p).take i);rw[hlen] at h1;have h2:=x.toNat_lt;have e2:(256:Nat)^i≤256^7:=Nat.pow_le_pow_right od oq;have e3:x.toNat*256^i≤255*256^7:=Nat.mul_le_mul oq e2;rw[u64_or_nat _ _ oq oq,Fy h1,pU hx,vJ,hlen]
theorem GV(x i:Nat)(hi:i<8)(hx:x<256):IntKind.u64.wrap (IntKind.u64.wrap (x:Int)*2^(8*i))=((x*256^i:Nat):Int):=by
 have e2:(256:Nat)^i≤256^7:=Nat.pow_le_pow_right od oq;have e3:x*256^i≤255*256^7:=Nat.mul_le_mul oq e2
 have e4:(x:Int)*2^(8*i)=((x*256^i:Nat):Int):=by
  rw[show(256:Nat)=2^8 from rfl,←Nat.pow_mul,Int.natCast_mul,Int.natCast_pow];rfl
 rw[IntWalk.u64_in (x:Int) ⟨oq,oq⟩,e4,IntWalk.u64_in _ ⟨oq,oq⟩]
theorem KQ(base g:Nat)(A:Option Addr)(c:Nat)(l:List UInt8)(p k:Nat)(w:World)(h:Rdr w base g A c l p)(hp:p+k≤l.length)(hk:k≤8)(hl:l.length≤100000000):
  Cl 324 #[.pointer (some ⟨g,0,none⟩),.int .i64 (k:Int)] w fun e w'=>e=.returned (.tuple #[.int .u64 (lov ((l.drop p).take k):Nat),.int .i64 0])∧Rdr w' base g A c l (p+k)∧ab (RK g) w w':=by
 obtain⟨m,hm⟩:∃m,p+m=l.length:=⟨l.length-p,oq⟩;have HL:=Oh (fj base g A c l p m w h hm hl);have hd:decide ((m:Int)<(k:Int))=false:=sq;have Rk:decide (m<k)=false:=sq;have OZ:(k:Int)≤8:=oq;have H:=Oh h;have HP:=Oh hp;clear h hm;go_enter func324,ntmps324;go_wp2_with fail;refine HL.out.mono ?_;rintro e w1 ⟨rfl,q0,rfl⟩;go_wp2_with fail;go_loopw [6,13] (fun u v wr=>∃(i q:Nat),v=.int .i64 (i:Int)∧u=.int .u64 (lov ((l.drop p).take i):Nat)∧i≤k∧wr=w.drewN q) (fun _ v _=>k-(intOf v).toNat)
 case atStart=>exact⟨0,q0,rfl,rfl,Nat.zero_le _,rfl⟩
 case round=>
  obtain⟨i,q,rfl,rfl,hi,rfl⟩:=hrel;obtain⟨wo,Q7⟩:=nm (w.drewN q:World);have hR:Rdr wo base g A c l p:=by rw[Q7];exact⟨H.out.1.drewN q,H.out.2⟩
  rw[←Q7];have Uz:=Oh Q7;clear Q7;have c0:=hR.1.c0;have c1:=hR.1.c1;have fr:=hR.1.free
  by_cases hlt:i<k
  ·have Ri:(i:Int)<(k:Int):=oq;have QY:p+i<l.length:=by have:=HP.out;omega
   obtain⟨gb,hA,_,_,_,hcl,_⟩:=Own.form (show Own wo base 5 1 A l.length c (bvs l) from hR.2) oq;subst hA;obtain⟨x,hx⟩:=gs l (p+i) QY;have d0:=hcl (p+i) (.int .u8 (x.toNat:Int)) (by simp only[bvs,List.getElem?_map,hx,bv,Option.map_some]);obtain⟨j,hj⟩:=nm (p+i);have ej:IntKind.i64.wrap ((p:Int)+(i:Int))=(j:Int):=by rw[i6];omega
   have ej2:(p:Int)+(i:Int)=(j:Int):=oq;rw[←hj] at d0;have Qi:(j:Int)<(l.length:Int):=oq;have Yc:(0:Int)≤(j:Int):=oq;have XP:=DJ hx (show i<8 by omega);rw[←GV x.toNat i oq x.toNat_lt] at XP;have HOR:=Oh XP;have HI:=Oh hlt;generalize lov ((l.drop p).take i)=n0 at*;exact ue
  ·exact uS
namespace Wi
def hov(l:List UInt8):Nat:=lov l.reverse
theorem Eb(l:List UInt8)(x:UInt8):hov (l++[x])=x.toNat+256*hov l:=by
 unfold hov;rw[List.reverse_append];rfl
end Wi
theorem Ec{l:List UInt8}{p i:Nat}{x:UInt8}(hx:l[p+i]?=some x)(hi:i<8):bits .or .u64 (IntKind.u64.wrap (((hov ((l.drop p).take i):Nat):Int)*256)) (IntKind.u64.wrap (x.toNat:Int))=((hov ((l.drop p).take (i+1)):Nat):Int):=by
 have hl:p+i<l.length:=(List.getElem?_eq_some_iff.1 hx).1;have hlen:((l.drop p).take i).reverse.length=i:=by rw[List.length_reverse,List.length_take,List.length_drop];omega
 have h1:hov ((l.drop p).take i)<256^i:=by
  have:=lY ((l.drop p).take i).reverse;rw[hlen] at this;exact this
 have h2:=x.toNat_lt;have e2:(256:Nat)^i≤256^7:=Nat.pow_le_pow_right od oq;rw[pU hx,Eb];generalize hov ((l.drop p).take i)=n0 at*;rw[show(n0:Int)*256=((n0*256:Nat):Int) by omega,IntWalk.u64_in _ ⟨oq,oq⟩,IntWalk.u64_in (x.toNat:Int) ⟨oq,oq⟩,u64_or_nat _ _ oq oq,Nat.or_comm];have h3:=Fy (a:=x.toNat) (b:=n0) (i:=1) oq;rw[Nat.pow_one] at h3;rw[h3];omega
theorem AH(base g:Nat)(A:Option Addr)(c:Nat)(l:List UInt8)(p k:Nat)(w:World)(h:Rdr w base g A c l p)(hp:p≤l.length)(hk:l.length<p+k)(hl:l.length≤100000000):
  Cl 326 #[.pointer (some ⟨g,0,none⟩),.int .i64 (k:Int)] w fun e w'=>e=.returned (.tuple #[.int .u64 0,.int .i64 20])∧∃q,w'=w.drewN q:=by
 obtain⟨m,hm⟩:∃m,p+m=l.length:=⟨l.length-p,oq⟩;have HL:=Oh (fj base g A c l p m w h hm hl);have hd:decide ((m:Int)<(k:Int))=true:=sq;have Rk:decide (m<k)=true:=sq;clear h hp hk hm;go_enter func326,ntmps326;go_wp2_with fail;refine HL.out.mono ?_;rintro e w1 ⟨rfl,q,rfl⟩;go_wp2_with fail;go_ret2;exact⟨rfl,q,rfl⟩
theorem Ha(base g:Nat)(A:Option Addr)(c:Nat)(l:List UInt8)(p k:Nat)(w:World)(h:Rdr w base g A c l p)(hp:p+k≤l.length)(hk:k≤8)(hl:l.length≤100000000):
  Cl 326 #[.pointer (some ⟨g,0,none⟩),.int .i64 (k:Int)] w fun e w'=>e=.returned (.tuple #[.int .u64 (hov ((l.drop p).take k):Nat),.int .i64 0])∧Rdr w' base g A c l (p+k)∧ab (RK g) w w':=by
 obtain⟨m,hm⟩:∃m,p+m=l.length:=⟨l.length-p,oq⟩;have HL:=Oh (fj base g A c l p m w h hm hl);have hd:decide ((m:Int)<(k:Int))=false:=sq;have Rk:decide (m<k)=false:=sq;have OZ:(k:Int)≤8:=oq;have H:=Oh h;have HP:=Oh hp;clear h hm;go_enter func326,ntmps326;go_wp2_with fail;refine HL.out.mono ?_;rintro e w1 ⟨rfl,q0,rfl⟩;go_wp2_with fail;go_loopw [6,13] (fun u v wr=>∃(i q:Nat),v=.int .i64 (i:Int)∧u=.int .u64 (hov ((l.drop p).take i):Nat)∧i≤k∧wr=w.drewN q) (fun _ v _=>k-(intOf v).toNat)
 case atStart=>exact⟨0,q0,rfl,rfl,Nat.zero_le _,rfl⟩
 case round=>
  obtain⟨i,q,rfl,rfl,hi,rfl⟩:=hrel;obtain⟨wo,Q7⟩:=nm (w.drewN q:World);have hR:Rdr wo base g A c l p:=by rw[Q7];exact⟨H.out.1.drewN q,H.out.2⟩
  rw[←Q7];have Uz:=Oh Q7;clear Q7;have c0:=hR.1.c0;have c1:=hR.1.c1;have fr:=hR.1.free
  by_cases hlt:i<k
  ·have Ri:(i:Int)<(k:Int):=oq;have QY:p+i<l.length:=by have:=HP.out;omega
   obtain⟨gb,hA,_,_,_,hcl,_⟩:=Own.form (show Own wo base 5 1 A l.length c (bvs l) from hR.2) oq;subst hA;obtain⟨x,hx⟩:=gs l (p+i) QY;have d0:=hcl (p+i) (.int .u8 (x.toNat:Int)) (by simp only[bvs,List.getElem?_map,hx,bv,Option.map_some]);obtain⟨j,hj⟩:=nm (p+i);have ej:IntKind.i64.wrap ((p:Int)+(i:Int))=(j:Int):=by rw[i6];omega
   have ej2:(p:Int)+(i:Int)=(j:Int):=oq;rw[←hj] at d0;have Qi:(j:Int)<(l.length:Int):=oq;have Yc:(0:Int)≤(j:Int):=oq;have XP:=Ec hx (show i<8 by omega);have HOR:=Oh XP;have HI:=Oh hlt;generalize hov ((l.drop p).take i)=n0 at*;exact ue
  ·exact uS
namespace Wi
def ci(i n:Nat):List UInt8→Nat×Nat×Nat
 | []=>(20,0,0)
 |x::l=>if i=9∧1<x.toNat then(21,0,0) else if 127<x.toNat then ci (i+1) (n+x.toNat%128*128^i) l else if x.toNat=0∧0<i then(21,0,0) else(0,n+x.toNat%128*128^i,i+1)
theorem Fz{a b i:Nat}(ha:a<128^i):a|||b*128^i=a+b*128^i:=by
 have e:(128:Nat)^i=2^(7*i):=by rw[show(128:Nat)=2^7 from rfl,←Nat.pow_mul]
 exact tS
end Wi
theorem sx{n x i:Nat}(hn:n<128^i):n+x%128*128^i<128^(i+1):=by
 have h:x%128*128^i≤127*128^i:=Nat.mul_le_mul_right _ oq;rw[Nat.pow_succ];omega
theorem MB{y:Nat}(hy:y<256):bits .and .u8 (y:Int) 127=((y%128:Nat):Int):=by
 rw[show(127:Int)=((127:Nat):Int) from rfl,u8_and_nat _ _ hy oq]
 congr 1
 exact Nat.and_two_pow_sub_one_eq_mod y 7
theorem FG{n y i:Nat}(hn:n<128^i)(hy:y<256)(hi:i≤9)(h9:i=9→y≤1):bits .or .u64 (n:Int) (IntKind.u64.wrap (IntKind.u64.wrap (bits .and .u8 (y:Int) 127)*2^(7*i)))=((n+y%128*128^i:Nat):Int):=by
 have e3:y%128*128^i<18446744073709551616∧n<18446744073709551616:=by
  rcases Nat.lt_or_ge i 9 with h|h
  ·have e2:(128:Nat)^i≤128^8:=Nat.pow_le_pow_right od oq;have e4:y%128*128^i≤127*128^8:=Nat.mul_le_mul oq e2;exact⟨oq,oq⟩
  ·obtain rfl:i=9:=oq;have:=h9 rfl;have e4:y%128*128^9≤1*128^9:=Nat.mul_le_mul oq (Oi _);exact⟨oq,oq⟩
 have e4:((y%128:Nat):Int)*2^(7*i)=((y%128*128^i:Nat):Int):=by
  rw[show(128:Nat)^i=2^(7*i) by rw[show(128:Nat)=2^7 from rfl,←Nat.pow_mul],Int.natCast_mul,Int.natCast_pow];rfl
 rw[MB hy,IntWalk.u64_in ((y%128:Nat):Int) ⟨oq,oq⟩,e4,IntWalk.u64_in _ ⟨oq,oq⟩,u64_or_nat _ _ e3.2 e3.1,Fz hn]
theorem yw{w wo:World}{base g c q m p:Nat}{A:Option Addr}{l:List UInt8}(h:Rdr wo base g A c l p)(hw:wo=w.drewN q)(k:Nat){v:Int}(hv:v=((p+k:Nat):Int)):
  Rdr ((wo.drewN m).setCell ⟨g,1,none⟩ (.int .i64 v)) base g A c l (p+k)∧ab (RK g) w ((wo.drewN m).setCell ⟨g,1,none⟩ (.int .i64 v)):=by
 subst hv;have hr:Rdr (wo.drewN m) base g A c l p:=⟨h.1.drewN m,h.2⟩;have PR:ab (RK g) w (wo.drewN m):=by rw[hw];exact((ab.refl _ _).drewN q).drewN m
 refine⟨hr.moved ?_ ((ab.refl (RK g) _).set (p:=⟨g,1,none⟩) (.inl rfl) _),PR.set (p:=⟨g,1,none⟩) (.inl rfl) _⟩;have h1:=hr.1.put 1 (.int .i64 ((p+k:Nat):Int));simpa using h1
def ig(base g:Nat)(A:Option Addr)(c:Nat)(l:List UInt8)(p:Nat)(r:Nat×Nat×Nat)(w:World)(e:Ending)(w':World):Prop:=
 e=.returned (.tuple #[.int .u64 (r.2.1:Nat),.int .i64 (r.1:Nat)])∧Rdr w' base g A c l (p+r.2.2)∧ab (RK g) w w'
theorem Fu(base g:Nat)(A:Option Addr)(c:Nat)(l:List UInt8)(p:Nat)(k:Int)(w:World)(h:Rdr w base g A c l p)(hp:p≤l.length)(hl:l.length≤100000000):
  Cl 328 #[.pointer (some ⟨g,0,none⟩),.int .i64 k] w (ig base g A c l p (ci 0 0 (l.drop p)) w):=by
 have H:=Oh h;have HP:=Oh hp;obtain⟨R,hR⟩:=nm (ci 0 0 (l.drop p));rw[←hR];have HR0:=Oh hR;clear h hR;go_enter func328,ntmps328;go_wp2_with fail;go_loopw [6,7] (fun u v wr=>∃(i n q:Nat),v=.int .i64 (i:Int)∧u=.int .u64 (n:Int)∧i≤9∧n<128^i∧p+i≤l.length∧R=ci i n (l.drop (p+i))∧wr=w.drewN q) (fun _ v _=>10-(intOf v).toNat)
 case atStart=>exact⟨0,0,0,rfl,rfl,oq,od,HP.out,HR0.out,rfl⟩
 case round=>
  obtain⟨i,n,q,rfl,rfl,hi,hn,QY,hR,rfl⟩:=hrel;obtain⟨wo,Q7⟩:=nm (w.drewN q:World);have UX:Rdr wo base g A c l p:=by rw[Q7];exact⟨H.out.1.drewN q,H.out.2⟩
  rw[←Q7];have Uz:=Oh Q7;clear Q7;have c0:=UX.1.c0;have c1:=UX.1.c1;have fr:=UX.1.free;obtain⟨j,hj⟩:=nm (p+i);have ej:IntKind.i64.wrap ((p:Int)+(i:Int))=(j:Int):=by rw[i6];omega
  have ej2:(p:Int)+(i:Int)=(j:Int):=oq;have Yc:(0:Int)≤(j:Int):=oq;have hi9:(i:Int)≤9:=oq;rw[←hj] at hR QY;have hjb:(j:Int)≤100000000:=oq
  by_cases hlt:j<l.length
  ·have aaw:(j:Int)<(l.length:Int):=oq;obtain⟨gb,hA,_,_,_,hcl,_⟩:=Own.form (show Own wo base 5 1 A l.length c (bvs l) from UX.2) oq;subst hA;obtain⟨x,hx⟩:=gs l j hlt;have d0:=hcl j (.int .u8 (x.toNat:Int)) (by simp only[bvs,List.getElem?_map,hx,bv,Option.map_some])
   have Ot:R=if i=9∧1<x.toNat then(21,0,0) else if 127<x.toNat then ci (i+1) (n+x.toNat%128*128^i) (l.drop (j+1)) else if x.toNat=0∧0<i then(21,0,0) else(0,n+x.toNat%128*128^i,i+1):=by
    obtain⟨PT,e⟩:=List.getElem?_eq_some_iff.1 hx;rw[hR,List.drop_eq_getElem_cons PT,e];rfl
   have Pj:=x.toNat_lt;generalize x.toNat=y at*;have Ty:=Oh UX;clear hR hcl hx UX hp
   by_cases h9:i=9∧1<y
   ·rw[if_pos h9] at Ot;have e9:((i:Int)==9)=true:=sq;have e1:decide ((1:Int)<(y:Int))=true:=sq;have PY:=Oh Ot;clear Ot h9 hn hi hlt hj QY;exact kr
   ·rw[if_neg h9] at Ot
    have a2E:(n:Int)<9223372036854775808:=by
     have e:n<128^9:=Nat.lt_of_lt_of_le hn (Nat.pow_le_pow_right od hi);have e2:(128:Nat)^9=9223372036854775808:=by decide
     omega
    have e9:((i:Int)==9)=false∨(((i:Int)==9)=true∧decide ((1:Int)<(y:Int))=false):=by
     by_cases h9i:i=9
     ·exact .inr ⟨by simp;omega,by simp;omega⟩
     ·exact .inl sq
    have XP:=FG hn Pj hi oq;have HOR:=Oh XP
    by_cases hy:127<y
    ·rw[if_pos hy] at Ot;have e1:decide ((127:Int)<(y:Int))=true:=sq
     have a5P:i<9:=by
      rcases Nat.lt_or_ge i 9 with h|h
      ·exact h
      ·exact absurd ⟨oq,oq⟩ h9
     have e9:((i:Int)==9)=false:=sq;have HI:=Oh a5P;have PY:=Oh Ot;have HN:=Oh (sx (x:=y) hn);have HJ:=Oh hj;have HL:=Oh hlt;clear Ot h9 hn hi hj QY hy hlt a2E XP Pj a5P;exact uM
    ·rw[if_neg hy] at Ot;have e1:decide ((127:Int)<(y:Int))=false:=sq
     by_cases hz:y=0∧0<i
     ·rw[if_pos hz] at Ot;have e3:((y:Int)==0)=true:=sq;have e4:decide ((0:Int)<(i:Int))=true:=sq;have e5:decide (0<i)=true:=sq;have PY:=Oh Ot;clear Ot h9 hn hi hlt hj QY hy hz a2E XP Pj;rcases e9 with e9|⟨e9,e9b⟩
      all_goals
       exact kr
     ·rw[if_neg hz] at Ot
      have e3:((y:Int)==0)=false∨(((y:Int)==0)=true∧decide ((0:Int)<(i:Int))=false∧decide (0<i)=false):=by
       by_cases hy0:y=0
       ·exact .inr ⟨by simp;omega,by simp;omega,by simp;omega⟩
       ·exact .inl sq
      have hpb:(p:Int)≤100000000:=oq;have PY:=Oh Ot;clear Ot h9 hn hi hlt hj QY hy hz a2E XP Pj;rcases e9 with e9|⟨e9,e9b⟩<;>rcases e3 with e3|⟨e3,e3b,e3c⟩
      all_goals
       go_wp2_with fail;go_quiet (fail);go_wp2_with fail;go_quiet (fail);go_wp2_with fail;go_ret2;rw[PY.out];exact⟨by rw[HOR.out];rfl,yw Ty.out Uz.out (i+1) oq⟩
  ·exact tY
namespace Wi
theorem l6:∀(l:List UInt8) (i n:Nat),i≤9→n<128^i→(ci i n l).2.1<18446744073709551616
 | [],_,_,_,_=>by simp[ci]
 |x::l,i,n,hi,hn=>by
  have hx:=x.toNat_lt;unfold ci;split
  ·decide
  ·rename_i h9;split
   ·rename_i a02
    exact l6 l (i+1) _ (by
     rcases Nat.lt_or_ge i 9 with h|h
     ·omega
     ·exact absurd ⟨oq,oq⟩ h9) (sx hn)
   ·split
    ·decide
    ·show n+x.toNat%128*128^i<18446744073709551616;rcases Nat.lt_or_ge i 9 with h|h
     ·have e2:(128:Nat)^i≤128^8:=Nat.pow_le_pow_right od oq;have e4:x.toNat%128*128^i≤127*128^8:=Nat.mul_le_mul oq e2;omega
     ·obtain rfl:i=9:=oq;have e4:x.toNat%128*128^9≤1*128^9:=Nat.mul_le_mul oq (Oi _);omega
def jC(l:List UInt8):Nat×Nat×Nat:=((ci 0 0 l).1,cM (ci 0 0 l).2.1,(ci 0 0 l).2.2)
def cO(i n:Nat):List UInt8→Nat×Nat×Nat
 | []=>(20,0,0)
 |x::l=>if i=8 then(if x.toNat=0 then(21,0,0) else(0,cM (n+x.toNat*128^8),i+1)) else if 127<x.toNat then cO (i+1) (n+x.toNat%128*128^i) l else if x.toNat=0∧0<i then(21,0,0) else(0,cM (n+x.toNat%128*128^i),i+1)
end Wi
theorem xP{n:Nat}(hn:n<18446744073709551616):IntKind.u64.wrap (sg n)=(n:Int):=by
 rw[On];unfold sg;split<;>omega
theorem KP(base g:Nat)(A:Option Addr)(c:Nat)(l:List UInt8)(p:Nat)(k:Int)(w:World)(h:Rdr w base g A c l p)(hp:p≤l.length)(hl:l.length≤100000000):
  Cl 330 #[.pointer (some ⟨g,0,none⟩),.int .i64 k] w (ig base g A c l p (jC (l.drop p)) w):=by
 have HL:=Oh (Fu base g A c l p k w h hp hl);have hlt:=l6 (l.drop p) 0 0 od od;unfold jC;generalize ci 0 0 (l.drop p)=r at*;have hsg:=xP (eK hlt);have HU:=Oh (fun W=>nG r.2.1 W hlt);clear h hp hlt;obtain⟨re,rn,ru⟩:=r;dsimp only at hsg;go_enter func330,ntmps330;go_wp2_with fail;refine HL.out.mono ?_;rintro e w1 ⟨rfl,h1⟩;have H1:=Oh h1;clear h1;dsimp only;go_wp2_with fail;refine(HU.out _).mono ?_;rintro e w2 ⟨rfl,rfl⟩;dsimp only;go_wp2_with fail;go_ret2;exact⟨rfl,H1.out⟩
theorem Hx{n y:Nat}(hn:n<128^8)(hy:y<256):bits .or .u64 (n:Int) (IntKind.u64.wrap (IntKind.u64.wrap (y:Int)*72057594037927936))=((n+y*128^8:Nat):Int):=by
 have e4:(y:Int)*72057594037927936=((y*128^8:Nat):Int):=by rw[Int.natCast_mul];rfl
 rw[IntWalk.u64_in (y:Int) ⟨oq,oq⟩,e4,IntWalk.u64_in _ ⟨oq,oq⟩,u64_or_nat _ _ oq oq,Fz hn]
set_option maxHeartbeats 3200000 in
theorem GZ(base g:Nat)(A:Option Addr)(c:Nat)(l:List UInt8)(p:Nat)(k:Int)(w:World)(h:Rdr w base g A c l p)(hp:p≤l.length)(hl:l.length≤100000000):
  Cl 332 #[.pointer (some ⟨g,0,none⟩),.int .i64 k] w (ig base g A c l p (cO 0 0 (l.drop p)) w):=by
 have H:=Oh h;have HP:=Oh hp;obtain⟨R,hR⟩:=nm (cO 0 0 (l.drop p));rw[←hR];have HR0:=Oh hR;clear h hR;go_enter func332,ntmps332;go_wp2_with fail;go_loopw [6,9] (fun u v wr=>∃(i n q:Nat),v=.int .i64 (i:Int)∧u=.int .u64 (n:Int)∧i≤8∧n<128^i∧p+i≤l.length∧R=cO i n (l.drop (p+i))∧wr=w.drewN q) (fun _ v _=>9-(intOf v).toNat)
 case atStart=>exact⟨0,0,0,rfl,rfl,oq,od,HP.out,HR0.out,rfl⟩
 case round=>
  obtain⟨i,n,q,rfl,rfl,hi,hn,QY,hR,rfl⟩:=hrel;obtain⟨wo,Q7⟩:=nm (w.drewN q:World);have UX:Rdr wo base g A c l p:=by rw[Q7];exact⟨H.out.1.drewN q,H.out.2⟩
  rw[←Q7];have Uz:=Oh Q7;clear Q7;have c0:=UX.1.c0;have c1:=UX.1.c1;have fr:=UX.1.free;obtain⟨j,hj⟩:=nm (p+i);have ej:IntKind.i64.wrap ((p:Int)+(i:Int))=(j:Int):=by rw[i6];omega
  have ej2:(p:Int)+(i:Int)=(j:Int):=oq;have Yc:(0:Int)≤(j:Int):=oq;have hi9:(i:Int)<9:=oq;rw[←hj] at hR QY;have hjb:(j:Int)≤100000000:=oq
  by_cases hlt:j<l.length
  ·have aaw:(j:Int)<(l.length:Int):=oq;obtain⟨gb,hA,_,_,_,hcl,_⟩:=Own.form (show Own wo base 5 1 A l.length c (bvs l) from UX.2) oq;subst hA;obtain⟨x,hx⟩:=gs l j hlt;have d0:=hcl j (.int .u8 (x.toNat:Int)) (by simp only[bvs,List.getElem?_map,hx,bv,Option.map_some])
   have Ot:R=if i=8 then(if x.toNat=0 then(21,0,0) else(0,cM (n+x.toNat*128^8),i+1)) else if 127<x.toNat then cO (i+1) (n+x.toNat%128*128^i) (l.drop (j+1)) else if x.toNat=0∧0<i then(21,0,0) else(0,cM (n+x.toNat%128*128^i),i+1):=by
    obtain⟨PT,e⟩:=List.getElem?_eq_some_iff.1 hx;rw[hR,List.drop_eq_getElem_cons PT,e];rfl
   have Pj:=x.toNat_lt;generalize x.toNat=y at*;have Ty:=Oh UX;have hpb:(p:Int)≤100000000:=oq;clear hR hcl hx UX hp
   by_cases h8:i=8
   ·rw[if_pos h8] at Ot;have e8:((i:Int)==8)=true:=sq;have e8b:decide ((i:Int)<8)=false:=sq;have e4:decide ((0:Int)<(i:Int))=true:=sq;have e5:decide (0<i)=true:=sq;have hn8:n<128^8:=by rw[h8] at hn;exact hn
    have PG:n+y*128^8<18446744073709551616:=oq;have HOR:=Oh (Hx hn8 Pj)
    by_cases hz:y=0
    ·rw[if_pos hz] at Ot;have e3:((y:Int)==0)=true:=sq;have PY:=Oh Ot;clear Ot h8 hn hi hlt hj QY hz Pj hn8 PG;exact kr
    ·rw[if_neg hz] at Ot;have e3:((y:Int)==0)=false:=sq;have PY:=Oh Ot;have HU:=Oh (fun W=>nG _ W PG);have HSG:=Oh (xP (eK PG));clear Ot h8 hn hi hlt hj QY hz Pj hn8 PG;exact YtmbippkpjdoojaaGreat.u7
   ·rw[if_neg h8] at Ot;have e8:((i:Int)==8)=false:=sq;have e8b:decide ((i:Int)<8)=true:=sq;have HOR:=Oh (FG hn Pj oq (fun h=>by omega))
    have PG:n+y%128*128^i<18446744073709551616:=by
     have e2:(128:Nat)^i≤128^8:=Nat.pow_le_pow_right od oq;have e4:y%128*128^i≤127*128^8:=Nat.mul_le_mul oq e2;omega
    by_cases hy:127<y
    ·rw[if_pos hy] at Ot;have e1:decide ((127:Int)<(y:Int))=true:=sq;have HI:=Oh (show i<8 by omega);have PY:=Oh Ot;have HN:=Oh (sx (x:=y) hn);have HJ:=Oh hj;have HL:=Oh hlt;clear Ot h8 hn hi hj QY hy hlt Pj PG;exact uM
    ·rw[if_neg hy] at Ot;have e1:decide ((127:Int)<(y:Int))=false:=sq
     by_cases hz:y=0∧0<i
     ·rw[if_pos hz] at Ot;have e3:((y:Int)==0)=true:=sq;have e4:decide ((0:Int)<(i:Int))=true:=sq;have e5:decide (0<i)=true:=sq;have PY:=Oh Ot;clear Ot h8 hn hi hlt hj QY hy hz Pj PG;exact kr
     ·rw[if_neg hz] at Ot
      have e3:((y:Int)==0)=false∨(((y:Int)==0)=true∧decide ((0:Int)<(i:Int))=false∧decide (0<i)=false):=by
       by_cases hy0:y=0
       ·exact .inr ⟨by simp;omega,by simp;omega,by simp;omega⟩
       ·exact .inl sq
      have PY:=Oh Ot;have HU:=Oh (fun W=>nG _ W PG);have HSG:=Oh (xP (eK PG));clear Ot h8 hn hi hlt hj QY hy hz Pj PG;rcases e3 with e3|⟨e3,e3b,e3c⟩
      all_goals
       exact YtmbippkpjdoojaaGreat.u7
  ·exact tY
def ij(f:Frm)(l:List UInt8):Nat×Nat×Nat:=
 if f.2.2.2=324 then(if l.length<f.2.1 then(20,0,0) else(0,lov (l.take f.2.1),f.2.1))
 else if f.2.2.2=326 then(if l.length<f.2.1 then(20,0,0) else(0,hov (l.take f.2.1),f.2.1))
 else if f.2.2.2=328 then ci 0 0 l
 else if f.2.2.2=330 then jC l
 else cO 0 0 l
theorem JM(base g:Nat)(A:Option Addr)(c:Nat)(l:List UInt8)(p k:Nat)(w:World)(h:Rdr w base g A c l p)(hp:p≤l.length)(hk:k≤8)(hl:l.length≤100000000):
  Cl 324 #[.pointer (some ⟨g,0,none⟩),.int .i64 (k:Int)] w (ig base g A c l p (if(l.drop p).length<k then(20,0,0) else(0,lov ((l.drop p).take k),k)) w):=by
 have hd:(l.drop p).length=l.length-p:=List.length_drop;split
 ·refine(D4 base g A c l p k w h hp oq hl).mono ?_;rintro e w' ⟨rfl,q,rfl⟩;exact⟨rfl,⟨h.1.drewN q,h.2⟩,(ab.refl _ _).drewN q⟩
 ·exact KQ base g A c l p k w h oq hk hl
theorem G9(base g:Nat)(A:Option Addr)(c:Nat)(l:List UInt8)(p k:Nat)(w:World)(h:Rdr w base g A c l p)(hp:p≤l.length)(hk:k≤8)(hl:l.length≤100000000):
  Cl 326 #[.pointer (some ⟨g,0,none⟩),.int .i64 (k:Int)] w (ig base g A c l p (if(l.drop p).length<k then(20,0,0) else(0,hov ((l.drop p).take k),k)) w):=by
 have hd:(l.drop p).length=l.length-p:=List.length_drop;split
 ·refine(AH base g A c l p k w h hp oq hl).mono ?_;rintro e w' ⟨rfl,q,rfl⟩;exact⟨rfl,⟨h.1.drewN q,h.2⟩,(ab.refl _ _).drewN q⟩
 ·exact Ha base g A c l p k w h oq hk hl
theorem IP{k:Nat}{f:Frm}(hf:di[k]?=some f)(base g:Nat)(A:Option Addr)(c:Nat)(l:List UInt8)(p:Nat)(w:World)(h:Rdr w base g A c l p)(hp:p≤l.length)(hl:l.length≤100000000):
  Cl f.2.2.2 #[.pointer (some ⟨g,0,none⟩),.int .i64 (f.2.1:Int)] w (ig base g A c l p (ij f (l.drop p)) w):=by
 have hk:k<10:=(List.getElem?_eq_some_iff.1 hf).1;rcases k with _|_|_|_|_|_|_|_|_|_|k
 ·injection hf with hf;subst hf;exact JM base g A c l p 1 w h hp oq hl
 ·injection hf with hf;subst hf;exact JM base g A c l p 2 w h hp oq hl
 ·injection hf with hf;subst hf;exact G9 base g A c l p 2 w h hp oq hl
 ·injection hf with hf;subst hf;exact JM base g A c l p 4 w h hp oq hl
 ·injection hf with hf;subst hf;exact G9 base g A c l p 4 w h hp oq hl
 ·injection hf with hf;subst hf;exact JM base g A c l p 8 w h hp oq hl
 ·injection hf with hf;subst hf;exact G9 base g A c l p 8 w h hp oq hl
 ·injection hf with hf;subst hf;exact Fu base g A c l p _ w h hp hl
 ·injection hf with hf;subst hf;exact KP base g A c l p _ w h hp hl
 ·injection hf with hf;subst hf;exact GZ base g A c l p _ w h hp hl
 ·omega
theorem yu{w w':World}{XR cs:Array Value}{t:TypeId}(h:w'=(w.alloc (.cells XR t)).setRow w.heap.size cs):Blk w' w.heap.size t cs:=by
 rw[h];exact setRow_heap _ _ _ _ t _ (heap_alloc_new _ _)
theorem qc{B:Nat}{a w:World}(h:Below B a w)(hB:B≤w.heap.size)(o:Obj)(cs:Array Value):Below B a ((w.alloc o).setRow w.heap.size cs):=
 below_setRow (h.alloc hB _) hB _
theorem BH{k:Nat}{f:Frm}(hf:di[k]?=some f):∀(args:Array Value) (w:World),(callFunc f.2.2.2 args).run prog w=.ok (.enter f.2.2.2 args) w:=by
 exact uY
theorem BG{k:Nat}{f:Frm}(hf:di[k]?=some f):∀(args:Array Value) (w:World),(callFunc f.2.2.1 args).run prog w=.ok (.enter f.2.2.1 args) w:=by
 exact uY
theorem jg(base g:Nat)(A:Option Addr)(c:Nat)(l:List UInt8)(p:Nat)(x:Nat)(w:World)(h:Rdr w base g A c l p)(hp:p≤l.length)(hl:l.length≤100000000){f:Frm}(hf:di[fi x]?=some f):
  Cl 223 #[.pointer (some ⟨g,0,none⟩),.int .u8 (x:Int)] w (ig base g A c l p (ij f (l.drop p)) w):=by
 have H:=Oh h;have HF:=Oh hf;have HP:=Oh hp;clear h hf hp;go_enter func223,ntmps223;go_wp2_with fail;refine(oC x w).mono ?_;rintro e w1 ⟨hc,eQ⟩;have aS:=Oh eQ;clear eQ;rcases hc with⟨f',Wq,rfl⟩|⟨VQ,rfl⟩
 ·obtain rfl:f'=f:=by
   have:=HF.out;rw[Wq] at this;injection this
  clear Wq;obtain⟨W2,Pe⟩:=nm ((w1.alloc (.cells eS.toArray 256)).setRow w1.heap.size (kh f').toArray);have B2:=yu Pe;have c1:=B2.c1;have c3:=B2.c3;have Te:Below w.heap.size w W2:=by rw[Pe];exact qc aS.out aS.out.size _ _
  have HG:=Oh (IP HF.out base g A c l p W2 (H.out.below Te) HP.out hl);have Sr:=Oh (ab.of_below (K:=RK g) Te);rw[Pe] at c1 c3 HG Sr;unfold eS at c1 c3 HG Sr;unfold fn0 at c3;have aax:=BH HF.out;clear B2 Te Pe W2;unfold xM;go_wp2_with (first|(refine wpList_store_row rfl 256 _ _ rfl w1.heap.size (kh f').toArray rfl rfl 256 _ (heap_alloc_new _ _) gH rfl (kF _) ?_)|fail);refine HG.out.mono ?_;rintro e w3 ⟨rfl,h3,h4⟩;have H3:=Oh h3;have H4:=Oh h4;clear h3 h4 c1 c3;go_wp2_with fail;go_ret2;exact⟨rfl,H3.out,Sr.out.trans H4.out⟩
 ·exfalso;have:=(List.getElem?_eq_some_iff.1 HF.out).1;have e:di.length=10:=rfl;omega
end
end Go.Proofs.YtmbippkpjdoojaaGreat
