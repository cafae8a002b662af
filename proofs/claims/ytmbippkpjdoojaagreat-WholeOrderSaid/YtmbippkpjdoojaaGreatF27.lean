/- Parts of a proof, merged. -/
import Derived.Test.YtmbippkpjdoojaaGreatF26
set_option maxRecDepth 100000
set_option maxHeartbeats 1600000
namespace Go.Proofs.YtmbippkpjdoojaaGreat
open Tryz
open Go.RowKit
namespace Pl
def eu(L:List Pr):Option Pr→List Pr
 |none=>L
 |some p=>put L p.1 p.2
def lst(ev:Nat→Option Pr)(p:Nat→Bool):Nat→List Pr
 |0=>[]
 |i+1=>if p i then eu (lst ev p i) (ev i) else lst ev p i
def ck(k:Int):Option Pr→Nat
 |none=>0
 |some p=>if p.1=k then p.2 else 0
def iY(f:Nat→Nat):Nat→Nat
 |0=>0
 |i+1=>iY f i+f i
theorem wu(f g:Nat→Nat)(n:Nat):iY (fun i=>f i+g i) n=iY f n+iY g n:=by
 induction n with
 |zero=>rfl
 |succ n ih=>simp only[iY,ih];omega
theorem nC{f g:Nat→Nat}{n:Nat}(h:∀i,i<n→f i=g i):iY f n=iY g n:=by
 induction n with
 |zero=>rfl
 |succ n ih=>rw[iY,iY,ih (fun i hi=>h i oq),h n oq]
theorem xx(f:Nat→Nat)(n:Nat):iY f (n+1)=f 0+iY (fun i=>f (i+1)) n:=by
 induction n with
 |zero=>simp[iY]
 |succ n ih=>rw[iY,ih,iY];omega
theorem BX(f:Nat→Nat)(n:Nat):iY (fun i=>f (n-1-i)) n=iY f n:=by
 induction n with
 |zero=>rfl
 |succ n ih=>
  rw[xx,iY,←ih,Nat.add_comm]
  congr 1
  exact nC fun i hi=>by congr 1;omega
structure jF(L:List Pr):Prop where
 srt:Srt L
 pos:Pos L
theorem C8{L:List Pr}(h:jF L){e:Option Pr}(he:∀p,e=some p→0<p.2):jF (eu L e):=by
 cases e with
 |none=>exact h
 |some p=>exact⟨jo h.srt,mE h.pos (he p rfl)⟩
theorem F8{L:List Pr}(h:jF L)(e:Option Pr)(k:Int):cnt (eu L e) k=cnt L k+ck k e:=by
 cases e with
 |none=>rfl
 |some p=>
  show cnt (put L p.1 p.2) k=cnt L k+if p.1=k then p.2 else 0
  rw[mF h.srt]
  by_cases hk:k=p.1
  ·rw[if_pos hk,if_pos hk.symm]
  ·rw[if_neg hk,if_neg (fun e=>hk e.symm)]
theorem eY{ev:Nat→Option Pr}(p:Nat→Bool)(n:Nat)(he:∀i q,ev i=some q→0<q.2):jF (lst ev p n):=by
 induction n with
 |zero=>exact⟨Srt.nil,Pos.nil⟩
 |succ n ih=>
  unfold lst;split
  ·exact C8 ih (he n)
  ·exact ih
theorem js{ev:Nat→Option Pr}(p:Nat→Bool)(n:Nat)(he:∀i q,ev i=some q→0<q.2)(k:Int):cnt (lst ev p n) k=iY (fun i=>if p i then ck k (ev i) else 0) n:=by
 induction n with
 |zero=>rfl
 |succ n ih=>
  have hg:=eY p n he;unfold lst iY;split
  ·rw[F8 hg,ih]
  ·rw[ih];rfl
theorem vV{L M:List Pr}(h:jF L)(k:jF M)(e:∀j,cnt L j=cnt M j):L=M:=ext h.srt h.pos k.srt k.pos e
theorem lu{L M:List Pr}(h:jF L)(k:jF M):jF (az L M):=by
 obtain⟨a,b,_⟩:=cm h.srt h.pos k.pos;exact⟨a,b⟩
theorem DG{ev:Nat→Option Pr}(n:Nat)(he:∀i q,ev i=some q→0<q.2):lst (fun i=>ev (n-1-i)) (fun _=>true) n=lst ev (fun _=>true) n:=by
 refine vV (eY _ _ fun i=>he _) (eY _ _ he) fun j=>?_;rw[js _ _ (fun i=>he _),js _ _ he];simp only[if_true];exact BX (fun i=>ck j (ev i)) n
theorem Bi{ev:Nat→Option Pr}(t:Nat→Nat)(n:Nat)(he:∀i q,ev i=some q→0<q.2)(ht:∀i,i<n→t i=1∨t i=2∨t i=3):
  az (lst ev (fun i=>t i==2) n) (az (lst ev (fun i=>t i==3) n) (lst ev (fun i=>t i==1) n))=lst ev (fun _=>true) n:=by
 have g1:=eY (ev:=ev) (fun i=>t i==1) n he;have g2:=eY (ev:=ev) (fun i=>t i==2) n he;have g3:=eY (ev:=ev) (fun i=>t i==3) n he;refine vV (lu g2 (lu g3 g1)) (eY _ _ he) fun j=>?_;rw[gu g2.srt (lu g3 g1).srt,gu g3.srt g1.srt,js _ _ he,js _ _ he,js _ _ he,js _ _ he,←wu,←wu];refine nC fun i hi=>?_;rcases ht i hi with h|h|h<;>simp[h]
def mx(b0:Nat)(f:Nat→Nat)(p:Nat→Bool):Nat→Nat
 |0=>b0
 |i+1=>if p i then max (mx b0 f p i) (f i) else mx b0 f p i
theorem ri{b0:Nat}{f:Nat→Nat}{p:Nat→Bool}{n x:Nat}:mx b0 f p n≤x↔b0≤x∧∀i,i<n→p i=true→f i≤x:=by
 induction n with
 |zero=>simp[mx]
 |succ n ih=>
  unfold mx;split
  ·rename_i hp;rw[Nat.max_le,ih];constructor
   ·rintro⟨⟨a,b⟩,c⟩;refine⟨a,fun i hi QY=>?_⟩;rcases Nat.lt_succ_iff_lt_or_eq.1 hi with h|rfl
    ·exact b i h QY
    ·exact c
   ·rintro⟨a,b⟩;exact⟨⟨a,fun i hi=>b i oq⟩,b n oq hp⟩
  ·rename_i hp;rw[ih];constructor
   ·rintro⟨a,b⟩;refine⟨a,fun i hi QY=>?_⟩;rcases Nat.lt_succ_iff_lt_or_eq.1 hi with h|rfl
    ·exact b i h QY
    ·exact absurd QY hp
   ·rintro⟨a,b⟩;exact⟨a,fun i hi=>b i oq⟩
theorem kb{a b:Nat}(h:∀x,a≤x↔b≤x):a=b:=Nat.le_antisymm ((h b).2 (Oi _)) ((h a).1 (Oi _))
theorem Hy(b0:Nat)(f:Nat→Nat)(n:Nat):mx b0 (fun i=>f (n-1-i)) (fun _=>true) n=mx b0 f (fun _=>true) n:=by
 refine kb fun x=>?_;rw[ri,ri];refine and_congr_right fun _=>⟨fun h i hi _=>?_,fun h i hi _=>h _ oq rfl⟩;have:=h (n-1-i) oq rfl
 rwa [show n-1-(n-1-i)=i by omega] at this
theorem Dy(b0:Nat)(f:Nat→Nat)(t:Nat→Nat)(n:Nat)(ht:∀i,i<n→t i=1∨t i=2∨t i=3):
  max (mx b0 f (fun i=>t i==2) n) (max (mx b0 f (fun i=>t i==3) n) (mx b0 f (fun i=>t i==1) n))=mx b0 f (fun _=>true) n:=by
 refine kb fun x=>?_;rw[Nat.max_le,Nat.max_le,ri,ri,ri,ri];constructor
 ·rintro⟨⟨a,h2⟩,⟨_,h3⟩,⟨_,h1⟩⟩;refine⟨a,fun i hi _=>?_⟩;rcases ht i hi with h|h|h
  ·exact h1 i hi (by simp[h])
  ·exact h2 i hi (by simp[h])
  ·exact h3 i hi (by simp[h])
 ·rintro⟨a,h⟩;exact⟨⟨a,fun i hi _=>h i hi rfl⟩,⟨a,fun i hi _=>h i hi rfl⟩,⟨a,fun i hi _=>h i hi rfl⟩⟩
end Pl
section
open Pl Sc Wi
structure KO(sp:Array Value)(E:Nat→List Pr→Ent→Prop)(b0:Nat)(QK:Int→Nat→Option Pr)(fF:Int→Nat→Nat)(inv:Nat→Nat→List Pr→Prop)(cdF:Nat→List Pr→Int→Nat→Int)(txt:Nat→Nat→List Pr→List UInt8):Prop where
 make:∀w,Cl 65 #[.agg sp] w (eH (E b0 []) w)
 inv0:inv 0 b0 []
 invS:∀j b L,inv j b L→inv (j+1) b L
 invA:∀j b L v n,inv j b L→j<40→InI v→n<1000000→inv (j+1) (max b (fF v n)) (eu L (QK v n))
 invT:∀j k b L b2 L2,inv j b L→inv k b2 L2→j+k≤120→inv (j+k) (max b b2) (az L L2)
 pos:∀v n q,QK v n=some q→0<q.2
 add:∀j b L v (n:Nat) w e co,inv j b L→j<40→InI v→n<1000000→E b L e→ar e.I e.F w→Cl 67 #[.pointer (some ⟨e.p,0,none⟩),.int .i64 v,.int .u64 (n:Int),co] w fun o w'=>o=.returned (.int .i64 (cdF b L v n))∧cT (E (max b (fF v n)) (eu L (QK v n))) e.p e.F w w'
 take:∀j k b L b2 L2 w e e2 co,inv j b L→inv k b2 L2→j+k≤120→E b L e→ar e.I e.F w→E b2 L2 e2→ar e2.I e2.F w→(∀i,e.F i→¬e2.F i)→Cl 69 #[.pointer (some ⟨e.p,0,none⟩),.pointer (some ⟨e2.p,0,none⟩),co] w fun o w'=>o=.returned (.int .i64 0)∧cT (E (max b b2) (az L L2)) e.p e.F w w'
 wrap:∀j b L (v:Nat) w e,inv j b L→j≤120→(v=1∨v=2∨v=3)→E b L e→ar e.I e.F w→Cl 17 #[.pointer (some ⟨e.p,0,none⟩),.int .i64 (v:Int)] w fun o w'=>∃A c,o=.returned (.tuple #[.slice A (txt v b L).length c,.int .i64 0])∧ak w' w.heap.size A c (txt v b L)∧Below w.heap.size w w'
def dEv(a:Nat)(v:Int)(n:Nat):Option Pr:=if n=0 then none else if v= -9223372036854775808 then none else some (jQ a v,n)
def dCd(v:Int)(n:Nat):Int:=if n=0 then 4 else if v= -9223372036854775808 then 5 else 0
theorem oE{L:List Pr}{i a:Nat}(h:Few L i a):Few L (i+1) a:=⟨h.fine,Nat.le_succ_of_le h.len,Oo h.tot (Nat.mul_le_mul_left _ (Nat.le_succ i)),h.keys⟩
theorem vZ{L M:List Pr}{i j a:Nat}(h1:Few L i a)(h2:Few M j a)(Vn:i+j≤120):bE L M 0=(az L M,0)∧Few (az L M) (i+j) a:=by
 have ht1:=h1.tot;have ht2:=h2.tot;have Qs:=h1.len;have PT:=h2.len;have hr:=oY L M
 have QZ:bE L M 0=(az L M,0):=by
  by_cases hM:M=[]
  ·rw[if_pos hM] at hr;rw[hr,hM,D9]
  ·rw[if_neg hM,if_neg oq] at hr;exact hr
 obtain⟨f1,f2⟩:=li h1.fine h2.fine oq;rw[QZ] at f1 f2;refine⟨QZ,f1,?_,?_,fun p hp=>?_⟩
 ·have:=iO (l:=L) (m:=M);omega
 ·have:=(cm h1.fine.srt h1.fine.pos h2.fine.pos).2.2;rw[this];omega
 ·rcases qh p hp with⟨q,hq,e⟩|⟨q,hq,e⟩
  ·rw[←e];exact h1.keys q hq
  ·rw[←e];exact h2.keys q hq
theorem Nh(a m:Nat)(Gt:100≤a)(ha:a≤5000)(oS:2≤m)(gE:m≤100):
  KO (spC 2 0 0 0 false a m) (fun _ L=>DdE a m L) 0 (dEv a) (fun _ _=>0) (fun j b L=>Few L j a∧b=0) (fun _ _ v n=>dCd v n) (fun v _ L=>JH v 2 (dW a m L)):=by
 have a7C:∀j L v n,Few L j a→j<40→InI v→n<1000000→Few (eu L (dEv a v n)) (j+1) a∧(n≠0→v≠ -9223372036854775808→cq L (jQ a v) n 0=(eu L (dEv a v n),0)):=fun j L v n hf hj hv hn=>by
  unfold dEv
  by_cases h0:n=0
  ·rw[if_pos h0];exact⟨oE hf,fun h=>absurd h0 h⟩
  ·rw[if_neg h0]
   by_cases h1:v= -9223372036854775808
   ·rw[if_pos h1];exact⟨oE hf,fun _ h=>absurd h1 h⟩
   ·rw[if_neg h1];unfold InI at hv;obtain⟨k0,k1⟩:=xg (a:=a) (v:=v) Gt ha oq oq;obtain⟨r1,r2⟩:=hf.put k0 k1 (n:=n) oq oq oq;exact⟨r1,fun _ _=>r2⟩
 refine⟨fun w=>zp a m w Gt ha oS oq,⟨Few.start a,rfl⟩,fun j b L h=>⟨oE h.1,h.2⟩,fun j b L v n h hj hv hn=>⟨(a7C j L v n h.1 hj hv hn).1,by rw[h.2];rfl⟩,fun j k b L b2 L2 h h2 PO=>⟨(vZ h.1 h2.1 PO).2,by rw[h.2,h2.2];rfl⟩,fun v n q hq=>?_,fun j b L v n w e co h hj hv hn he hh=>?_,fun j k b L b2 L2 w e e2 co h h2 PO he hh RU Zd Vt=>?_,fun j b L v w e h hj hv he hh=>?_⟩
 ·unfold dEv at hq
  by_cases h0:n=0
  ·rw[if_pos h0] at hq;cases hq
  ·rw[if_neg h0] at hq
   by_cases h1:v= -9223372036854775808
   ·rw[if_pos h1] at hq;cases hq
   ·rw[if_neg h1] at hq;injection hq with hq
    subst hq;exact Nat.pos_of_ne_zero h0
 ·have PU:=(a7C j L v n h.1 hj hv hn).2;unfold InI at hv
  by_cases h0:n=0
  ·subst h0;exact Mn he hh v co
  ·by_cases h1:v= -9223372036854775808
   ·have h4:=EK he hh n oq co;have e1:dCd v n=5:=by unfold dCd;rw[if_neg h0,if_pos h1]
    have e2:eu L (dEv a v n)=L:=by unfold dEv;rw[if_neg h0,if_pos h1];rfl
    rw[e1,e2,h1];exact h4
   ·have h4:=FSq he hh v n Gt ha h.1.fine (by have:=h.1.len;omega) oS oq oq oq oq co;rw[PU h0 h1] at h4;have e1:dCd v n=0:=by unfold dCd;rw[if_neg h0,if_neg h1]
    rw[e1];exact h4
 ·have h4:=Je he hh RU Zd h.1.fine h2.1.fine (by have:=h.1.len;have:=h2.1.len;omega) oS oq co;rw[(vZ h.1 h2.1 PO).1] at h4;exact h4
 ·have hl:=xw (a:=a) (m:=m) ha oS oq h.1;have HT:=Oh (fun V (hv:Below w.heap.size w V)=>rQ he (hh.below hv) ha oS oq h.1);obtain⟨p,x,q,As,cs,g,gl,A,c,rfl,Pa⟩:=he;exact gp hh.it.1 2 rfl od od (dW a m L) oq v hv HT
structure Og(j b:Nat)(L:List Pr):Prop where
 fin:fl L
 len:L.length≤j
 tot:tot L≤1000000*j
 b1:1≤b
 b2:b≤64
def hEv(u m:Nat)(v:Int)(n:Nat):Option Pr:=if n=0 then none else if v<0 then none else some ((Hdr.Hd.idx u m v.toNat:Nat),n)
def hFf(u m:Nat)(v:Int)(n:Nat):Nat:=if n=0 then 0 else if v<0 then 0 else 1+Hdr.Hd.bk u m v.toNat
def hCd(v:Int)(n:Nat):Int:=if n=0 then 4 else if v<0 then 5 else 0
theorem Gr(u m b:Nat):mq u m b≤9223372036854775807:=by
 unfold mq;split
 ·omega
 ·rename_i h;have:2^(b-1+u+m)≤2^62:=Nat.pow_le_pow_right od oq;omega
theorem AK{hi u m b:Nat}(h:hi≤9223372036854775807):dU (hi:Int) u m b=((dU (hi:Int) u m b).toNat:Int)∧(dU (hi:Int) u m b).toNat≤9223372036854775807:=by
 have:=Gr u m b;unfold dU;split<;>omega
theorem Li(lo D hi:Nat)(h1:1≤D)(h5:D≤5)(hL:1≤lo)(SD:2*lo≤hi)(FR:hi≤9223372036854775807)(lE:Hdr.uOf lo+Hdr.mOf D≤62):
  KO (spC 1 lo hi D true 0 0) (fun b L=>jE lo hi D (Hdr.uOf lo) (Hdr.mOf D) true b L) (1+Hdr.Hd.bk (Hdr.uOf lo) (Hdr.mOf D) hi) (hEv (Hdr.uOf lo) (Hdr.mOf D)) (hFf (Hdr.uOf lo) (Hdr.mOf D)) Og (fun _ _ v n=>hCd v n)
   (fun v b L=>JH v 1 (bD lo hi D true (hwF D lo (dU (hi:Int) (Hdr.uOf lo) (Hdr.mOf D) b).toNat (an L)))):=by
 have hm:=Hdr.eL h1 h5;generalize hu:Hdr.uOf lo=u at*;generalize hmm:Hdr.mOf D=m at*;have QC:=Hdr.Hd.pz (u:=u) (m:=m) (v:=hi) oq;have hvI:∀v:Int,InI v→¬v<0→v.toNat<2^63:=fun v hv h=>by unfold InI at hv;omega
 refine⟨fun w=>?_,⟨⟨Srt.nil,Pos.nil,(fun p hp=>by cases hp),od,od⟩,od,od,oq,oq⟩,fun j b L h=>⟨h.fin,by have:=h.len;omega,by have:=h.tot;omega,h.b1,h.b2⟩,fun j b L v n h hj hv hn=>?_,fun j k b L b2 L2 h h2 PO=>?_,fun v n q hq=>?_,fun j b L v n w e co h hj hv hn he hh=>?_,fun j k b L b2 L2 w e e2 co h h2 PO he hh RU Zd Vt=>?_,fun j b L v w e h hj hv he hh=>?_⟩
 ·have h:=vS lo D hi true w h1 h5 hL oq oq oq;rw[hu,hmm,Int.toNat_natCast] at h;exact h
 ·have hlen:=h.len;have Rf:=h.tot;have eQ:=h.b1;have aT:=h.b2;unfold hEv hFf
  by_cases h0:n=0
  ·rw[if_pos h0,if_pos h0];exact⟨h.fin,by dsimp only[eu];omega,by dsimp only[eu];omega,oq,oq⟩
  ·rw[if_neg h0,if_neg h0]
   by_cases Pc:v<0
   ·rw[if_pos Pc,if_pos Pc];exact⟨h.fin,by dsimp only[eu];omega,by dsimp only[eu];omega,oq,oq⟩
   ·rw[if_neg Pc,if_neg Pc];have a7D:=hvI v hv Pc;have EQ:=Hdr.Hd.pz (u:=u) (m:=m) a7D;have Wh:=Hdr.Hd.y9 (u:=u) (m:=m) a7D oq hm.2;have OJ:=kS (l:=L) (k:=(Hdr.Hd.idx u m v.toNat:Nat)) (n:=n);have RX:=eI (l:=L) (k:=(Hdr.Hd.idx u m v.toNat:Nat)) (n:=n);refine⟨⟨jo h.fin.srt,mE h.fin.pos oq,fun q hq=>?_,?_,?_⟩,?_,?_,oq,oq⟩
    ·rcases gy q hq with e|⟨r,hr,e⟩
     ·rw[e];dsimp only;omega
     ·rw[←e];exact h.fin.keys r hr
    all_goals dsimp only[eu];omega
 ·have hlen:=h.len;have Rf:=h.tot;have a7E:=h2.len;have a7F:=h2.tot;have eQ:=h.b1;have aT:=h.b2;have dO:=h2.b2;have hp:=lA h.fin h2.fin L2.length oq oq;rw[List.take_length] at hp;refine⟨hp,?_,?_,oq,oq⟩
  ·have:=iO (l:=L) (m:=L2);omega
  ·have:=(cm h.fin.srt h.fin.pos h2.fin.pos).2.2;omega
 ·unfold hEv at hq
  by_cases h0:n=0
  ·rw[if_pos h0] at hq;cases hq
  ·rw[if_neg h0] at hq
   by_cases Pc:v<0
   ·rw[if_pos Pc] at hq;cases hq
   ·rw[if_neg Pc] at hq;injection hq with hq
    subst hq;exact Nat.pos_of_ne_zero h0
 ·have Rf:=h.tot;have eQ:=h.b1
  by_cases h0:n=0
  ·have h4:=FO he hh oq h.b1 h.b2 v n oq 4 (by unfold pw;rw[if_pos (by simpa using h0)]) od co;have e1:hCd v n=4:=by unfold hCd;rw[if_pos h0]
   have e2:eu L (hEv u m v n)=L:=by unfold hEv;rw[if_pos h0];rfl
   have e3:max b (hFf u m v n)=b:=by unfold hFf;rw[if_pos h0];omega
   rw[e1,e2,e3];exact h4
  ·by_cases Pc:v<0
   ·have h4:=FO he hh oq h.b1 h.b2 v n oq 5 (by unfold pw;rw[if_neg (by simpa using h0),if_pos (by simp[Pc])]) od co;have e1:hCd v n=5:=by unfold hCd;rw[if_neg h0,if_pos Pc]
    have e2:eu L (hEv u m v n)=L:=by unfold hEv;rw[if_neg h0,if_pos Pc];rfl
    have e3:max b (hFf u m v n)=b:=by unfold hFf;rw[if_neg h0,if_pos Pc];omega
    rw[e1,e2,e3];exact h4
   ·have h4:=yY he hh h.fin oq hm.2 oq h.b1 h.b2 v.toNat n (hvI v hv Pc) oq (.inl rfl) oq co;have e1:hCd v n=0:=by unfold hCd;rw[if_neg h0,if_neg Pc]
    have e2:eu L (hEv u m v n)=put L (Hdr.Hd.idx u m v.toNat:Nat) n:=by unfold hEv;rw[if_neg h0,if_neg Pc];rfl
    have e3:hFf u m v n=1+Hdr.Hd.bk u m v.toNat:=by unfold hFf;rw[if_neg h0,if_neg Pc]
    rw[show((v.toNat:Nat):Int)=v by omega] at h4;rw[e1,e2,e3];exact h4
 ·have hlen:=h.len;have Rf:=h.tot;have a7E:=h2.len;have a7F:=h2.tot;exact Ee he hh RU Zd Vt h.fin h2.fin oq oq co
 ·have hlen:=h.len;obtain⟨r1,r2⟩:=AK (u:=u) (m:=m) (b:=b) FR;obtain⟨l1,l2⟩:=fo lo hi D true (dU (hi:Int) u m b).toNat L oq FR h5;have HT:=Oh (fun V (hv:Below w.heap.size w V)=>oz true he (hh.below hv) h.fin oq FR h.b1 h.b2 h5 oq _ r1 r2 oq);obtain⟨p,q,gm,bm,rfl,Pa⟩:=he;exact gp hh.it.1 1 rfl od od _ oq v hv HT
end
section
open Pl
def H5:List (Nat×Nat):=[(0,0),(1,1),(2,2),(3,3),(4,4)]
theorem zO(k:Nat)(hk:k<5):H5.lookup k=some k:=by
 obtain rfl|rfl|rfl|rfl|rfl:k=0∨k=1∨k=2∨k=3∨k=4:=oq
 all_goals rfl
structure OS(E:Nat→List Pr→Ent→Prop)(w W:World)(x m:Nat)(A:Option Addr)(c:Nat)(Q:List (Option Ent))(st:Nat→Nat×List Pr)(G:Nat→Prop)(P:World→Prop):Prop where
 as_:AS w W x m A c Q H5 G P
 ent:∀k,k<5→∃e,Q[k]?=some (some e)∧E (st k).1 (st k).2 e
def ii(st:Nat→Nat×List Pr)(k:Nat)(s:Nat×List Pr)(j:Nat):Nat×List Pr:=if j=k then s else st j
section
variable {E:Nat→List Pr→Ent→Prop} {w W W':World} {x m c:Nat} {A:Option Addr} {Q:List (Option Ent)} {st:Nat→Nat×List Pr} {G:Nat→Prop} {P:World→Prop}
 {sp:Array Value} {b0:Nat} {QK:Int→Nat→Option Pr} {fF:Int→Nat→Nat} {inv:Nat→Nat→List Pr→Prop} {cdF:Nat→List Pr→Int→Nat→Int} {txt:Nat→Nat→List Pr→List UInt8}
theorem OS.congr{st':Nat→Nat×List Pr}(h:OS E w W x m A c Q st G P)(hs:∀k,k<5→st k=st' k):OS E w W x m A c Q st' G P:=⟨h.as_,fun k hk=>by rw[←hs k hk];exact h.ent k hk⟩
theorem OS.next(h:OS E w W x m A c Q st G P)(hb:Below W.heap.size W W'):OS E w W' x m A c Q st G P:=⟨h.as_.next hb,h.ent⟩
theorem OS.turn{k b:Nat}{L:List Pr}(h:OS E w W x m A c Q st G P)(hk:k<5)(t:zN (E b L) x m A c Q H5 k W W'):∃Q',OS E w W' x m A c Q' (ii st k (b,L)) G P:=by
 obtain⟨f,hf,ha⟩:=h.as_.turn1 t;refine⟨_,ha,fun j hj=>?_⟩;unfold ii
 by_cases e:j=k
 ·subst e;rw[if_pos rfl];obtain⟨g,hg,_⟩:=h.ent j hj;exact⟨f,List.getElem?_set_self (List.getElem?_eq_some_iff.1 hg).1,hf⟩
 ·rw[if_neg e];obtain⟨g,hg,hE⟩:=h.ent j hj;exact⟨g,by rw[List.getElem?_set_ne (fun e2=>e e2.symm)];exact hg,hE⟩
theorem lw(ko:KO sp E b0 QK fF inv cdF txt)(h:OS E w W x m A c Q st G P)(k:Nat)(hk:k<5)(v:Int)(n j:Nat)(hi:inv j (st k).1 (st k).2)(hj:j<40)(hv:InI v)(hn:n<1000000):
  Cl 11 #[.pointer (some ⟨x,0,none⟩),.agg (acC ⟨2,k,0,0,0,0,0,false,0,0,v,n,0,0,none,0,0,none,0,0,0,0,none,0,0⟩)] W fun o w'=>(∃cd,o=.returned (.agg (ap cd)))∧∃Q',OS E w w' x m A c Q' (ii st k (max (st k).1 (fF v n),eu (st k).2 (QK v n))) G P:=by
 obtain⟨e,hq,he⟩:=h.ent k hk;refine(qy (a:=⟨2,k,0,0,0,0,0,false,0,0,v,n,0,0,none,0,0,none,0,0,0,0,none,0,0⟩) h.as_.sui rfl (show k<4294967296 by omega) (zO k hk) hq rfl rfl _ _ (Oh fun V g hV=>ko.add j _ _ v n V e _ hi hj hv hn he ((h.as_.sui.held e (Om hq)).below hV))).mono ?_;rintro o w' ⟨rfl,t⟩;exact⟨⟨_,rfl⟩,h.turn hk t⟩
theorem vA(ko:KO sp E b0 QK fF inv cdF txt)(h:OS E w W x m A c Q st G P)(k g:Nat)(hk:k<5)(hg:g<5)(hkg:k≠g)(i j:Nat)(hi:inv i (st k).1 (st k).2)(hj:inv j (st g).1 (st g).2)(Vn:i+j≤120):
  Cl 11 #[.pointer (some ⟨x,0,none⟩),.agg (acC ⟨3,k,g,0,0,0,0,false,0,0,0,0,0,0,none,0,0,none,0,0,0,0,none,0,0⟩)] W fun o w'=>o=.returned (.agg (ap 0))∧∃Q',OS E w w' x m A c Q' (ii st k (max (st k).1 (st g).1,az (st k).2 (st g).2)) G P:=by
 obtain⟨e,hq,he⟩:=h.ent k hk;obtain⟨e2,RQ,RU⟩:=h.ent g hg
 have Vt:∀i,e.F i→¬e2.F i:=fun i hi hi2=>by
  obtain⟨l1,q1⟩:=List.getElem?_eq_some_iff.1 hq;obtain⟨l2,q2⟩:=List.getElem?_eq_some_iff.1 RQ;have hp:=List.pairwise_iff_getElem.1 h.as_.sui.apart;rcases Nat.lt_or_gt_of_ne hkg with h1|h1
  ·exact hp k g l1 l2 h1 e e2 q1 q2 i hi hi2
  ·exact hp g k l2 l1 h1 e2 e q2 q1 i hi2 hi
 refine(Ey (a:=⟨3,k,g,0,0,0,0,false,0,0,0,0,0,0,none,0,0,none,0,0,0,0,none,0,0⟩) h.as_.sui rfl (show k<4294967296 by omega) (show g<4294967296 by omega) (zO k hk) hq (zO g hg) RQ rfl rfl _ 0 (Oh fun V co hV=>ko.take i j _ _ _ _ V e e2 _ hi hj Vn he ((h.as_.sui.held e (Om hq)).below hV) RU ((h.as_.sui.held e2 (Om RQ)).below hV) Vt)).mono ?_;rintro o w' ⟨rfl,t⟩;exact⟨rfl,h.turn hk t⟩
theorem Bd(ko:KO sp E b0 QK fF inv cdF txt)(h:OS E w W x m A c Q st G P)(k:Nat)(hk:k<5)(j v:Nat)(hi:inv j (st k).1 (st k).2)(hj:j≤120)(hv:v=1∨v=2∨v=3):
  Cl 11 #[.pointer (some ⟨x,0,none⟩),.agg (acC ⟨7,k,0,0,0,0,0,false,0,0,0,0,0,0,none,0,0,none,0,0,(v:Int),0,none,0,0⟩)] W fun o w'=>∃A' c',o=.returned (.agg (bC 0 0 false 0 0 0 0 (.slice A' (txt v (st k).1 (st k).2).length c')))∧ak w' W.heap.size A' c' (txt v (st k).1 (st k).2)∧Below W.heap.size W w':=by
 obtain⟨e,hq,he⟩:=h.ent k hk;exact qz (a:=⟨7,k,0,0,0,0,0,false,0,0,0,0,0,0,none,0,0,none,0,0,(v:Int),0,none,0,0⟩) h.as_.sui rfl (show k<4294967296 by omega) (zO k hk) hq _ (Oh fun V hV=>ko.wrap j _ _ v V e hi hj hv he ((h.as_.sui.held e (Om hq)).below hV))
theorem rK(ko:KO sp E b0 QK fF inv cdF txt)(vs:Nat→Int)(ns:Nat→Nat)(p:Nat→Bool)(hv:∀i,InI (vs i))(hn:∀i,ns i<1000000):∀i,i≤40→inv i (mx b0 (fun i=>fF (vs i) (ns i)) p i) (lst (fun i=>QK (vs i) (ns i)) p i)
 |0,_=>ko.inv0
 |i+1,h=>by
  have ih:=rK ko vs ns p hv hn i oq;unfold mx lst
  by_cases hp:p i=true
  ·rw[if_pos hp,if_pos hp];exact ko.invA i _ _ _ _ ih oq (hv i) (hn i)
  ·rw[if_neg hp,if_neg hp];exact ko.invS i _ _ ih
theorem yI(b0:Nat)(f:Nat→Nat):∀i,mx b0 f (fun _=>false) i=b0
 |0=>rfl
 |i+1=>by unfold mx;rw[if_neg od];exact yI b0 f i
theorem vG(ev:Nat→Option Pr):∀i,lst ev (fun _=>false) i=[]
 |0=>rfl
 |i+1=>by unfold lst;rw[if_neg od];exact vG ev i
end
theorem Ih(kk a b:Nat)(hk:kk=0∨kk=1)(ha:a<65536)(hb:b<65536):∃(sk:Nat) (lo hs d:Int) (gr:Bool) (ac sz:Int) (E:Nat→List Pr→Ent→Prop) (b0:Nat) (QK:Int→Nat→Option Pr) (fF:Int→Nat→Nat) (inv:Nat→Nat→List Pr→Prop) (cdF:Nat→List Pr→Int→Nat→Int) (txt:Nat→Nat→List Pr→List UInt8),
  KO (spC sk lo hs d gr ac sz) E b0 QK fF inv cdF txt∧∀w,Cl 9 #[.int .u8 (kk:Int),.int .u16 (a:Int),.int .u16 (b:Int),.bool true] w (Rb (.agg (sp7 sk lo hs d gr ac sz)) w):=by
 rcases hk with rfl|rfl
 ·have hm:=Hdr.eL (D:=1+a%3) oq oq;have hu:Hdr.Hd.bl (1+a%50)≤6:=(Hdr.Hd.jA 6 (1+a%50) oq).2 oq;have lE:Hdr.uOf (1+a%50)+Hdr.mOf (1+a%3)≤62:=by unfold Hdr.uOf;omega
  exact⟨_,_,_,_,_,_,_,_,_,_,_,_,_,_,Li (1+a%50) (1+a%3) (2*(1+a%50)+b) oq oq oq oq oq lE,fun w=>DI a b w ha hb⟩
 ·exact⟨_,_,_,_,_,_,_,_,_,_,_,_,_,_,Nh (500+a%46*100) (2+b%20) oq oq oq oq,fun w=>DH a b w ha hb⟩
def Hs(h:Nat):List (Nat×Nat):=(List.range h).map fun k=>(k,k)
theorem Fb(h:Nat)(hh:h<5):(Hs h).lookup h=none∧Hs (h+1)=Hs h++[(h,h)]∧(Hs h).length<64:=by
 obtain rfl|rfl|rfl|rfl|rfl:h=0∨h=1∨h=2∨h=3∨h=4:=oq
 all_goals decide
theorem OS.as'{E:Nat→List Pr→Ent→Prop}{w W W':World}{x m c:Nat}{A:Option Addr}{Q:List (Option Ent)}{st:Nat→Nat×List Pr}{G G':Nat→Prop}{P P':World→Prop}(h:OS E w W x m A c Q st G P)(k:AS w W' x m A c Q H5 G' P'):OS E w W' x m A c Q st G' P':=⟨k,h.ent⟩
set_option maxHeartbeats 3200000 in
theorem qS(kind a b:Nat)(A:Option Addr)(c:Nat)(l:List Pr)(B:Option Addr)(d2:Nat)(t:List UInt8)(ver:Nat)(w:World)(hk:kind<256)(ha:a<65536)(hb:b<65536)(hl:l.length≤maxLen)(hz:∀p∈l,InI p.1)(hP:Prs w w.heap.size A l)(ht:t.length≤maxLen)(hB:Bts w w.heap.size B t)(aj0:ver<256):
  Cl 3 #[.int .u8 (kind:Int),.int .u16 (a:Int),.int .u16 (b:Int),.slice A l.length c,.slice B t.length d2,.int .u8 (ver:Int)] w (Rb (.bool true) w):=by
 obtain⟨kk,OZ⟩:∃kk,kk=kind%2:=⟨_,rfl⟩;obtain⟨sk,lo,hs,d,gr,ac,sz,E,b0,QK,fF,inv,cdF,txt,ko,ZS⟩:=Ih kk a b oq ha hb;have e1:(kind:Int)%2=(kk:Int):=oq;have e2:Int.tmod (kind:Int) 2=(kk:Int):=by rw[Int.tmod_eq_emod_of_nonneg oq];exact e1
 obtain⟨vs,hvs⟩:∃vs:Nat→Int,vs=fun i=>((l[i]?).getD (0,0)).1:=⟨_,rfl⟩;obtain⟨ns,Ww⟩:∃ns:Nat→Nat,ns=fun i=>((l[i]?).getD (0,0)).2%1000000:=⟨_,rfl⟩
 have hvI:∀i,InI (vs i):=fun i=>by
  rw[hvs];dsimp only
  cases hc:l[i]? with
  |none=>unfold InI;decide
  |some p=>exact hz p (Om hc)
 have hnI:∀i,ns i<1000000:=fun i=>by rw[Ww];exact Nat.mod_lt _ (by decide)
 obtain⟨tf,htf⟩:∃tf:Nat→Nat,tf=fun i=>1+((t[i]?).getD 0).toNat%3*(if i<t.length then 1 else 0):=⟨_,rfl⟩
 have WE:∀i,tf i=1∨tf i=2∨tf i=3:=fun i=>by
  rw[htf];dsimp only;split<;>omega
 have hlv:∀i p,l[i]?=some p→p.1=vs i∧p.2%1000000=ns i:=fun i p h=>by rw[hvs,Ww];simp[h]
 have htv:∀i (h:i<t.length),tf i=1+t[i].toNat%3:=fun i h=>by rw[htf];simp[h]
 have Ps:∀i,¬i<t.length→tf i=1:=fun i h=>by rw[htf];simp[h]
 obtain⟨N,hN⟩:∃N,N=min l.length 40:=⟨_,rfl⟩
 have hmn:∀(W:World) (ts:Array TypeId) (ty:TypeId),(Builtin.min_ ts ty #[.int .i64 (l.length:Int),.int .i64 40]).run prog W=.ok (.int .i64 (N:Int)) W:=fun W ts ty=>by
  rw[run_min_int2]
  by_cases h:(40:Int)<(l.length:Int)
  ·rw[if_pos h,show(N:Int)=40 by omega]
  ·rw[if_neg h,show(N:Int)=(l.length:Int) by omega]
 obtain⟨WU,hsA⟩:∃s:Nat→Nat→Bool,s=fun k=>if k=0 then(fun _=>true) else if k=4 then(fun _=>false) else(fun j=>tf j==k):=⟨_,rfl⟩
 obtain⟨ff,Xd⟩:∃f:Nat→Nat,f=fun i=>fF (vs i) (ns i):=⟨_,rfl⟩;obtain⟨ev,hev⟩:∃e:Nat→Option Pr,e=fun i=>QK (vs i) (ns i):=⟨_,rfl⟩;obtain⟨Pv,Tq⟩:∃s:Nat→Nat→Nat×List Pr,s=fun i k=>(mx b0 ff (WU k) i,lst ev (WU k) i):=⟨_,rfl⟩;obtain⟨Py,Vj⟩:∃s:Nat→Nat→Nat×List Pr,s=fun j k=>if k=4 then(mx b0 (fun i=>ff (N-1-i)) (fun _=>true) j,lst (fun i=>ev (N-1-i)) (fun _=>true) j) else Pv N k:=⟨_,rfl⟩
 have a1t:∀i k,i≤40→inv i (Pv i k).1 (Pv i k).2:=fun i k h=>by rw[Tq,Xd,hev];exact rK ko vs ns (WU k) hvI hnI i h
 have a1u:∀j,j≤40→inv j (Py j 4).1 (Py j 4).2:=fun j h=>by rw[Vj];dsimp only;rw[if_pos rfl,Xd,hev];exact rK ko (fun i=>vs (N-1-i)) (fun i=>ns (N-1-i)) (fun _=>true) (fun i=>hvI _) (fun i=>hnI _) j h
 have hA0:∀k,k<5→Pv 0 k=(b0,[]):=fun k _=>by rw[Tq];rfl
 have hAS:∀i h,tf i=h→∀k,k<5→ii (ii (Pv i) 0 (max (Pv i 0).1 (fF (vs i) (ns i)),eu (Pv i 0).2 (QK (vs i) (ns i)))) h (max (Pv i h).1 (fF (vs i) (ns i)),eu (Pv i h).2 (QK (vs i) (ns i))) k=Pv (i+1) k:=fun i h he k hk5=>by
  have hh:=WE i;rw[he] at hh;have hs0:WU 0=fun _=>true:=by rw[hsA];rfl
  unfold ii
  by_cases e1:k=h
  ·subst e1;have hsk:WU k i=true:=by rw[hsA];dsimp only;rw[if_neg oq,if_neg oq];simp[he]
   rw[if_pos rfl,Tq];dsimp only[mx,lst];rw[if_pos hsk,if_pos hsk,Xd,hev]
  ·rw[if_neg e1]
   by_cases e2:k=0
   ·subst e2;rw[if_pos rfl,Tq];dsimp only[mx,lst];rw[hs0,if_pos rfl,if_pos rfl,Xd,hev]
   ·have hsk:¬WU k i=true:=by
     rw[hsA];dsimp only;rw[if_neg e2]
     by_cases e4:k=4
     ·rw[if_pos e4];simp
     ·rw[if_neg e4];simp only[beq_iff_eq];omega
    rw[if_neg e2,Tq];dsimp only[mx,lst];rw[if_neg hsk,if_neg hsk]
 have hB0:∀k,k<5→Pv N k=Py 0 k:=fun k _=>by
  rw[Vj];dsimp only
  by_cases e4:k=4
  ·subst e4;rw[if_pos rfl,Tq,hsA];dsimp only;rw[if_neg (by decide),if_pos rfl,yI,vG];rfl
  ·rw[if_neg e4]
 have hBS:∀j i,j<N→i+1+j=N→∀k,k<5→ii (Py j) 4 (max (Py j 4).1 (fF (vs i) (ns i)),eu (Py j 4).2 (QK (vs i) (ns i))) k=Py (j+1) k:=fun j i hj Vn k _=>by
  have hi2:N-1-j=i:=oq;unfold ii
  by_cases e4:k=4
  ·subst e4;rw[if_pos rfl,Vj];dsimp only;rw[if_pos rfl,if_pos rfl];dsimp only[mx,lst];rw[if_pos rfl,if_pos rfl,hi2,Xd,hev]
  ·rw[if_neg e4,Vj];dsimp only;rw[if_neg e4,if_neg e4]
 have Vz:∀j k,k≠4→Py j k=Pv N k:=fun j k h=>by rw[Vj];dsimp only;rw[if_neg h]
 have a3R:∀i q,ev i=some q→0<q.2:=fun i q h=>by rw[hev] at h;exact ko.pos _ _ _ h
 obtain⟨BL,hBL⟩:∃BL:Nat×List Pr,BL=(mx b0 ff (fun _=>true) N,lst ev (fun _=>true) N):=⟨_,rfl⟩;have Zb:Py N 0=BL:=by rw[Vz N 0 (by decide),Tq,hsA,hBL];rfl
 have hF4:Py N 4=BL:=by rw[Vj,hBL];dsimp only;rw[if_pos rfl,Hy,DG N a3R]
 have hF2:(max (Py N 2).1 (max (Py N 3).1 (Py N 1).1),az (Py N 2).2 (az (Py N 3).2 (Py N 1).2))=BL:=by
  rw[Vz N 2 (by decide),Vz N 3 (by decide),Vz N 1 (by decide),Tq,hsA,hBL];have h1:=Dy b0 ff tf N (fun i _=>WE i);have h2:=Bi (ev:=ev) tf N a3R (fun i _=>WE i);exact Prod.ext h1 h2
 have a4n:N≤40:=oq;have hNl:N≤l.length:=oq;have HNL:=Oh (show∀i,i<N↔i<l.length∧i<40 by intro i;omega);clear Tq Vj Xd hev hsA hBL a3R hvs Ww htf hz hN;have HKO:=Oh ko;have HSP:=Oh ZS;have HP:=Oh hP;have HB:=Oh hB;have a1J:=Oh hvI;have a1I:=Oh hnI;have acE:=Oh WE;have a4A:=Oh hlv;have acF:=Oh htv;have acG:=Oh Ps;have UM:=Oh a1t;have Xw:=Oh a1u;have acH:=Oh hA0;have acI:=Oh hAS;have acJ:=Oh hB0;have a9j:=Oh hBS;have a93:=Oh Vz;have a4o:=Oh Zb;have a94:=Oh hF4;have a95:=Oh hF2;clear ko ZS hP hB hvI hnI WE hlv htv Ps a1t a1u hA0 hAS hB0 hBS Vz Zb hF4 hF2;have hN0:(N:Int)≤40:=oq;have Lt:(l.length:Int)≤9223372036854775807:=by unfold maxLen at hl;omega
 have T5:(t.length:Int)≤9223372036854775807:=by unfold maxLen at ht;omega
 clear hl ht;have hkr:kk<2:=oq;clear OZ;have hfd:∀W:World,(Instr.field 39 (.agg (rz (.slice none 0 0))) 0).run prog W=.ok (.int .i64 0) W:=fun W=>by kernel_rfl
 go_enter func3,ntmps3;go_wp2_with fail;refine(Jy w).mono ?_;rintro e w1 ⟨rfl,b1⟩;have B1:=Oh b1;clear b1;go_wp2_with fail;refine(HSP.out w1).mono ?_;rintro e w2 ⟨rfl,b2⟩;have B2:=Oh (ai B1.out b2);clear b2;go_wp2_with fail;obtain⟨gs,Sq⟩:∃g,g=w2.heap.size:=⟨_,rfl⟩;have hblk:Blk (w2.alloc (.cells (sp7 sk lo hs d gr ac sz) 29)) gs 29 (sp7 sk lo hs d gr ac sz):=by rw[Sq];exact Blk.new _ _ _
 have B3:Hid (Below w.heap.size w (w2.alloc (.cells (sp7 sk lo hs d gr ac sz) 29))):=Oh (B2.out.alloc B2.out.size _);have a0a:=hblk.lt;have a7H:w.heap.size≤gs:=by rw[Sq];exact B2.out.size
 have Pw:=Oh (And.intro hblk (And.intro a0a a7H));clear hblk a0a a7H;rw[←Sq];clear Sq;generalize w2.alloc (.cells (sp7 sk lo hs d gr ac sz) 29)=W3 at*;refine(Fp W3).mono ?_;rintro e w4 ⟨x,m,rfl,hx,hm,s4,b4⟩
 have H4:Hid (AS w w4 x m none 0 [] (Hs 0) (fun i=>i=gs) (fun W=>Blk W gs 29 (sp7 sk lo hs d gr ac sz))):=Oh ⟨s4,ar.blk (Pw.out.1.below b4 Pw.out.2.1),(fun i hi h=>by
  have h1:=Pw.out.2.1;rcases h with h|h|h|⟨e,he,_⟩
  ·omega
  ·omega
  ·cases h
  ·cases he),(fun i h=>by
  have h1:=B3.out.size;rcases h with h|h|h|⟨e,he,_⟩
  ·omega
  ·omega
  ·cases h
  ·cases he),ai B3.out b4⟩
 clear hx hm s4 b4;go_wp2_with fail;go_loopw [15] (fun u wr=>∃(h:Nat) (AQ:Option Addr) (cQ:Nat) (Q:List (Option Ent)),u=.int .u32 (h:Int)∧h≤5∧Q.length=h∧(∀k,k<h→∃e,Q[k]?=some (some e)∧E b0 [] e)∧AS w wr x m AQ cQ Q (Hs h) (fun i=>i=gs) (fun W=>Blk W gs 29 (sp7 sk lo hs d gr ac sz))) (fun u _=>5-(intOf u).toNat)
 case atStart=>exact⟨0,none,0,[],rfl,oq,rfl,(fun k hk=>absurd hk (Nat.not_lt_zero k)),H4.out⟩
 case round=>
  obtain⟨h,AQ,cQ,Q,rfl,hh5,Vx,Z1,has⟩:=hrel;have YQ:=Oh has;have HQ:=Oh (And.intro Vx Z1);clear has Vx Z1
  by_cases hh:h<5
  ·have hh':(h:Int)<5:=oq;obtain⟨K,hK⟩:∃K,K=h+1:=⟨_,rfl⟩;have z1:IntKind.u32.wrap ((h:Int)+1)=(K:Int):=by rw[IntKind.wrap_u32];omega
   obtain⟨m1,m2,m3⟩:=Fb h hh;have EQ:Blk wr gs 29 (sp7 sk lo hs d gr ac sz):=YQ.out.held.it;have n0:wr.cell? ⟨gs,0,none⟩=some (.int .u8 (sk:Int)):=by rw[EQ.cell];rfl
   have n1:wr.cell? ⟨gs,1,none⟩=some (.int .i64 lo):=by rw[EQ.cell];rfl
   have n2:wr.cell? ⟨gs,2,none⟩=some (.int .i64 hs):=by rw[EQ.cell];rfl
   have n3:wr.cell? ⟨gs,3,none⟩=some (.int .i64 d):=by rw[EQ.cell];rfl
   have n4:wr.cell? ⟨gs,4,none⟩=some (.bool gr):=by rw[EQ.cell];rfl
   have n5:wr.cell? ⟨gs,5,none⟩=some (.int .i64 ac):=by rw[EQ.cell];rfl
   have n6:wr.cell? ⟨gs,6,none⟩=some (.int .i64 sz):=by rw[EQ.cell];rfl
   have Qc:∀o∈Q,o≠none:=fun o ho=>by
    obtain⟨k,hk⟩:=List.mem_iff_getElem?.1 ho;have Sb:=(List.getElem?_eq_some_iff.1 hk).1;obtain⟨e,he,_⟩:=HQ.out.2 k (by have:=HQ.out.1;omega);rw[hk] at he;injection he with he
    rw[he];simp
   have HD:Hid (Cl 11 #[.pointer (some ⟨x,0,none⟩),.agg #[.int .u8 1,.int .u32 (h:Int),.int .u32 0,.int .u8 (sk:Int),.int .i64 lo,.int .i64 hs,.int .i64 d,.bool gr,.int .i64 ac,.int .i64 sz,.int .i64 0,.int .u64 0,.int .u64 0,.int .u64 0,.slice none 0 0,.slice none 0 0,.int .i64 0,.int .i64 0,.slice none 0 0]] wr fun e w'=>e=.returned (.agg (rz (.slice none 0 0)))∧rp (E b0 []) x m AQ Q (Hs h) h wr w'):=Oh (qA (a:=(⟨1,h,0,sk,lo,hs,d,gr,ac,sz,0,0,0,0,none,0,0,none,0,0,0,0,none,0,0⟩:Ac)) YQ.out.sui rfl (show h<4294967296 by omega) m1 m3 (by have:=HQ.out.1;omega) Qc (E b0 []) (Oh fun W _=>HKO.out.make W));have PW:=Oh (And.intro m2 hK);have HHH:=Oh hh;clear m1 m2 m3 EQ Qc hh hh5 hK;go_wp2_with fail;refine HD.out.mono ?_;rintro e w5 ⟨rfl,nm⟩;obtain⟨f,A5,c5,hf,h5⟩:=YQ.out.named nm;rw[HQ.out.1,←PW.out.1] at h5;have Zu:=Oh h5;have Tr:=Oh hf;clear nm h5 hf n0 n1 n2 n3 n4 n5 n6;go_wp2_with fail;go_roundw
   case rel=>exact⟨K,A5,c5,Q++[some f],rfl,by have:=PW.out.2;have:=HHH.out;omega,by rw[Ok,HQ.out.1,PW.out.2];rfl,fun k hk=>by
     have h1:=HQ.out.1;have h2:=PW.out.2
     by_cases hkh:k<h
     ·obtain⟨e,he,hE⟩:=HQ.out.2 k hkh;exact⟨e,by rw[List.getElem?_append_left oq];exact he,hE⟩
     ·exact⟨f,by rw[List.getElem?_append_right oq,show k-Q.length=0 by omega];rfl,Tr.out⟩,by rw[PW.out.2];exact Zu.out⟩
   case measure=>have:=PW.out.2;have:=HHH.out;simp[intOf];omega
  ·obtain rfl:h=5:=oq
   have HO0:Hid (OS E w wr x m AQ cQ Q (Pv 0) (fun i=>i=gs) (fun W=>Blk W gs 29 (sp7 sk lo hs d gr ac sz))):=Oh ⟨YQ.out,fun k hk=>by
    obtain⟨e,he,hE⟩:=HQ.out.2 k hk;rw[acH.out k hk];exact⟨e,he,hE⟩⟩
   clear YQ HQ hh5 hh;go_wp2_with fail;go_loopw [16] (fun u wr=>∃(i:Nat) (AQ:Option Addr) (cQ:Nat) (Q:List (Option Ent)),u=.int .i64 (i:Int)∧i≤N∧OS E w wr x m AQ cQ Q (Pv i) (fun i=>i=gs) (fun W=>Blk W gs 29 (sp7 sk lo hs d gr ac sz))) (fun u _=>N-(intOf u).toNat)
   case atStart=>exact⟨0,AQ,cQ,Q,rfl,Nat.zero_le _,HO0.out⟩
   case round=>
    obtain⟨i,AR,cR,R,rfl,hiN,hos⟩:=hrel;have Xv:=Oh hos;clear hos
    by_cases hi:i<N
    ·obtain⟨Pz,XG⟩:=(HNL.out i).1 hi;have t1:(i:Int)<(l.length:Int):=oq;have t2:(i:Int)<40:=oq;have Qd:(0:Int)≤(i:Int):=oq;obtain⟨p,hp⟩:∃p,l[i]?=some p:=⟨_,Oj Pz⟩;obtain⟨RN,X0⟩:=a4A.out i p hp;obtain⟨bl,o,rfl,Ov,hc⟩:=(HP.out.at_below Xv.out.as_.below).at_ oq;obtain⟨d1,Z0⟩:=hc i p hp;obtain⟨v,n⟩:=p;dsimp only at d1 Z0 RN X0;obtain⟨nm,Uv⟩:∃nm,nm=ns i:=⟨_,rfl⟩;have q1:(n:Int)%1000000=(nm:Int):=oq;have q2:Int.tmod (n:Int) 1000000=(nm:Int):=by rw[Int.tmod_eq_emod_of_nonneg oq];exact q1
     have HI:=Oh (And.intro hi (And.intro Pz XG));have a1H:nm<1000000:=by rw[Uv];exact a1I.out i
     have HVN:Hid (v=vs i∧nm=ns i):=Oh ⟨RN,Uv⟩;have HPI:=Oh hp;have QG:=Oh (show Cl 11 #[.pointer (some ⟨x,0,none⟩),.agg #[.int .u8 2,.int .u32 0,.int .u32 0,.int .u8 0,.int .i64 0,.int .i64 0,.int .i64 0,.bool false,.int .i64 0,.int .i64 0,.int .i64 v,.int .u64 (nm:Int),.int .u64 0,.int .u64 0,.slice none 0 0,.slice none 0 0,.int .i64 0,.int .i64 0,.slice none 0 0]] wr _ from lw HKO.out Xv.out 0 (by decide) v nm i (UM.out i 0 oq) XG (by rw[RN];exact a1J.out i) a1H)
     have Pn:=Oh (fun(W:World) A c Q (K:Nat) (h:OS E w W x m A c Q (ii (Pv i) 0 (max (Pv i 0).1 (fF v nm),eu (Pv i 0).2 (QK v nm))) (fun i=>i=gs) (fun W=>Blk W gs 29 (sp7 sk lo hs d gr ac sz))) (hK:K=1∨K=2∨K=3)=>lw HKO.out h K oq v nm i (by
      rw[show ii (Pv i) 0 (max (Pv i 0).1 (fF v nm),eu (Pv i 0).2 (QK v nm)) K=Pv i K from if_neg oq];exact UM.out i K (by have:=HI.out.2.2;omega)) HI.out.2.2 (by rw[HVN.out.1];exact a1J.out i) (by rw[HVN.out.2];exact a1I.out i))
     have PE:=Oh (fun(W:World) A c Q (K:Nat) (hK:K=tf i) (h:OS E w W x m A c Q (ii (ii (Pv i) 0 (max (Pv i 0).1 (fF v nm),eu (Pv i 0).2 (QK v nm))) K (max (ii (Pv i) 0 (max (Pv i 0).1 (fF v nm),eu (Pv i 0).2 (QK v nm)) K).1 (fF v nm),eu (ii (Pv i) 0 (max (Pv i 0).1 (fF v nm),eu (Pv i 0).2 (QK v nm)) K).2 (QK v nm))) (fun i=>i=gs) (fun W=>Blk W gs 29 (sp7 sk lo hs d gr ac sz)))=>show OS E w W x m A c Q (Pv (i+1)) (fun i=>i=gs) (fun W=>Blk W gs 29 (sp7 sk lo hs d gr ac sz)) from by
      have hK3:=acE.out i;rw[show ii (Pv i) 0 (max (Pv i 0).1 (fF v nm),eu (Pv i 0).2 (QK v nm)) K=Pv i K from if_neg oq] at h;rw[HVN.out.1,HVN.out.2] at h;exact h.congr (acI.out i K hK.symm))
     clear hp RN X0 hc Ov hi Pz XG hiN Uv
     by_cases Zk:i<t.length
     ·have t3:(i:Int)<(t.length:Int):=oq;obtain⟨bt,ot,rfl,hbt,RI⟩:=(HB.out.at_below Xv.out.as_.below).at_ oq;have dt:=RI i Zk;have htv:=acF.out i Zk;generalize t[i].toNat=z at*;obtain⟨z3,hz3⟩:∃z3,z3=z%3:=⟨_,rfl⟩;have q3:(z:Int)%3=(z3:Int):=oq;have q4:Int.tmod (z:Int) 3=(z3:Int):=by rw[Int.tmod_eq_emod_of_nonneg oq];exact q3
      have aj3:z3<3:=oq;obtain⟨K,hK⟩:∃K,K=1+z3:=⟨_,rfl⟩;have q5:IntKind.u32.wrap (z3:Int)=(z3:Int):=by rw[IntKind.wrap_u32];omega
      have q6:IntKind.u32.wrap (1+(z3:Int))=(K:Int):=by rw[IntKind.wrap_u32];omega
      have HK:=Oh (show K=tf i∧(K=1∨K=2∨K=3) by rw[htv];omega);clear RI hbt htv hz3 hK Zk;go_wp2_with fail;refine QG.out.mono ?_;rintro e w5 ⟨⟨cd,rfl⟩,Q5,h5⟩;have Zu:=Oh h5;clear h5;obtain⟨bl2,o2,TI,_,Ql⟩:=(HP.out.at_below Zu.out.as_.below).at_ oq;obtain⟨rfl,rfl⟩:bl=bl2∧o=o2:=by injection TI with TI;injection TI with h1 h2;exact⟨h1,h2⟩
      obtain⟨d3,_⟩:=Ql i (v,n) HPI.out;dsimp only at d3;have QW:=Oh (show Cl 11 #[.pointer (some ⟨x,0,none⟩),.agg #[.int .u8 2,.int .u32 (K:Int),.int .u32 0,.int .u8 0,.int .i64 0,.int .i64 0,.int .i64 0,.bool false,.int .i64 0,.int .i64 0,.int .i64 v,.int .u64 (nm:Int),.int .u64 0,.int .u64 0,.slice none 0 0,.slice none 0 0,.int .i64 0,.int .i64 0,.slice none 0 0]] w5 _ from Pn.out w5 AR cR Q5 K Zu.out HK.out.2);clear Ql TI d1 Z0 dt;go_wp2_with fail;refine QW.out.mono ?_;rintro e w6 ⟨⟨cd2,rfl⟩,Q6,h6⟩;have H6:=Oh (PE.out w6 AR cR Q6 K HK.out.1 h6);exact uI
     ·have t3:¬(i:Int)<(t.length:Int):=oq;have HK:=Oh (show 1=tf i by rw[acG.out i Zk]);clear Zk;go_wp2_with fail;refine QG.out.mono ?_;rintro e w5 ⟨⟨cd,rfl⟩,Q5,h5⟩;have Zu:=Oh h5;clear h5;obtain⟨bl2,o2,TI,_,Ql⟩:=(HP.out.at_below Zu.out.as_.below).at_ oq;obtain⟨rfl,rfl⟩:bl=bl2∧o=o2:=by injection TI with TI;injection TI with h1 h2;exact⟨h1,h2⟩
      obtain⟨d3,_⟩:=Ql i (v,n) HPI.out;dsimp only at d3;have QW:=Oh (show Cl 11 #[.pointer (some ⟨x,0,none⟩),.agg #[.int .u8 2,.int .u32 1,.int .u32 0,.int .u8 0,.int .i64 0,.int .i64 0,.int .i64 0,.bool false,.int .i64 0,.int .i64 0,.int .i64 v,.int .u64 (nm:Int),.int .u64 0,.int .u64 0,.slice none 0 0,.slice none 0 0,.int .i64 0,.int .i64 0,.slice none 0 0]] w5 _ from Pn.out w5 AR cR Q5 1 Zu.out (.inl rfl));clear Ql TI d1 Z0;go_wp2_with fail;refine QW.out.mono ?_;rintro e w6 ⟨⟨cd2,rfl⟩,Q6,h6⟩;have H6:=Oh (PE.out w6 AR cR Q6 1 HK.out h6);exact uI
    ·have hiE:i=N:=oq
     have Sr:Hid (OS E w wr x m AR cR R (Py 0) (fun i=>i=gs) (fun W=>Blk W gs 29 (sp7 sk lo hs d gr ac sz))):=Oh (by
      have h:=Xv.out;rw[hiE] at h;exact h.congr acJ.out)
     have hex:¬(i:Int)<(l.length:Int)∨((i:Int)<(l.length:Int)∧¬(i:Int)<40):=by
      have:=HNL.out i;omega
     have Qd:(0:Int)≤(i:Int):=oq;clear Xv hi hiN hiE H4 HO0;rcases hex with t1|⟨t1,t2⟩
     all_goals go_wp2_with fail
     all_goals go_loopw [19] (fun u wr2=>∃(k:Nat) (z:Int) (AQ:Option Addr) (cQ:Nat) (Q:List (Option Ent)),u=.int .i64 z∧z+1+(k:Int)=(N:Int)∧0≤z+1∧OS E w wr2 x m AQ cQ Q (Py k) (fun i=>i=gs) (fun W=>Blk W gs 29 (sp7 sk lo hs d gr ac sz))) (fun u _=>(intOf u+1).toNat)
     case atStart=>exact⟨0,(N:Int)-1,AR,cR,R,rfl,oq,oq,Sr.out⟩
     case round=>
      obtain⟨k,z,YS,cS,S,rfl,UL,Zm,hos⟩:=hrel;have Xv:=Oh hos;clear hos
      by_cases hz:0≤z
      ·exact tZ
      ·exact ub
     case atStart=>exact⟨0,(N:Int)-1,AR,cR,R,rfl,oq,oq,Sr.out⟩
     case round=>
      obtain⟨k,z,YS,cS,S,rfl,UL,Zm,hos⟩:=hrel;have Xv:=Oh hos;clear hos
      by_cases hz:0≤z
      ·exact tZ
      ·exact ub
end
section
open Go.ChangeShapes Go.WideShapes Go.ChangeAt
theorem open_wholeOrder_3{H:Type}{enc:TypeId×Value→H}{w:World}{base:Nat}{spare:Nat→Bool}{held:Bool}{r:Reach}{b0:Nat}{v:Value}{d:DataW H}{p:List MemPlace}(hv:Value.okWide prog w r b0 23 v)(h:DataW.Trod enc prog w base spare held 23 v d p):
  ∃(A:Option Addr) (c:Nat) (l:List Pr),v=.slice A l.length c∧l.length≤maxLen∧Ki w A l:=by
 obtain⟨A,c,l,h1,h2,_,h3,h4⟩:=Be (s:=2) underlying23 (by kernel_rfl) (by decide) hv h G5 (fun _=>rfl) FY (fun n cs y hl hy=>by
  obtain⟨y0,y1,m,_,_,t0,t1⟩:=trod_struct2 underlying44 hy
  match cs,hl with
  | [c0,c1],_=>
   obtain⟨z0,e0,_,w0⟩:=DataW.trod_int underlying2 t0;obtain⟨z1,e1,_,w1⟩:=DataW.trod_int underlying35 t1;have b0:=WfBounds.i64 w0;have b1:=WfBounds.u64 w1;have f0:c0=.int .i64 z0:=by simpa [show prog.cellsOf 2=1 by kernel_rfl] using e0
   have f1:c1=.int .u64 z1:=by simpa [show prog.cellsOf 35=1 by kernel_rfl] using e1
   refine⟨(z0,z1.toNat),?_,b0.1,b0.2,by simp only;omega⟩;rw[f0,f1,G5];simp only;rw[show((z1.toNat:Nat):Int)=z1 by omega])
 rw[Dh] at h4;exact⟨A,c,l,h1,h2,h3,h4⟩
theorem wholeOrder_walk(w:World)(kind:Int)(k0:0≤kind)(k1:kind≤255)(a:Int)(a0:0≤a)(a1:a≤65535)(b:Int)(b0:0≤b)(b1:b≤65535)(A:Option Addr)(c:Nat)(l:List Pr)(hl:l.length≤maxLen)(hP:Ki w A l)(B:Option Addr)(d2:Nat)(t:List UInt8)(ht:t.length≤maxLen)(_:t.length≤d2)(hB:Bts w w.heap.size B t)(ver:Int)(v0:0≤ver)(v1:ver≤255):
  Cl 3 #[.int .u8 kind,.int .u16 a,.int .u16 b,.slice A l.length c,.slice B t.length d2,.int .u8 ver] w fun e w'=>e=.returned (.bool true)∧Below w.heap.size w w':=by
 obtain⟨kind,rfl⟩:∃k:Nat,kind=(k:Int):=⟨kind.toNat,oq⟩;obtain⟨a,rfl⟩:∃k:Nat,a=(k:Int):=⟨a.toNat,oq⟩;obtain⟨b,rfl⟩:∃k:Nat,b=(k:Int):=⟨b.toNat,oq⟩;obtain⟨ver,rfl⟩:∃k:Nat,ver=(k:Int):=⟨ver.toNat,oq⟩
 exact qS kind a b A c l B d2 t ver w oq oq oq hl (fun p hp=>by
  have h:=hP.1 p hp;exact⟨h.1,h.2.1⟩) hP.2 ht hB oq
end
end Go.Proofs.YtmbippkpjdoojaaGreat
