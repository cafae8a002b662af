/- Parts of a proof, merged. -/
import Derived.Test.YtmbippkpjdoojaaGreatF10
set_option maxRecDepth 100000
set_option maxHeartbeats 1600000
namespace Go.Proofs.YtmbippkpjdoojaaGreat
open Tryz
open Go.RowKit
section
open Wi
theorem Own.ne_own{w:World}{base Rc:Nat}{e e':TypeId}{size a5Q n n' c c':Nat}{A A':Option Addr}{xs xs':List Value}(h:Own w base e size A n c xs)(h':Own w Rc e' a5Q A' n' c' xs')(hne:e≠e')(g:Nat)(hg:aa A=some g):aa A'≠some g:=by
 rcases h.2 with⟨hv,_⟩|⟨g1,cap,cur,hv,_,hh,_⟩
 ·injection hv with hA _ _
  subst hA;cases hg
 ·injection hv with hA _ _
  subst hA;have Px:g1=g:=by simpa [aa] using hg
  subst Px;exact Own.ne_blk h' (show Blk w g1 e cur from hh) (fun h=>hne h.symm)
def uv(n:Nat):Value:=.int .u64 (n:Int)
def uvs(l:List Nat):List Value:=l.map uv
theorem wH(l m:List Nat):uvs (l++m)=uvs l++uvs m:=by simp[uvs]
theorem Gl(l:List Nat):∀u∈uvs l,u.oneCell'=true:=by
 intro u hu;obtain⟨_,_,rfl⟩:=List.mem_map.1 hu;rfl
theorem kH:fH prog 132 35 1 8:=cy underlying132 (z:=.int .u64 0) ok' od od
theorem kP(w:World)(n:Nat):am (w.alloc (.cells #[.int .u64 (n:Int)] 35)) (w.alloc (.cells #[.int .u64 (n:Int)] 35)).heap.size 1 (some ⟨w.heap.size,0,none⟩) 1 (uvs [n]):=
 am.lit (bQ _ _) rfl rfl
def zF(w:World)(base:Nat)(A:Option Addr)(c:Nat)(l:List Nat):Prop:=Own w base 35 1 A l.length c (uvs l)
def Us(w:World)(B:Nat)(A:Option Addr)(l:List Nat):Prop:=am w B 1 A l.length (uvs l)
namespace Wi
theorem ga:∀(l:List UInt8) (i n:Nat),(ci i n l).1=0→(ci i n l).2.2≤i+l.length∧i<(ci i n l).2.2
 | [],i,n=>by simp[ci]
 |x::l,i,n=>by
  unfold ci;split
  ·simp
  ·split
   ·intro h;have:=ga l (i+1) _ h;rw[List.length_cons];omega
   ·split
    ·simp
    ·intro _;rw[List.length_cons];exact⟨by dsimp only;omega,by dsimp only;omega⟩
theorem wh:∀(l:List UInt8) (i n:Nat),(ci i n l).1≠0→(ci i n l).2.2=0
 | [],i,n=>by simp[ci]
 |x::l,i,n=>by
  unfold ci;split
  ·simp
  ·split
   ·exact wh l (i+1) _
   ·split<;>simp
theorem nw:∀(l:List UInt8) (i n:Nat),(cO i n l).1=0→(cO i n l).2.2≤i+l.length
 | [],i,n=>by simp[cO]
 |x::l,i,n=>by
  unfold cO;split
  ·split
   ·simp
   ·intro _;rw[List.length_cons];dsimp only;omega
  ·split
   ·intro h;have:=nw l (i+1) _ h;rw[List.length_cons];omega
   ·split
    ·simp
    ·intro _;rw[List.length_cons];dsimp only;omega
theorem qC:∀(l:List UInt8) (i n:Nat),(cO i n l).1≠0→(cO i n l).2.2=0
 | [],i,n=>by simp[cO]
 |x::l,i,n=>by
  unfold cO;split
  ·split<;>simp
  ·split
   ·exact qC l (i+1) _
   ·split<;>simp
theorem wg:∀(l:List UInt8) (i n:Nat),i≤8→n<128^i→(cO i n l).2.1<18446744073709551616
 | [],_,_,_,_=>by simp[cO]
 |x::l,i,n,hi,hn=>by
  have hx:=x.toNat_lt;unfold cO;split
  ·rename_i h8;subst h8;split
   ·decide
   ·exact eK oq
  ·split
   ·exact wg l (i+1) _ oq (sx hn)
   ·split
    ·decide
    ·refine eK ?_;have e2:(128:Nat)^i≤128^7:=Nat.pow_le_pow_right od oq;have e4:x.toNat%128*128^i≤127*128^7:=Nat.mul_le_mul oq e2;omega
theorem nh{l:List UInt8}(h:l.length≤8):lov l<18446744073709551616:=by
 have h1:=lY l;have e2:(256:Nat)^l.length≤256^8:=Nat.pow_le_pow_right od h;omega
end Wi
theorem vW{k:Nat}{f:Frm}(hf:di[k]?=some f):f.2.1≤8:=by
 have hk:k<10:=(List.getElem?_eq_some_iff.1 hf).1;rcases k with _|_|_|_|_|_|_|_|_|_|k<;>first|omega|(injection hf with hf;subst hf;decide)
theorem jX(f:Frm)(l:List UInt8)(hs:f.2.1≤8):(ij f l).2.1<18446744073709551616:=by
 unfold ij;split
 ·split
  ·show 0<_;decide
  ·exact nh (by rw[List.length_take];omega)
 split
 ·split
  ·show 0<_;decide
  ·exact nh (by rw[List.length_reverse,List.length_take];omega)
 split
 ·exact l6 l 0 0 od od
 split
 ·exact eK (l6 l 0 0 od od)
 ·exact wg l 0 0 od od
theorem EI(f:Frm)(l:List UInt8):(ij f l).2.2≤l.length:=by
 unfold ij;split
 ·split
  ·exact Nat.zero_le _
  ·show f.2.1≤_;omega
 split
 ·split
  ·exact Nat.zero_le _
  ·show f.2.1≤_;omega
 split
 ·exact vm
 split
 ·show(ci 0 0 l).2.2≤_;exact vm
 ·rcases Nat.eq_zero_or_pos (cO 0 0 l).1 with h|h
  ·have:=nw l 0 0 h;omega
  ·rw[qC l 0 0 oq];exact Nat.zero_le _
def zD(x:UInt8)(l:List UInt8):Nat×Nat×Nat:=match di[fi x.toNat]? with
 |some f=>ij f l
 |none=>(22,0,0)
theorem mP{x:UInt8}{f:Frm}(h:di[fi x.toNat]?=some f)(l:List UInt8):zD x l=ij f l:=by unfold zD;rw[h]
def goL:List UInt8→List UInt8→List Nat→Nat→Nat×List Nat×Nat
 | [],_,ns,p=>(0,ns,p)
 |x::pt,l,ns,p=>if(zD x l).1=0 then goL pt (l.drop (zD x l).2.2) (ns++[(zD x l).2.1]) (p+(zD x l).2.2) else((zD x l).1,[],0)
def s7(pt l:List UInt8):Nat×List Nat×Nat:=if dz pt then goL pt l [] 0 else(22,[],0)
def JG(w:World)(r:Nat×List Nat×Nat)(e:Ending)(w':World):Prop:=∃A c,e=.returned (.tuple #[.slice A r.2.1.length c,.int .i64 (r.2.2:Nat),.int .i64 (r.1:Nat)])∧zF w' w.heap.size A c r.2.1∧Below w.heap.size w w'
theorem JW{a:ByteArray}(h:a.data.toList.all okL=true){i:Nat}(hi:i<a.size):∃f,di[fi a[i].toNat]?=some f:=by
 rw[List.all_eq_true] at h;have h1:=h a[i] (Om (sh a i hi));have h2:fi a[i].toNat<10:=of_decide_eq_true h1;exact⟨_,Oj h2⟩
theorem wb{a:ByteArray}{i:Nat}(hi:i<a.size):a.data.toList.drop i=a[i]::a.data.toList.drop (i+1):=by
 have h:=sh a i hi;obtain⟨h1,h2⟩:=List.getElem?_eq_some_iff.1 h;rw[List.drop_eq_getElem_cons h1,h2]
theorem za{w wo w1:World}{base gr cr:Nat}{Ar:Option Addr}{l:List UInt8}{p p' c:Nat}{A:Option Addr}{ns:List Nat}(hr:Rdr wo base gr Ar cr l p)(hu:zF wo w.heap.size A c ns)(aC:Below w.heap.size w wo)(Uc:w.heap.size≤gr)(_h1:Rdr w1 base gr Ar cr l p')(h2:ab (RK gr) wo w1):zF w1 w.heap.size A c ns∧Below w.heap.size w w1:=
 ⟨Own.only hu h2 (fun g hg e=>Own.ne_blk hu hr.1 od (by rw[hg,e])),aC.trans (h2.below aC.size (fun i hi=>by rw[hi];exact Uc))⟩
theorem IM{w1 w3:World}{base Rc gr cr:Nat}{Ar:Option Addr}{l:List UInt8}{p c:Nat}{A:Option Addr}{ns:List Nat}{cs:Array Value}(hr:Rdr w1 base gr Ar cr l p)(hu:zF w1 Rc A c ns)(g3:(w1.alloc (.cells cs 35)).grownBy w3 (aa A)):Rdr w3 base gr Ar cr l p:=by
 have VA:=Own.alloc (show Own w1 Rc 35 1 A ns.length c (uvs ns) from hu) (.cells cs 35);have aT:=hr.1.alloc (.cells cs 35);have ho2:=Own.alloc (show Own w1 base 5 1 Ar l.length cr (bvs l) from hr.2) (.cells cs 35);refine⟨aT.grown g3 (fun e=>Own.ne_blk VA aT od e.symm),Own.kept ho2 g3 ?_⟩
 cases hA:aa Ar with
 |none=>exact .inl rfl
 |some g=>exact .inr (fun e=>Own.ne_own ho2 VA od g hA e.symm)
set_option maxHeartbeats 3200000 in
theorem Kb(a:ByteArray)(A0:Option Addr)(c0:Nat)(l:List UInt8)(w:World)(hb:Bts w w.heap.size A0 l)(hl:l.length≤100000000):
  Cl 160 #[.string a,.slice A0 l.length c0] w (JG w (s7 a.data.toList l)):=by
 have hs:a.data.toList.length=a.size:=by simp
 by_cases hR:dz a.data.toList=true
 ·have lT:a.data.toList.all okL=true:=by
   unfold dz at hR;rw[Bool.and_eq_true] at hR;exact hR.2
  have V9:a.size≤64:=by
   unfold dz at hR;rw[Bool.and_eq_true] at hR;have:=of_decide_eq_true hR.1;omega
  have ha:(a.size:Int)≤64:=oq;have Z4:=Oh (fun W=>ry a W);obtain⟨R,OQ⟩:=nm (s7 a.data.toList l);rw[←OQ];have PY:Hid (R=goL a.data.toList l [] 0):=Oh (by rw[OQ,s7,if_pos hR]);rw[hR] at Z4;have HA:=Oh lT;have HS:=Oh hs;have HB:=Oh hb;clear OQ hR lT hs hb V9;go_enter func160,ntmps160;go_wp2_with fail;refine(Z4.out _).mono ?_;rintro e w1 ⟨rfl,h1⟩;have H1:=Oh h1;clear h1;go_wp2_with fail;refine(ir A0 c0 l w1 (HB.out.at_below H1.out) hl).mono ?_;rintro e w2 ⟨gr,Ar,cr,rfl,Uc,QD,aT⟩;have Zz:Hid (w.heap.size≤gr):=Oh (Oo H1.out.size Uc);have Ty:=Oh QD;have bY:=Oh (ai H1.out aT);clear Uc QD aT;go_wp2_with fail;go_loopw [9,22] (fun u v wr=>∃(i p:Nat) (ns:List Nat) (A:Option Addr) (c:Nat),u=.slice A ns.length c∧v=.int .i64 (i:Int)∧i≤a.size∧ns.length=i∧p≤l.length∧R=goL (a.data.toList.drop i) (l.drop p) ns p∧Rdr wr w1.heap.size gr Ar cr l p∧zF wr w.heap.size A c ns∧Below w.heap.size w wr) (fun _ v _=>a.size-(intOf v).toNat)
  case atStart=>exact⟨0,0,[],none,0,rfl,rfl,Nat.zero_le _,rfl,Nat.zero_le _,PY.out,Ty.out,Own.nil _ _ _ _,bY.out⟩
  case round=>
   obtain⟨i,p,ns,A,c,rfl,rfl,hi,Ww,hp,Sx,QD,hu,aC⟩:=hrel;obtain⟨wo,rfl⟩:=nm (wr:World);have HW:=Oh aC;have HU:=Oh hu;have HR:=Oh QD;have HP:=Oh hp;have HN:=Oh Ww;have Sy:=Oh Sx;clear aC hu QD hp Sx Ww
   by_cases hlt:i<a.size
   ·have Ri:(i:Int)<(a.size:Int):=oq;have Qd:(0:Int)≤(i:Int):=oq;obtain⟨f,hf⟩:=JW HA.out hlt;have HG:=Oh (jg w1.heap.size gr Ar cr l p a[i].toNat wo HR.out HP.out hl hf);have Sh:R=goL (a[i]::a.data.toList.drop (i+1)) (l.drop p) ns p:=by rw[Sy.out,wb hlt]
    unfold goL at Sh;rw[mP hf] at Sh;have hu1:=EI f (l.drop p);have VA:=jX f (l.drop p) (vW hf);have hpu:p+(ij f (l.drop p)).2.2≤l.length:=by have:=HP.out;rw[List.length_drop] at hu1;omega
    generalize ij f (l.drop p)=r at*;obtain⟨re,rn,ru⟩:=r;dsimp only at Sh hu1 VA hpu;have HI:=Oh hlt;have HPU:=Oh hpu;clear hf hu1 hi hpu
    by_cases hre:re=0
    ·rw[if_pos hre] at Sh;subst hre;have QJ:=Oh Sh;have hnl:ns.length≤100:=by have:=HN.out;have:=HI.out;omega
     clear Sh;go_wp2_with fail;refine HG.out.mono ?_;rintro e w3 ⟨rfl,h3,h4⟩;obtain⟨hu3,dO⟩:=za HR.out HU.out HW.out Zz.out h3 h4;have Oz:=Oh h3;have HU3:=Oh hu3;have fR:=Oh dO;clear h3 h4 hu3 dO;dsimp only;go_wp2_with (at_builtin;refine Hid.out ?_);have nE:=Own.alloc (show Own w3 w.heap.size 35 1 A ns.length c (uvs ns) from HU3.out) (.cells #[.int .u64 (rn:Int)] 35);refine aj (xs:=uvs ns) rfl rfl kH rfl nE rfl (kP w3 rn) (Gl _) (ns.length+1) rfl (uvs (ns++[rn])) (wH _ _).symm (by unfold maxLen;omega) oq (by have:=fR.out.size;simp;omega) ?_;intro A3 c3 w4 o3 g3 q3;have VB:=Oh (IM Oz.out HU3.out g3);have oN:=Oh (wD (fG fR.out (.cells #[.int .u64 (rn:Int)] 35)) nE g3 (Oi _) (fG fR.out (.cells #[.int .u64 (rn:Int)] 35)).size);have HU4:Hid (zF w4 w.heap.size A3 c3 (ns++[rn])):=Oh (by unfold zF;rw[Ok];exact o3);clear nE o3 g3 q3;go_wp2_with fail;go_roundw
     case rel=>exact⟨i+1,p+ru,ns++[rn],A3,c3,by rw[Ok];rfl,by go_num,HI.out,by rw[Ok,HN.out];rfl,HPU.out,by rw[QJ.out,List.drop_drop],VB.out,HU4.out,oN.out⟩
     case measure=>exact ms HI
    ·rw[if_neg hre] at Sh;have e1:((re:Int) !=0)=true:=sq;have e2:((re:Int)==0)=false:=sq;have QJ:=Oh Sh;clear Sh hre;go_wp2_with fail;refine HG.out.mono ?_;rintro e w3 ⟨rfl,h3,h4⟩;obtain⟨hu3,dO⟩:=za HR.out HU.out HW.out Zz.out h3 h4;have fR:=Oh dO;clear h3 h4 hu3 dO;dsimp only;go_wp2_with fail;go_ret3;rw[QJ.out];exact⟨none,0,rfl,Own.nil _ _ _ _,fR.out⟩
   ·have hi2:a.size=i:=oq;have hge:decide (i<a.size)=false:=sq;have a1R:¬(i:Int)<(a.size:Int):=oq;have HX:Hid (R=(0,ns,p)):=Oh (by rw[Sy.out,List.drop_of_length_le (by rw[HS.out];omega)];rfl);have HAT:=Oh (fun W (h:wo=W)=>N7 w1.heap.size gr Ar cr l p W (h▸HR.out));clear hi hlt hi2;go_wp2_with fail;refine(HAT.out _ rfl).mono ?_;rintro e w3 ⟨rfl,rfl⟩;go_wp2_with fail;go_ret3;rw[HX.out];exact⟨A,c,rfl,HU.out,HW.out⟩
 ·have Ot:dz a.data.toList=false:=by simpa using hR
  have hg:s7 a.data.toList l=(22,[],0):=by unfold s7;rw[Ot];rfl
  rw[hg];have Z4:=Oh (fun W=>ry a W);rw[Ot] at Z4;clear hR Ot hg hs hb;go_enter func160,ntmps160;go_wp2_with fail;refine(Z4.out _).mono ?_;rintro e w1 ⟨rfl,h1⟩;have H1:=Oh h1;clear h1;go_wp2_with fail;go_ret3;exact⟨none,0,rfl,Own.nil _ _ _ _,H1.out⟩
def bW(f:Frm)(n:Nat):Bool:=decide (f.2.1=0)||decide (f.2.1=8)||decide (n<256^f.2.1)
def et:List UInt8→List Nat→List UInt8→Nat×List UInt8
 |x::pt,n::ns,S=>match di[fi x.toNat]? with
  |some f=>if bW f n then et pt ns (S++jB f n) else(5,[])
  |none=>(5,[])
 |_,_,S=>(0,S)
def dh(pt:List UInt8)(ns:List Nat):Nat×List UInt8:=if dz pt∧pt.length=ns.length then et pt ns [] else(22,[])
def JC(w:World)(r:Nat×List UInt8)(e:Ending)(w':World):Prop:=∃A c,e=.returned (.tuple #[.slice A r.2.length c,.int .i64 (r.1:Nat)])∧ak w' w.heap.size A c r.2∧Below w.heap.size w w'
theorem Wr.below{w w':World}{g:Nat}{A:Option Addr}{c:Nat}{L:List UInt8}(h:Wr w g A c L)(hb:Below w.heap.size w w'):Wr w' g A c L:=⟨h.1.below hb h.1.lt,Own.below h.2 hb⟩
theorem Kp{w W2 w3:World}{gw c:Nat}{A:Option Addr}{S L:List UInt8}(aC:Below w.heap.size w W2)(hg:w.heap.size≤gw)(hw:Wr W2 gw A c S)(h3:br gw A L W2 w3):
  ∃A' c',Wr w3 gw A' c' L∧Below w.heap.size w w3:=by
 obtain⟨A',c',h1,h2,_⟩:=h3;refine⟨A',c',h1,aC.trans (h2.below aC.size (fun i hi=>?_))⟩;rcases hi with rfl|hi
 ·exact hg
 ·exact Oo hg (Own.block hw.2 hi).1
theorem Us.at_{w:World}{B:Nat}{A:Option Addr}{l:List Nat}(h:Us w B A l)(hn:0<l.length):∃b o,A=some ⟨b,o,none⟩∧b<B∧∀(j:Nat) (n:Nat),l[j]?=some n→w.cell? ⟨b,o+j,none⟩=some (.int .u64 (n:Int)):=by
 obtain⟨b,o,e,hb,hc⟩:=h.2 hn;exact⟨b,o,e,hb,fun j n hj=>hc j _ (by simp[uvs,uv,hj])⟩
theorem yq(n s:Nat):(n:Int)/2^(8*s)=((n/256^s:Nat):Int):=by
 rw[show(256:Nat)=2^8 from rfl,←Nat.pow_mul,Int.natCast_ediv,Int.natCast_pow];rfl
theorem rN{f:Frm}{n:Nat}(h1:0<f.2.1)(h2:(f.2.1:Int)<8)(h3:0<(n:Int)/2^(8*f.2.1)):bW f n=false:=by
 rw[yq] at h3;have h4:¬n<256^f.2.1:=fun h=>by rw[Nat.div_eq_of_lt h] at h3;omega
 unfold bW;rw[decide_eq_false (show¬f.2.1=0 by omega),decide_eq_false (show¬f.2.1=8 by omega),decide_eq_false h4];rfl
theorem Mb{f:Frm}{n:Nat}(h3:(n:Int)/2^(8*f.2.1)≤0):bW f n=true:=by
 rw[yq] at h3
 have h4:n<256^f.2.1:=by
  have hp:0<256^f.2.1:=Nat.pow_pos od;rcases Nat.lt_or_ge n (256^f.2.1) with h|h
  ·exact h
  ·have:=Nat.div_pos h hp;omega
 unfold bW;rw[decide_eq_true h4,Bool.or_true]
theorem Ma{f:Frm}{n:Nat}(hs:f.2.1≤8)(h:(8:Int)≤(f.2.1:Int)):bW f n=true:=by
 unfold bW;rw[decide_eq_true (show f.2.1=8 by omega),Bool.or_true,Bool.true_or]
theorem M1{f:Frm}{n:Nat}(h:¬0<f.2.1):bW f n=true:=by
 unfold bW;rw[decide_eq_true (show f.2.1=0 by omega),Bool.true_or,Bool.true_or]
set_option maxHeartbeats 3200000 in
theorem gY(a:ByteArray)(A0:Option Addr)(c0:Nat)(l:List Nat)(w:World)(hb:Us w w.heap.size A0 l)(hl:l.length≤100000000)(hn:∀n∈l,n<18446744073709551616):
  Cl 92 #[.string a,.slice A0 l.length c0] w (JC w (dh a.data.toList l)):=by
 have hs:a.data.toList.length=a.size:=by simp
 have Z4:=Oh (fun W=>ry a W)
 by_cases hR:dz a.data.toList=true
 ·rw[hR] at Z4
  by_cases hlen:a.size=l.length
  ·have lT:a.data.toList.all okL=true:=by
    unfold dz at hR;rw[Bool.and_eq_true] at hR;exact hR.2
   have V9:a.size≤64:=by
    unfold dz at hR;rw[Bool.and_eq_true] at hR;have:=of_decide_eq_true hR.1;omega
   have ha:(a.size:Int)≤64:=oq;have e1:((a.size:Int) !=(l.length:Int))=false:=sq;have e2:(a.size !=l.length)=false:=sq;have e3:((a.size:Int)==(l.length:Int))=true:=sq;have e4:(a.size==l.length)=true:=sq;obtain⟨R,OQ⟩:=nm (dh a.data.toList l);rw[←OQ];have PY:Hid (R=et a.data.toList l []):=Oh (by rw[OQ,dh,if_pos ⟨hR,oq⟩]);have HA:=Oh lT;have HS:=Oh hs;have HB:=Oh hb;have HN:=Oh hn;have HL:=Oh hlen;clear OQ hR lT hs hb V9 hn hlen;go_enter func92,ntmps92;go_wp2_with fail;refine(Z4.out _).mono ?_;rintro e w1 ⟨rfl,h1⟩;have H1:=Oh h1;clear h1;go_wp2_with fail;have TD:=Oh (show Wr (w1.alloc (.cells #[.slice none 0 0] 252)) w1.heap.size none 0 [] from⟨Blk.new _ _ _,Own.nil _ _ _ _⟩);have aS:=Oh (fG H1.out (.cells #[.slice none 0 0] 252));have HG1:Hid (w.heap.size≤w1.heap.size):=Oh H1.out.size;clear H1 e1 e2 e3 e4;go_loopw [25] (fun v wr=>∃(i:Nat) (S:List UInt8) (A:Option Addr) (c:Nat),v=.int .i64 (i:Int)∧i≤l.length∧S.length≤10*i∧R=et (a.data.toList.drop i) (l.drop i) S∧Wr wr w1.heap.size A c S∧Below w.heap.size w wr) (fun v _=>l.length-(intOf v).toNat)
   case atStart=>exact⟨0,[],none,0,rfl,Nat.zero_le _,Nat.zero_le _,PY.out,TD.out,aS.out⟩
   case round=>
    obtain⟨i,S,A,c,rfl,hi,hS,Sx,Qj,aC⟩:=hrel;obtain⟨wo,rfl⟩:=nm (wr:World);have HW:=Oh Qj;have Mk:=Oh aC;have Sy:=Oh Sx;clear Qj aC Sx
    by_cases hlt:i<l.length
    ·have Ri:(i:Int)<(l.length:Int):=oq;have hia:i<a.size:=by have:=HL.out;omega
     have ahc:(i:Int)<(a.size:Int):=oq;have Qd:(0:Int)≤(i:Int):=oq;obtain⟨b,o,hA0,hbB,hcl⟩:=Us.at_ (show Us wo w.heap.size A0 l from am.keep HB.out fun q hq=>Mk.out.cell hq) oq;subst hA0;obtain⟨n,Ud⟩:=gs l i hlt;have d0:=hcl i n Ud;have Wx:=HN.out n (Om Ud);obtain⟨f,hf⟩:=JW HA.out hia
     have Sh:R=if bW f n then et (a.data.toList.drop (i+1)) (l.drop (i+1)) (S++jB f n) else(5,[]):=by
      obtain⟨h1,h2⟩:=List.getElem?_eq_some_iff.1 Ud;rw[Sy.out,wb hia,List.drop_eq_getElem_cons h1,h2,et,hf]
     have hel:=J0 hf Wx;have hs8:=vW hf;have QJ:=Oh Sh;have HF:=Oh hf;have HI:=Oh hlt;have HEL:=Oh hel;clear hcl Ud Sh hf hi hel;go_wp2_with fail;refine(oC _ wo).mono ?_;rintro e w2 ⟨hc,eQ⟩;have bY:=Oh eQ;clear eQ;rcases hc with⟨f',Wq,rfl⟩|⟨VQ,rfl⟩
     ·obtain rfl:f'=f:=by
       have:=HF.out;rw[Wq] at this;injection this
      clear Wq;unfold xM;obtain⟨W2,Pe⟩:=nm ((w2.alloc (.cells eS.toArray 256)).setRow w2.heap.size (kh f').toArray);have B2:=yu Pe;have c1:=B2.c1;have c2:=B2.c2;have hbo:Below wo.heap.size wo W2:=by rw[Pe];exact qc bY.out bY.out.size _ _
      have Te:Below w.heap.size w W2:=Mk.out.trans (hbo.mono Mk.out.size);have a2I:=HW.out.below hbo;have HG:=Oh (jq HF.out w1.heap.size A c S n W2 a2I Wx oq);have a2J:=Oh (fun w3 (h3:br w1.heap.size A (S++jB f' n) W2 w3)=>Kp Te HG1.out a2I h3);have T9:=Oh Te;rw[Pe] at c1 c2 HG a2J T9;unfold eS at c1 c2 HG a2J T9;unfold fn0 at c2;have aax:=BG HF.out;clear B2 Te hbo a2I Pe W2;go_wp2_with (first|(refine wpList_store_row rfl 256 _ _ rfl w2.heap.size (kh f').toArray rfl rfl 256 _ (heap_alloc_new _ _) gH rfl (kF _) ?_)|fail)
      ·have PL:bW f' n=false:=rN (by assumption) (by assumption) (by assumption);have HX:Hid (R=(5,[])):=Oh (by rw[QJ.out,PL];rfl);go_ret2;rw[HX.out];exact⟨none,0,rfl,Own.nil _ _ _ _,T9.out⟩
      all_goals
       have PL:bW f' n=true:=by first|exact Mb (by assumption)|exact Ma hs8 (by assumption)|exact M1 (by assumption)
       have HX:Hid (R=et (a.data.toList.drop (i+1)) (l.drop (i+1)) (S++jB f' n)):=Oh (by rw[QJ.out,PL];rfl);refine HG.out.mono ?_;rintro e w3 ⟨rfl,h3⟩;obtain⟨A3,c3,OU,dO⟩:=a2J.out w3 h3;have Wy:=Oh OU;have fR:=Oh dO;clear h3 OU dO PL c1 c2;go_wp2_with fail;go_roundw
       case rel=>exact⟨i+1,S++jB f' n,A3,c3,by go_num,HI.out,by have:=HEL.out;rw[Ok];omega,HX.out,Wy.out,fR.out⟩
       case measure=>exact ms HI
     ·exfalso;have:=(List.getElem?_eq_some_iff.1 HF.out).1;have e:di.length=10:=rfl;omega
    ·have hge:¬(i:Int)<(l.length:Int):=oq;have a1R:decide (i<l.length)=false:=sq
     have hX:R=(0,S):=by
      rw[Sy.out,List.drop_of_length_le (by rw[HS.out];have:=HL.out;omega),List.drop_of_length_le oq];rfl
     have HX:=Oh hX;have c0:=HW.out.1.c0;clear hi hlt hX;go_wp2_with fail;go_ret2;rw[HX.out];exact⟨A,c,rfl,Own.mono HW.out.2 HG1.out,Mk.out⟩
  ·have e1:((a.size:Int) !=(l.length:Int))=true:=sq;have e2:(a.size !=l.length)=true:=sq;have e3:((a.size:Int)==(l.length:Int))=false:=sq;have e4:(a.size==l.length)=false:=sq;have hg:dh a.data.toList l=(22,[]):=by unfold dh;rw[if_neg];omega
   rw[hg];clear hR hg hs hb hn hlen;exact uD
 ·have Ot:dz a.data.toList=false:=by simpa using hR
  have hg:dh a.data.toList l=(22,[]):=by unfold dh;rw[if_neg (by rw[Ot];simp)]
  rw[hg];rw[Ot] at Z4;clear hR Ot hg hs hb hn;exact uD
end
section
open Pl Sc Wi
def zk(k:Int):Nat:=(k%18446744073709551616).toNat
theorem cu(k:Int):zk k<18446744073709551616:=by unfold zk;omega
theorem da(k:Int):IntKind.u64.wrap k=(zk k:Int):=by rw[On];unfold zk;omega
def fO:Option Int→Int→List UInt8
 |none,k=>leb (bG (zk k))
 |some q,k=>leb (k-q-1).toNat
def eo:Option Int→List Pr→List UInt8
 |_,[]=>[]
 |pv,p::l=>fO pv p.1++leb p.2++eo (some p.1) l
def mm(a m n f:Nat):List UInt8:=leb a++leb m++leb n++leb f
def iX(a m:Nat)(l:List Pr)(f:Nat):List UInt8:=mm a m l.length f++eo none l
def eT(l:List Pr)(i:Nat):Option Int:=if i=0 then none else(l[i-1]?).map (·.1)
theorem wZ(l:List Pr):eT l 0=none:=rfl
theorem eO{l:List Pr}{j:Nat}{q:Pr}(h:l[j]?=some q):eT l (j+1)=some q.1:=by
 unfold eT;rw[if_neg oq,Nat.add_sub_cancel,h];rfl
theorem AX{l:List Pr}{i:Nat}{p:Pr}(h:l[i]?=some p)(pv:Option Int):eo pv (l.drop i)=fO pv p.1++leb p.2++eo (eT l (i+1)) (l.drop (i+1)):=by
 rw[jc h,eO h];rfl
theorem wi(pv:Option Int)(k:Int)(h0: -1048576≤k)(h1:k≤1048576)(h:∀q,pv=some q→ -1048576≤q):(fO pv k).length≤10:=by
 cases pv with
 |none=>exact af (bK (cu k))
 |some q=>have:=h q rfl;exact af oq
theorem rj:di[fi (118:UInt8).toNat]?=some (118,0,327,328):=by decide
theorem zL:di[fi (122:UInt8).toNat]?=some (122,0,329,330):=by decide
theorem dG(pt:List UInt8)(n:Nat)(ns:List Nat)(S:List UInt8):et (118::pt) (n::ns) S=et pt ns (S++leb n):=by
 rw[et,rj];rfl
theorem KX(pt:List UInt8)(n:Nat)(ns:List Nat)(S:List UInt8):et (122::pt) (n::ns) S=et pt ns (S++leb (bG n)):=by
 rw[et,zL];rfl
theorem lW(n:Nat):dh [118] [n]=(0,leb n):=by
 unfold dh;rw[if_pos ⟨od,rfl⟩,dG];rfl
theorem sr(n:Nat):dh [122] [n]=(0,leb (bG n)):=by
 unfold dh;rw[if_pos ⟨od,rfl⟩,KX];rfl
theorem AO(a m n f:Nat):dh [118,118,118,118] [a,m,n,f]=(0,mm a m n f):=by
 unfold dh;rw[if_pos ⟨od,rfl⟩,dG,dG,dG,dG];rfl
theorem qt{a m n f:Nat}(ha:a<18446744073709551616)(hm:m<18446744073709551616)(hn:n<18446744073709551616)(hf:f<18446744073709551616):(mm a m n f).length≤40:=by
 have h1:=af ha;have h2:=af hm;have h3:=af hn;have h4:=af hf;unfold mm;simp only[Ok];omega
def sy(base:Nat)(A:Option Addr)(S L:List UInt8)(w:World)(e:Ending)(w':World):Prop:=∃A' c,e=.returned (.slice A' (S++L).length c)∧ak w' base A' c (S++L)∧ab (fun i=>aa A=some i) w w'
theorem ke{w w':World}{base:Nat}{A:Option Addr}{c:Nat}{S:List UInt8}(ho:ak w base A c S)(hb:base≤w.heap.size)(k:ab (fun i=>aa A=some i) w w'):Below base w w':=
 k.below hb (fun _ hi=>(Own.block (show Own w base 5 1 A S.length c (bvs S) from ho) hi).1)
theorem zo(s:ByteArray)(n:Nat)(L:List UInt8)(hw:dh s.data.toList [n]=(0,L))(hn:n<18446744073709551616)(base:Nat)(A:Option Addr)(c:Nat)(S:List UInt8)(w:World)(ho:ak w base A c S)(hb:base≤w.heap.size)(hl:S.length+L.length≤90000000):
  Cl 102 #[.slice A S.length c,.string s,.int .u64 (n:Int)] w (sy base A S L w):=by
 have HP:=Oh (fun W A0 (hb:Us W W.heap.size A0 [n])=>gY s A0 1 [n] W hb os' (by simpa using hn));rw[hw] at HP;have HO:=Oh ho;have Tx:=Oh hb;have HL:=Oh hl;clear hw hn ho hb hl;go_enter func102,ntmps102;go_wp2_with fail;have b1:Below w.heap.size w (w.alloc (.cells #[.int .u64 (n:Int)] 35)):=Ba;refine(HP.out _ (some ⟨w.heap.size,0,none⟩) (kP w n)).mono ?_;rintro e w2 ⟨A2,c2,rfl,o2,b2⟩;have B2:=Oh (ai b1 b2);have O2:=Oh o2;clear b1 b2 o2;exact vh
theorem zn(n:Nat)(hn:n<18446744073709551616)(base:Nat)(A:Option Addr)(c:Nat)(S:List UInt8)(w:World)(ho:ak w base A c S)(hb:base≤w.heap.size)(hl:S.length+10≤90000000):
  Cl 102 #[.slice A S.length c,.string ⟨#[118]⟩,.int .u64 (n:Int)] w (sy base A S (leb n) w):=
 zo ⟨#[118]⟩ n (leb n) (lW n) hn base A c S w ho hb (by have:=af hn;omega)
theorem Jd(n:Nat)(hn:n<18446744073709551616)(base:Nat)(A:Option Addr)(c:Nat)(S:List UInt8)(w:World)(ho:ak w base A c S)(hb:base≤w.heap.size)(hl:S.length+10≤90000000):
  Cl 102 #[.slice A S.length c,.string ⟨#[122]⟩,.int .u64 (n:Int)] w (sy base A S (leb (bG n)) w):=
 zo ⟨#[122]⟩ n (leb (bG n)) (sr n) hn base A c S w ho hb (by have:=af (bK hn);omega)
end
section
open Go.Maps
namespace Pl
def cL(L:List Pr):DataW Unit:=.map (L.map fun p=>(.int .i64 p.1,.lit (.int .u64 (p.2:Int))))
theorem Bh{L:List Pr}(h:Srt L):Canon (cL L):=by
 refine⟨_,rfl,?_,?_⟩
 ·rw[List.pairwise_map];exact h.imp fun hx=>by simpa [Lit.before] using hx
 ·intro p hp;obtain⟨q,_,rfl⟩:=List.mem_map.1 hp;trivial
theorem mL(L:List Pr)(k:Lit):has (cL L) k=L.any fun p=>(Lit.int .i64 p.1).sameKey k:=by
 unfold cL;rw[has_eq,List.any_map];rfl
theorem iH(L:List Pr)(k:Int):has (cL L) (.int .i64 k)=L.any fun p=>p.1==k:=by
 rw[mL]
 congr 1
 funext p
 simp only[Lit.sameKey]
 by_cases h:p.1=k<;>simp[h]
theorem p6{L:List Pr}{k:Int}(h:∃p∈L,p.1=k)(z:DataW Unit):(cL L).atKey (.int .i64 k) z=.lit (.int .u64 (cnt L k:Nat)):=by
 induction L with
 |nil=>obtain⟨p,hp,_⟩:=h;cases hp
 |cons p l ih=>
  by_cases hk:p.1=k
  ·simp[cL,DataW.atKey,Lit.sameKey,hk,cnt]
  ·obtain⟨q,hq,hqk⟩:=h
   have Vx:q∈l:=by
    rcases List.mem_cons.1 hq with rfl|hq
    ·exact absurd hqk hk
    ·exact hq
   have:=ih ⟨q,Vx,hqk⟩;simp only[cL,DataW.atKey,List.map_cons] at this ⊢;rw[List.find?_cons_of_neg (by simp[Lit.sameKey,hk])];simp only[cnt,if_neg hk];exact this
theorem qm{L:List Pr}{k:Int}(h:∀p∈L,p.1≠k)(z:DataW Unit):(cL L).atKey (.int .i64 k) z=z:=by
 refine atKey_of_not_has ?_ z;rw[iH,List.any_eq_false];intro p hp;simpa using h p hp
theorem yO(L:List Pr)(k:Int):(cL L).atKey (.int .i64 k) (.lit (.int .u64 0))=.lit (.int .u64 (cnt L k:Nat)):=by
 by_cases h:∃p∈L,p.1=k
 ·exact p6 h _
 ·have h':∀p∈L,p.1≠k:=fun p hp e=>h ⟨p,hp,e⟩;rw[qm h',oM h'];rfl
theorem jq(f:Int→Bool)(L:List Pr)(k:Int)(n:Nat):(put L k n).any (fun p=>f p.1)=(f k||L.any fun p=>f p.1):=by
 induction L with
 |nil=>simp[put]
 |cons p l ih=>
  unfold put;split
  ·rw[List.any_cons,List.any_cons,ih];cases f p.1<;>cases f k<;>rfl
  ·split
   ·rename_i h;simp[h]
   ·simp
theorem I2{L:List Pr}{k:Int}{n:Nat}(hs:Srt L)(hc:Canon ((cL L).put (.int .i64 k) (.lit (.int .u64 ((cnt L k+n:Nat):Int))))):
  (cL L).put (.int .i64 k) (.lit (.int .u64 ((cnt L k+n:Nat):Int)))=cL (put L k n):=by
 have hm:IsMap (cL L):=⟨_,rfl⟩;have iD:WideAt.IsKeyLit (.int .i64 k):=trivial;refine Maps.ext hc (Bh (jo hs)) (fun j=>?_) (fun j z hj=>?_)
 ·by_cases e:j=.int .i64 k
  ·subst e;rw[has_put_same hm iD,iH,jq (fun x=>x==k)];simp
  ·rw[has_put_other e,mL,mL,jq (fun x=>(Lit.int .i64 x).sameKey j),sameKey_ne (fun h=>e h.symm),Bool.false_or]
 ·by_cases e:j=.int .i64 k
  ·subst e;rw[atKey_put_same hm iD,p6,mF hs,if_pos rfl];have h:=jq (fun x=>x==k) L k n;rw[show((k==k)=true) from by simp,Bool.true_or,List.any_eq_true] at h;obtain⟨q,hq,Z1⟩:=h;exact⟨q,hq,by simpa using Z1⟩
  ·rw[has_put_other e] at hj;rw[atKey_put_other e];rw[mL,List.any_eq_true] at hj;obtain⟨p,hp,hpk⟩:=hj;have hj:=WideAt.sameKey_eq hpk;subst hj;have hne:p.1≠k:=fun h=>e (by rw[h]);rw[p6 ⟨p,hp,rfl⟩,p6,mF hs,if_neg hne]
   ·rfl
   have h:=jq (fun x=>x==p.1) L k n;have hL:L.any (fun q=>q.1==p.1)=true:=List.any_eq_true.2 ⟨p,hp,by simp⟩;rw[hL,Bool.or_true,List.any_eq_true] at h;obtain⟨q,hq,Z1⟩:=h;exact⟨q,hq,by simpa using Z1⟩
structure pQ(L:List Pr)(left:Lit→Bool)(ss:List Pr):Prop where
 nodup:ss.Nodup
 mem:∀p,p∈ss↔p∈L∧left (.int .i64 p.1)=false
theorem pQ.start(L:List Pr):pQ L (has (cL L)) []:=by
 refine⟨List.nodup_nil,fun p=>⟨fun h=>(by cases h),fun⟨h,e⟩=>?_⟩⟩;rw[iH,List.any_eq_false] at e;exact absurd os' (e p h)
theorem pQ.step{L:List Pr}{left:Lit→Bool}{ss:List Pr}(h:pQ L left ss)(hs:Srt L){x c:Int}(hl:left (.int .i64 x)=true)(hat:∀zd,(cL L).atKey (.int .i64 x) zd=.lit (.int .u64 c)):
  ∃n:Nat,c=(n:Int)∧(x,n)∈L∧pQ L (fun z=>left z&&!z.sameKey (.int .i64 x)) (ss++[(x,n)]):=by
 have QO:∃p∈L,p.1=x:=by
  apply Classical.byContradiction
  intro Qc;have h':∀p∈L,p.1≠x:=fun p hp e=>Qc ⟨p,hp,e⟩;have h1:=hat (.lit (.bool true));rw[qm h'] at h1;cases h1
 obtain⟨p,hp,rfl⟩:=QO;have h1:=hat (.lit (.bool true));rw[p6 ⟨p,hp,rfl⟩,dK hs hp] at h1;injection h1 with h1
 injection h1 with _ h1
 refine⟨p.2,h1.symm,hp,?_,fun q=>?_⟩
 ·exact ui
 ·rw[List.mem_append,h.mem,List.mem_singleton]
  by_cases e:q.1=p.1
  ·constructor
   ·rintro(⟨h1,h2⟩|rfl)
    ·rw[e,hl] at h2;cases h2
    ·exact⟨hp,by simp[Lit.sameKey]⟩
   ·rintro⟨h1,_⟩;refine .inr ?_;have a1:=dK hs h1;have a2:=dK hs hp;rw[e] at a1;exact Prod.ext e (by rw[←a1,←a2])
  ·constructor
   ·rintro(⟨h1,h2⟩|rfl)
    ·exact⟨h1,by simp[h2]⟩
    ·exact absurd rfl e
   ·rintro⟨h1,h2⟩;refine .inl ⟨h1,?_⟩;simpa [Lit.sameKey,e] using h2
theorem Srt.nodup{L:List Pr}(h:Srt L):L.Nodup:=h.imp fun{a b} Pd e=>by rw[e] at Pd;omega
theorem ql:∀{ss L:List Pr},ss.Nodup→(∀p∈ss,p∈L)→ss.length≤L.length
 | [],_,_,_=>Nat.zero_le _
 |p::l,L,hn,h=>by
  have h1:=List.nodup_cons.1 hn;have h2:=ql (L:=L.erase p) h1.2 (fun q hq=>(List.mem_erase_of_ne (show q≠p from fun e=>h1.1 (by rw[←e];exact hq))).2 (h q (List.mem_cons_of_mem _ hq)));exact vp
theorem pQ.len{L:List Pr}{left:Lit→Bool}{ss:List Pr}(h:pQ L left ss):ss.length≤L.length:=
 ql h.nodup fun p hp=>((h.mem p).1 hp).1
theorem pQ.perm{L:List Pr}{left:Lit→Bool}{ss:List Pr}(h:pQ L left ss)(hs:Srt L)(hl:∀k,left k=false):ss.Perm L:=
 (List.perm_ext_iff_of_nodup h.nodup (Srt.nodup hs)).2 fun p=>by rw[h.mem];simp[hl]
theorem Aj{L M:List Pr}(hs:Srt L)(hp:M.Perm L)(hm:M.Pairwise fun p q=>¬q.1<p.1):M=L:=by
 have hn:=(List.Perm.nodup_iff hp).2 (Srt.nodup hs)
 have hM:Srt M:=by
  have:M.Pairwise fun p q=>¬q.1<p.1∧p≠q:=hm.and hn;refine this.imp_of_mem fun{p q} hp' hq' h=>?_;rcases Int.lt_trichotomy p.1 q.1 with h1|h1|h1
  ·exact h1
  ·have a1:=dK hs (hp.mem_iff.1 hp');have a2:=dK hs (hp.mem_iff.1 hq');rw[h1,a2] at a1;exact absurd (Prod.ext h1 a1.symm) h.2
  ·exact absurd h1 h.1
 exact List.Perm.eq_of_pairwise (le:=fun p q:Pr=>p.1<q.1) (fun a b _ _ h1 h2=>by omega) hM hs hp
end Pl
end
end Go.Proofs.YtmbippkpjdoojaaGreat
namespace Go.Proofs.YtmbippkpjdoojaaGreat.Hdr
open Tryz
open Go.RowKit
namespace Hd
abbrev bl(x:Nat):Nat:=Lib.bitLen x
theorem zw:bl 0=0:=by simp[bl,Lib.bitLen,Lib.bitLenAux]
theorem jA:∀(k x:Nat),x<2^64→(bl x≤k↔x<2^k)
 |0,x,hx=>by
  by_cases h:x=0
  ·subst h;simp[zw]
  ·have:=Lib.bitLen_half x h hx;simp only[bl,this];constructor
   ·intro h1;omega
   ·intro h1;simp at h1;exact absurd h1 h
 |k+1,x,hx=>by
  by_cases h:x=0
  ·subst h;simp[zw,Nat.two_pow_pos]
  ·have e:=Lib.bitLen_half x h hx;have ih:=jA k (x/2) oq;simp only[bl] at ih;simp only[bl,e];rw[Nat.pow_succ];omega
theorem Ny(k x:Nat)(hx:x<2^64):k<bl x↔2^k≤x:=by
 have:=jA k x hx;omega
theorem mQ(x:Nat)(hx:x<2^64):bl x≤64:=(jA 64 x hx).2 hx
def bk(u m v:Nat):Nat:=bl v-(u+m)
def ck(u m v:Nat):Nat:=v/2^(bk u m v+u)
def ax(m:Nat):Nat:=2^(m-1)
def idx(u m v:Nat):Nat:=bk u m v*ax m+ck u m v
def low(u m v:Nat):Nat:=ck u m v*2^(bk u m v+u)
def size(u m v:Nat):Nat:=2^(bk u m v+u)
theorem vU(m:Nat)(hm:1≤m):ax m+ax m=2^m:=by
 unfold ax;obtain⟨k,rfl⟩:∃k,m=k+1:=⟨m-1,oq⟩;rw[Nat.add_sub_cancel,Nat.pow_succ];omega
theorem gG(m:Nat):0<ax m:=Nat.two_pow_pos _
section
variable {u m v:Nat}
theorem pg(hv:v<2^63)(lE:u+m≤63):bk u m v+u+m≤63:=by
 have:bl v≤63:=(jA 63 v oq).2 hv;unfold bk;omega
theorem NN(hv:v<2^63):v<2^(bk u m v+u+m):=(jA _ v oq).1 (by unfold bk;omega)
theorem Ga(hv:v<2^63):ck u m v<2^m:=by
 unfold ck;rw[Nat.div_lt_iff_lt_mul (Nat.two_pow_pos _),←Nat.pow_add,Nat.add_comm m];exact NN hv
theorem CV:0<size u m v:=Nat.two_pow_pos _
theorem kZ(hv:v<2^63)(lE:u+m≤63):low u m v+size u m v≤2^63:=by
 have h1:ck u m v+1≤2^m:=Ga hv;have h2:(ck u m v+1)*size u m v≤2^m*size u m v:=Nat.mul_le_mul_right _ h1
 have h3:2^m*size u m v≤2^63:=by
  unfold size;rw[←Nat.pow_add];exact Nat.pow_le_pow_right oq (by have:=pg hv lE;omega)
 have h4:(ck u m v+1)*size u m v=low u m v+size u m v:=by
  rw[Nat.add_mul,Nat.one_mul];rfl
 omega
theorem fJ(hm:m≤18):ax m≤131072:=by
 unfold ax;exact Oo (Nat.pow_le_pow_right oq (show m-1≤17 by omega)) od
theorem pz(hv:v<2^63):bk u m v≤63:=by
 have:bl v≤63:=(jA 63 v oq).2 hv;unfold bk;omega
theorem y9(hv:v<2^63)(gE:1≤m)(hm:m≤18):idx u m v≤16777216:=by
 have h1:=fJ hm;have h2:bk u m v*ax m≤63*131072:=Nat.mul_le_mul (pz hv) h1;have h3:=Ga (u:=u) (m:=m) hv;have h4:=vU m gE;unfold idx;omega
end
end Hd
def Mp(w:World)(g:Nat)(lo hi d:Int)(u m:Nat):Prop:=Blk w g 355 #[.int .i64 lo,.int .i64 hi,.int .i64 d,.int .i64 (u:Int),.int .i64 (m:Int)]
section
variable {w w':World} {g:Nat} {lo hi d:Int} {u m:Nat}
theorem Mp.c0(h:Mp w g lo hi d u m):w.cell? ⟨g,0,none⟩=some (.int .i64 lo):=by rw[Blk.cell h];rfl
theorem Mp.c1(h:Mp w g lo hi d u m):w.cell? ⟨g,1,none⟩=some (.int .i64 hi):=by rw[Blk.cell h];rfl
theorem Mp.c2(h:Mp w g lo hi d u m):w.cell? ⟨g,2,none⟩=some (.int .i64 d):=by rw[Blk.cell h];rfl
theorem Mp.c3(h:Mp w g lo hi d u m):w.cell? ⟨g,3,none⟩=some (.int .i64 (u:Int)):=by rw[Blk.cell h];rfl
theorem Mp.c4(h:Mp w g lo hi d u m):w.cell? ⟨g,4,none⟩=some (.int .i64 (m:Int)):=by rw[Blk.cell h];rfl
theorem Mp.drewN(h:Mp w g lo hi d u m)(n:Nat):Mp (w.drewN n) g lo hi d u m:=h
end
theorem zT(m:Nat)(hm:m≤62):wrap64 ((2:Int)^(m-1))=((Hd.ax m:Nat):Int):=by
 have h:Hd.ax m<2^62:=Nat.pow_lt_pow_right oq oq;have e:(2:Int)^(m-1)=((Hd.ax m:Nat):Int):=by unfold Hd.ax;push_cast;rfl
 rw[e];unfold wrap64;omega
theorem jW(g:Nat)(lo hi d:Int)(u m:Nat)(w:World)(h:Mp w g lo hi d u m)(gE:1≤m)(hm:m≤62):
  Cl 298 #[.pointer (some ⟨g,0,none⟩)] w (Rs (.int .i64 (Hd.ax m:Nat)) w):=by
 have c4:=h.c4;clear h;go_enter func298,ntmps298;go_wp2;go_ret;exact⟨mD (zT m hm),rfl⟩
theorem vL(v:Nat)(w:World)(hv:v<2^64):
  Cl 132 #[.int .u64 (v:Int)] w (Rs (.int .i64 (Hd.bl v:Nat)) w):=by
 have h:=rI (v:Int) w oq oq;simpa using h
theorem gB(x:Int)(v:Nat)(w:World)(hx:x=(v:Int))(hv:v<2^64):
  Cl 132 #[.int .u64 x] w (Rs (.int .i64 (Hd.bl v:Nat)) w):=by
 rw[hx];exact vL v w hv
theorem wC(g:Nat)(lo hi d:Int)(u m v:Nat)(w:World)(h:Mp w g lo hi d u m)(lE:u+m≤62)(hv:v<2^63):
  Cl 315 #[.pointer (some ⟨g,0,none⟩),.int .i64 (v:Int)] w (Rq (.int .i64 (Hd.bk u m v:Nat)) w):=by
 have c3:=h.c3;have c4:=h.c4;clear h;have PF:(v:Int)≤9223372036854775807:=oq;have hb:=Hd.mQ v oq;have e:((Hd.bk u m v:Nat):Int)=max 0 ((Hd.bl v:Int)-u-m):=by unfold Hd.bk;omega
 rw[e];clear e;go_enter func315,ntmps315;go_wp2;go_quiet ((go_at_call 132;refine Calls.quiet_of_same (vL v _ oq)));go_wp2
 all_goals (go_ret;exact⟨mD oq,_,rfl⟩)
theorem FV(g:Nat)(lo hi d:Int)(u m v:Nat)(w:World)(h:Mp w g lo hi d u m)(gE:1≤m)(lE:u+m≤62)(hv:v<2^63):
  Cl 297 #[.pointer (some ⟨g,0,none⟩),.int .i64 (v:Int)] w (Rq (.tuple #[.int .i64 (Hd.bk u m v:Nat),.int .i64 (Hd.ck u m v:Nat)]) w):=by
 have c3:=h.c3;have PF:(v:Int)≤9223372036854775807:=oq;have hb:=Hd.pg (u:=u) (m:=m) hv oq;have HM:=Oh h;clear h;go_enter func297,ntmps297;go_wp2_with fail;refine(wC g lo hi d u m v _ HM.out lE hv).mono ?_;rintro e w1 ⟨rfl,n,rfl⟩;go_wp2;go_quiet (fail);go_wp2;go_ret2;exact⟨by rw[Hd.ck];push_cast;rfl,n+nq,by rw[World.drewN_drewN]⟩
def vb(m i:Nat):Nat:=i/Hd.ax m-1
def vk(m i:Nat):Nat:=if i/Hd.ax m=0 then i else i%Hd.ax m+Hd.ax m
theorem rL(g:Nat)(lo hi d:Int)(u m v:Nat)(w:World)(h:Mp w g lo hi d u m)(gE:1≤m)(hm:m≤18)(lE:u+m≤62)(hv:v<2^63):
  Cl 209 #[.pointer (some ⟨g,0,none⟩),.int .i64 (v:Int)] w (Rq (.tuple #[.int .i64 (Hd.idx u m v:Nat),.int .i64 0]) w):=by
 have PF:(v:Int)≤9223372036854775807:=oq;have hb:=Hd.pg (u:=u) (m:=m) hv oq;have hh:=Hd.fJ hm;have hc:=Hd.Ga (u:=u) (m:=m) hv;have h2:=Hd.vU m gE;have hi:=Hd.y9 (u:=u) hv gE hm;have hp:((Hd.bk u m v:Int)+1)*(Hd.ax m:Int)=((Hd.bk u m v*Hd.ax m:Nat):Int)+(Hd.ax m:Int):=by push_cast;rw[Int.add_mul,Int.one_mul]
 have HE:=Oh (show((Hd.idx u m v:Nat):Int)=((Hd.bk u m v*Hd.ax m:Nat):Int)+(Hd.ck u m v:Int) by unfold Hd.idx;push_cast;rfl);have hx:Hd.bk u m v*Hd.ax m≤16777216:=by unfold Hd.idx at hi;omega
 generalize Hd.bk u m v*Hd.ax m=X at*;have HM:=Oh h;have Ql:(Hd.ck u m v:Int)≤262144:=oq;have hx2:(X:Int)≤16777216:=oq;have Zd:(Hd.ax m:Int)≤131072:=oq;clear h h2 hi;rw[HE.out];clear HE;go_enter func209,ntmps209;go_wp2_with fail;refine(FV g lo hi d u m v _ HM.out gE lE hv).mono ?_;rintro e w1 ⟨rfl,n,rfl⟩;go_wp2_with fail;refine(jW g lo hi d u m _ (HM.out.drewN _) gE oq).mono ?_;rintro e w1 ⟨rfl,rfl⟩;go_wp2_with fail;refine(jW g lo hi d u m _ (HM.out.drewN _) gE oq).mono ?_;rintro e w1 ⟨rfl,rfl⟩;go_wp2_with fail;go_ret2;exact⟨congrArg (fun z=>Ending.returned (.tuple #[.int .i64 z,.int .i64 0])) (show(X:Int)+Hd.ax m+Hd.ck u m v-Hd.ax m=X+Hd.ck u m v by omega),n,rfl⟩
theorem IZ{u m v:Nat}(hv:v<2^63)(gE:1≤m)(lE:u+m≤62):
  Ending.returned (.tuple #[.int .i64 (wrap64 ((Hd.ck u m v:Int)*2^(Hd.bk u m v+u))),.int .i64 (wrap64 (wrap64 ((Hd.ck u m v:Int)*2^(Hd.bk u m v+u))+wrap64 (wrap64 ((2:Int)^(Hd.bk u m v+u))-1)))])=Ending.returned (.tuple #[.int .i64 (Hd.low u m v:Nat),.int .i64 ((Hd.low u m v+(Hd.size u m v-1):Nat):Int)]):=by
 have hb:=Hd.pg (u:=u) (m:=m) hv oq;have h1:=Hd.kZ (u:=u) (m:=m) hv oq;have h2:=Hd.CV (u:=u) (m:=m) (v:=v);have h3:Hd.size u m v≤2^62:=Nat.pow_le_pow_right oq oq;have e1:(Hd.ck u m v:Int)*2^(Hd.bk u m v+u)=((Hd.low u m v:Nat):Int):=by unfold Hd.low;push_cast;rfl
 have e2:(2:Int)^(Hd.bk u m v+u)=((Hd.size u m v:Nat):Int):=by unfold Hd.size;push_cast;rfl
 rw[e1,e2];have f1:wrap64 ((Hd.low u m v:Nat):Int)=((Hd.low u m v:Nat):Int):=by unfold wrap64;omega
 have f2:wrap64 ((Hd.size u m v:Nat):Int)=((Hd.size u m v:Nat):Int):=by unfold wrap64;omega
 have f3:wrap64 (((Hd.size u m v:Nat):Int)-1)=((Hd.size u m v:Nat):Int)-1:=by unfold wrap64;omega
 have f4:wrap64 (((Hd.low u m v:Nat):Int)+(((Hd.size u m v:Nat):Int)-1))=((Hd.low u m v+(Hd.size u m v-1):Nat):Int):=by unfold wrap64;omega
 rw[f1,f2,f3,f4]
theorem Mg(g:Nat)(lo hi d:Int)(u m v:Nat)(w:World)(h:Mp w g lo hi d u m)(gE:1≤m)(lE:u+m≤62)(hv:v<2^63):
  Cl 415 #[.pointer (some ⟨g,0,none⟩),.int .i64 (v:Int)] w (Rq (.tuple #[.int .i64 (Hd.low u m v:Nat),.int .i64 ((Hd.low u m v+(Hd.size u m v-1):Nat):Int)]) w):=by
 have c3:=h.c3;have PF:(v:Int)≤9223372036854775807:=oq;have hb:=Hd.pg (u:=u) (m:=m) hv oq;have HM:=Oh h;clear h;go_enter func415,ntmps415;go_wp2_with fail;refine(FV g lo hi d u m v _ HM.out gE lE hv).mono ?_;rintro e w1 ⟨rfl,n,rfl⟩;go_wp2;go_quiet (fail);go_wp2;go_ret2;exact⟨IZ hv gE lE,n+nq,by rw[World.drewN_drewN]⟩
theorem Kz{k:Nat}(h:k≤62):wrap64 (wrap64 ((2:Int)^k)-1)=((2^k-1:Nat):Int):=by
 have h1:2^k≤2^62:=Nat.pow_le_pow_right oq h;have h2:0<2^k:=Nat.two_pow_pos k;have e:(2:Int)^k=((2^k:Nat):Int):=by push_cast;rfl
 rw[e];unfold wrap64;omega
theorem Hr(g:Nat)(lo hi d:Int)(u m v:Nat)(w:World)(h:Mp w g lo hi d u m)(gE:1≤m)(lE:u+m≤62)(hv:v<2^63):
  Cl 355 #[.pointer (some ⟨g,0,none⟩),.int .i64 (v:Int),.func (Fn.func 356) #[] #[]] w (Rq (.tuple #[.int .i64 ((Hd.low u m v+(Hd.size u m v-1):Nat):Int),.int .i64 0]) w):=by
 have PF:(v:Int)≤9223372036854775807:=oq;have HM:=Oh h;clear h;go_enter func355,ntmps355;go_wp2_with fail;refine(Mg g lo hi d u m v _ HM.out gE lE hv).mono ?_;rintro e w1 ⟨rfl,n,rfl⟩;go_wp2;go_ret2;exact⟨congrArg (fun z=>Ending.returned (.tuple #[.int .i64 z,.int .i64 0])) (Int.natCast_add _ _).symm,n,rfl⟩
theorem LU(g:Nat)(lo hi d:Int)(u m v:Nat)(w:World)(h:Mp w g lo hi d u m)(gE:1≤m)(lE:u+m≤62)(hv:v<2^63):
  Cl 289 #[.pointer (some ⟨g,0,none⟩),.int .i64 (v:Int)] w (Rq (.tuple #[.int .i64 ((Hd.low u m v+(Hd.size u m v-1):Nat):Int),.int .i64 0]) w):=by
 have HM:=Oh h;clear h;go_enter func289,ntmps289;go_wp2_with fail;refine(Hr g lo hi d u m v _ HM.out gE lE hv).mono ?_;rintro e w1 ⟨rfl,n,rfl⟩;go_wp2;go_ret2;exact⟨rfl,n,rfl⟩
theorem rv(g:Nat)(lo hi d:Int)(u m:Nat)(w:World)(h:Mp w g lo hi d u m):
  Cl 174 #[.pointer (some ⟨g,0,none⟩)] w (Rb (.agg #[.int .i64 lo,.int .i64 hi,.int .i64 d]) w):=by
 have hg:=Blk.lt h;have c0:=h.c0;have c1:=h.c1;have c2:=h.c2;clear h;go_enter func174,ntmps174;go_wp2;exact bodyPost_ret (v:=.agg #[.int .i64 lo,.int .i64 hi,.int .i64 d]) (by simp[results,results174,go_sem]) rfl ⟨rfl,Ba⟩
theorem gj(g:Nat)(lo hi d:Int)(u m V:Nat)(v:Int)(w:World)(h:Mp w g lo hi d u m)(lE:u+m≤62)(hv:V<2^63)(FR:max v 0=(V:Int)):
  Cl 227 #[.pointer (some ⟨g,0,none⟩),.int .i64 v] w (Rq (.int .i64 (1+(Hd.bk u m V:Int))) w):=by
 have hb:=Hd.pz (u:=u) (m:=m) hv;have aT:(Hd.bk u m V:Int)≤63:=oq;have HM:=Oh h;clear h;go_enter func227,ntmps227;go_wp2_with fail;refine(wC g lo hi d u m V _ HM.out lE hv).mono ?_;rintro e w1 ⟨rfl,n,rfl⟩;go_wp2;go_ret;exact⟨rfl,n,rfl⟩
theorem rS(g:Nat)(lo hi d:Int)(u m N:Nat)(n:Int)(w:World)(h:Mp w g lo hi d u m)(gE:1≤m)(hm:m≤18)(hN:N≤64)(QN:min (max n 1) 64=(N:Int)):
  Cl 232 #[.pointer (some ⟨g,0,none⟩),.int .i64 n] w (Rq (.int .i64 (((N+1)*Hd.ax m:Nat):Int)) w):=by
 have hh:=Hd.fJ hm;have hx:(N+1)*Hd.ax m≤65*131072:=Nat.mul_le_mul oq hh;have hp:((N:Int)+1)*(Hd.ax m:Int)=(((N+1)*Hd.ax m:Nat):Int):=by push_cast;rfl
 generalize(N+1)*Hd.ax m=X at*;have hx2:(X:Int)≤8519680:=oq;have hN2:(N:Int)≤64:=oq;have HM:=Oh h;clear h hx;go_enter func232,ntmps232;go_wp2_with fail;refine(jW g lo hi d u m _ HM.out gE oq).mono ?_;rintro e w1 ⟨rfl,rfl⟩;go_wp2;go_ret;exact⟨rfl,0,rfl⟩
theorem Gq(g:Nat)(lo hi d:Int)(u m k:Nat)(n:Int)(w:World)(h:Mp w g lo hi d u m)(lE:u+m≤62)(hk:k≤63)(QN:min (max n 1) 64=(k:Int)+1)(a2L:63≤k+u+m):
  Cl 258 #[.pointer (some ⟨g,0,none⟩),.int .i64 n] w (Rq (.int .i64 9223372036854775807) w):=by
 have c3:=h.c3;have c4:=h.c4;have hd:decide ((63:Int)≤(k:Int)+u+m)=true:=sq;have R3:(k:Int)≤63:=oq;have VA:(u:Int)≤62:=oq;have QL:(m:Int)≤62:=oq;clear h a2L;go_enter func258,ntmps258;go_wp2_with fail;go_quiet (fail);go_wp2;go_ret;exact⟨rfl,nq,rfl⟩
theorem zY(g:Nat)(lo hi d:Int)(u m k:Nat)(n:Int)(w:World)(h:Mp w g lo hi d u m)(lE:u+m≤62)(hk:k≤63)(QN:min (max n 1) 64=(k:Int)+1)(a2L:k+u+m≤62):
  Cl 258 #[.pointer (some ⟨g,0,none⟩),.int .i64 n] w (Rq (.int .i64 ((2^(k+u+m)-1:Nat):Int)) w):=by
 have c3:=h.c3;have c4:=h.c4;have hd:decide ((63:Int)≤(k:Int)+u+m)=false:=sq;have R3:(k:Int)≤63:=oq;have VA:(u:Int)≤62:=oq;have QL:(m:Int)≤62:=oq;clear h;go_enter func258,ntmps258;go_wp2_with fail;go_quiet (fail);go_wp2_with fail;go_quiet (fail);go_wp2;go_ret;exact⟨mD (Kz a2L),_,by rw[World.drewN_drewN]⟩
theorem KK{a h n:Nat}(hs:(a+h)*2^n<2^63):wrap64 (((a:Int)+(h:Int))*2^n)=(((a+h)*2^n:Nat):Int):=by
 have e:((a:Int)+(h:Int))*2^n=(((a+h)*2^n:Nat):Int):=by push_cast;rfl
 rw[e];unfold wrap64;omega
theorem zV(g:Nat)(lo hi d:Int)(u m i q r:Nat)(w:World)(h:Mp w g lo hi d u m)(gE:1≤m)(hm:m≤18)(lE:u+m≤62)(hi2:(i:Int)≤9223372036854775807)(hq:(i:Int)/(Hd.ax m:Int)=(q:Int))(hr:(i:Int)%(Hd.ax m:Int)=(r:Int))(Ue:r<Hd.ax m)(Vs:q=0)(Pz:i<Hd.ax m):
  Cl 234 #[.pointer (some ⟨g,0,none⟩),.int .i64 (i:Int)] w (Rq (.tuple #[.int .i64 ((i*2^u:Nat):Int),.int .i64 0]) w):=by
 have c3:=h.c3;have hh:=Hd.fJ hm;have hp:=Hd.gG m;have hz:((Hd.ax m:Int)==0)=false:=sq;have UE:¬(Hd.ax m:Int)=0:=oq;have VA:(u:Int)≤61:=oq;have hrp:(r:Int)≤131072:=oq;have hhp:(Hd.ax m:Int)≤131072:=oq;have HM:=Oh h;clear h;subst Vs;have hbm:Hd.bl i≤m-1:=(Hd.jA (m-1) i oq).2 Pz
 have ht:decide ((63:Int)<IntKind.i64.wrap (IntKind.i64.wrap (Hd.bl i:Int)+(u:Int)))=false:=by
  rw[Ol (Hd.bl i:Int) oq,Ol _ oq];simp;omega
 have hi3:(i:Int)≤131072:=oq
 have hval:wrap64 ((i:Int)*2^u)=((i*2^u:Nat):Int):=by
  have h1:i*2^u<2^(m-1)*2^u:=(Nat.mul_lt_mul_right (Nat.two_pow_pos _)).2 Pz;rw[←Nat.pow_add] at h1;have h2:2^(m-1+u)≤2^62:=Nat.pow_le_pow_right oq oq;have e:(i:Int)*2^u=((i*2^u:Nat):Int):=by push_cast;rfl
  rw[e];unfold wrap64;omega
 have HV:=Oh hval;clear hval;go_enter func234,ntmps234;go_wp2_with fail;go_quiet ((go_at_call 298;refine Calls.quiet_of_same (jW g lo hi d u m _ (HM.out.drewN _) gE oq)));go_wp2_with fail;obtain⟨W1,hW⟩:∃W1,w.drewN nq=W1:=⟨_,rfl⟩;have c31:W1.cell? ⟨g,3,none⟩=some (.int .i64 (u:Int)):=by rw[←hW];exact c3
 rw[hW];go_quiet ((go_at_call 132;refine Calls.quiet_of_same (gB _ i _ (IntWalk.u64_in _ oq) oq)));go_wp2_with fail;go_ret2;exact⟨congrArg (fun z=>Ending.returned (.tuple #[.int .i64 z,.int .i64 0])) HV.out,_,by rw[←hW,World.drewN_drewN]⟩
theorem zW(g:Nat)(lo hi d:Int)(u m i q r:Nat)(w:World)(h:Mp w g lo hi d u m)(gE:1≤m)(hm:m≤18)(lE:u+m≤62)(hi2:(i:Int)≤9223372036854775807)(hq:(i:Int)/(Hd.ax m:Int)=(q:Int))(hr:(i:Int)%(Hd.ax m:Int)=(r:Int))(Ue:r<Hd.ax m)(a5R:q≤i)(V9:65<q):
  Cl 234 #[.pointer (some ⟨g,0,none⟩),.int .i64 (i:Int)] w (Rq (.tuple #[.int .i64 0,.int .i64 5]) w):=by
 have c3:=h.c3;have hh:=Hd.fJ hm;have hp:=Hd.gG m;have hz:((Hd.ax m:Int)==0)=false:=sq;have UE:¬(Hd.ax m:Int)=0:=oq;have VA:(u:Int)≤61:=oq;have hrp:(r:Int)≤131072:=oq;have hhp:(Hd.ax m:Int)≤131072:=oq;have HM:=Oh h;clear h;have UA:decide ((q:Int)-1<0)=false:=sq;have hqi:(q:Int)≤9223372036854775807:=oq;have hqp:(1:Int)≤(q:Int):=oq;have hd:decide ((64:Int)<(q:Int)-1)=true:=sq;go_enter func234,ntmps234;go_wp2_with fail;go_quiet ((go_at_call 298;refine Calls.quiet_of_same (jW g lo hi d u m _ (HM.out.drewN _) gE oq)));go_wp2_with fail;obtain⟨W1,hW⟩:∃W1,w.drewN nq=W1:=⟨_,rfl⟩;have c31:W1.cell? ⟨g,3,none⟩=some (.int .i64 (u:Int)):=by rw[←hW];exact c3
 rw[hW];go_quiet (fail);go_wp2_with fail;go_ret2;exact⟨rfl,_,by rw[←hW,World.drewN_drewN]⟩
theorem wG(g:Nat)(lo hi d:Int)(u m i q r:Nat)(w:World)(h:Mp w g lo hi d u m)(gE:1≤m)(hm:m≤18)(lE:u+m≤62)(hi2:(i:Int)≤9223372036854775807)(hq:(i:Int)/(Hd.ax m:Int)=(q:Int))(hr:(i:Int)%(Hd.ax m:Int)=(r:Int))(Ue:r<Hd.ax m)(UA:1≤q)(V9:q≤65)(TH:63<Hd.bl (r+Hd.ax m)+(q-1)+u):
  Cl 234 #[.pointer (some ⟨g,0,none⟩),.int .i64 (i:Int)] w (Rq (.tuple #[.int .i64 0,.int .i64 5]) w):=by
 have c3:=h.c3;have hh:=Hd.fJ hm;have hp:=Hd.gG m;have hz:((Hd.ax m:Int)==0)=false:=sq;have UE:¬(Hd.ax m:Int)=0:=oq;have VA:(u:Int)≤61:=oq;have hrp:(r:Int)≤131072:=oq;have hhp:(Hd.ax m:Int)≤131072:=oq;have HM:=Oh h;clear h;have hqd:decide ((q:Int)-1<0)=false:=sq;have hqi:(q:Int)≤9223372036854775807:=oq;have hqp:(1:Int)≤(q:Int):=oq;have hqs:(q:Int)≤65:=oq;have hd:decide ((64:Int)<(q:Int)-1)=false:=sq
 have Ro:∀(x:Int) (W:World),x=(r:Int)+(Hd.ax m:Int)→Cl 132 #[.int .u64 x] W (Rs (.int .i64 (Hd.bl (r+Hd.ax m):Nat)) W):=fun x W hx=>
  gB _ (r+Hd.ax m) W (by rw[hx,Int.natCast_add]) oq
 have hL:Hd.bl (r+Hd.ax m)≤64:=Hd.mQ _ oq
 have ht:decide ((63:Int)<IntKind.i64.wrap (IntKind.i64.wrap ((Hd.bl (r+Hd.ax m):Int)+((q:Int)-1))+(u:Int)))=true:=by
  rw[Ol ((Hd.bl (r+Hd.ax m):Int)+((q:Int)-1)) oq,Ol _ oq];simp;omega
 clear TH;generalize Hd.bl (r+Hd.ax m)=L at*;go_enter func234,ntmps234;go_wp2_with fail;go_quiet ((go_at_call 298;refine Calls.quiet_of_same (jW g lo hi d u m _ (HM.out.drewN _) gE oq)));go_wp2_with fail;obtain⟨W1,hW⟩:∃W1,w.drewN nq=W1:=⟨_,rfl⟩;have c31:W1.cell? ⟨g,3,none⟩=some (.int .i64 (u:Int)):=by rw[←hW];exact c3
 rw[hW];go_quiet ((go_at_call 132;refine Calls.quiet_of_same (Ro _ _ (by first|exact IntWalk.u64_in _ oq))));go_wp2_with fail;go_ret2;exact⟨rfl,_,by rw[←hW,World.drewN_drewN]⟩
theorem Cp(g:Nat)(lo hi d:Int)(u m i q r:Nat)(w:World)(h:Mp w g lo hi d u m)(gE:1≤m)(hm:m≤18)(lE:u+m≤62)(hi2:(i:Int)≤9223372036854775807)(hq:(i:Int)/(Hd.ax m:Int)=(q:Int)+1)(hr:(i:Int)%(Hd.ax m:Int)=(r:Int))(Ue:r<Hd.ax m)(V9:q≤64)(TH:Hd.bl (r+Hd.ax m)+q+u≤63):
  Cl 234 #[.pointer (some ⟨g,0,none⟩),.int .i64 (i:Int)] w (Rq (.tuple #[.int .i64 (((r+Hd.ax m)*2^(q+u):Nat):Int),.int .i64 0]) w):=by
 have c3:=h.c3;have hh:=Hd.fJ hm;have hp:=Hd.gG m;have hz:((Hd.ax m:Int)==0)=false:=sq;have UE:¬(Hd.ax m:Int)=0:=oq;have VA:(u:Int)≤61:=oq;have hrp:(r:Int)≤131072:=oq;have hhp:(Hd.ax m:Int)≤131072:=oq;have HM:=Oh h;clear h;have hqd:decide ((q:Int)<0)=false:=by simp
 have hqi:(q:Int)≤9223372036854775807:=oq;have hqs:(q:Int)≤64:=oq;have hd:decide ((64:Int)<(q:Int))=false:=sq
 have Ro:∀(x:Int) (W:World),x=(r:Int)+(Hd.ax m:Int)→Cl 132 #[.int .u64 x] W (Rs (.int .i64 (Hd.bl (r+Hd.ax m):Nat)) W):=fun x W hx=>
  gB _ (r+Hd.ax m) W (by rw[hx,Int.natCast_add]) oq
 have hL:Hd.bl (r+Hd.ax m)≤64:=Hd.mQ _ oq
 have ht:decide ((63:Int)<IntKind.i64.wrap (IntKind.i64.wrap ((Hd.bl (r+Hd.ax m):Int)+(q:Int))+(u:Int)))=false:=by
  rw[Ol ((Hd.bl (r+Hd.ax m):Int)+(q:Int)) oq,Ol _ oq];simp;omega
 have Sb:r+Hd.ax m<2^Hd.bl (r+Hd.ax m):=(Hd.jA _ _ oq).1 (Oi _)
 have hsh:(r+Hd.ax m)*2^(q+u)<2^63:=by
  refine Nat.lt_of_lt_of_le ((Nat.mul_lt_mul_right (Nat.two_pow_pos _)).2 Sb) ?_;rw[←Nat.pow_add];exact Nat.pow_le_pow_right oq oq
 have hqu:(q:Int)+(u:Int)≤63:=oq;have HS:=Oh hsh;clear TH Sb hsh;generalize Hd.bl (r+Hd.ax m)=L at*;go_enter func234,ntmps234;go_wp2_with fail;go_quiet ((go_at_call 298;refine Calls.quiet_of_same (jW g lo hi d u m _ (HM.out.drewN _) gE oq)));go_wp2_with fail;obtain⟨W1,hW⟩:∃W1,w.drewN nq=W1:=⟨_,rfl⟩;have c31:W1.cell? ⟨g,3,none⟩=some (.int .i64 (u:Int)):=by rw[←hW];exact c3
 rw[hW];go_quiet ((go_at_call 132;refine Calls.quiet_of_same (Ro _ _ (by first|exact IntWalk.u64_in _ oq))));go_wp2_with fail;go_ret2;exact⟨congrArg (fun z=>Ending.returned (.tuple #[.int .i64 z,.int .i64 0])) (KK HS.out),_,by rw[←hW,World.drewN_drewN]⟩
def dS(u m i:Nat):Bool:=decide (64<vb m i)||decide (63<Hd.bl (vk m i)+vb m i+u)
def db(u m i:Nat):Nat:=if dS u m i then 0 else vk m i*2^(vb m i+u)
def fe(u m i:Nat):Int:=if dS u m i then 5 else 0
theorem yi(g:Nat)(lo hi d:Int)(u m i:Nat)(w:World)(h:Mp w g lo hi d u m)(gE:1≤m)(hm:m≤18)(lE:u+m≤62)(hi2:i<2^63):
  Cl 234 #[.pointer (some ⟨g,0,none⟩),.int .i64 (i:Int)] w (Rq (.tuple #[.int .i64 (db u m i:Nat),.int .i64 (fe u m i)]) w):=by
 have hp:=Hd.gG m;have Ue:i%Hd.ax m<Hd.ax m:=Nat.mod_lt _ hp;have a5R:i/Hd.ax m≤i:=Nat.div_le_self _ _;have hq:(i:Int)/(Hd.ax m:Int)=((i/Hd.ax m:Nat):Int):=by push_cast;rfl
 have hr:(i:Int)%(Hd.ax m:Int)=((i%Hd.ax m:Nat):Int):=by push_cast;rfl
 by_cases Vs:i/Hd.ax m=0
 ·have Pz:i<Hd.ax m:=by
   rcases Nat.div_eq_zero_iff.1 Vs with h1|h1
   ·omega
   ·exact h1
  have hbm:Hd.bl i≤m-1:=(Hd.jA (m-1) i oq).2 Pz;have e:dS u m i=false:=by simp[dS,vb,vk,Vs];omega
  have e1:db u m i=i*2^u:=by simp[db,e,vb,vk,Vs]
  have e2:fe u m i=0:=by simp[fe,e]
  rw[e1,e2];exact zV g lo hi d u m i _ _ w h gE hm lE oq hq hr Ue Vs Pz
 ·have hvb:vb m i=i/Hd.ax m-1:=rfl;have hvk:vk m i=i%Hd.ax m+Hd.ax m:=by simp[vk,Vs]
  by_cases V9:65<i/Hd.ax m
  ·have e:dS u m i=true:=by simp only[dS,hvb,Bool.or_eq_true,decide_eq_true_eq];omega
   have e1:db u m i=0:=by simp[db,e]
   have e2:fe u m i=5:=by simp[fe,e]
   rw[e1,e2];exact zW g lo hi d u m i _ _ w h gE hm lE oq hq hr Ue a5R V9
  ·by_cases TH:63<Hd.bl (i%Hd.ax m+Hd.ax m)+(i/Hd.ax m-1)+u
   ·have e:dS u m i=true:=by simp only[dS,hvb,hvk,Bool.or_eq_true,decide_eq_true_eq];omega
    have e1:db u m i=0:=by simp[db,e]
    have e2:fe u m i=5:=by simp[fe,e]
    rw[e1,e2];exact wG g lo hi d u m i _ _ w h gE hm lE oq hq hr Ue (Nat.pos_of_ne_zero Vs) (Nat.le_of_not_lt V9) TH
   ·have e:dS u m i=false:=by simp only[dS,hvb,hvk,Bool.or_eq_false_iff,decide_eq_false_iff_not];omega
    have e1:db u m i=(i%Hd.ax m+Hd.ax m)*2^(i/Hd.ax m-1+u):=by simp[db,e,hvb,hvk]
    have e2:fe u m i=0:=by simp[fe,e]
    rw[e1,e2];have RQ:i/Hd.ax m=(i/Hd.ax m-1)+1:=by have:=Nat.pos_of_ne_zero Vs;omega
    exact Cp g lo hi d u m i (i/Hd.ax m-1) _ w h gE hm lE oq (by rw[hq];exact_mod_cast RQ) hr Ue (by have:=Nat.le_of_not_lt V9;omega) (Nat.le_of_not_lt TH)
def p10(n:Nat):Nat:=10^n
theorem Dl(k:Nat):((p10 k:Nat):Int)*10=((p10 (k+1):Nat):Int):=by
 unfold p10;rw[Nat.pow_succ];push_cast;rfl
theorem Fw{k:Nat}(h:k≤5):p10 k≤100000:=Oo (Nat.pow_le_pow_right oq h) od
theorem Hl(k:Nat):1≤p10 k:=Nat.pow_pos oq
theorem AL(d:Nat)(w:World)(hd:d≤5):
  Cl 314 #[.int .i64 (d:Int)] w (Rs (.tuple #[.int .u64 (p10 d:Nat),.int .i64 0]) w):=by
 have Vv:(d:Int)≤5:=oq;go_enter func314,ntmps314;go_wp2_with fail;go_loop [4,12] (fun v i=>∃k:Nat,k≤d∧i=.int .i64 k∧v=.int .u64 (p10 k:Nat)) (fun _ i=>d-(intOf i).toNat)
 case atStart=>exact⟨0,Nat.zero_le _,rfl,rfl⟩
 case round=>
  obtain⟨k,hk,rfl,rfl⟩:=hrel
  by_cases hlt:k<d
  ·have hlt':(k:Int)<d:=oq;have hb:=Fw (show k+1≤5 by omega);have hs:=Dl k;obtain⟨R,hR⟩:=nm (p10 (k+1));rw[←hR] at hs hb;generalize p10 k=P at*;have dO:(R:Int)≤100000:=oq;have HR:=Oh hR;clear hR hb;go_wp2;go_round
   case rel=>exact⟨k+1,oq,by go_num,by rw[HR.out]⟩
   case measure=>simp[intOf];omega
  ·go_wp2;go_ret2;obtain rfl:k=d:=oq;exact⟨rfl,rfl⟩
def uOf(L:Nat):Nat:=Hd.bl L-1
def mOf(D:Nat):Nat:=Hd.bl (2*p10 D-1)
theorem eL{D:Nat}(h1:1≤D)(h5:D≤5):5≤mOf D∧mOf D≤18:=by
 obtain rfl|rfl|rfl|rfl|rfl:D=1∨D=2∨D=3∨D=4∨D=5:=oq
 all_goals decide+kernel
theorem Kv{L:Nat}(h:L<2^63):uOf L≤62:=by
 have:=(Hd.jA 63 L oq).2 h;unfold uOf;omega
theorem Mx{L:Nat}(h:L<2^63)(h1:1≤L):1≤Hd.bl L:=(Hd.Ny 0 L oq).2 (by simpa using h1)
theorem lJ{W0 W:World}{H:Nat}{i:Nat}{v:Value}(h:W.cell? ⟨H,i,none⟩=some v)(hb:Below W0.heap.size W0 W)(hH:H<W0.heap.size)(o:Obj):(W.alloc o).cell? ⟨H,i,none⟩=some v:=
 (World.cell?_alloc_lt W o ⟨H,i,none⟩ (Nat.lt_of_lt_of_le hH hb.size)).trans h
theorem Bs{W0 W:World}{H:Nat}{a b c:Value}(hH:H<W0.heap.size)(h:W.cell? ⟨H,0,none⟩=some a∧W.cell? ⟨H,1,none⟩=some b∧W.cell? ⟨H,2,none⟩=some c∧Below W0.heap.size W0 W)(o:Obj):
  (W.alloc o).cell? ⟨H,0,none⟩=some a∧(W.alloc o).cell? ⟨H,1,none⟩=some b∧(W.alloc o).cell? ⟨H,2,none⟩=some c∧Below W0.heap.size W0 (W.alloc o):=
 ⟨lJ h.1 h.2.2.2 hH o,lJ h.2.1 h.2.2.2 hH o,lJ h.2.2.1 h.2.2.2 hH o,h.2.2.2.alloc h.2.2.2.size o⟩
def JE(L:Nat)(hi:Int)(D u m:Nat)(w:World)(e:Ending)(w':World):Prop:=
 ∃g,e=.returned (.tuple #[.pointer (some ⟨g,0,none⟩),.int .i64 0])∧w.heap.size≤g∧g<w'.heap.size∧Mp w' g (L:Int) hi (D:Int) u m∧Below w.heap.size w w'
theorem ir(L D:Nat)(hi:Int)(w:World)(h1:1≤D)(h5:D≤5)(hL:1≤L)(SD:2*(L:Int)≤hi)(FR:hi≤9223372036854775807)(lE:uOf L+mOf D≤62):
  Cl 226 #[.agg #[.int .i64 (L:Int),.int .i64 hi,.int .i64 (D:Int)]] w (JE L hi D (uOf L) (mOf D) w):=by
 have e1:decide ((D:Int)<1)=false:=sq;have e2:decide (5<(D:Int))=false:=sq;have e3:decide ((L:Int)<1)=false:=sq
 have e4:decide (wrap64 (hi.tdiv 2)<(L:Int))=false:=by
  have hdiv:hi.tdiv 2=hi/2:=Int.tdiv_eq_ediv_of_nonneg oq;rw[hdiv];unfold wrap64;simp;omega
 have PT:(L:Int)≤4611686018427387903:=oq;have hLb:=Hd.mQ L oq;have hLp:=Mx (L:=L) oq hL;have ahg:=Kv (L:=L) oq;have hU:(Hd.bl L:Int)-1=((uOf L:Nat):Int):=by unfold uOf;omega
 have hm:=eL h1 h5;have ahh:=Fw h5;have adK:=Hl D;have HT:=fun W=>AL D W h5;have HM:=fun W=>gB (2*(p10 D:Int)-1) (2*p10 D-1) W oq oq;have PW:=fun W=>gB (IntKind.u64.wrap (IntKind.u64.wrap (2*(p10 D:Int))-1)) (2*p10 D-1) W (by rw[IntWalk.u64_in (2*(p10 D:Int)) oq,IntWalk.u64_in _ oq];omega) oq;have HL:=fun W=>gB (IntKind.u64.wrap (L:Int)) L W (IntWalk.u64_in _ oq) oq
 change ∀W,Cl 132 #[.int .u64 (2*(p10 D:Int)-1)] W (Rs (.int .i64 (mOf D:Nat)) W) at HM
 change ∀W,Cl 132 #[.int .u64 (IntKind.u64.wrap (IntKind.u64.wrap (2*(p10 D:Int))-1))] W (Rs (.int .i64 (mOf D:Nat)) W) at PW
 generalize p10 D=T at*;generalize mOf D=M at*;generalize uOf L=U at*;generalize hB:Hd.bl L=B at*;have hT2:(T:Int)≤100000:=oq;have hT1:(1:Int)≤T:=oq;have hM2:(M:Int)≤18:=oq;have Qw:(B:Int)≤64:=oq;have QI:decide (62<(U:Int)+M)=false:=sq;have hU2:(U:Int)≤62:=oq;have hUw:IntKind.i64.wrap (U:Int)=(U:Int):=Ol _ oq;go_enter func226,ntmps226;go_wp2_with fail;refine(HT _).mono ?_;rintro e w1 ⟨rfl,rfl⟩;go_wp2_with fail;have aC:Below w.heap.size w (w.alloc (.cells #[.int .i64 (L:Int),.int .i64 hi,.int .i64 (D:Int)] 27)):=Ba;have hblk:=Blk.new w 27 #[.int .i64 (L:Int),.int .i64 hi,.int .i64 (D:Int)];have hH0:w.heap.size≤w.heap.size:=Oi _;generalize w.alloc (.cells #[.int .i64 (L:Int),.int .i64 hi,.int .i64 (D:Int)] 27)=W0 at*;generalize hH:w.heap.size=H at hblk hH0 ⊢;have hlt:=hblk.lt;have k0:=hblk.c0;have k1:=hblk.c1;have k2:=hblk.c2;have a10:W0.drew.cell? ⟨H,0,none⟩=some (.int .i64 (L:Int))∧W0.drew.cell? ⟨H,1,none⟩=some (.int .i64 hi)∧W0.drew.cell? ⟨H,2,none⟩=some (.int .i64 (D:Int))∧Below W0.heap.size W0 W0.drew:=⟨k0,k1,k2,(Oq _ _).drew⟩
 go_region_held3 (fun W'=>W'.cell? ⟨H,0,none⟩=some (.int .i64 (L:Int))∧W'.cell? ⟨H,1,none⟩=some (.int .i64 hi)∧W'.cell? ⟨H,2,none⟩=some (.int .i64 (D:Int))∧Below W0.heap.size W0 W') ((first|exact a10|assumption|exact Bs hlt (by assumption) _)) ((first
   |(go_at_call 132;(with_reducible refine(HL _).mono ?_);rintro e w4 ⟨rfl,rfl⟩)
   |(go_at_call 132;(with_reducible refine(PW _).mono ?_);rintro e w5 ⟨rfl,rfl⟩)
   |(go_at_call 132;(with_reducible refine(HM _).mono ?_);rintro e w5 ⟨rfl,rfl⟩)))
 have aT:=Blk.new W0 355 #[.int .i64 (L:Int),.int .i64 hi,.int .i64 (D:Int),.int .i64 (U:Int),.int .i64 (M:Int)];have VC:Below W0.heap.size W0 (W0.alloc (.cells #[.int .i64 (L:Int),.int .i64 hi,.int .i64 (D:Int),.int .i64 (U:Int),.int .i64 (M:Int)] 355)).drew:=(Ba).drew;replace aT:=aT.drew;generalize(W0.alloc (.cells #[.int .i64 (L:Int),.int .i64 hi,.int .i64 (D:Int),.int .i64 (U:Int),.int .i64 (M:Int)] 355)).drew=W2 at*;have HB:=Oh aC;have bY:=Oh VC;clear aC VC a10;generalize hG:W0.heap.size=G at aT ⊢;have c3:=aT.c3;have c4:=aT.c4;have Pg:=Oh aT;clear aT;go_wp2_with fail;go_quiet (fail);go_wp2_with fail;go_ret2;have h1:=Pg.out;refine⟨G,rfl,oq,h1.lt,h1,?_⟩;exact ae (HB.out.trans (bY.out.mono oq)) _
end Go.Proofs.YtmbippkpjdoojaaGreat.Hdr
