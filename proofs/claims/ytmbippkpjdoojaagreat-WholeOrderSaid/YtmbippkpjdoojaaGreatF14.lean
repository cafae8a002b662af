/- Parts of a proof, merged. -/
import Derived.Test.YtmbippkpjdoojaaGreatF11
set_option maxRecDepth 100000
set_option maxHeartbeats 1600000
namespace Go.Proofs.YtmbippkpjdoojaaGreat
open Tryz
open Go.RowKit
theorem jv:fH prog 192 2 1 8:=cy underlying192 (z:=.int .i64 0) ok' od od
def oQ(w:World)(n:Nat)(xs:List Value)(e:Ending)(w':World):Prop:=∃A c,e=.returned (.slice A n c)∧Own w' w.heap.size 2 1 A n c xs∧Below w.heap.size w w'
theorem wz(A:Option Addr)(n c:Nat)(xs:List Value)(w:World)(hb:am w w.heap.size 1 A n xs)(h1:∀u∈xs,u.oneCell'=true)(hl:n≤100000000):
  Cl 182 #[.slice A n c] w (oQ w n xs):=by
 rcases A with _|a
 ·have UT:n=0:=by
   rcases Nat.eq_zero_or_pos n with h0|h0
   ·exact h0
   ·obtain⟨b,o,e,_⟩:=hb.2 h0;cases e
  subst UT;have hx:xs=[]:=List.length_eq_zero_iff.1 (by have:=hb.1;omega);subst hx;have hk:∀W:World,(binOp .eql 192 (.slice none 0 c) (.slice none 0 0)).run prog W=.ok (.bool true) W:=fun W=>Lib.run_eql_slice_nil W 192 2 none 0 c 0 0 underlying192;clear hb h1;go_enter func182,ntmps182;go_wp2_with fail;go_ret;exact⟨none,0,rfl,Own.nil _ _ _ _,Oq _ _⟩
 ·have hk:∀W:World,(binOp .eql 192 (.slice (some a) n c) (.slice none 0 0)).run prog W=.ok (.bool false) W:=fun W=>Lib.run_eql_slice_nil W 192 2 (some a) n c 0 0 underlying192;have HB:=Oh hb;have HO:=Oh h1;clear hb h1;go_enter func182,ntmps182;go_wp2_with (at_builtin;refine Hid.out ?_);have Ux:Own (w.alloc (.cells #[] 2)) w.heap.size 2 1 (some ⟨w.heap.size,0,none⟩) 0 0 []:=Own.made w _ _ _ #[] 0 (Oi _) (Nat.zero_le _) rfl;have Oy:Below w.heap.size w (w.alloc (.cells #[] 2)):=Ba;have QV:=HB.out.at_below Oy;refine aj (xs:=[]) rfl rfl jv rfl Ux rfl QV HO.out n (Nat.zero_add _) xs rfl (by unfold maxLen;omega) oq Oy.size ?_;intro A2 c2 w2 o2 g2 q2;have nO:Hid (Own w2 w.heap.size 2 1 A2 n c2 xs):=Oh o2;exact kw
theorem IK(m:Nat)(hm:m≤100000000)(w:World):
  Cl 362 #[.slice none 0 0,.int .i64 (m:Int)] w (oQ w 0 []):=by
 have x0:decide ((m:Int)<0)=false:=by simp
 have x1:IntKind.i64.wrap ((m:Int)-0)=(m:Int):=i6;rcases Nat.eq_zero_or_pos m with h0|h0
 ·subst h0;go_enter func362,ntmps362;go_wp2_with fail;go_ret;exact⟨none,0,rfl,Own.nil _ _ _ _,Oq _ _⟩
 ·have x2:decide ((0:Int)<(m:Int))=true:=sq;have QA:(m:Int)≤100000000:=oq;go_enter func362,ntmps362;go_wp2_with (at_builtin;refine Hid.out ?_);obtain⟨ht,ti,z,hi,hz,OP,Vk,UK,Is⟩:=jv;obtain⟨c1,cs,iN,hcs,U2,Qb⟩:=fE (w:=w) (ty:=192) ht underlying3 hi hz OP Vk UK m h0 oq oq;refine cJ rfl _ _ _ _ rfl _ _ rfl rfl iN ?_;have HO:Hid (Own (w.drew.alloc (.cells cs 2)) w.heap.size 2 1 (some ⟨w.heap.size,0,none⟩) 0 c1 []):=Oh ⟨rfl,.inr ⟨w.heap.size,c1,cs,rfl,Oi _,heap_alloc_new w.drew _,Nat.zero_le _,Qb,hcs,by simp⟩⟩;have HB:Hid (Below w.heap.size w (w.drew.alloc (.cells cs 2))):=Oh ((Oq _ _).drew.alloc (Oi _) _);have St:=fun W=>fD (P:=prog) jv w.heap.size m c1 W;exact nZ
theorem BZ(S:Option Addr)(cS:Nat)(hs:List Hd)(w:World)(h:fX w w.heap.size 1 S hs)(hl:hs.length≤100000000)(hn:aw hs≤100000000):
  Cl 296 #[.slice S hs.length cS] w (oQ w (aw hs) (bZ hs)):=by
 have HH:=Oh h;have HN:=Oh hn;have HG:=Oh (IK (aw hs) hn w);have Rl:(aw hs:Int)≤100000000:=oq;have Lt:(hs.length:Int)≤100000000:=oq;have HR:=Oh (show aw (hs.take hs.length)=aw hs∧bZ (hs.take hs.length)=bZ hs by rw[List.take_length];exact⟨rfl,rfl⟩);clear h hn hl;go_enter func296,ntmps296;go_wp2_with fail;go_loopw [3,11] (fun u v wr=>∃(i:Nat),i≤hs.length∧v=.int .i64 (i:Int)∧u=.int .i64 (aw (hs.take i):Nat)∧wr=w) (fun _ v _=>hs.length-(intOf v).toNat)
 case atStart=>exact⟨0,Nat.zero_le _,rfl,rfl,rfl⟩
 case round=>
  obtain⟨i,hi,rfl,rfl,hw⟩:=hrel;obtain rfl:=hw.symm
  by_cases hlt:i<hs.length
  ·exact nX
  ·obtain rfl:i=hs.length:=oq;rw[HR.out.1];clear hi hlt;have t1:¬(hs.length:Int)<(hs.length:Int):=oq;go_wp2_with fail;refine HG.out.mono ?_;rintro e w1 ⟨A1,c1,rfl,o1,b1⟩;have IF:=Oh o1;have aS:=Oh b1;clear o1 b1 t1;go_wp2_with fail;go_loopw [6,27] (fun u v wr=>∃(i:Nat) (A:Option Addr) (c:Nat),i≤hs.length∧v=.int .i64 (i:Int)∧u=.slice A (aw (hs.take i)) c∧Own wr w.heap.size 2 1 A (aw (hs.take i)) c (bZ (hs.take i))∧Below w.heap.size w wr) (fun _ v _=>hs.length-(intOf v).toNat)
   case atStart=>exact⟨0,A1,c1,Nat.zero_le _,rfl,rfl,IF.out,aS.out⟩
   case round=>
    obtain⟨i,A,c,hi,rfl,rfl,ho,hb⟩:=hrel;have HO:=Oh ho;have HB:=Oh hb;clear ho hb IF aS HG
    by_cases hlt:i<hs.length
    ·obtain⟨x,hx⟩:=gs hs i hlt;have XV:=HH.out.below HB.out;obtain⟨b,o,rfl,_,d0⟩:=XV.at_ hx;have Wf:=Oh (XV.each x (Om hx));obtain⟨Le,hnv⟩:=jb hx;have hle:=kG hs (i+1);have hN:=HN.out;have t1:(i:Int)<(hs.length:Int):=oq;have oR:=Oh hlt;have PE:=Oh (And.intro Le hnv);have Qy:Hid (aw (hs.take i)+x.n≤100000000):=Oh oq;clear hlt Le hnv hle hN hi XV;generalize aw (hs.take i)=N0 at*;go_wp2_with (at_builtin;refine Hid.out ?_);refine aj rfl rfl jv rfl HO.out rfl Wf.out.1 Wf.out.2 _ rfl _ rfl (by have:=Qy.out;unfold maxLen;omega) (by have:=Qy.out;omega) HB.out.size ?_;exact ob
    ·obtain rfl:i=hs.length:=oq;have sO:Hid (Own wr w.heap.size 2 1 A (aw hs) c (bZ hs)):=Oh (by have h:=HO.out;rw[HR.out.1,HR.out.2] at h;exact h);exact nS
def ivs(l:List Int):List Value:=l.map (fun v=>.int .i64 v)
theorem kX(l:List Int):∀u∈ivs l,u.oneCell'=true:=by
 intro u hu;obtain⟨v,_,rfl⟩:=List.mem_map.1 hu;rfl
theorem Iu(a b:List Int):ivs (a++b)=ivs a++ivs b:=by simp[ivs]
theorem kY{l:List Int}{i:Nat}{v:Int}(h:l[i]?=some v):(ivs l)[i]?=some (.int .i64 v):=by simp[ivs,h]
structure KR where
 A:Option Addr
 c:Nat
 l:List Int
def krV(r:KR):Value:=.slice r.A r.l.length r.c
def jD(w:World)(base:Nat)(A:Option Addr)(c:Nat)(l:List Int):Prop:=Own w base 2 1 A l.length c (ivs l)
def fP(w:World)(base:Nat)(S:Option Addr)(cS:Nat)(R:List KR):Prop:=Own w base 192 1 S R.length cS (R.map krV)
theorem zh:fH prog 189 192 1 24:=cy underlying189 (z:=.slice none 0 0) ok' od od
structure KS where
 k:Nat
 L:List (List Int)
 n:Nat
 g:Nat
structure Stk(w:World)(x:Nat)(S:Option Addr)(cS:Nat)(R:List KR)(s:KS):Prop where
 blk:Blk w x 274 #[.int .i64 (s.k:Int),.slice S R.length cS,.int .u64 (s.n:Int),.int .u64 (s.g:Int)]
 top:fP w 0 S cS R
 rows:∀r∈R,jD w 0 r.A r.c r.l
 apart:R.Pairwise (fun r q=>∀i,aa r.A=some i→aa q.A≠some i)
 is:R.map (·.l)=s.L
def SF(x:Nat)(S:Option Addr)(R:List KR)(i:Nat):Prop:=i=x∨aa S=some i∨∃r∈R,aa r.A=some i
section
variable {w w':World} {x:Nat} {S:Option Addr} {cS:Nat} {R:List KR} {s:KS} {K:Nat→Prop}
theorem Stk.only(h:Stk w x S cS R s)(k:ab K w w')(hd:∀i,SF x S R i→¬K i):Stk w' x S cS R s:=
 ⟨h.blk.only k (hd x (.inl rfl)),Own.only h.top k (fun g hg=>hd g (.inr (.inl hg))),fun r hr=>Own.only (h.rows r hr) k (fun g hg=>hd g (.inr (.inr ⟨r,hr,hg⟩))),h.apart,h.is⟩
theorem Stk.below(h:Stk w x S cS R s)(hb:Below w.heap.size w w'):Stk w' x S cS R s:=h.only (ab.of_below (K:=fun _=>False) hb) (fun _ _ h=>h)
theorem Stk.drewN(h:Stk w x S cS R s)(n:Nat):Stk (w.drewN n) x S cS R s:=h.below (ae (Oq _ _) n)
theorem Stk.lt(h:Stk w x S cS R s):∀i,SF x S R i→i<w.heap.size:=by
 rintro i (rfl|hi|⟨r,hr,hi⟩)
 ·exact h.blk.lt
 ·exact(Own.block h.top hi).2
 ·exact(Own.block (h.rows r hr) hi).2
theorem Stk.held(h:Stk w x S cS R s):ar (fun w=>Stk w x S cS R s) (SF x S R) w:=⟨h,h.lt,fun _ _ k hd=>h.only k hd⟩
theorem Stk.c0(h:Stk w x S cS R s):w.cell? ⟨x,0,none⟩=some (.int .i64 (s.k:Int)):=h.blk.ce
theorem Stk.c1(h:Stk w x S cS R s):w.cell? ⟨x,1,none⟩=some (.slice S R.length cS):=h.blk.ce
theorem Stk.c2(h:Stk w x S cS R s):w.cell? ⟨x,2,none⟩=some (.int .u64 (s.n:Int)):=h.blk.ce
theorem Stk.c3(h:Stk w x S cS R s):w.cell? ⟨x,3,none⟩=some (.int .u64 (s.g:Int)):=h.blk.ce
theorem Stk.len(h:Stk w x S cS R s):R.length=s.L.length:=by rw[←h.is,List.length_map]
end
theorem FK(k:Nat)(w:World)(h0:8≤k)(h1:k≤4096):
  Cl 169 #[.int .i64 (k:Int)] w fun e w'=>∃x,e=.returned (.tuple #[.pointer (some ⟨x,0,none⟩),.int .i64 0])∧w.heap.size≤x∧Stk w' x none 0 [] ⟨k,[],0,0⟩∧Below w.heap.size w w':=by
 have x1:decide ((k:Int)<8)=false:=sq;have x2:decide ((4096:Int)<(k:Int))=false:=sq;clear h0 h1;go_enter func169,ntmps169;go_wp2_with fail;go_ret2;exact⟨w.heap.size,rfl,Oi _,⟨Blk.new _ _ _,Own.nil _ _ _ _,(fun r hr=>by cases hr),List.Pairwise.nil,rfl⟩,Ba⟩
section
variable {w:World} {x:Nat} {S:Option Addr} {cS:Nat} {R:List KR} {s:KS}
theorem yU(h:Stk w x S cS R s):Cl 111 #[.pointer (some ⟨x,0,none⟩)] w (Rs (.int .i64 (s.k:Int)) w):=by
 have c:=h.c0;clear h;go_enter func111,ntmps111;go_wp2_with fail;go_ret;exact⟨rfl,rfl⟩
theorem DP(h:Stk w x S cS R s):Cl 152 #[.pointer (some ⟨x,0,none⟩)] w (Rs (.int .u64 (s.n:Int)) w):=by
 have c:=h.c2;clear h;go_enter func152,ntmps152;go_wp2_with fail;go_ret;exact⟨rfl,rfl⟩
theorem Bn(h:Stk w x S cS R s):Cl 112 #[.pointer (some ⟨x,0,none⟩)] w (Rs (.int .u64 (s.g:Int)) w):=by
 have c:=h.c3;clear h;go_enter func112,ntmps112;go_wp2_with fail;go_ret;exact⟨rfl,rfl⟩
end
def jy(k:Nat):Nat→Nat
 |0=>k
 |j+1=>(2*jy k j+2)/3
def ew(k m h:Nat):Nat:=if m≤h then 0 else max (jy k (m-1-h)) 2
theorem nQ(k:Nat)(hk:k≤4096):∀j,jy k j≤4096
 |0=>hk
 |j+1=>by have:=nQ k hk j;unfold jy;omega
theorem yV{w:World}{x:Nat}{S:Option Addr}{cS:Nat}{m k h:Nat}(c0:w.cell? ⟨x,0,none⟩=some (.int .i64 (k:Int)))(c1:w.cell? ⟨x,1,none⟩=some (.slice S m cS))(hk:k≤4096)(hm:m≤1000)(hh:h<m):
  Cl 352 #[.pointer (some ⟨x,0,none⟩),.int .i64 (h:Int)] w (Rs (.int .i64 (ew k m h:Nat)) w):=by
 have x1:decide ((h:Int)<0)=false:=by simp
 have x2:decide (m≤h)=false:=sq;have x3:wrap64 (wrap64 ((m:Int)-1)-(h:Int))=((m-1-h:Nat):Int):=by unfold wrap64;omega
 have hJ:((m-1-h:Nat):Int)≤1000:=oq;have HR:=Oh (show ew k m h=max (jy k (m-1-h)) 2 by unfold ew;rw[if_neg oq]);have HK:=Oh (fun j=>nQ k hk j);clear hk hm hh;generalize m-1-h=J at*;go_enter func352,ntmps352;go_wp2_with fail;go_loopw [5,29] (fun u v wr=>∃(j:Nat),j≤J∧v=.int .i64 (j:Int)∧u=.int .i64 (jy k j:Nat)∧wr=w) (fun _ v _=>J-(intOf v).toNat)
 case atStart=>exact⟨0,Nat.zero_le _,rfl,rfl,rfl⟩
 case round=>
  obtain⟨j,hj,rfl,rfl,hw⟩:=hrel;obtain rfl:=hw.symm
  by_cases hlt:j<J
  ·have t1:(j:Int)<(J:Int):=oq;have hc:=HK.out j;have hn:jy k (j+1)=(2*jy k j+2)/3:=rfl;obtain⟨c,XY⟩:=nm (jy k j);rw[←XY] at hc hn ⊢;have t2:IntKind.i64.wrap (2*(c:Int))=2*(c:Int):=i6;have t3:IntKind.i64.wrap (2*(c:Int)+2)=((2*c+2:Nat):Int):=by rw[show 2*(c:Int)+2=((2*c+2:Nat):Int) by omega];exact i6
   have HN:=Oh hn;have oR:=Oh hlt;have hc4:(c:Int)≤4096:=oq;clear hn XY hlt hj hc;go_wp2_with fail;go_roundw
   case rel=>exact⟨j+1,oR.out,by go_num,by rw[HN.out];congr 1<;>(try omega),(by first|rfl|trivial)⟩
   case measure=>exact ms oR
  ·obtain rfl:j=J:=oq;have t1:¬(j:Int)<(j:Int):=oq;clear hj hlt;go_wp2_with fail;go_ret;exact⟨by rw[HR.out,show((max (jy k j) 2:Nat):Int)=max (jy k j:Int) 2 by omega];rfl,rfl⟩
theorem fP.at_{w:World}{base:Nat}{S:Option Addr}{cS:Nat}{R:List KR}(h:fP w base S cS R){i:Nat}{r:KR}(hi:R[i]?=some r):∃g,S=some ⟨g,0,none⟩∧w.cell? ⟨g,i,none⟩=some (.slice r.A r.l.length r.c):=by
 have hl:=(List.getElem?_eq_some_iff.1 hi).1;obtain⟨g,e,_,_,_,hc,_⟩:=Own.form h oq;exact⟨g,e,hc i _ (by simp[hi,krV])⟩
theorem DU{w:World}{x:Nat}{S:Option Addr}{cS:Nat}{R:List KR}{s:KS}(h:Stk w x S cS R s)(hk:s.k≤4096)(hm:s.L.length≤1000)(hf:∀i l,s.L[i]?=some l→l.length≤ew s.k s.L.length i):
  Cl 283 #[.pointer (some ⟨x,0,none⟩)] w (Rs (.int .i64 (-1)) w):=by
 have HH:=Oh h;have c0:=h.c0;have c1:=h.c1;have hlen:=h.len;have HRM:=Oh (fun i (hi:i<R.length)=>yV (h:=i) c0 c1 hk oq hi)
 have HF:Hid (∀i r,R[i]?=some r→r.l.length≤ew s.k R.length i):=Oh (fun i r hr=>by
  have:=hf i r.l (by rw[←h.is,List.getElem?_map,hr];rfl);rw[hlen];exact this)
 have U8:(R.length:Int)≤1000:=oq;have HL0:=Oh hlen;clear h hk hm hf hlen c0;go_enter func283,ntmps283;go_wp2_with fail;go_loopw [10] (fun u wr=>∃(i:Nat),i≤R.length∧u=.int .i64 (i:Int)∧wr=w) (fun u _=>R.length-(intOf u).toNat)
 case atStart=>exact⟨0,Nat.zero_le _,rfl,rfl⟩
 case round=>
  obtain⟨i,hi,rfl,hw⟩:=hrel;obtain rfl:=hw.symm
  by_cases hlt:i<R.length
  ·obtain⟨r,hr⟩:=gs R i hlt;obtain⟨g,rfl,d0⟩:=HH.out.top.at_ hr;have hle:=HF.out i r hr;have T7:=Oh (HRM.out i hlt);have t1:(i:Int)<(R.length:Int):=oq;have t2:decide (ew s.k R.length i<r.l.length)=false:=sq;have oR:=Oh hlt;generalize ew s.k R.length i=RM at*;clear hr hle hlt hi;go_wp2_with fail;refine T7.out.mono ?_;rintro e w2 ⟨rfl,Ox⟩;obtain rfl:=Ox.symm;exact tU
  ·obtain rfl:i=R.length:=oq;have t1:¬(R.length:Int)<(R.length:Int):=oq;clear hi hlt;go_wp2_with fail;go_ret;exact⟨rfl,rfl⟩
theorem DR{w:World}{x:Nat}{S:Option Addr}{cS:Nat}{R:List KR}{s:KS}(h:Stk w x S cS R s)(hk:s.k≤4096)(hm:s.L.length≤1000)(hf:∀i l,s.L[i]?=some l→l.length≤ew s.k s.L.length i)(t:Value):
  Cl 201 #[.pointer (some ⟨x,0,none⟩),t] w (Rs (.tuple #[]) w):=by
 have HF:=Oh (DU h hk hm hf);clear h hk hm hf;go_enter func201,ntmps201;go_wp2_with fail;refine HF.out.mono ?_;rintro e w2 ⟨rfl,Ox⟩;obtain rfl:=Ox.symm;go_wp2_with fail;go_loopw [4] (fun u wr=>u=.int .i64 (-1)∧wr=w) (fun _ _=>0)
 case atStart=>exact⟨rfl,rfl⟩
 case round=>
  obtain⟨rfl,hw⟩:=hrel;obtain rfl:=hw.symm;go_wp2_with fail;go_end0;exact⟨rfl,rfl⟩
theorem pY{α:Type}(l:List α)(i j:Nat)(a b:α)(hi:l[i]?=some a)(hj:l[j]?=some b):((l.set i b).set j a).Perm l:=by
 obtain⟨h1,e1⟩:=List.getElem?_eq_some_iff.1 hi;obtain⟨h2,e2⟩:=List.getElem?_eq_some_iff.1 hj;have h:=Array.swap_perm (xs:=l.toArray) (i:=i) (j:=j) (by simpa using h1) (by simpa using h2);have h3:=Array.Perm.toList h;rw[Array.toList_swap] at h3;simp only[List.getElem_toArray] at h3;rw[e1,e2] at h3;exact h3
theorem yS(x:Int)(w:World)(h0:0≤x)(h1:x≤18446744073709551615):
  Cl 63 #[.int .u64 x] w (Rs (.int .i64 (Lib.bitLen x.toNat)) w):=by
 have HL:=Oh (rI x w h0 h1);have x1:IntKind.u64.wrap x=x:=u6;clear h0 h1;go_enter func63,ntmps63;go_wp2_with fail;refine HL.out.mono ?_;rintro e w2 ⟨rfl,Ox⟩;obtain rfl:=Ox.symm;go_wp2_with fail;go_ret;exact⟨rfl,rfl⟩
def iy(w:World)(base:Nat)(A:Option Addr)(c:Nat)(L:List Int):Prop:=Own w base 2 1 A L.length c (L.map (fun v=>.int .i64 v))
theorem ov(x y:Int)(w:World):Cl 307 #[.int .i64 x,.int .i64 y] w (Rs (.bool (decide (x<y))) w):=by
 have HN:=Oh (show∀w:World,Cl 367 #[.int .i64 x] w (Rs (.bool false) w) by
  intro w;go_enter func367,ntmps367;go_wp2_with fail;go_ret;exact⟨by simp,rfl⟩)
 go_enter func307,ntmps307;exact tM
theorem Iz(A:Option Addr)(c base:Nat)(L:List Int)(w:World)(h:iy w base A c L)(hl:L.length≤1000):
  Cl 405 #[.slice A L.length c,.int .i64 0,.int .i64 (L.length:Int)] w fun e w'=>e=.returned (.tuple #[])∧∃L',L'.Perm L∧iy w' base A c L'∧ab (fun i=>aa A=some i) w w':=by
 have TE:=Oh ov;have HH:=Oh h;have HL:=Oh hl;have Lt:(L.length:Int)≤1000:=oq;clear h hl;go_enter func405,ntmps405;go_wp2_with fail;go_loopw [6] (fun u wr=>∃(i:Nat) (L':List Int),1≤i∧i≤L.length+1∧u=.int .i64 (i:Int)∧L'.Perm L∧iy wr base A c L'∧ab (fun i=>aa A=some i) w wr) (fun u _=>L.length+1-(intOf u).toNat)
 case atStart=>exact⟨1,L,Oi _,oq,rfl,List.Perm.refl _,HH.out,ab.refl _ _⟩
 case round=>
  obtain⟨i,L1,RT,hi2,rfl,hp,ho,hk⟩:=hrel;have HP:=Oh hp;have HO:=Oh ho;have HK:=Oh hk;have HI:=Oh (And.intro RT hi2);clear ho hk hp
  by_cases hlt:i<L.length
  ·have t1:(i:Int)<(L.length:Int):=oq;have oR:=Oh hlt;clear hlt RT hi2;go_wp2_with fail;go_loopw [7] (fun u wr=>∃(j:Nat) (L':List Int),j≤i∧u=.int .i64 (j:Int)∧L'.Perm L∧iy wr base A c L'∧ab (fun i=>aa A=some i) w wr) (fun u _=>(intOf u).toNat)
   case atStart=>exact⟨i,L1,Oi _,rfl,HP.out,HO.out,HK.out⟩
   case round=>
    obtain⟨j,L2,hj,rfl,hp,ho,hk⟩:=hrel;have Qz:=Oh hp;have nO:=Oh ho;have OC:=Oh hk;have HJ:=Oh hj;have PT:L2.length=L.length:=hp.length_eq;clear ho hk hp HP HO HK
    by_cases hz:j=0
    ·exact uq
    ·obtain⟨q,hq⟩:∃q,j=q+1:=⟨j-1,oq⟩;have Qi:j<L2.length:=by have:=oR.out;omega
     obtain⟨x,hx⟩:=gs L2 j Qi;obtain⟨y,hy⟩:=gs L2 q;obtain⟨g,rfl,_,If,_,hc,hfz⟩:=Own.form nO.out oq;have d0:=hc j (.int .i64 x) (by simp[hx]);have d1:=hc q (.int .i64 y) (by simp[hy]);have z1:decide ((0:Int)<(j:Int))=true:=sq;have z2:decide (0<j)=true:=sq;have z3:wrap64 ((j:Int)-1)=(q:Int):=by unfold wrap64;omega
     have z4:IntKind.i64.wrap ((j:Int)-1)=(q:Int):=by rw[show(j:Int)-1=(q:Int) by omega];exact i6
     have z5:(j:Int)<(L.length:Int):=oq;have z6:(q:Int)<(L.length:Int):=oq;have z7:(j:Int)-1=(q:Int):=oq;have z9:IntKind.i64.wrap (q:Int)=(q:Int):=i6;have HXY:=Oh (And.intro hx hy);have HQ:=Oh hq;have HG:=Oh (And.intro If hfz);clear hx hy hq hc Qi hz hj PT If hfz
     by_cases UH:x<y
     ·have z8:decide (x<y)=true:=sq;have OB:=Oh (TE.out x y);rw[z8] at OB;clear UH z8;go_upto_region 4 with(fail);go_quiet ((go_at_call 307;exact Calls.quiet_of_same (OB.out _)));obtain⟨wq,RO⟩:=nm (wr.drewN nq);rw[←RO];have sO:Hid (iy wq base (some ⟨g,0,none⟩) c L2):=Oh (by rw[RO];exact Own.below nO.out (ae (Oq _ _) _));have Pb:Hid (ab (fun i=>aa (some ⟨g,0,none⟩)=some i) w wq):=Oh (by rw[RO];exact OC.out.drewN _);have e0:wq.cell? ⟨g,j,none⟩=some (.int .i64 x):=by rw[RO];exact d0
      have e1:wq.cell? ⟨g,q,none⟩=some (.int .i64 y):=by rw[RO];exact d1
      have ef:∀i,wq.frozen? ⟨g,i,none⟩=false:=fun i=>by rw[RO];exact HG.out.2 i
      clear RO d0 d1 nO OC;go_upto_region 6 with(fail);refine wp_region_noPanic ?_;refine ag (S:=(fun(V:World)=>V.cell? ⟨g,j,none⟩=some (.int .i64 x)∧V.cell? ⟨g,q,none⟩=some (.int .i64 y))) (L:=15) ok' ⟨e0,e1⟩ (fun hHeld=>?_);refine tV 0 ?_;refine tV 1 ?_;refine fV 2 ?_;refine fV 3 ?_;refine fV 4 ?_;refine tV 5 ?_;refine tV 6 ?_;refine tV 7 ?_;refine tV 8 ?_;refine tV 9 ?_;refine fV 10 ?_;refine fV 11 ?_;refine fV 12 ?_;refine tV 13 ?_;refine tV 14 ?_;refine aL 15 ?_;refine aA 16 ?_;refine aA 17 ?_;refine cD ?_;clear hHeld;obtain⟨wn,VY⟩:=nm (((wq.setCell ⟨g,j,none⟩ (.int .i64 y)).setCell ⟨g,q,none⟩ (.int .i64 x)).drew);rw[←VY];have HPN:Hid (((L2.set j y).set q x).Perm L):=Oh ((pY L2 j q x y HXY.out.1 HXY.out.2).trans Qz.out)
      have Sr:Hid (iy wn base (some ⟨g,0,none⟩) c ((L2.set j y).set q x)):=Oh (by
       have h:=Own.stored (Own.stored (show Own wq base 2 1 (some ⟨g,0,none⟩) L2.length c (L2.map (fun v=>.int .i64 v)) from sO.out) j (.int .i64 y)) q (.int .i64 x);rw[VY];unfold iy;simp only[List.length_set,List.map_set];exact Own.drew h)
      exact uf
     ·have z8:decide (x<y)=false:=sq;have OB:=Oh (TE.out x y);rw[z8] at OB;clear UH z8;go_upto_region 4 with(fail);go_quiet ((go_at_call 307;exact Calls.quiet_of_same (OB.out _)));exact vr
  ·exact ut
theorem Hk(A:Option Addr)(c base:Nat)(L:List Int)(lim:Int)(w:World)(h:iy w base A c L)(hl:L.length≤12):
  Cl 351 #[.slice A L.length c,.int .i64 0,.int .i64 (L.length:Int),.int .i64 lim] w fun e w'=>e=.returned (.tuple #[])∧∃L',L'.Perm L∧iy w' base A c L'∧ab (fun i=>aa A=some i) w w':=by
 have HI:=Oh (Iz A c base L w h oq);have x1:(L.length:Int)≤12:=oq;have x2:decide ((L.length:Int)≤12)=true:=sq;clear h hl;go_enter func351,ntmps351;exact tX
theorem tu(A:Option Addr)(c base:Nat)(L:List Int)(w:World)(h:iy w base A c L)(hl:L.length≤12):
  Cl 282 #[.slice A L.length c] w fun e w'=>e=.returned (.tuple #[])∧∃L',L'.Perm L∧iy w' base A c L'∧ab (fun i=>aa A=some i) w w':=by
 have HP:=Oh (fun lim=>Hk A c base L lim w h hl);have TX:=Oh (show∃n:Int,Cl 63 #[.int .u64 (L.length:Int)] w (Rs (.int .i64 n) w) from⟨_,yS (L.length:Int) w oq oq⟩);have x1:IntKind.u64.wrap (L.length:Int)=(L.length:Int):=u6;have x2:(L.length:Int)≤12:=oq;clear h hl;go_enter func282,ntmps282;exact uU
theorem vN{w:World}{x:Nat}{S:Option Addr}{cS:Nat}{R:List KR}{s:KS}(h:Stk w x S cS R s)(v:Int)(Av:Option Addr)(cv:Nat)(hv:Own w 0 2 1 Av 1 cv [.int .i64 v])(hR:R.length≤1000):
  Cl 200 #[.pointer (some ⟨x,0,none⟩),.int .i64 (R.length:Int),.slice Av 1 cv] w fun e w'=>e=.returned (.tuple #[])∧∃S' cS' r,Stk w' x S' cS' (R++[r]) {s with L:=s.L++[[v]]}∧aD (SF x S R) (SF x S' (R++[r])) w w':=by
 have HH:=Oh h;have HV:=Oh hv;have U8:(R.length:Int)≤1000:=oq;have WH:=Oh hR;have c1:=h.c1;have hx:=h.blk.lt;have t1:decide (R.length≤R.length)=true:=by simp
 clear h hv hR;go_enter func200,ntmps200;go_wp2_with fail;refine wp_loop_rounds 2 ?_;rw[rounds_succ];go_wp2_with (at_builtin;refine Hid.out ?_);have b1:Below w.heap.size w (w.alloc (.cells #[.slice none 0 0] 192)):=Ba;have Ux:=Own.alloc (show Own w 0 192 1 S R.length cS (R.map krV) from HH.out.top) (.cells #[.slice none 0 0] 192);refine aj (xs:=R.map krV) (news:=[.slice none 0 0]) rfl rfl zh rfl Ux rfl (am.lit (bQ w _) rfl rfl) (by intro u hu;simp at hu;rw[hu];rfl) (R.length+1) rfl (R.map krV++[.slice none 0 0]) rfl (by have:=WH.out;unfold maxLen;omega) (by have:=WH.out;omega) (Nat.zero_le _) ?_;intro S2 c2 w2 o2 g2 q2;have R3:ab (fun i=>aa S=some i) w w2:=(ab.of_below b1).step (ab.of_grown g2) (fun i hi=>.inl hi);have a6s:aa S≠some x:=Own.ne_blk HH.out.top HH.out.blk od;have P9:Hid (Blk w2 x 274 #[.int .i64 (s.k:Int),.slice S R.length cS,.int .u64 (s.n:Int),.int .u64 (s.g:Int)]):=Oh (HH.out.blk.only R3 a6s);have nO:=Oh o2;have a3e:Hid (∀r∈R,jD w2 0 r.A r.c r.l):=Oh (fun r hr=>Own.only (HH.out.rows r hr) R3 (fun g hg e=>Own.ne_own (HH.out.rows r hr) HH.out.top od g hg e));have Vq:Hid (aa S2=aa S∨∃i,aa S2=some i∧w.heap.size≤i):=Oh (q2.imp id fun e=>⟨_,e,by simp⟩);have OC:=Oh R3;have x1:=P9.out.c1;have fr:=P9.out.free;clear b1 Ux o2 g2 q2 R3 a6s c1;go_wp2_with fail;have Qo:aa S2≠some x:=Own.ne_blk nO.out P9.out od;have PA:Hid (Blk (w2.setCell ⟨x,1,none⟩ (.slice S2 (R.length+1) c2)) x 274 #[.int .i64 (s.k:Int),.slice S2 (R.length+1) c2,.int .u64 (s.n:Int),.int .u64 (s.g:Int)]):=Oh (P9.out.put 1 _);have sO:=Oh (Own.setOther nO.out (p:=⟨x,1,none⟩) Qo (.slice S2 (R.length+1) c2));have a6t:Hid (∀r∈R,jD (w2.setCell ⟨x,1,none⟩ (.slice S2 (R.length+1) c2)) 0 r.A r.c r.l):=Oh (fun r hr=>Own.setOther (a3e.out r hr) (p:=⟨x,1,none⟩) (Own.ne_blk (a3e.out r hr) P9.out od) _);have Pb:Hid (ab (fun i=>i=x∨aa S=some i) w (w2.setCell ⟨x,1,none⟩ (.slice S2 (R.length+1) c2))):=Oh ((OC.out.mono fun i hi=>.inr hi).set (p:=⟨x,1,none⟩) (.inl (.inl rfl)) _);obtain⟨w3,OU⟩:=nm (w2.setCell ⟨x,1,none⟩ (.slice S2 (R.length+1) c2))
 rw[←OU] at PA sO a6t Pb ⊢;clear OU P9 nO a3e OC x1 fr Qo;have x1:=PA.out.c1;have t2:decide ((R.length:Int)+1≤(R.length:Int))=false:=sq;have t3:decide (R.length+1≤R.length)=false:=by simp
 rw[rounds_succ];go_upto_region 2 with(fail);obtain⟨gt,rfl,_,hgt,_,RI,XQ⟩:=Own.form sO.out oq;have e0:w3.cell? ⟨gt,R.length,none⟩=some (.slice none 0 0):=RI R.length _ (by rw[List.getElem?_append_right os'];simp);have HFT:=Oh XQ;have U1:=Oh hgt
 have HV3:Hid (Own w3 0 2 1 Av 1 cv [.int .i64 v]):=Oh (Own.only HV.out Pb.out (by
  rintro i hi (h1|h1)
  ·exact Own.ne_blk HV.out HH.out.blk od (by rw[hi,h1])
  ·exact Own.ne_own HV.out HH.out.top od i hi h1))
 have t4:(R.length:Int)<(R.length:Int)+1:=oq;clear RI XQ hgt;refine wp_region_noPanic ?_;refine ag (S:=(fun(V:World)=>V.cell? ⟨x,1,none⟩=some (.slice (some ⟨gt,0,none⟩) (R.length+1) c2)∧V.cell? ⟨gt,R.length,none⟩=some (.slice none 0 0))) (L:=15) ok' ⟨x1,e0⟩ (fun hHeld=>?_);have HXd:=Oh PA.out.drew;have HOd:Hid (Own w3.drew 0 192 1 (some ⟨gt,0,none⟩) (R.length+1) c2 (R.map krV++[.slice none 0 0])):=Oh sO.out.drew;have a6u:Hid (∀r∈R,jD w3.drew 0 r.A r.c r.l):=Oh (fun r hr=>Own.drew (a6t.out r hr));have HVd:=Oh HV3.out.drew;have HKd:=Oh Pb.out.drew;have OL:Hid (w.heap.size≤w3.drew.heap.size):=Oh Pb.out.size;have abb:Hid True:=Oh trivial;generalize w3.drew=wd at*;refine tV 0 ?_;refine tV 1 ?_;refine tV 2 ?_;refine tV 3 ?_;refine tV 4 ?_;refine tV 5 ?_;refine tV 6 ?_;refine tV 7 ?_;refine tV 8 ?_;refine tV 9 ?_;refine tV 10 ?_;refine tV 11 ?_;refine tV 12 ?_;refine bO 13 fun K hK=>?_;have hN:Own wd w.heap.size 2 1 none 0 0 []:=Own.nil _ _ _ _;refine bo rfl rfl jv rfl hN rfl (Own.reads HVd.out) (by intro u hu;simp at hu;rw[hu];rfl) 1 rfl [.int .i64 v] rfl (by unfold maxLen;omega) oq OL.out ?_;intro A4 c4 Yx o4 g4 q4;have Xj:ab (fun _=>False) wd Yx:=(ab.of_grown g4).mono fun i hi=>by cases hi
 have Xk:=Oh (HXd.out.only Xj id);have Pk:=Oh (Own.only HOd.out Xj (fun _ _ h=>h));have a3g:Hid (∀r∈R,jD Yx 0 r.A r.c r.l):=Oh (fun r hr=>Own.only (a6u.out r hr) Xj (fun _ _ h=>h));have RH:Hid (Own Yx w.heap.size 2 1 A4 1 c4 [.int .i64 v]):=Oh o4
 have Sd:Hid (∀i,aa A4=some i→wd.heap.size≤i):=Oh (fun i hi=>by
  rcases q4 with e|e
  ·rw[e] at hi;cases hi
  ·rw[e] at hi;injection hi with hi;omega)
 have HK4:=Oh ((HKd.out.trans (Xj.mono fun _ h=>h.elim)));have Uj:Hid (∀r∈R,∀i,aa r.A=some i→i<wd.heap.size):=Oh (fun r hr i hi=>(Own.block (a6u.out r hr) hi).2);have f4:=abb.out;obtain⟨_,_,_,_,_,a6v,ahE⟩:=Own.form Pk.out oq;rename_i hE4 _ _ _;injection hE4 with hE4
 injection hE4 with hE4 _ _
 subst hE4;have e13:Yx.cell? ⟨gt,R.length,none⟩=some (.slice none 0 0):=a6v R.length _ (by rw[List.getElem?_append_right os'];simp);clear o4 g4 q4 Xj a6v f4;replace hHeld:=(show(fun(V:World)=>V.cell? ⟨x,1,none⟩=some (.slice (some ⟨gt,0,none⟩) (R.length+1) c2)∧V.cell? ⟨gt,R.length,none⟩=some (.slice none 0 0)) Yx from⟨Xk.out.ce,e13⟩);refine hK.out _ _ hHeld ?_;clear hK K;try go_simp
 refine tV 14 ?_;refine aL 15 ?_;refine cD ?_;clear hHeld;have hgx:x≠gt:=fun e=>Own.ne_blk Pk.out Xk.out od (by rw[e];rfl);have HXE:Hid (Blk (Yx.setCell ⟨gt,R.length,none⟩ (.slice A4 1 c4)) x 274 #[.int .i64 (s.k:Int),.slice (some ⟨gt,0,none⟩) (R.length+1) c2,.int .u64 (s.n:Int),.int .u64 (s.g:Int)]):=Oh (Xk.out.far (p:=⟨gt,R.length,none⟩) hgx _)
 have HOE:Hid (Own (Yx.setCell ⟨gt,R.length,none⟩ (.slice A4 1 c4)) 0 192 1 (some ⟨gt,0,none⟩) (R.length+1) c2 (R.map krV++[.slice A4 1 c4])):=Oh (by
  have h:=Own.stored Pk.out R.length (.slice A4 1 c4)
  rw[show(R.map krV++[Value.slice none 0 0]).set R.length (.slice A4 1 c4)=R.map krV++[.slice A4 1 c4] by
   rw[List.set_append_right _ _ os'];simp] at h
  exact h)
 have PY:Hid (∀r∈R,jD (Yx.setCell ⟨gt,R.length,none⟩ (.slice A4 1 c4)) 0 r.A r.c r.l):=Oh (fun r hr=>Own.setOther (a3g.out r hr) (p:=⟨gt,R.length,none⟩) (fun e=>Own.ne_own (a3g.out r hr) Pk.out od gt e rfl) _);have PX:Hid (Own (Yx.setCell ⟨gt,R.length,none⟩ (.slice A4 1 c4)) w.heap.size 2 1 A4 1 c4 [.int .i64 v]):=Oh (Own.setOther RH.out (p:=⟨gt,R.length,none⟩) (fun e=>Own.ne_own RH.out Pk.out od gt e rfl) _);have HKE:Hid (ab (fun i=>i=x∨aa S=some i∨i=gt) w (Yx.setCell ⟨gt,R.length,none⟩ (.slice A4 1 c4))):=Oh ((HK4.out.mono fun i hi=>hi.imp id .inl).set (p:=⟨gt,R.length,none⟩) (.inl (.inr (.inr rfl))) _);obtain⟨w5,R7⟩:=nm (Yx.setCell ⟨gt,R.length,none⟩ (.slice A4 1 c4));rw[←R7] at HXE HOE PY PX HKE ⊢;clear R7 e13 Xk Pk a3g RH HK4 hgx;have y1:=HXE.out.c1
 have y2:w5.cell? ⟨gt,R.length,none⟩=some (.slice A4 1 c4):=by
  obtain⟨gt',hA,_,_,_,hc5,_⟩:=Own.form HOE.out oq;injection hA with hA
  injection hA with hA _ _
  subst hA;exact hc5 R.length _ (by rw[List.getElem?_append_right os'];simp)
 have V7:=Oh (tu A4 c4 w.heap.size [v] w5 PX.out os');go_wp2_with fail;refine V7.out.mono ?_;rintro e w6 ⟨rfl,L',hp,ho,hk⟩;have hL':L'=[v]:=List.perm_singleton.1 hp;subst hL';have abd:Hid (Own w6 w.heap.size 2 1 A4 1 c4 [.int .i64 v]):=Oh ho;have WG:Hid (jD w6 0 A4 c4 [v]):=Oh (Own.mono ho (Nat.zero_le _));have Vo:ab (fun i=>aa A4=some i) w5 w6:=hk;have VU:=Oh (HXE.out.only Vo (fun e=>Own.ne_blk PX.out HXE.out od e));have Ow:=Oh (Own.only HOE.out Vo (fun g hg e=>Own.ne_own PX.out HOE.out od g e hg));have TS:Hid (∀r∈R,jD w6 0 r.A r.c r.l):=Oh (fun r hr=>Own.only (PY.out r hr) Vo (fun g hg e=>by have:=Uj.out r hr g hg;have:=Sd.out g e;omega));have X7:Hid (ab (fun i=>i=x∨aa S=some i∨i=gt) w w6):=Oh (HKE.out.step Vo (fun i hi=>.inr (Own.block PX.out hi).1));clear hp ho hk Vo y1 y2;go_wp2_with fail;go_end0;refine⟨rfl,some ⟨gt,0,none⟩,c2,⟨A4,c4,[v]⟩,⟨?_,?_,?_,?_,?_⟩,?_,?_⟩
 ·have h:=VU.out;rw[show(R++[(⟨A4,c4,[v]⟩:KR)]).length=R.length+1 by simp];exact h
 ·unfold fP;rw[Ok,List.map_append];exact Ow.out
 ·intro r hr;rcases List.mem_append.1 hr with hr|hr
  ·exact TS.out r hr
  ·rw[List.mem_singleton] at hr;subst hr;exact WG.out
 ·rw[List.pairwise_append];refine⟨HH.out.apart,List.pairwise_singleton _ _,fun r hr q hq i hi e=>?_⟩;rw[List.mem_singleton] at hq;subst hq;have:=Uj.out r hr i hi;have:=Sd.out i e;omega
 ·show(R++[(⟨A4,c4,[v]⟩:KR)]).map (fun r=>r.l)=s.L++[[v]];rw[List.map_append,HH.out.is];rfl
 ·rcases Vq.out with e|⟨j,e,hj⟩
  ·exact X7.out.mono (by
    rintro i (h1|h1|h1)
    ·exact .inl h1
    ·exact .inr (.inl h1)
    ·exact .inr (.inl (by rw[←e,h1];rfl)))
  ·have TC:gt=j:=by simpa [aa] using e
   refine⟨X7.out.os,X7.out.tape,X7.out.output,X7.out.size,fun i hi hn=>X7.out.block i hi (fun h=>?_)⟩;rcases h with h1|h1|h1
   ·exact hn (.inl h1)
   ·exact hn (.inr (.inl h1))
   ·omega
 ·rintro i (h1|h1|⟨r,hr,h1⟩)
  ·exact .inl (.inl h1)
  ·rcases Vq.out with e|⟨j,e,hj⟩
   ·exact .inl (.inr (.inl (by rw[←e];exact h1)))
   ·rw[e] at h1;injection h1 with h1
    exact .inr oq
  ·rcases List.mem_append.1 hr with hr|hr
   ·exact .inl (.inr (.inr ⟨r,hr,h1⟩))
   ·rw[List.mem_singleton] at hr;subst hr;exact .inr (Own.block abd.out h1).1
theorem Stk.put{w:World}{x:Nat}{S:Option Addr}{cS:Nat}{R:List KR}{s:KS}(h:Stk w x S cS R s)(j:Nat)(u:Value)(s':KS)(hL:s'.L=s.L)(e:(#[.int .i64 (s.k:Int),.slice S R.length cS,.int .u64 (s.n:Int),.int .u64 (s.g:Int)]:Array Value).setIfInBounds j u=#[.int .i64 (s'.k:Int),.slice S R.length cS,.int .u64 (s'.n:Int),.int .u64 (s'.g:Int)]):Stk (w.setCell ⟨x,j,none⟩ u) x S cS R s':=
 ⟨by rw[←e];exact h.blk.put j u,Own.setOther h.top (p:=⟨x,j,none⟩) (Own.ne_blk h.top h.blk od) u,fun r hr=>Own.setOther (h.rows r hr) (p:=⟨x,j,none⟩) (Own.ne_blk (h.rows r hr) h.blk od) u,h.apart,by rw[hL];exact h.is⟩
theorem Ln{w:World}{x:Nat}{k:Nat}(h:Stk w x none 0 [] ⟨k,[],0,0⟩)(h0:8≤k)(h1:k≤4096)(v:Int)(co:Value):
  Cl 137 #[.pointer (some ⟨x,0,none⟩),.int .i64 v,.int .u64 3,co] w fun e w'=>e=.returned (.int .i64 0)∧∃S cS R,Stk w' x S cS R ⟨k,[[v],[v]],3,0⟩∧aD (SF x none []) (SF x S R) w w':=by
 have SX:∀(fn:Fn) (first cap:Array Value) (w:World),(Instr.makeFunc fn first cap).run prog w=.ok (.func fn first cap) w:=fun _ _ _ _=>rfl;have y1:(bits BinOp.and IntKind.u64 3 1==1)=true:=by decide
 have y2:(bits BinOp.and IntKind.u64 1 1==1)=true:=by decide
 have HH:=Oh h;have HK:=Oh (And.intro h0 h1);have c2:=h.c2;have fr:=h.blk.free;clear h h0 h1;go_enter func137,ntmps137;go_wp2_with fail;have H1:Hid (Stk (w.setCell ⟨x,2,none⟩ (.int .u64 3)) x none 0 [] ⟨k,[],3,0⟩):=Oh (HH.out.put 2 (.int .u64 3) ⟨k,[],3,0⟩ rfl rfl);have QX:Hid (aD (SF x none []) (SF x none []) w (w.setCell ⟨x,2,none⟩ (.int .u64 3))):=Oh ⟨(ab.refl (SF x none []) w).set (p:=⟨x,2,none⟩) (.inl (.inl rfl)) _,fun _ h=>.inl h⟩;obtain⟨w1,iF⟩:=nm (w.setCell ⟨x,2,none⟩ (.int .u64 3));rw[←iF] at H1 QX ⊢;clear iF c2 fr HH;refine wp_loop_rounds 3 ?_;rw[rounds_succ];go_wp2_with fail;have b1:Below w1.heap.size w1 (w1.alloc (.cells #[.int .i64 v] 2)):=Ba;have MK:Own (w1.alloc (.cells #[.int .i64 v] 2)) 0 2 1 (some ⟨w1.heap.size,0,none⟩) 1 1 [.int .i64 v]:=Own.made w1 0 _ _ _ 1 (Nat.zero_le _) (by unfold maxLen;omega) rfl;have RL:=Oh (vN (H1.out.below b1) v _ 1 MK os');have OM:=Oh (QX.out.post b1);clear b1 MK;generalize w1.alloc (.cells #[.int .i64 v] 2)=w2 at*;refine RL.out.mono ?_;rintro e w3 ⟨rfl,S3,c3,r3,h3,t3⟩;have H3:Hid (Stk w3 x S3 c3 [r3] ⟨k,[[v]],3,0⟩):=Oh h3;have Vr:Hid (aD (SF x none []) (SF x S3 [r3]) w w3):=Oh (OM.out.trans t3);clear h3 t3 RL QX OM H1;go_wp2_with fail;rw[rounds_succ];go_wp2_with fail;have b1:Below w3.heap.size w3 (w3.alloc (.cells #[.int .i64 v] 2)):=Ba;have MK:Own (w3.alloc (.cells #[.int .i64 v] 2)) 0 2 1 (some ⟨w3.heap.size,0,none⟩) 1 1 [.int .i64 v]:=Own.made w3 0 _ _ _ 1 (Nat.zero_le _) (by unfold maxLen;omega) rfl;have RL:=Oh (vN (H3.out.below b1) v _ 1 MK os');have VH:=Oh (Vr.out.post b1);clear b1 MK;generalize w3.alloc (.cells #[.int .i64 v] 2)=w4 at*;refine RL.out.mono ?_;rintro e w5 ⟨rfl,S5,c5,r5,h5,t5⟩;have H5:Hid (Stk w5 x S5 c5 [r3,r5] ⟨k,[[v],[v]],3,0⟩):=Oh h5;have HT5:Hid (aD (SF x none []) (SF x S5 [r3,r5]) w w5):=Oh (VH.out.trans t5);clear h5 t5 RL Vr VH H3;go_wp2_with fail;rw[rounds_succ];go_wp2_with fail
 have HPK:=Oh (fun t=>DR H5.out HK.out.2 os' (by
  intro i l hl;have hk:=HK.out.1;rcases i with _|_|i
  ·simp at hl;subst hl;show 1≤ew k 2 0;unfold ew;simp;omega
  ·simp at hl;subst hl;show 1≤ew k 2 1;unfold ew;simp;omega
  ·simp at hl) t)
 refine(HPK.out _).mono ?_;rintro e w6 ⟨rfl,VI⟩;obtain rfl:=VI.symm;go_wp2_with fail;go_ret;exact⟨rfl,S5,c5,[r3,r5],H5.out,HT5.out⟩
theorem fK:fH prog 184 186 2 16:=cy underlying184 (z:=.agg #[.int .i64 0,.int .u64 0]) ok' od od
def f5(w:World)(n:Nat)(xs:List Value)(e:Ending)(w':World):Prop:=∃A c,e=.returned (.slice A n c)∧Own w' w.heap.size 186 2 A n c xs∧Below w.heap.size w w'
theorem kK(A:Option Addr)(n c:Nat)(xs:List Value)(w:World)(hb:am w w.heap.size 2 A n xs)(h1:∀u∈xs,u.oneCell'=true)(hl:n≤100000000):
  Cl 181 #[.slice A n c] w (f5 w n xs):=by
 rcases A with _|a
 ·have UT:n=0:=by
   rcases Nat.eq_zero_or_pos n with h0|h0
   ·exact h0
   ·obtain⟨b,o,e,_⟩:=hb.2 h0;cases e
  subst UT;have hx:xs=[]:=List.length_eq_zero_iff.1 (by have:=hb.1;omega);subst hx;have hk:∀W:World,(binOp .eql 184 (.slice none 0 c) (.slice none 0 0)).run prog W=.ok (.bool true) W:=fun W=>Lib.run_eql_slice_nil W 184 186 none 0 c 0 0 underlying184;clear hb h1;go_enter func181,ntmps181;go_wp2_with fail;go_ret;exact⟨none,0,rfl,Own.nil _ _ _ _,Oq _ _⟩
 ·have hk:∀W:World,(binOp .eql 184 (.slice (some a) n c) (.slice none 0 0)).run prog W=.ok (.bool false) W:=fun W=>Lib.run_eql_slice_nil W 184 186 (some a) n c 0 0 underlying184;have HB:=Oh hb;have HO:=Oh h1;clear hb h1;go_enter func181,ntmps181;go_wp2_with (at_builtin;refine Hid.out ?_);have Ux:Own (w.alloc (.cells #[] 186)) w.heap.size 186 2 (some ⟨w.heap.size,0,none⟩) 0 0 []:=Own.made w _ _ _ #[] 0 (Oi _) (Nat.zero_le _) rfl;have Oy:Below w.heap.size w (w.alloc (.cells #[] 186)):=Ba;have QV:=HB.out.at_below Oy;refine aj (xs:=[]) rfl rfl fK rfl Ux rfl QV HO.out n (Nat.zero_add _) xs rfl (by unfold maxLen;omega) oq Oy.size ?_;intro A2 c2 w2 o2 g2 q2;have nO:Hid (Own w2 w.heap.size 186 2 A2 n c2 xs):=Oh o2;exact kw
theorem IJ(m:Nat)(hm:m≤100000000)(w:World):
  Cl 287 #[.slice none 0 0,.int .i64 (m:Int)] w (f5 w 0 []):=by
 have x0:decide ((m:Int)<0)=false:=by simp
 have x1:IntKind.i64.wrap ((m:Int)-0)=(m:Int):=i6;rcases Nat.eq_zero_or_pos m with h0|h0
 ·subst h0;go_enter func287,ntmps287;go_wp2_with fail;go_ret;exact⟨none,0,rfl,Own.nil _ _ _ _,Oq _ _⟩
 ·have x2:decide ((0:Int)<(m:Int))=true:=sq;have QA:(m:Int)≤100000000:=oq;go_enter func287,ntmps287;go_wp2_with (at_builtin;refine Hid.out ?_);obtain⟨ht,ti,z,hi,hz,OP,Vk,UK,Is⟩:=fK;obtain⟨c1,cs,iN,hcs,U2,Qb⟩:=fE (w:=w) (ty:=184) ht underlying3 hi hz OP Vk UK m h0 oq oq;refine cJ rfl _ _ _ _ rfl _ _ rfl rfl iN ?_;have HO:Hid (Own (w.drew.alloc (.cells cs 186)) w.heap.size 186 2 (some ⟨w.heap.size,0,none⟩) 0 c1 []):=Oh ⟨rfl,.inr ⟨w.heap.size,c1,cs,rfl,Oi _,heap_alloc_new w.drew _,Nat.zero_le _,Qb,hcs,by simp⟩⟩;have HB:Hid (Below w.heap.size w (w.drew.alloc (.cells cs 186))):=Oh ((Oq _ _).drew.alloc (Oi _) _);have St:=fun W=>fD (P:=prog) fK w.heap.size m c1 W;exact nZ
theorem qH(S:Option Addr)(cS:Nat)(hs:List Hd)(w:World)(h:fX w w.heap.size 2 S hs)(hl:hs.length≤100000000)(hn:aw hs≤100000000):
  Cl 204 #[.slice S hs.length cS] w (f5 w (aw hs) (bZ hs)):=by
 have HH:=Oh h;have HN:=Oh hn;have HG:=Oh (IJ (aw hs) hn w);have Rl:(aw hs:Int)≤100000000:=oq;have Lt:(hs.length:Int)≤100000000:=oq;have HR:=Oh (show aw (hs.take hs.length)=aw hs∧bZ (hs.take hs.length)=bZ hs by rw[List.take_length];exact⟨rfl,rfl⟩);clear h hn hl;go_enter func204,ntmps204;go_wp2_with fail;go_loopw [3,11] (fun u v wr=>∃(i:Nat),i≤hs.length∧v=.int .i64 (i:Int)∧u=.int .i64 (aw (hs.take i):Nat)∧wr=w) (fun _ v _=>hs.length-(intOf v).toNat)
 case atStart=>exact⟨0,Nat.zero_le _,rfl,rfl,rfl⟩
 case round=>
  obtain⟨i,hi,rfl,rfl,hw⟩:=hrel;obtain rfl:=hw.symm
  by_cases hlt:i<hs.length
  ·exact nX
  ·obtain rfl:i=hs.length:=oq;rw[HR.out.1];clear hi hlt;have t1:¬(hs.length:Int)<(hs.length:Int):=oq;go_wp2_with fail;refine HG.out.mono ?_;rintro e w1 ⟨A1,c1,rfl,o1,b1⟩;have IF:=Oh o1;have aS:=Oh b1;clear o1 b1 t1;go_wp2_with fail;go_loopw [6,27] (fun u v wr=>∃(i:Nat) (A:Option Addr) (c:Nat),i≤hs.length∧v=.int .i64 (i:Int)∧u=.slice A (aw (hs.take i)) c∧Own wr w.heap.size 186 2 A (aw (hs.take i)) c (bZ (hs.take i))∧Below w.heap.size w wr) (fun _ v _=>hs.length-(intOf v).toNat)
   case atStart=>exact⟨0,A1,c1,Nat.zero_le _,rfl,rfl,IF.out,aS.out⟩
   case round=>
    obtain⟨i,A,c,hi,rfl,rfl,ho,hb⟩:=hrel;have HO:=Oh ho;have HB:=Oh hb;clear ho hb IF aS HG
    by_cases hlt:i<hs.length
    ·obtain⟨x,hx⟩:=gs hs i hlt;have XV:=HH.out.below HB.out;obtain⟨b,o,rfl,_,d0⟩:=XV.at_ hx;have Wf:=Oh (XV.each x (Om hx));obtain⟨Le,hnv⟩:=jb hx;have hle:=kG hs (i+1);have hN:=HN.out;have t1:(i:Int)<(hs.length:Int):=oq;have oR:=Oh hlt;have PE:=Oh (And.intro Le hnv);have Qy:Hid (aw (hs.take i)+x.n≤100000000):=Oh oq;clear hlt Le hnv hle hN hi XV;generalize aw (hs.take i)=N0 at*;go_wp2_with (at_builtin;refine Hid.out ?_);refine aj rfl rfl fK rfl HO.out rfl Wf.out.1 Wf.out.2 _ rfl _ rfl (by have:=Qy.out;unfold maxLen;omega) (by have:=Qy.out;omega) HB.out.size ?_;exact ob
    ·obtain rfl:i=hs.length:=oq;have sO:Hid (Own wr w.heap.size 186 2 A (aw hs) c (bZ hs)):=Oh (by have h:=HO.out;rw[HR.out.1,HR.out.2] at h;exact h);exact nS
section
open Pl
abbrev dk(w:World)(base:Nat)(A:Option Addr)(c:Nat)(L:List Pr):Prop:=Own w base 186 2 A L.length c (pcs L)
theorem kz(w:World)(k:Int)(n:Nat):am (w.alloc (.cells #[.int .i64 k,.int .u64 (n:Int)] 186)) (w.alloc (.cells #[.int .i64 k,.int .u64 (n:Int)] 186)).heap.size 2 (some ⟨w.heap.size,0,none⟩) 1 (pcs [(k,n)]):=
 am.lit (bQ _ _) rfl rfl
structure DgS where
 d:Nat
 l:List Pr
 wt:List Pr
 lo:Int
 hi:Int
 n:Nat
structure DgW where
 Al:Option Addr
 cl:Nat
 Aw:Option Addr
 cw:Nat
structure Dig(w:World)(x:Nat)(W:DgW)(s:DgS):Prop where
 blk:Blk w x 271 #[.int .i64 (s.d:Int),.slice W.Al s.l.length W.cl,.slice W.Aw s.wt.length W.cw,.int .i64 s.lo,.int .i64 s.hi,.int .u64 (s.n:Int)]
 l:dk w 0 W.Al W.cl s.l
 wt:dk w 0 W.Aw W.cw s.wt
 apart:∀i,aa W.Al=some i→aa W.Aw≠some i
def DF(x:Nat)(W:DgW)(i:Nat):Prop:=i=x∨aa W.Al=some i∨aa W.Aw=some i
section
variable {w w':World} {x:Nat} {W:DgW} {s:DgS} {K:Nat→Prop}
theorem Dig.ne_l(h:Dig w x W s):aa W.Al≠some x:=Own.ne_blk h.l h.blk od
theorem Dig.ne_w(h:Dig w x W s):aa W.Aw≠some x:=Own.ne_blk h.wt h.blk od
theorem Dig.only(h:Dig w x W s)(k:ab K w w')(hd:∀i,DF x W i→¬K i):Dig w' x W s:=
 ⟨h.blk.only k (hd x (.inl rfl)),Own.only h.l k (fun g hg=>hd g (.inr (.inl hg))),Own.only h.wt k (fun g hg=>hd g (.inr (.inr hg))),h.apart⟩
theorem Dig.below(h:Dig w x W s)(hb:Below w.heap.size w w'):Dig w' x W s:=h.only (ab.of_below (K:=fun _=>False) hb) (fun _ _ h=>h)
theorem Dig.drewN(h:Dig w x W s)(n:Nat):Dig (w.drewN n) x W s:=h.below (ae (Oq _ _) n)
theorem Dig.lt(h:Dig w x W s):∀i,DF x W i→i<w.heap.size:=by
 rintro i (rfl|hi|hi)
 ·exact h.blk.lt
 ·exact(Own.block h.l hi).2
 ·exact(Own.block h.wt hi).2
theorem Dig.held(h:Dig w x W s):ar (fun w=>Dig w x W s) (DF x W) w:=⟨h,h.lt,fun _ _ k hd=>h.only k hd⟩
theorem Dig.c0(h:Dig w x W s):w.cell? ⟨x,0,none⟩=some (.int .i64 (s.d:Int)):=h.blk.ce
theorem Dig.c1(h:Dig w x W s):w.cell? ⟨x,1,none⟩=some (.slice W.Al s.l.length W.cl):=h.blk.ce
theorem Dig.c2(h:Dig w x W s):w.cell? ⟨x,2,none⟩=some (.slice W.Aw s.wt.length W.cw):=h.blk.ce
theorem Dig.c3(h:Dig w x W s):w.cell? ⟨x,3,none⟩=some (.int .i64 s.lo):=h.blk.ce
theorem Dig.c4(h:Dig w x W s):w.cell? ⟨x,4,none⟩=some (.int .i64 s.hi):=h.blk.ce
theorem Dig.c5(h:Dig w x W s):w.cell? ⟨x,5,none⟩=some (.int .u64 (s.n:Int)):=h.blk.ce
theorem Dig.put(h:Dig w x W s)(j:Nat)(u:Value)(s':DgS)(hl:s'.l=s.l)(hw:s'.wt=s.wt)(e:(#[.int .i64 (s.d:Int),.slice W.Al s.l.length W.cl,.slice W.Aw s.wt.length W.cw,.int .i64 s.lo,.int .i64 s.hi,.int .u64 (s.n:Int)]:Array Value).setIfInBounds j u=#[.int .i64 (s'.d:Int),.slice W.Al s'.l.length W.cl,.slice W.Aw s'.wt.length W.cw,.int .i64 s'.lo,.int .i64 s'.hi,.int .u64 (s'.n:Int)]):Dig (w.setCell ⟨x,j,none⟩ u) x W s':=
 ⟨by rw[←e];exact h.blk.put j u,by rw[hl];exact Own.setOther h.l (p:=⟨x,j,none⟩) h.ne_l u,by rw[hw];exact Own.setOther h.wt (p:=⟨x,j,none⟩) h.ne_w u,h.apart⟩
end
theorem zl(d:Nat)(w:World)(h0:10≤d)(h1:d≤1000):
  Cl 167 #[.int .i64 (d:Int)] w fun e w'=>∃x,e=.returned (.tuple #[.pointer (some ⟨x,0,none⟩),.int .i64 0])∧w.heap.size≤x∧Dig w' x ⟨none,0,none,0⟩ ⟨d,[],[],0,0,0⟩∧Below w.heap.size w w':=by
 have x1:decide ((d:Int)<10)=false:=sq;have x2:decide ((1000:Int)<(d:Int))=false:=sq;clear h0 h1;go_enter func167,ntmps167;go_wp2_with fail;go_ret2;exact⟨w.heap.size,rfl,Oi _,⟨Blk.new _ _ _,Own.nil _ _ _ _,Own.nil _ _ _ _,fun i hi=>by cases hi⟩,Ba⟩
section
variable {w:World} {x:Nat} {W:DgW} {s:DgS}
theorem wj(h:Dig w x W s):Cl 105 #[.pointer (some ⟨x,0,none⟩)] w (Rs (.int .i64 (s.d:Int)) w):=by
 have c:=h.c0;clear h;go_enter func105,ntmps105;go_wp2_with fail;go_ret;exact⟨rfl,rfl⟩
theorem BT(h:Dig w x W s):Cl 151 #[.pointer (some ⟨x,0,none⟩)] w (Rs (.int .u64 (s.n:Int)) w):=by
 have c:=h.c5;clear h;go_enter func151,ntmps151;go_wp2_with fail;go_ret;exact⟨rfl,rfl⟩
theorem EE(h:Dig w x W s)(hn:s.n≠0):Cl 103 #[.pointer (some ⟨x,0,none⟩)] w fun e w'=>e=.returned (.tuple #[.int .i64 s.lo,.int .i64 s.hi,.int .i64 0])∧∃k,w'=w.drewN k:=by
 have c3:=h.c3;have c4:=h.c4;have c5:=h.c5;have x1:((s.n:Int)==0)=false:=by rw[beq_eq_false_iff_ne];omega
 have x2:(s.n==0)=false:=by rw[beq_eq_false_iff_ne];omega
 clear h hn;go_enter func103,ntmps103;go_wp2_with fail;go_quiet (fail);go_wp2_with fail;go_ret3;exact⟨rfl,_,rfl⟩
theorem EF(h:Dig w x W s)(hn:s.n=0):Cl 103 #[.pointer (some ⟨x,0,none⟩)] w (Rs (.tuple #[.int .i64 0,.int .i64 0,.int .i64 8]) w):=by
 have c5:=h.c5;rw[hn] at c5;clear h hn;go_enter func103,ntmps103;go_wp2_with fail;go_ret3;exact⟨rfl,rfl⟩
theorem ED(h:Dig w x W s)(hl:s.l.length≤100000000):Cl 106 #[.pointer (some ⟨x,0,none⟩)] w (f5 w s.l.length (pcs s.l)):=by
 have c:=h.c1;have HC:=Oh (kK W.Al s.l.length W.cl (pcs s.l) w (Own.reads h.l) (aI _) hl);clear h hl;go_enter func106,ntmps106;exact vl
theorem BS(h:Dig w x W s)(hl:s.wt.length≤100000000):Cl 108 #[.pointer (some ⟨x,0,none⟩)] w (f5 w s.wt.length (pcs s.wt)):=by
 have c:=h.c2;have HC:=Oh (kK W.Aw s.wt.length W.cw (pcs s.wt) w (Own.reads h.wt) (aI _) hl);clear h hl;go_enter func108,ntmps108;exact vl
end
def jz(s:DgS)(a b:Int):DgS:=if s.n=0 then{s with lo:=a,hi:=b} else{s with lo:=if a<s.lo then a else s.lo,hi:=if s.hi<b then b else s.hi}
theorem BU{w:World}{x:Nat}{W:DgW}{s:DgS}(h:Dig w x W s)(a b:Int):
  Cl 198 #[.pointer (some ⟨x,0,none⟩),.int .i64 a,.int .i64 b] w fun e w'=>e=.returned (.tuple #[])∧Dig w' x W (jz s a b)∧ab (fun i=>i=x) w w':=by
 have c5:=h.c5;have hx:=h.blk.lt;have fr:=h.blk.free;have HH:=Oh h
 by_cases h0:s.n=0
 ·rw[h0] at c5;have c3:=h.c3;have c4:=h.c4;have H0:=Oh h0;clear h h0;go_enter func198,ntmps198;go_upto_region 2 with(fail);have HD:Hid (Dig ((w.setCell ⟨x,3,none⟩ (.int .i64 a)).setCell ⟨x,4,none⟩ (.int .i64 b)) x W {s with lo:=a,hi:=b}):=Oh ((HH.out.put 3 (.int .i64 a) {s with lo:=a} rfl rfl rfl).put 4 (.int .i64 b) _ rfl rfl rfl);have HO:Hid (ab (fun i=>i=x) w ((w.setCell ⟨x,3,none⟩ (.int .i64 a)).setCell ⟨x,4,none⟩ (.int .i64 b))):=Oh (((ab.refl (fun i=>i=x) _).set (p:=⟨x,3,none⟩) (.inl rfl) _).set (p:=⟨x,4,none⟩) (.inl rfl) _);clear c3 c4 c5 fr hx HH;obtain⟨w1,iF⟩:=nm ((w.setCell ⟨x,3,none⟩ (.int .i64 a)).setCell ⟨x,4,none⟩ (.int .i64 b));rw[←iF] at HD HO ⊢;clear iF;have c3:=HD.out.c3;have c4:=HD.out.c4;have fr:=HD.out.blk.free;dsimp only at c3 c4;refine wp_region_noPanic ?_;refine ag (S:=(fun w2=>w2.cell? ⟨x,3,none⟩=some (.int .i64 a)∧w2.cell? ⟨x,4,none⟩=some (.int .i64 b))) (L:=16) ok' ⟨c3,c4⟩ (fun hHeld=>?_);refine tV 0 ?_;refine fV 1 ?_;refine tV 2 ?_;refine tV 3 ?_;refine tV 4 ?_;refine tV 5 ?_;refine tV 6 ?_;refine tV 7 ?_;refine tV 8 ?_;refine tV 9 ?_;refine tV 10 ?_;refine tV 11 ?_;refine fV 12 ?_;refine fV 13 ?_;refine tV 14 ?_;refine tV 15 ?_;refine aL 16 ?_;refine aA 17 ?_;refine aA 18 ?_;refine aA 19 ?_;refine cD ?_;go_end0;refine⟨rfl,?_,?_⟩
  ·unfold jz;rw[if_pos H0.out];exact((HD.out.put 3 (.int .i64 a) {s with lo:=a,hi:=b} rfl rfl rfl).put 4 (.int .i64 b) {s with lo:=a,hi:=b} rfl rfl rfl).drewN 1
  ·exact(((HO.out.set (p:=⟨x,3,none⟩) (.inl rfl) _).set (p:=⟨x,4,none⟩) (.inl rfl) _)).drew
 ·have x1:((s.n:Int)==0)=false:=by rw[beq_eq_false_iff_ne];omega
  have x2:(s.n==0)=false:=by rw[beq_eq_false_iff_ne];omega
  have H0:=Oh h0;have c3:=h.c3;have c4:=h.c4;clear h h0;go_enter func198,ntmps198;go_upto_region 2 with(fail);refine wp_region_noPanic ?_;refine ag (S:=(fun w2=>w2.cell? ⟨x,3,none⟩=some (.int .i64 s.lo)∧w2.cell? ⟨x,4,none⟩=some (.int .i64 s.hi))) (L:=16) ok' ⟨c3,c4⟩ (fun hHeld=>?_);refine tV 0 ?_;refine fV 1 ?_;refine tV 2 ?_;refine tV 3 ?_;refine tV 4 ?_;refine tV 5 ?_;refine tV 6 ?_;refine tV 7 ?_;refine tV 8 ?_;refine tV 9 ?_;refine tV 10 ?_;refine tV 11 ?_;refine fV 12 ?_;refine fV 13 ?_;refine tV 14 ?_;refine tV 15 ?_;refine aL 16 ?_;refine aA 17 ?_;refine aA 18 ?_;refine aA 19 ?_;refine cD ?_;go_end0;refine⟨rfl,?_,?_⟩
  ·unfold jz;rw[if_neg H0.out];have e1:min s.lo a=(if a<s.lo then a else s.lo):=by split<;>omega
   have e2:max s.hi b=(if s.hi<b then b else s.hi):=by split<;>omega
   try rw[e1,e2]
   exact((HH.out.put 3 (.int .i64 (if a<s.lo then a else s.lo)) {s with lo:=if a<s.lo then a else s.lo} rfl rfl rfl).put 4 (.int .i64 (if s.hi<b then b else s.hi)) {s with lo:=if a<s.lo then a else s.lo,hi:=if s.hi<b then b else s.hi} rfl rfl rfl).drewN 1
  ·exact(((ab.refl (fun i=>i=x) _).set (p:=⟨x,3,none⟩) (.inl rfl) _).set (p:=⟨x,4,none⟩) (.inl rfl) _).drew
theorem nu(s:DgS)(a b:Int):(jz s a b).d=s.d∧(jz s a b).l=s.l∧(jz s a b).wt=s.wt∧(jz s a b).n=s.n:=by
 unfold jz;split<;>exact⟨rfl,rfl,rfl,rfl⟩
def xN(s:DgS)(v:Int)(n:Nat):DgS:= {jz s v v with n:=s.n+n,wt:=s.wt++[(v,n)]}
theorem J9{w:World}{x:Nat}{W:DgW}{s:DgS}(h:Dig w x W s)(v:Int)(n:Nat)(hn:1≤n)(hc:s.n+n≤281474976710656)(hw:s.wt.length+1<s.d)(hd:s.d≤1000):
  Cl 136 #[.pointer (some ⟨x,0,none⟩),.int .i64 v,.int .u64 (n:Int)] w fun e w'=>e=.returned (.int .i64 0)∧∃A' c',Dig w' x {W with Aw:=A',cw:=c'} (xN s v n)∧aD (DF x W) (DF x {W with Aw:=A',cw:=c'}) w w':=by
 have c5:=h.c5;have x1:((n:Int)==0)=false:=by rw[beq_eq_false_iff_ne];omega
 have x2:(n==0)=false:=by rw[beq_eq_false_iff_ne];omega
 have x3:IntKind.u64.wrap (281474976710656-(s.n:Int))=((281474976710656-s.n:Nat):Int):=u6;have x4:decide (281474976710656-s.n<n)=false:=sq;have x5:IntKind.u64.wrap ((s.n:Int)+(n:Int))=((s.n+n:Nat):Int):=u6;have x6:decide ((s.d:Int)≤(s.wt.length:Int)+1)=false:=sq;have x7:decide (s.d≤s.wt.length+1)=false:=sq;have HE:=Oh (BU h v v);have HH:=Oh h;have hlen:s.wt.length≤1000:=oq;have HL:=Oh hlen;obtain⟨s1,RS⟩:=nm (jz s v v);have a1h:=nu s v v;rw[←RS] at HE a1h;obtain⟨q1,q2,q3,q4⟩:=a1h;have By:=Oh RS;have HQ:=Oh (And.intro q1 (And.intro q2 (And.intro q3 q4)));clear h hn hc hw hd hlen RS q1 q2 q3 q4;go_enter func136,ntmps136;go_wp2_with fail;refine HE.out.mono ?_;rintro e w1 ⟨rfl,h1,o1⟩;have H1:=Oh h1;have IF:=Oh o1;have d5:=h1.c5;rw[HQ.out.2.2.2] at d5;have fr:=h1.blk.free;clear h1 o1 c5;go_upto_region 7 with(fail);have QI:((s.n:Int)+(n:Int))=((s.n+n:Nat):Int):=oq;have H2:Hid (Dig (w1.setCell ⟨x,5,none⟩ (.int .u64 ((s.n:Int)+(n:Int)))) x W {s1 with n:=s.n+n}):=Oh (by rw[QI];exact H1.out.put 5 (.int .u64 ((s.n+n:Nat):Int)) {s1 with n:=s.n+n} rfl rfl rfl);have nO:Hid (ab (fun i=>i=x) w (w1.setCell ⟨x,5,none⟩ (.int .u64 ((s.n:Int)+(n:Int))))):=Oh (IF.out.set (.inl rfl) _);clear QI d5 fr H1 IF;obtain⟨w2,Ox⟩:=nm (w1.setCell ⟨x,5,none⟩ (.int .u64 ((s.n:Int)+(n:Int))));rw[←Ox] at H2 nO ⊢;clear Ox;have d2:=H2.out.c2;dsimp only at d2;rw[HQ.out.2.2.1] at d2;clear x3 x4 x5;go_wp2_with (at_builtin;refine Hid.out ?_);have nE:=Own.alloc (show Own w2 0 186 2 W.Aw s.wt.length W.cw (pcs s.wt) by have h:=H2.out.wt;dsimp only at h;rw[HQ.out.2.2.1] at h;exact h) (.cells #[.int .i64 v,.int .u64 (n:Int)] 186);refine aj (xs:=pcs s.wt) (news:=pcs [(v,n)]) rfl rfl fK rfl nE rfl (kz w2 v n) (aI _) (s.wt.length+1) rfl (pcs (s.wt++[(v,n)])) (au _ _).symm (by have:=HL.out;unfold maxLen;omega) (by have:=HL.out;omega) (Nat.zero_le _) ?_;intro A3 c3 w3 o3 g3 q3;have aT:Below w2.heap.size w2 (w2.alloc (.cells #[.int .i64 v,.int .u64 (n:Int)] 186)):=Ba;have QP:ab (fun i=>aa W.Aw=some i) w2 w3:=(ab.of_below aT).step (ab.of_grown g3) (fun i hi=>.inl hi)
 have fR:Hid (Blk w3 x 271 #[.int .i64 (s1.d:Int),.slice W.Al s1.l.length W.cl,.slice W.Aw s1.wt.length W.cw,.int .i64 s1.lo,.int .i64 s1.hi,.int .u64 ((s.n+n:Nat):Int)]):=Oh (H2.out.blk.only QP H2.out.ne_w);have Uy:Hid (dk w3 0 W.Al W.cl s1.l):=Oh (Own.only H2.out.l QP (fun g hg e=>H2.out.apart g hg e));have Wy:Hid (dk w3 0 A3 c3 (s.wt++[(v,n)])):=Oh (by unfold dk;rw[Ok];exact o3);have Pb:=Oh QP;have YX:Hid (aa A3=aa W.Aw∨∃g,aa A3=some g∧w2.heap.size≤g):=Oh (q3.imp id fun e=>⟨_,e,by simp⟩);have fr:=fR.out.free;have hx3:=fR.out.c2;clear nE o3 g3 q3 aT QP d2;go_upto_region 8 with(fail)
 have H4:Hid (Dig (w3.setCell ⟨x,2,none⟩ (.slice A3 (s.wt.length+1) c3)) x {W with Aw:=A3,cw:=c3} (xN s v n)):=Oh (by
  have Qs:(xN s v n).wt.length=s.wt.length+1:=by show(s.wt++[(v,n)]).length=_;simp
  have hAl:aa W.Al≠some x:=H2.out.ne_l;have hA3:aa A3≠some x:=Own.ne_blk Wy.out fR.out od;refine⟨?_,?_,?_,?_⟩
  ·have h:=fR.out.put 2 (.slice A3 (s.wt.length+1) c3);rw[Qs];unfold xN;rw[By.out] at h;exact h
  ·show dk _ 0 W.Al W.cl (jz s v v).l;rw[←By.out];exact Own.setOther Uy.out (p:=⟨x,2,none⟩) hAl _
  ·exact Own.setOther Wy.out (p:=⟨x,2,none⟩) hA3 _
  ·intro i hi e;rcases YX.out with h|⟨g,h,hg⟩
   ·exact H2.out.apart i hi (by rw[←h];exact e)
   ·have h2:=(Own.block H2.out.l hi).2;dsimp only at e;rw[h] at e;injection e with e
    omega)
 have VH:Hid (aD (DF x W) (DF x {W with Aw:=A3,cw:=c3}) w (w3.setCell ⟨x,2,none⟩ (.slice A3 (s.wt.length+1) c3))):=Oh (by
  refine⟨?_,?_⟩
  ·refine ab.set (ab.step (nO.out.mono fun i hi=>.inl hi) Pb.out fun i hi=>.inl (.inr (.inr hi))) (p:=⟨x,2,none⟩) (.inl (.inl rfl)) _
  ·rintro i (hi|hi|hi)
   ·exact .inl (.inl hi)
   ·exact .inl (.inr (.inl hi))
   ·rcases YX.out with h|⟨g,h,hg⟩
    ·exact .inl (.inr (.inr (by rw[←h];exact hi)))
    ·dsimp only at hi;rw[h] at hi;injection hi with hi
     exact .inr (by have:=nO.out.size;omega))
 clear fR Uy Wy Pb YX fr hx3 H2 nO;generalize w3.setCell ⟨x,2,none⟩ (.slice A3 (s.wt.length+1) c3)=w4 at*;have d0:=H4.out.c0;have d2:=H4.out.c2;have Qs:(xN s v n).wt.length=s.wt.length+1:=by show(s.wt++[(v,n)]).length=_;simp
 have uP:(xN s v n).d=s.d:=(nu s v v).1;rw[uP] at d0;rw[Qs] at d2;clear Qs uP;go_quiet (fail);go_wp2_with fail;go_ret;exact⟨rfl,A3,c3,H4.out.drewN _,VH.out.post (ae (Oq _ _) _)⟩
end
end Go.Proofs.YtmbippkpjdoojaaGreat
