/- Parts of a proof, merged. -/
import Derived.Test.YtmbippkpjdoojaaGreatF05
import Derived.ShutString
import Derived.Deep.Strs
set_option maxRecDepth 100000
set_option maxHeartbeats 1600000
namespace Go.Proofs.YtmbippkpjdoojaaGreat
open Tryz
open Go.RowKit
section
open Pl
theorem Kg(p:Pr)(k d:Int)(w:World)(hd:p.1-k=d)(h0: -1048577≤k)(h1:k≤1048577)(h2: -1048576≤p.1)(h3:p.1≤1048576):
  Cl 400 #[.agg #[.int .i64 p.1,.int .u64 (p.2:Nat)],.int .i64 k] w (Rb (.int .i64 d) w):=by
 obtain⟨x,n⟩:=p;dsimp only at*;have HD:=Oh hd;clear hd;go_enter func400,ntmps400;go_wp2_with fail;go_ret;exact⟨by rw[←HD.out];rfl,Ba⟩
theorem Od(A:Option Addr)(c:Nat)(L:List Pr)(k:Int)(w:World)(h:Prs w w.heap.size A L)(hs:Srt L)(hk:eD L)(hl:L.length≤100000000)(h0: -1048577≤k)(h1:k≤1048577):
  Cl 399 #[.slice A L.length c,.int .i64 k,.func (Fn.func 400) #[] #[]] w (Rb (.tuple #[.int .i64 (lo L k:Nat),.bool (iW L k)]) w):=by
 have H:=Oh h;have HS:=Oh hs;have HK:=Oh hk;have HLI:(L.length:Int)≤100000000:=oq;obtain⟨q,hq⟩:=nm (lo L k);rw[←hq];have Qy:=Oh (JZ L k);have HQ:=Oh hq;clear h hs hk hl hq;go_enter func399,ntmps399;go_wp2_with fail;go_loopw [9,10] (fun u v wr=>∃i j:Nat,u=.int .i64 (i:Int)∧v=.int .i64 (j:Int)∧i≤q∧q≤j∧j≤L.length∧Below w.heap.size w wr) (fun u v _=>(intOf v).toNat-(intOf u).toNat)
 case atStart=>exact⟨0,L.length,rfl,rfl,Nat.zero_le _,by rw[HQ.out];exact Qy.out,Oi _,Oq _ _⟩
 case round=>
  obtain⟨i,j,rfl,rfl,hi,hj,Qi,aC⟩:=hrel;obtain⟨wo,rfl⟩:=nm (wr:World)
  by_cases hlt:i<j
  ·obtain⟨m,hm⟩:=nm ((i+j)/2);have gE:i≤m:=oq;have QL:m<j:=oq;have hmi:((i:Int)+(j:Int))/2=(m:Int):=oq;have Vn:(i:Int)<(j:Int):=oq;have ZJ:decide (i<j)=true:=sq;have hjj:(j:Int)≤100000000:=oq;obtain⟨p,hp⟩:=gs L m;obtain⟨b,o,rfl,OO,hc⟩:=(H.out.below aC).at_ oq;obtain⟨c1,c2⟩:=hc m p hp;have OZ:=HK.out p (Om hp);have P4:=Lf HS.out (k:=k) hp;rw[←HQ.out] at P4;have HLO:=Oh P4;clear P4;obtain⟨d,hd⟩:∃d,p.1-k=d:=⟨_,rfl⟩;have HC:=Oh (Kg p k d wo hd h0 h1 OZ.1 OZ.2);have QA:(m:Int)<(L.length:Int):=oq;have oS:(0:Int)≤(m:Int):=oq;have HW:=Oh aC;have HI:=Oh (And.intro hi (And.intro hj (And.intro Qi (And.intro gE QL))))
   by_cases Ou:d<0
   ·have HX:=Oh (HLO.out.1 oq);have ZI:=Oh hmi;clear hc hp OZ hd aC hi hj Qi hm gE QL HLO OO;obtain⟨x,n⟩:=p;dsimp only at c1 c2 HC;go_wp2_with fail;refine HC.out.mono ?_;rintro e w1 ⟨rfl,eQ⟩;have aS:=Oh eQ;clear eQ;go_wp2_with fail;go_roundw
    case rel=>exact⟨m+1,j,by go_num,rfl,HX.out,HI.out.2.1,HI.out.2.2.1,HW.out.trans (aS.out.mono HW.out.size)⟩
    case measure=>exact ms HI
   ·have HX:=Oh (show q≤m from by
     rcases Nat.lt_or_ge m q with h|h
     ·have:=HLO.out.2 h;omega
     ·exact h)
    have ZI:=Oh hmi;clear hc hp OZ hd aC hi hj Qi hm gE QL HLO OO;obtain⟨x,n⟩:=p;dsimp only at c1 c2 HC;go_wp2_with fail;refine HC.out.mono ?_;rintro e w1 ⟨rfl,eQ⟩;have aS:=Oh eQ;clear eQ;go_wp2_with fail;go_roundw
    case rel=>exact⟨i,m,rfl,by go_num,HI.out.1,HX.out,by have:=HI.out;omega,HW.out.trans (aS.out.mono HW.out.size)⟩
    case measure=>exact ms HI
  ·obtain rfl:i=q:=oq;have Vn:¬(i:Int)<(j:Int):=oq;have ZJ:decide (i<j)=false:=sq
   by_cases PJ:i<L.length
   ·obtain⟨p,hp⟩:=gs L i PJ;obtain⟨b,o,rfl,OO,hc⟩:=(H.out.below aC).at_ oq;obtain⟨c1,c2⟩:=hc _ p hp;have OZ:=HK.out p (Om hp);obtain⟨d,hd⟩:∃d,p.1-k=d:=⟨_,rfl⟩;have HC:=Oh (Kg p k d wo hd h0 h1 OZ.1 OZ.2);have HW:=Oh aC
    have hR:iW L k=(d==0):=by
     rw[II (by rw[←HQ.out];exact hp),Bool.eq_iff_iff,decide_eq_true_iff,beq_iff_eq];omega
    have HR:=Oh hR;have QA:(i:Int)<(L.length:Int):=oq;have a9G:decide (i<L.length)=true:=sq;have oS:(0:Int)≤(i:Int):=oq;clear hc hp OZ hd aC hi hj Qi OO hR PJ hlt;obtain⟨x,n⟩:=p;dsimp only at c1 c2 HC;go_wp2_with fail;refine HC.out.mono ?_;rintro e w1 ⟨rfl,eQ⟩;have aS:=Oh eQ;clear eQ;go_wp2_with fail;go_ret2;exact⟨by rw[HR.out];rfl,HW.out.trans (aS.out.mono HW.out.size)⟩
   ·have HR:=Oh (Eh (L:=L) (k:=k) (by rw[←HQ.out];omega));have QA:¬(i:Int)<(L.length:Int):=oq;have a9G:decide (i<L.length)=false:=sq;clear hi hj Qi PJ hlt;go_wp2_with fail;go_ret2;exact⟨by rw[HR.out];rfl,aC⟩
def Lst(w:World)(g:Nat)(A:Option Addr)(c:Nat)(L:List Pr):Prop:=Blk w g 426 #[.slice A L.length c,.int .u64 (tot L:Nat)]∧bI w g A c L
theorem Lst.below{w w':World}{g:Nat}{A:Option Addr}{c:Nat}{L:List Pr}(h:Lst w g A c L)(hb:Below w.heap.size w w'):Lst w' g A c L:=⟨h.1.below hb h.1.lt,Own.below h.2 hb⟩
structure aV(L:List Pr):Prop where
 srt:Srt L
 pos:Pos L
 keys:eD L
 tot:tot L≤4611686018427387904
 len:L.length≤100000
theorem aV.nil:aV []:=⟨Srt.nil,Pos.nil,(by intro p h;cases h),od,Nat.zero_le _⟩
theorem yA(g:Nat)(A:Option Addr)(c:Nat)(L:List Pr)(k:Int)(w:World)(h:Lst w g A c L)(hf:aV L)(h0: -1048577≤k)(h1:k≤1048577):
  Cl 347 #[.pointer (some ⟨g,0,none⟩),.int .i64 k] w (Rb (.tuple #[.int .i64 (lo L k:Nat),.bool (iW L k)]) w):=by
 have c0:=h.1.c0;have HB:=Oh (Od A c L k w (bI.reads h.2) hf.srt hf.keys (by have:=hf.len;omega) h0 h1);clear h hf h0 h1;go_enter func347,ntmps347;go_wp2_with fail;refine HB.out.mono ?_;rintro e w1 ⟨rfl,eQ⟩;have aS:=Oh eQ;clear eQ;go_wp2_with fail;go_ret2;exact⟨rfl,aS.out⟩
theorem mj(g:Nat)(A:Option Addr)(c:Nat)(L:List Pr)(k:Nat)(w:World)(h:Lst w g A c L)(hf:aV L)(hk:k≤L.length):
  Cl 364 #[.pointer (some ⟨g,0,none⟩),.int .i64 (k:Int)] w (Rb (.int .u64 (tot (L.take k):Nat)) w):=by
 have c0:=h.1.c0;have HR:=Oh (bI.reads h.2)
 have hkc:k≤c:=by
  rcases Nat.eq_zero_or_pos L.length with h0|h0
  ·omega
  ·obtain⟨_,_,_,_,h2,_⟩:=Own.form (show Own w g 176 2 A L.length c (pcs L) from h.2) h0;omega
 have ZO:(k:Int)≤(c:Int):=oq;have VZ:(0:Int)≤(k:Int):=oq;have Sb:(k:Int)≤100000:=by have:=hf.len;omega
 have HT:=Oh hf.tot;have Z3:=Oh hk;clear h hf hkc hk;go_enter func364,ntmps364;go_wp2_with fail;go_loopw [5,15] (fun u v wr=>∃i:Nat,u=.int .u64 (tot (L.take i):Nat)∧v=.int .i64 (i:Int)∧i≤k∧Below w.heap.size w wr) (fun _ v _=>k-(intOf v).toNat)
 case atStart=>exact⟨0,rfl,rfl,Nat.zero_le _,Oq _ _⟩
 case round=>
  obtain⟨i,rfl,rfl,hi,aC⟩:=hrel;obtain⟨wo,rfl⟩:=nm (wr:World)
  by_cases hlt:i<k
  ·have Ri:(i:Int)<(k:Int):=oq;have Qd:(0:Int)≤(i:Int):=oq;obtain⟨p,hp⟩:=gs L i (by have:=Z3.out;omega);obtain⟨b,o,rfl,OO,hc⟩:=(HR.out.below aC).at_ (by have:=Z3.out;omega);obtain⟨d1,d2⟩:=hc i p hp;have Ps:=fy hp;have T5:=gL L (i+1);have a9H:=HT.out;have HTN:=Oh Ps;have HI:=Oh hlt;have HW:=Oh aC;obtain⟨x,n⟩:=p;dsimp only at d1 d2 Ps HTN;have age:(tot (L.take i):Int)+(n:Int)≤4611686018427387904:=oq;generalize tot (L.take i)=m at*;clear hc hp Ps T5 a9H aC hi OO hlt;go_wp2_with fail;go_roundw
   case rel=>exact⟨i+1,by rw[HTN.out];go_num,by go_num,HI.out,fG HW.out _⟩
   case measure=>exact ms HI
  ·obtain rfl:i=k:=oq;clear hi hlt;go_wp2_with fail;go_ret;exact⟨rfl,aC⟩
theorem Iw{cur:List Value}{L:List Pr}{i:Nat}(p:Pr)(hc:cur.take (L.length*2)=pcs L)(hl:(L.length+1)*2≤cur.length)(hi:i≤L.length){tO:List Value}(h1:tO=cur.take ((i+1)*2)++pcs (L.drop i)++cur.drop ((i+1)*2+(pcs (L.drop i)).length)):
  tO.length=cur.length∧(tO.take (i*2)++pcs [p]++tO.drop (i*2+(pcs [p]).length)).length=cur.length∧(tO.take (i*2)++pcs [p]++tO.drop (i*2+(pcs [p]).length)).take ((L.length+1)*2)=pcs (L.take i++p::L.drop i):=by
 have hlen:(pcs (L.drop i)).length=(L.length-i)*2:=by rw[aQ,List.length_drop]
 have hp:(pcs [p]).length=2:=rfl
 have U3:tO.length=cur.length:=by
  rw[h1];simp only[Ok,List.length_take,List.length_drop,hlen];omega
 have e1:tO.take (i*2)=pcs (L.take i):=by
  rw[h1,List.append_assoc,List.take_append_of_le_length (by rw[List.length_take];omega),List.take_take,Nat.min_eq_left oq];have h2:cur.take (i*2)=(cur.take (L.length*2)).take (i*2):=by rw[List.take_take,Nat.min_eq_left oq]
  have h3:pcs L=pcs (L.take i)++pcs (L.drop i):=by rw[←au,List.take_append_drop]
  rw[h2,hc,h3,List.take_left' (by rw[aQ,List.length_take];omega)]
 have e2:tO.drop (i*2+2)=pcs (L.drop i)++cur.drop ((i+1)*2+(pcs (L.drop i)).length):=by
  rw[h1,List.append_assoc,List.drop_left' (by rw[List.length_take];omega)]
 refine⟨U3,?_,?_⟩
 ·simp only[Ok,List.length_take,List.length_drop,hp];omega
 ·rw[hp,e1,e2,List.append_assoc,show pcs [p]++(pcs (L.drop i)++cur.drop ((i+1)*2+(pcs (L.drop i)).length))=pcs (p::L.drop i)++cur.drop ((i+1)*2+(pcs (L.drop i)).length) from rfl,←List.append_assoc,←au];exact tP
theorem Ei{cs:List Value}{L:List Pr}{i:Nat}(p:Pr)(hc:cs.take (i*2)=pcs (L.take i))(hl:(L.length+1)*2≤cs.length)(hi:i≤L.length){tO:List Value}(h1:tO=cs.take (i*2)++pcs [p]++cs.drop (i*2+(pcs [p]).length)):
  tO.length=cs.length∧(tO.take ((i+1)*2)++pcs (L.drop i)++tO.drop ((i+1)*2+(pcs (L.drop i)).length)).length=cs.length∧(tO.take ((i+1)*2)++pcs (L.drop i)++tO.drop ((i+1)*2+(pcs (L.drop i)).length)).take ((L.length+1)*2)=pcs (L.take i++p::L.drop i):=by
 have hlen:(pcs (L.drop i)).length=(L.length-i)*2:=by rw[aQ,List.length_drop]
 have hp:(pcs [p]).length=2:=rfl
 have U3:tO.length=cs.length:=by
  rw[h1];simp only[Ok,List.length_take,List.length_drop,hp];omega
 have e1:tO.take ((i+1)*2)=pcs (L.take i)++pcs [p]:=by
  rw[h1,hc];exact List.take_left' (by rw[Ok,aQ,List.length_take,hp];omega)
 refine⟨U3,?_,?_⟩
 ·simp only[Ok,List.length_take,List.length_drop,hlen];omega
 ·rw[e1,←au,←au,List.append_assoc,List.singleton_append];exact tP
def kO(w:World)(base:Nat)(A:Option Addr)(L:List Pr)(e:Ending)(w':World):Prop:=
 ∃A' c',e=.returned (.slice A' L.length c')∧bI w' base A' c' L∧w.grownBy w' (aa A)∧(aa A'=aa A∨∃j,aa A'=some j∧w.heap.size≤j)
theorem yD{w':World}{base g c n:Nat}{L:List Pr}{cs:List Value}(hb:base≤g)(hg:w'.heap[g]?=some (.cells cs.toArray 176 (0,0)))(hn:n=L.length)(Sm:n≤c)(Qb:c≤maxLen)(Is:cs.length=c*2)(ht:cs.take (n*2)=pcs L):bI w' base (some ⟨g,0,none⟩) c L:=by
 subst hn;exact⟨aQ _,.inr ⟨g,c,_,rfl,hb,hg,Sm,Qb,by simpa using Is,by simpa using ht⟩⟩
theorem j9:(Tryz.prog.info? 176).map (·.size)=some 2:=by kernel_rfl
theorem Ix(base:Nat)(A:Option Addr)(c gv:Nat)(L:List Pr)(k:Int)(n:Nat)(w:World)(h:bI w base A c L)(hl:L.length≤200000)(oF:base≤w.heap.size)(hv:Blk w gv 176 #[.int .i64 k,.int .u64 (n:Int)]):
  Cl 348 #[.slice A L.length c,.int .i64 (L.length:Int),.slice (some ⟨gv,0,none⟩) 1 1] w (kO w base A (L++[(k,n)])):=by
 have hr:am w w.heap.size 2 (some ⟨gv,0,none⟩) 1 (pcs [(k,n)]):=am.lit (show w.heap[gv]?=some (.cells _ _ _) from hv) rfl rfl
 have Sn:L.length≤c:=by
  exact va
 have Lt:(L.length:Int)≤200000:=oq;have agf:(L.length:Int)≤(c:Int):=oq;have HO:=Oh h;have HR:=Oh hr;have HBA:=Oh oF;clear hv h hr oF;obtain⟨T,hT⟩:=nm (L++[(k,n)]);have Sg:T.length=L.length+1:=by rw[hT];simp
 rw[←hT];have HT:=Oh hT;have Qf:=Oh Sg;clear hT Sg;generalize hgn:L.length=N at*;have HGN:=Oh hgn;clear hgn
 by_cases OA:c=N
 all_goals
  go_enter func348,ntmps348;go_wp2_with (at_builtin;refine Hid.out ?_);refine aj (xs:=pcs L) rfl rfl cg rfl (show Own w base 176 2 A N c (pcs L) from HGN.out▸HO.out) rfl HR.out (aI _) (N+1) rfl (pcs T) (by rw[HT.out,au]) (by unfold maxLen;omega) oq HBA.out ?_;intro A3 c3 w3 o3 g3 q3;go_wp2_with fail;go_ret;exact⟨A3,c3,by rw[Qf.out];rfl,by unfold bI;rw[Qf.out];exact o3,g3,q3.imp id (fun e=>⟨_,e,Oi _⟩)⟩
theorem jZ{w w1:World}{g:Nat}(h:w.grownBy w1 (some g))(cs:Array Value):w.grownBy (w1.setRow g cs) (some g):=
 ⟨h.os,h.tape,h.output,by simpa [World.setRow] using h.size,fun k hk hne=>(setRow_other w1 g k cs (fun e=>hne (by rw[e]))).trans (h.block k hk hne)⟩
set_option maxHeartbeats 3200000 in
theorem E4(base g c gv:Nat)(L:List Pr)(k:Int)(n i:Nat)(w:World)(h:bI w base (some ⟨g,0,none⟩) c L)(hl:L.length≤200000)(hi:i<L.length)(Sv:L.length+1≤c)(hv:Blk w gv 176 #[.int .i64 k,.int .u64 (n:Int)])(hne:gv≠g):
  Cl 348 #[.slice (some ⟨g,0,none⟩) L.length c,.int .i64 (i:Int),.slice (some ⟨gv,0,none⟩) 1 1] w (kO w base (some ⟨g,0,none⟩) (L.take i++(k,n)::L.drop i)):=by
 rcases h.2 with⟨Pc,_⟩|⟨g0,cap,cur,Pc,hbg,hg,Sm,Qb,hcs,PV⟩
 ·cases Pc
 injection Pc with h1 h2 h3
 injection h1 with h1
 injection h1 with h1 _ _
 subst h1;subst h3;obtain⟨tO,Rm⟩:=nm (cur.toList.take ((i+1)*2)++pcs (L.drop i)++cur.toList.drop ((i+1)*2+(pcs (L.drop i)).length));have V0:cur.toList.length=cur.size:=Array.length_toList;have Lt:(L.length+1)*2≤cur.toList.length:=by rw[V0,hcs];omega
 obtain⟨r1,r2,r3⟩:=Iw (k,n) PV Lt (Nat.le_of_lt hi) Rm;have hcl:(pcs (L.drop i)).length=(L.length-i)*2:=by rw[aQ,List.length_drop]
 have hown:=World.ownsRow.cells h (g:=g) rfl;have hb:Blk w g 176 cur:=hg
 have U4:∀ty dc sc,(Builtin.copy_ #[172,172] ty #[.slice (some ⟨g,(i+1)*2,none⟩) (L.length-i) dc,.slice (some ⟨g,i*2,none⟩) (L.length+1-i) sc]).run prog w.drew=.ok (goInt ((L.length-i:Nat):Int)) (w.drew.setRow g tO.toArray):=fun ty dc sc=>by
  have:=du (P:=prog) (w:=w.drew) 172 172 ty 176 g ((i+1)*2) (L.length-i) dc ⟨g,i*2,none⟩ (L.length+1-i) sc cur 176 (pcs (L.drop i)) 2 (L.length-i) underlying172 j9 hb (show _=min _ _ by omega) hcl
   (fun j v hj=>by
    rw[Addr.add_lit]
    have TC:(pcs L)[i*2+j]?=some v:=by
     exact vo
    have:=hown (i*2+j) v TC;rw[Addr.add_lit,Nat.zero_add] at this;exact this)
   (by rw[hcl];omega) (aI _)
  rw[Rm];exact this
 obtain⟨W1,Oy⟩:=nm (w.drew.setRow g tO.toArray);have Px:W1.heap[g]?=some (.cells tO.toArray 176 (0,0)):=by rw[Oy];exact setRow_heap _ _ _ _ _ _ hg
 have MK:Blk W1 gv 176 #[.int .i64 k,.int .u64 (n:Int)]:=by rw[Oy];exact(setRow_other w.drew g gv _ hne).trans hv
 have V1:∀ty dc,(Builtin.copy_ #[172,172] ty #[.slice (some ⟨g,i*2,none⟩) (L.length+1-i) dc,.slice (some ⟨gv,0,none⟩) 1 1]).run prog W1=.ok (goInt 1) (W1.setRow g (tO.take (i*2)++pcs [(k,n)]++tO.drop (i*2+(pcs [(k,n)]).length)).toArray):=fun ty dc=>by
  exact du (P:=prog) (w:=W1) 172 172 ty 176 g (i*2) (L.length+1-i) dc ⟨gv,0,none⟩ 1 1 tO.toArray 176 (pcs [(k,n)]) 2 1 underlying172 j9 Px (show _=min _ _ by omega) rfl
   (fun j v hj=>by
    rw[Addr.add_lit,Nat.zero_add,MK.cell,←hj];rcases j with _|_|j<;>rfl)
   (by simp only[List.size_toArray];have e:(pcs [(k,n)]).length=2:=rfl;rw[e];omega) (aI _)
 rw[←Oy] at U4;obtain⟨a29,Sw⟩:=nm (tO.take (i*2)++pcs [(k,n)]++tO.drop (i*2+(pcs [(k,n)]).length));rw[←Sw] at V1 r2 r3;obtain⟨T,hT⟩:=nm (L.take i++(k,n)::L.drop i);have Sg:T.length=L.length+1:=by rw[hT];simp only[Ok,List.length_take,List.length_cons,List.length_drop];omega
 rw[←hT] at r3 ⊢;have Qf:=Oh Sg
 have hov:∀o lb cb,(callFunc 401 #[.slice (some ⟨gv,0,none⟩) 1 1,.slice (some ⟨g,o,none⟩) lb cb]).run prog w=.ok (.value (.bool false)) w:=fun o lb cb=>by
  rw[run_callFunc_extern func401 ok' ok' ok' (e:=Extern.SlicesOverlaps.overlaps #[172,172] #[4]) ok',
   Lib.run_overlaps_apart w 172 4 176 underlying172 2 (fun _=>by kernel_rfl) ⟨gv,0,none⟩ ⟨g,o,none⟩ 1 1 lb cb hne 176 176 2 cur.size (by unfold World.shape?;rw[show w.heap[gv]?=_ from hv];rfl) (by unfold World.shape?;rw[hg]) (by rw[hcs];omega) (hv.free 0) (hv.free 2)]
  rfl
 have a9I:(L.length:Int)≤200000:=oq;have Ri:(i:Int)<(L.length:Int):=oq;have Qd:(0:Int)≤(i:Int):=oq;have hie:((i:Int)==(L.length:Int))=false:=sq;have a2a:(i==L.length)=false:=sq;have XY:¬(c=i+1):=oq;have a9J:¬(c=i):=oq;have a2b:(L.length:Int)+1≤(c:Int):=oq;have eQ:(0:Int)≤(i:Int)+1:=oq;have Ps:((i:Int)+1).toNat=i+1:=oq;have dO:(i:Int)+1≤(L.length:Int)+1:=oq;have QT:(i:Int)≤(L.length:Int)+1:=oq;have iF:IntKind.i64.wrap ((i:Int)+1)=(i:Int)+1:=i6;have HR:=Oh (And.intro r1 (And.intro r2 r3));have TD:=Oh Oy;have HG1:=Oh Px;have a4Y:=Oh Sv;have HCM:=Oh Qb;have Ur:=Oh hcs;have HC0:=Oh V0;have HBG:=Oh hbg;clear h hg hb Oy Px hv MK hcs PV hown Rm Sw hT Sg r1 r2 r3 hcl V0 Lt Sv Qb hne hbg Sm;go_enter func348,ntmps348;go_wp2_with (simp only[hov]);go_region_law (refine fC rfl _ _ 172 172 rfl _ _ (by simp[Act.eval,Act.put]) (by simp[Act.eval,Act.put]) (U4 _ _ _) ?_);go_wp2_with (with_reducible refine ep rfl _ _ 172 172 rfl _ _ rfl rfl (V1 _ _) ?_);go_ret;refine⟨some ⟨g,0,none⟩,c,by rw[Qf.out];rfl,yD (n:=L.length+1) HBG.out (setRow_heap _ _ _ _ _ _ HG1.out) Qf.out.symm a4Y.out HCM.out (by rw[HR.out.2.1,HC0.out,Ur.out]) HR.out.2.2,?_,.inl rfl⟩;rw[TD.out];exact jZ (jZ (Dp (Dn w (some g))) _) _
set_option maxHeartbeats 3200000 in
theorem E5(base g c gv:Nat)(L:List Pr)(k:Int)(n i:Nat)(w:World)(h:bI w base (some ⟨g,0,none⟩) c L)(hl:L.length≤200000)(hi:i<L.length)(Sv:c<L.length+1)(oF:base≤w.heap.size)(hv:Blk w gv 176 #[.int .i64 k,.int .u64 (n:Int)]):
  Cl 348 #[.slice (some ⟨g,0,none⟩) L.length c,.int .i64 (i:Int),.slice (some ⟨gv,0,none⟩) 1 1] w (kO w base (some ⟨g,0,none⟩) (L.take i++(k,n)::L.drop i)):=by
 have hown:=World.ownsRow.cells h (g:=g) rfl;have hlt:g<w.heap.size:=((Own.block (show Own w base 176 2 (some ⟨g,0,none⟩) L.length c (pcs L) from h) rfl)).2;obtain⟨_,he,_,_,Sn,_,_⟩:=Own.form (show Own w base 176 2 (some ⟨g,0,none⟩) L.length c (pcs L) from h) oq;clear he;obtain⟨ie,a4Z,a50,a2a,a51⟩:=info_parts (show(Tryz.prog.info? 176).map (fun i=>(i.zero,i.size,i.bytes))=some (some (.agg #[.int .i64 0,.int .u64 0]),2,16) by kernel_rfl);obtain⟨m,hm⟩:=nm (L.length+1-i);have him:i+m=L.length+1:=oq
 obtain⟨c',cs,iN,hcs,Sm,Qb,PV⟩:=mS (P:=prog) (w:=w) (ty:=172) underlying172 underlying3 a4Z a50 a2a a51 rfl ⟨g,0,none⟩ i c (pcs (L.take i)) (by rw[aQ,List.length_take];omega)
  (fun j u hj=>by
   refine hown j u ?_;rw[←List.take_append_drop i L,au,List.getElem?_append_left (List.getElem?_eq_some_iff.1 hj).1];exact hj) m oq oq oq oq
 rw[him] at iN Sm;have hmi:(L.length:Int)+1-(i:Int)=(m:Int):=oq;obtain⟨W1,Oy⟩:=nm (w.drew.alloc (.cells cs 176));rw[←Oy] at iN;obtain⟨G,hG⟩:=nm (w.heap.size);have Px:W1.heap[G]?=some (.cells cs 176 (0,0)):=by rw[Oy,hG];exact heap_alloc_new w.drew _
 have eQ:Below G w W1:=by rw[Oy,hG];exact((Oq _ _).drew).alloc os' _
 have hgG:g<G:=oq;have hvG:gv<G:=by have:=hv.lt;omega
 have MK:=hv.below eQ hvG;obtain⟨tO,Rm⟩:=nm (cs.toList.take (i*2)++pcs [(k,n)]++cs.toList.drop (i*2+(pcs [(k,n)]).length));have V0:cs.toList.length=cs.size:=Array.length_toList;obtain⟨r1,r2,r3⟩:=Ei (k,n) PV (by rw[V0,hcs];omega) (Nat.le_of_lt hi) Rm;have hcl:(pcs (L.drop i)).length=(L.length-i)*2:=by rw[aQ,List.length_drop]
 have Ts:(pcs [(k,n)]).length=2:=rfl
 have U4:∀ty dc,(Builtin.copy_ #[172,172] ty #[.slice (some ⟨G,i*2,none⟩) (L.length+1-i) dc,.slice (some ⟨gv,0,none⟩) 1 1]).run prog W1=.ok (goInt 1) (W1.setRow G tO.toArray):=fun ty dc=>by
  have:=du (P:=prog) (w:=W1) 172 172 ty 176 G (i*2) (L.length+1-i) dc ⟨gv,0,none⟩ 1 1 cs 176 (pcs [(k,n)]) 2 1 underlying172 j9 Px (show _=min _ _ by omega) rfl
   (fun j v hj=>by
    rw[Addr.add_lit,Nat.zero_add,MK.cell,←hj];rcases j with _|_|j<;>rfl)
   (by rw[Ts,hcs];omega) (aI _)
  rw[Rm];exact this
 obtain⟨W2,Pe⟩:=nm (W1.setRow G tO.toArray);have PK:W2.heap[G]?=some (.cells tO.toArray 176 (0,0)):=by rw[Pe];exact setRow_heap _ _ _ _ _ _ Px
 have aT:Below G w W2:=by rw[Pe];exact below_setRow eQ (Oi _) _
 rw[←Pe] at U4;obtain⟨a29,Sw⟩:=nm (tO.take ((i+1)*2)++pcs (L.drop i)++tO.drop ((i+1)*2+(pcs (L.drop i)).length));rw[←Sw] at r2 r3
 have V1:∀ty dc sc,(Builtin.copy_ #[172,172] ty #[.slice (some ⟨G,(i+1)*2,none⟩) (L.length-i) dc,.slice (some ⟨g,i*2,none⟩) (L.length-i) sc]).run prog W2.drew=.ok (goInt ((L.length-i:Nat):Int)) (W2.drew.setRow G a29.toArray):=fun ty dc sc=>by
  have:=du (P:=prog) (w:=W2.drew) 172 172 ty 176 G ((i+1)*2) (L.length-i) dc ⟨g,i*2,none⟩ (L.length-i) sc tO.toArray 176 (pcs (L.drop i)) 2 (L.length-i) underlying172 j9 PK (show _=min _ _ by omega) hcl
   (fun j v hj=>by
    rw[Addr.add_lit]
    have TC:(pcs L)[i*2+j]?=some v:=by
     exact vo
    have:=hown (i*2+j) v TC;rw[Addr.add_lit,Nat.zero_add] at this;exact(aT.cell (p:=⟨g,i*2+j,none⟩) hgG).trans this)
   (by simp only[List.size_toArray];rw[hcl];omega) (aI _)
  rw[Sw];exact this
 obtain⟨T,hT⟩:=nm (L.take i++(k,n)::L.drop i);have Sg:T.length=L.length+1:=by rw[hT];simp only[Ok,List.length_take,List.length_cons,List.length_drop];omega
 rw[←hT] at r3 ⊢;have Qf:=Oh Sg;have a9I:(L.length:Int)≤200000:=oq;have Ri:(i:Int)<(L.length:Int):=oq;have Qd:(0:Int)≤(i:Int):=oq;have hie:((i:Int)==(L.length:Int))=false:=sq;have agi:(i==L.length)=false:=sq;have XY:¬(c=i+1)∨c=i+1:=oq;have a9J:¬(c=i):=oq;have agj:¬(c'=i+1):=oq;have agk:¬(c'=i):=oq;have a2b:(c:Int)<(L.length:Int)+1:=oq;have hic:(i:Int)≤(c:Int):=oq;have agl:(0:Int)≤(i:Int)+1:=oq;have Ps:((i:Int)+1).toNat=i+1:=oq;have dO:(i:Int)+1≤(L.length:Int)+1:=oq;have QT:(i:Int)≤(L.length:Int)+1:=oq;have T6:i≤L.length:=oq;have iF:IntKind.i64.wrap ((i:Int)+1)=(i:Int)+1:=i6;have HR:=Oh (And.intro r1 (And.intro r2 r3));have HG2:=Oh PK;have bY:=Oh aT;have HNC:=Oh Sm;have HCM:=Oh Qb;have Ur:=Oh hcs;have HC0:=Oh V0;have Z9:=Oh hG;have HBA:=Oh oF;rw[←hG] at iN;clear h Oy Pe Px PK eQ aT hv MK hvG hgG hcs PV hown Rm Sw hT Sg r1 r2 r3 hcl V0 Ts Sv Qb Sm XY a4Z a50 a2a a51 hlt Sn hm him hG oF;go_enter func348,ntmps348;go_wp2_with (at_builtin;refine cJ rfl _ _ 172 3 rfl _ _ rfl rfl iN ?_);go_wp2_with (with_reducible refine ep rfl _ _ 172 172 rfl _ _ rfl rfl (U4 _ _) ?_);go_region_law (refine fC rfl _ _ 172 172 rfl _ _ (by simp[Act.eval,Act.put]) (by simp[Act.eval,Act.put]) (V1 _ _ _) ?_);go_wp2_with fail;go_ret;refine⟨some ⟨G,0,none⟩,c',by rw[Qf.out];rfl,yD (n:=L.length+1) (by rw[Z9.out];exact HBA.out) (setRow_heap _ _ _ _ _ _ HG2.out) Qf.out.symm HNC.out HCM.out (by rw[HR.out.2.1,HC0.out,Ur.out]) HR.out.2.2,?_,.inr ⟨G,rfl,by rw[Z9.out];exact Oi _⟩⟩;have hb:=below_setRow (B:=G) (g:=G) (bY.out.drew) (Oi _) a29.toArray;exact⟨hb.os,hb.tape,hb.output,hb.size,fun j hj _=>hb.block j (by rw[Z9.out];exact hj)⟩
theorem DZ(base:Nat)(A:Option Addr)(c gv:Nat)(L:List Pr)(k:Int)(n i:Nat)(w:World)(h:bI w base A c L)(hl:L.length≤200000)(hi:i≤L.length)(oF:base≤w.heap.size)(hv:Blk w gv 176 #[.int .i64 k,.int .u64 (n:Int)])(hne:aa A≠some gv):
  Cl 348 #[.slice A L.length c,.int .i64 (i:Int),.slice (some ⟨gv,0,none⟩) 1 1] w (kO w base A (L.take i++(k,n)::L.drop i)):=by
 rcases Nat.lt_or_ge i L.length with hlt|hge
 ·obtain⟨g,rfl,_⟩:=Own.form (show Own w base 176 2 A L.length c (pcs L) from h) oq;rcases Nat.lt_or_ge c (L.length+1) with hr|hr
  ·exact E5 base g c gv L k n i w h hl hlt hr oF hv
  ·exact E4 base g c gv L k n i w h hl hlt hr hv (fun e=>hne (by rw[e];rfl))
 ·obtain rfl:i=L.length:=oq;rw[List.take_length,List.drop_length];exact Ix base A c gv L k n w h hl oF hv
def LK(g:Nat)(A:Option Addr)(i:Nat):Prop:=i=g∨aa A=some i
def bg(g:Nat)(A:Option Addr)(L:List Pr)(w w':World):Prop:=∃A' c',Lst w' g A' c' L∧ab (LK g A) w w'∧(aa A'=aa A∨∃i,aa A'=some i∧w.heap.size≤i)
theorem bg.refl{w:World}{g:Nat}{A:Option Addr}{c:Nat}{L:List Pr}(h:Lst w g A c L):bg g A L w w:=⟨A,c,h,ab.refl _ _,.inl rfl⟩
theorem vy{l:List Pr}{i:Nat}{p:Pr}(h:l[i]?=some p)(m:Nat):(pcs l).set (i*2+1) (.int .u64 (m:Nat))=pcs (l.set i (p.1,m)):=by
 exact vi
theorem ml(L:List Pr)(k:Int)(n:Nat):cq L k n 0=if n=0 then(L,4) else if k< -1048576∨1048576<k then(L,5) else if 4611686018427387904-tot L<n then(L,6) else(put L k n,0):=by
 unfold cq;rw[if_neg (show¬(0<0∧((0:Nat):Int)<JR L k) from fun h=>absurd h.1 od)]
theorem qG{w W:World}{g g' c t N:Nat}{A:Option Addr}{L1:List Pr}{i n:Nat}{p:Pr}(hb:Blk W g 426 #[.slice (some ⟨g',0,none⟩) N c,.int .u64 (t:Nat)])(ho:bI W g (some ⟨g',0,none⟩) c L1)(hN:N=L1.length)(hp:L1[i]?=some p)(hne:g'≠g)(ht:t+n=tot (L1.set i (p.1,p.2+n)))(PR:ab (LK g A) w W)(hl:aa A=some g'∨w.heap.size≤g'):
  bg g A (L1.set i (p.1,p.2+n)) w ((W.setCell ⟨g',i*2+1,none⟩ (.int .u64 ((p.2+n:Nat):Int))).setCell ⟨g,1,none⟩ (.int .u64 ((t+n:Nat):Int))):=by
 subst hN;have h1:=hb.far (p:=⟨g',i*2+1,none⟩) (fun e=>hne e.symm) (.int .u64 ((p.2+n:Nat):Int));have h2:=h1.put 1 (.int .u64 ((t+n:Nat):Int));have o1:=Own.stored (show Own W g 176 2 (some ⟨g',0,none⟩) L1.length c (pcs L1) from ho) (i*2+1) (.int .u64 ((p.2+n:Nat):Int));rw[vy hp] at o1;have o2:=Own.setOther o1 (p:=⟨g,1,none⟩) (by simpa [aa] using hne) (.int .u64 ((t+n:Nat):Int));refine⟨some ⟨g',0,none⟩,c,⟨?_,?_⟩,(PR.set (p:=⟨g',i*2+1,none⟩) (hl.imp (fun h=>.inr h) id) _).set (p:=⟨g,1,none⟩) (.inl (.inl rfl)) _,?_⟩
 ·rw[List.length_set,←ht];simpa using h2
 ·unfold bI;rw[List.length_set];exact o2
 ·rcases hl with hl|hl
  ·exact .inl hl.symm
  ·exact .inr ⟨g',rfl,hl⟩
theorem F7(g:Nat)(A:Option Addr)(c:Nat)(L:List Pr)(k:Int)(w:World)(h:Lst w g A c L):
  Cl 278 #[.pointer (some ⟨g,0,none⟩),.int .i64 k,.int .u64 0] w fun e w'=>e=.returned (.int .i64 4)∧bg g A L w w':=by
 have H:=Oh h;clear h;go_enter func278,ntmps278;go_wp2_with fail;go_ret;exact⟨rfl,bg.refl H.out⟩
theorem C5(g:Nat)(A:Option Addr)(c:Nat)(L:List Pr)(k:Int)(n:Nat)(w:World)(h:Lst w g A c L)(hn:n≠0)(hk:k< -1048576∨1048576<k):
  Cl 278 #[.pointer (some ⟨g,0,none⟩),.int .i64 k,.int .u64 (n:Int)] w fun e w'=>e=.returned (.int .i64 5)∧bg g A L w w':=by
 have H:=Oh h;have e1:((n:Int)==0)=false:=sq
 have hc:decide (k< -1048576)=true∨decide (k< -1048576)=false∧decide (1048576<k)=true:=by
  by_cases h1:k< -1048576
  ·exact .inl sq
  ·exact .inr ⟨by simp;omega,by simp;omega⟩
 clear h hn hk;rcases hc with e2|⟨e2,e3⟩
 all_goals
  go_enter func278,ntmps278;go_wp2_with fail;go_ret;exact⟨rfl,bg.refl H.out⟩
theorem JA(g:Nat)(A:Option Addr)(c:Nat)(L:List Pr)(k:Int)(n:Nat)(w:World)(h:Lst w g A c L)(ht:tot L≤4611686018427387904)(hn:n≠0)(h0: -1048576≤k)(h1:k≤1048576)(hc:4611686018427387904-tot L<n):
  Cl 278 #[.pointer (some ⟨g,0,none⟩),.int .i64 k,.int .u64 (n:Int)] w fun e w'=>e=.returned (.int .i64 6)∧bg g A L w w':=by
 have H:=Oh h;have e1:((n:Int)==0)=false:=sq;have e2:decide (k< -1048576)=false:=sq;have e3:decide (1048576<k)=false:=sq;have c1:=h.1.c1;have e4:decide (4611686018427387904-((tot L:Nat):Int)<(n:Int))=true:=sq;have ht2:((tot L:Nat):Int)≤4611686018427387904:=oq;clear h hn hc h0 h1;go_enter func278,ntmps278;go_wp2_with fail;go_ret;exact⟨rfl,bg.refl H.out⟩
set_option maxHeartbeats 3200000 in
theorem C6(g:Nat)(A:Option Addr)(c:Nat)(L:List Pr)(k:Int)(n:Nat)(w:World)(h:Lst w g A c L)(hf:aV L)(hn:n≠0)(h0: -1048576≤k)(h1:k≤1048576)(hc:¬4611686018427387904-tot L<n)(hk:iW L k=true):
  Cl 278 #[.pointer (some ⟨g,0,none⟩),.int .i64 k,.int .u64 (n:Int)] w fun e w'=>e=.returned (.int .i64 0)∧bg g A (put L k n) w w':=by
 have e1:((n:Int)==0)=false:=sq;have e2:decide (k< -1048576)=false:=sq;have e3:decide (1048576<k)=false:=sq;have ht:=hf.tot;have c1:=h.1.c1;have e4:decide (4611686018427387904-((tot L:Nat):Int)<(n:Int))=false:=sq;have ht2:((tot L:Nat):Int)≤4611686018427387904:=oq;have XZ:((tot L:Nat):Int)+(n:Int)≤4611686018427387904:=oq;obtain⟨m,hm,Y0⟩:=He hf.srt (n:=n) hk;have QA:=aW (Om hm);have U5:tot (put L k n)=tot L+n:=eI;dsimp only at QA;have hmn:(m:Int)+(n:Int)≤4611686018427387904:=oq;have RG:=Oh (yA g A c L k w h hf oq oq);rw[hk] at RG;have hlen:=hf.len;generalize lo L k=i at*;have Pz:i<L.length:=(List.getElem?_eq_some_iff.1 hm).1;have Qd:(0:Int)≤(i:Int):=oq;have Ri:(i:Int)<(L.length:Int):=oq;have Lt:(L.length:Int)≤100000:=oq;have H:=Oh h;have HM:=Oh hm;have a53:=Oh Y0;have UC:=Oh U5;clear h hf hn h0 h1 hc hk hm Y0 QA U5 hlen ht c1;go_enter func278,ntmps278;have c1:=H.out.1.c1;go_wp2_with fail;refine RG.out.mono ?_;rintro e w1 ⟨rfl,eQ⟩;have Qp:=H.out.below eQ;clear c1;have c0:=Qp.1.c0;have c1:=Qp.1.c1;have fr:=Qp.1.free;obtain⟨g',hA,Uq,If,Sn,hcl,So⟩:=Own.form (show Own w1 g 176 2 A L.length c (pcs L) from Qp.2) oq;subst hA;have d1:w1.cell? ⟨g',i*2+1,none⟩=some (.int .u64 (m:Int)):=hcl _ _ (kT HM.out).2;have fr2:=So (i*2+1);have hne:¬g'=g:=fun e=>Own.ne_blk (show Own w1 g 176 2 (some ⟨g',0,none⟩) L.length c (pcs L) from Qp.2) Qp.1 od (by rw[e];rfl);have Qo:¬g=g':=fun e=>hne e.symm;have HE:=Oh (qG (w:=w) (A:=some ⟨g',0,none⟩) (n:=n) (t:=tot L) Qp.1 Qp.2 rfl HM.out hne (by rw[←a53.out,UC.out]) (ab.of_below eQ) (.inl rfl));clear Qp eQ hcl So Uq If Sn;go_wp2_with fail;go_ret;refine⟨rfl,?_⟩;rw[a53.out];exact HE.out
set_option maxHeartbeats 3200000 in
theorem Jz(g:Nat)(A:Option Addr)(c:Nat)(L:List Pr)(k:Int)(n:Nat)(w:World)(h:Lst w g A c L)(hf:aV L)(hn:n≠0)(h0: -1048576≤k)(h1:k≤1048576)(hc:¬4611686018427387904-tot L<n)(hk:iW L k=false):
  Cl 278 #[.pointer (some ⟨g,0,none⟩),.int .i64 k,.int .u64 (n:Int)] w fun e w'=>e=.returned (.int .i64 0)∧bg g A (put L k n) w w':=by
 have e1:((n:Int)==0)=false:=sq;have e2:decide (k< -1048576)=false:=sq;have e3:decide (1048576<k)=false:=sq;have ht:=hf.tot;have e4:decide (4611686018427387904-((tot L:Nat):Int)<(n:Int))=false:=sq;have ht2:((tot L:Nat):Int)≤4611686018427387904:=oq;have XZ:((tot L:Nat):Int)+(n:Int)≤4611686018427387904:=oq;have Y0:=Hf hf.srt (n:=n) hk;have U5:tot (put L k n)=tot L+n:=eI;have ZP:=JZ L k;have RG:=Oh (yA g A c L k w h hf oq oq);rw[hk] at RG;have hlen:=hf.len;generalize lo L k=i at*;obtain⟨L1,Qp⟩:=nm (L.take i++(k,0)::L.drop i);have Qs:L1.length=L.length+1:=by rw[Qp];simp only[Ok,List.length_take,List.length_cons,List.length_drop];omega
 have Px:L1[i]?=some (k,0):=by rw[Qp,List.getElem?_append_right (by rw[List.length_take];omega),List.length_take,Nat.min_eq_left ZP,Nat.sub_self];rfl
 have RS:L1.set i (k,n)=put L k n:=by
  rw[Qp,Y0,List.set_append_right _ _ (by rw[List.length_take];omega),List.length_take,Nat.min_eq_left ZP,Nat.sub_self];rfl
 have Qd:(0:Int)≤(i:Int):=oq;have Ri:(i:Int)≤(L.length:Int):=oq;have a9O:(i:Int)<(L1.length:Int):=oq;have Lt:(L.length:Int)≤100000:=oq;have agn:(L1.length:Int)≤100001:=oq;have H:=Oh h;have HG1:=Oh Px;have ST:=Oh Qp;have By:=Oh RS;have UC:=Oh U5;have HI:=Oh ZP;have TX:=Oh hlen;have a9P:=Oh Qs;clear h hf hn h0 h1 hc hk Y0 U5 hlen ht Qp Px RS ZP Qs;go_enter func278,ntmps278;have c1:=H.out.1.c1;go_wp2_with fail;refine RG.out.mono ?_;rintro e w1 ⟨rfl,eQ⟩;have hLw:=H.out.below eQ;clear c1;have c0:=hLw.1.c0;have aS:=Oh eQ;have Vu:=Oh hLw;have ago:g<w1.heap.size:=hLw.1.lt;clear eQ hLw;go_wp2_with fail;have hOw:=Own.alloc (show Own w1 g 176 2 A L.length c (pcs L) from Vu.out.2) (.cells #[.int .i64 k,.int .u64 0] 176);have a54:aa A≠some w1.heap.size:=fun e=>by have:=(Own.block (show Own w1 g 176 2 A L.length c (pcs L) from Vu.out.2) e).2;omega
 refine(DZ g A c w1.heap.size L k 0 i _ hOw (by have:=TX.out;omega) HI.out sq (Blk.new w1 _ _) a54).mono ?_;rintro e w3 ⟨A3,c3,rfl,o3,g3,q3⟩;rw[←ST.out] at o3 ⊢;have dO:Blk w3 g 426 #[.slice A L.length c,.int .u64 (tot L:Nat)]:=(Vu.out.1.alloc _).grown g3 (fun e=>Own.ne_blk hOw (Vu.out.1.alloc _) od e.symm);have RW:ab (LK g A) w w3:=((ab.of_below aS.out).alloc (.cells #[.int .i64 k,.int .u64 0] 176)).step (ab.of_grown g3) (fun i hi=>.inl (.inr hi));obtain⟨g',hA,Uq,If,Sn,hcl,So⟩:=Own.form (show Own w3 g 176 2 A3 L1.length c3 (pcs L1) from o3) (by have:=a9P.out;omega);subst hA;have hne:¬g'=g:=fun e=>Own.ne_blk (show Own w3 g 176 2 (some ⟨g',0,none⟩) L1.length c3 (pcs L1) from o3) dO od (by rw[e];rfl);have Qo:¬g=g':=fun e=>hne e.symm;have d0:=dO.c0;have d1:=dO.c1;have fr:=dO.free;have d2:w3.cell? ⟨g',i*2+1,none⟩=some (.int .u64 0):=hcl _ _ (kT HG1.out).2;have fr2:=So (i*2+1)
 have hq:aa A=some g'∨w.heap.size≤g':=by
  rcases q3 with q3|⟨j,hj,hw⟩
  ·exact .inl q3.symm
  ·have TC:g'=j:=by simpa [aa] using hj
   have:=aS.out.size;simp at hw;exact .inr oq
 have QT:=dO.put 0 (.slice (some ⟨g',0,none⟩) L1.length c3);have YZ:=Own.setOther (show Own w3 g 176 2 (some ⟨g',0,none⟩) L1.length c3 (pcs L1) from o3) (p:=⟨g,0,none⟩) (by simpa [aa] using hne) (.slice (some ⟨g',0,none⟩) L1.length c3);have SV:=RW.set (p:=⟨g,0,none⟩) (.inl (.inl rfl)) (.slice (some ⟨g',0,none⟩) L1.length c3);have Zr:=qG (w:=w) (A:=A) (n:=n) (t:=tot L) (by simpa using QT) YZ rfl HG1.out hne (by rw[Nat.zero_add,By.out,UC.out]) SV hq;dsimp only at Zr;rw[Nat.zero_add,By.out] at Zr;have HE:=Oh Zr;clear hOw a54 o3 g3 q3 dO RW Uq If Sn hcl So hq QT YZ SV Zr c0;go_wp2_with fail;go_ret;exact⟨rfl,HE.out⟩
theorem zM(g:Nat)(A:Option Addr)(c:Nat)(L:List Pr)(k:Int)(n:Nat)(w:World)(h:Lst w g A c L)(hf:aV L):
  Cl 278 #[.pointer (some ⟨g,0,none⟩),.int .i64 k,.int .u64 (n:Int)] w fun e w'=>e=.returned (.int .i64 (cq L k n 0).2)∧bg g A (cq L k n 0).1 w w':=by
 rw[ml]
 by_cases hn:n=0
 ·rw[if_pos hn];subst hn;exact F7 g A c L k w h
 ·rw[if_neg hn]
  by_cases hk:k< -1048576∨1048576<k
  ·rw[if_pos hk];exact C5 g A c L k n w h hn hk
  ·rw[if_neg hk]
   by_cases hc:4611686018427387904-tot L<n
   ·rw[if_pos hc];exact JA g A c L k n w h hf.tot hn oq oq hc
   ·rw[if_neg hc]
    cases hh:iW L k with
    |true=>exact C6 g A c L k n w h hf hn oq oq hc hh
    |false=>exact Jz g A c L k n w h hf hn oq oq hc hh
theorem wy(A:Option Addr)(c:Nat)(L:List Pr)(w:World)(hb:Prs w w.heap.size A L)(hl:L.length≤1000000):
  Cl 333 #[.slice A L.length c] w (en L w):=by
 rcases A with _|a
 ·have UT:L=[]:=by
   rcases Nat.eq_zero_or_pos L.length with h0|h0
   ·exact List.length_eq_zero_iff.1 h0
   ·obtain⟨b,o,e,_⟩:=hb.at_ h0;cases e
  subst UT;have hk:∀W:World,(binOp .eql 172 (.slice none 0 c) (.slice none 0 0)).run prog W=.ok (.bool true) W:=fun W=>Lib.run_eql_slice_nil W 172 176 none 0 c 0 0 underlying172;simp only[List.length_nil];clear hb;go_enter func333,ntmps333;go_wp2_with fail;go_ret;exact⟨none,0,rfl,Own.nil _ _ _ _,Oq _ _⟩
 ·have hk:∀W:World,(binOp .eql 172 (.slice (some a) L.length c) (.slice none 0 0)).run prog W=.ok (.bool false) W:=fun W=>Lib.run_eql_slice_nil W 172 176 (some a) L.length c 0 0 underlying172;have HB:=Oh hb;clear hb;go_enter func333,ntmps333;go_wp2_with (at_builtin;refine Hid.out ?_);have Ux:Own (w.alloc (.cells #[] 176)) w.heap.size 176 2 (some ⟨w.heap.size,0,none⟩) 0 0 []:=Own.made w _ _ _ #[] 0 (Oi _) (Nat.zero_le _) rfl;have Oy:Below w.heap.size w (w.alloc (.cells #[] 176)):=Ba;have QV:=HB.out.at_below Oy;refine aj (xs:=[]) rfl rfl cg rfl Ux rfl QV (aI _) L.length (Nat.zero_add _) (pcs L) rfl (by unfold maxLen;omega) oq Oy.size ?_;intro A2 c2 w2 o2 g2 q2;have nO:Hid (bI w2 w.heap.size A2 c2 L):=Oh o2;exact kw
theorem yC(g:Nat)(A:Option Addr)(c:Nat)(L:List Pr)(w:World)(h:Lst w g A c L)(hf:aV L):
  Cl 259 #[.pointer (some ⟨g,0,none⟩)] w (en L w):=by
 have c0:=h.1.c0;have HC:=Oh (wy A c L w (bI.reads h.2) (by have:=hf.len;omega));clear h hf;go_enter func259,ntmps259;exact iM
theorem Gp(g:Nat)(A:Option Addr)(c:Nat)(L:List Pr)(w:World)(h:Lst w g A c L):
  Cl 309 #[.pointer (some ⟨g,0,none⟩)] w (Rt (.int .u64 (tot L:Nat)) w):=by
 have c1:=h.1.c1;clear h;go_enter func309,ntmps309;go_wp2_with fail;go_ret;exact⟨rfl,rfl⟩
set_option maxHeartbeats 3200000 in
theorem Ll(g:Nat)(A:Option Addr)(c:Nat)(L:List Pr)(r:Nat)(w:World)(h:Lst w g A c L)(hf:aV L)(h1:1≤r)(h2:r≤tot L):
  Cl 359 #[.pointer (some ⟨g,0,none⟩),.int .u64 (r:Int)] w (Rb (.tuple #[.int .i64 (mu L r),.int .i64 0]) w):=by
 have c0:=h.1.c0;have c1:=h.1.c1;have e0:(((tot L:Nat):Int)==0)=false:=sq;have e1:decide ((r:Int)<1)=false:=sq;have e2:decide (((tot L:Nat):Int)<(r:Int))=false:=sq;have e3:decide (tot L<r)=false:=sq;have HR:=Oh (bI.reads h.2);have ht:=hf.tot;have Lt:(L.length:Int)≤100000:=by have:=hf.len;omega
 have T7:=Oh (And.intro h1 h2);have HT:=Oh ht;obtain⟨K,hK⟩:=nm (mu L r);rw[←hK];have HK:=Oh hK;clear h hf h1 h2 ht hK;go_enter func359,ntmps359;go_wp2_with fail;clear e0 e1 e2 e3;go_loopw [1,28] (fun u v wr=>∃(i q:Nat),u=.int .u64 (q:Int)∧v=.int .i64 (i:Int)∧i≤L.length∧1≤q∧tot (L.take i)+q=r∧Below w.heap.size w wr) (fun _ v _=>L.length-(intOf v).toNat)
 case atStart=>exact⟨0,r,rfl,rfl,Nat.zero_le _,T7.out.1,by simp[tot],Oq _ _⟩
 case round=>
  obtain⟨i,q,rfl,rfl,hi,UA,hq,aC⟩:=hrel;obtain⟨wo,rfl⟩:=nm (wr:World)
  by_cases hlt:i<L.length
  ·have Ri:(i:Int)<(L.length:Int):=oq;have a9O:decide (i<L.length)=true:=sq;have Qd:(0:Int)≤(i:Int):=oq;obtain⟨p,hp⟩:=gs L i hlt;obtain⟨b,o,rfl,OO,hc⟩:=(HR.out.below aC).at_ oq;obtain⟨d1,d2⟩:=hc i p hp;have Ps:=fy hp;have agp:(q:Int)≤4611686018427387904:=by have:=T7.out;have:=HT.out;omega
   have HI:=Oh hlt;have HW:=Oh aC
   by_cases hle:q≤p.2
   ·have hr:=Hc (r:=r) hp oq oq;have HX:=Oh (HK.out.trans hr);have e5:decide ((q:Int)≤(p.2:Int))=true:=sq;have e6:decide (q≤p.2)=true:=sq;obtain⟨x,n⟩:=p;dsimp only at d1 d2 e5 e6;clear hc hp aC OO Ps hr hle hi hq UA hlt;go_wp2_with fail;go_ret2;exact⟨by rw[HX.out];rfl,fG HW.out _⟩
   ·have e5:decide ((q:Int)≤(p.2:Int))=false:=sq;have e6:decide (q≤p.2)=false:=sq;have HQ:=Oh (show 1≤q-p.2∧tot (L.take (i+1))+(q-p.2)=r by omega);have ZR:(p.2:Int)≤(q:Int):=oq;have a55:=Oh (show(q:Int)-(p.2:Int)=((q-p.2:Nat):Int) by omega);obtain⟨x,n⟩:=p;dsimp only at d1 d2 e5 e6 ZR HQ a55;clear hc hp aC OO Ps hle hi hq UA hlt;go_wp2_with fail;go_roundw
    case rel=>exact⟨i+1,q-n,by rw[a55.out],by go_num,HI.out,HQ.out.1,HQ.out.2,fG HW.out _⟩
    case measure=>exact ms HI
  ·exfalso;obtain rfl:i=L.length:=oq;rw[List.take_length] at hq;have:=T7.out;omega
theorem lI(A:Option Addr)(c n:Nat)(L:List Pr)(w:World)(hb:Prs w w.heap.size A L)(hl:L.length≤1000000)(hn:L.length=n):
  Cl 333 #[.slice A n c] w (en L w):=by
 subst hn;exact wy A c L w hb hl
theorem Di(L:List Pr)(i:Nat):pcs (L.drop i)=(pcs L).drop (i*2):=by
 induction i generalizing L with
 |zero=>simp
 |succ i ih=>
  cases L with
  |nil=>simp[pcs]
  |cons p L=>rw[List.drop_succ_cons,ih,show(i+1)*2=i*2+2 by omega];rfl
theorem og{w:World}{B g:Nat}{L:List Pr}{i:Nat}(h:Prs w B (some ⟨g,0,none⟩) L)(hi:i≤L.length):Prs w B (some ⟨g,i*2,none⟩) (L.drop i):=by
 refine⟨aQ _,fun hn=>?_⟩;rw[List.length_drop] at hn;obtain⟨b,o,e,hb,hc⟩:=h.2 oq;injection e with e
 injection e with e1 e2 _
 subst e1;subst e2;refine⟨g,i*2,rfl,hb,fun j u hj=>?_⟩;rw[Di,List.getElem?_drop] at hj;have:=hc _ u hj
 rwa [Nat.zero_add] at this
theorem DE{w W:World}{g g' base c t N S:Nat}{A:Option Addr}{D:List Pr}{p:Pr}(hb:Blk W g 426 #[.slice (some ⟨g',0,none⟩) N c,.int .u64 (t:Nat)])(ho:bI W base (some ⟨g',0,none⟩) c D)(oF:g≤base)(hN:N=D.length)(hp:D[0]?=some p)(hne:g'≠g)(ht:t=tot (D.set 0 (p.1,p.2+S)))(PR:ab (LK g A) w W)(hl:w.heap.size≤g'):
  bg g A (D.set 0 (p.1,p.2+S)) w (W.setCell ⟨g',1,none⟩ (.int .u64 ((p.2+S:Nat):Int))):=by
 subst hN;have h1:=hb.far (p:=⟨g',1,none⟩) (fun e=>hne e.symm) (.int .u64 ((p.2+S:Nat):Int));have o1:=Own.stored (show Own W base 176 2 (some ⟨g',0,none⟩) D.length c (pcs D) from ho) 1 (.int .u64 ((p.2+S:Nat):Int));have e:=vy hp (p.2+S);rw[show 0*2+1=1 from rfl] at e;rw[e] at o1;refine⟨some ⟨g',0,none⟩,c,⟨?_,?_⟩,PR.set (p:=⟨g',1,none⟩) (.inr hl) _,.inr ⟨g',rfl,hl⟩⟩
 ·rw[List.length_set,←ht];exact h1
 ·unfold bI;rw[List.length_set];exact o1.mono oF
theorem oL{L:List Pr}{i:Nat}{p:Pr}(h:(L.drop i)[0]?=some p):fk L i=(L.drop i).set 0 (p.1,p.2+tot (L.take i)):=by
 unfold fk
 cases hd:L.drop i with
 |nil=>rw[hd] at h;simp at h
 |cons q R=>
  rw[hd] at h;simp at h;subst h;rfl
theorem Jn(g:Nat)(A:Option Addr)(c:Nat)(L:List Pr)(m:Int)(w:World)(h:Lst w g A c L)(hf:aV L)(hm:m<1)(_hhi:m≤9223372036854775807)(hl:(L.length:Int)≤1):
  Cl 346 #[.pointer (some ⟨g,0,none⟩),.int .i64 m] w fun e w'=>e=.returned (.int .u64 0)∧bg g A L w w':=by
 have c0:=h.1.c0;have Lt:(L.length:Int)≤100000:=by have:=hf.len;omega
 have FR:max m 1=1:=oq;obtain⟨d,hd⟩:∃d,(L.length:Int)-1=d:=⟨_,rfl⟩;have OH:d≤0:=oq;have P4: -9223372036854775808≤m∨m< -9223372036854775808:=oq;have H:=Oh h;have QM:¬1<m:=oq;exact nW
theorem Jm(g:Nat)(A:Option Addr)(c:Nat)(L:List Pr)(m:Int)(w:World)(h:Lst w g A c L)(hf:aV L)(hm:1<m)(_hhi:m≤9223372036854775807)(hl:(L.length:Int)≤m):
  Cl 346 #[.pointer (some ⟨g,0,none⟩),.int .i64 m] w fun e w'=>e=.returned (.int .u64 0)∧bg g A L w w':=by
 have c0:=h.1.c0;have Lt:(L.length:Int)≤100000:=by have:=hf.len;omega
 have FR:max m 1=m:=oq;obtain⟨d,hd⟩:∃d,(L.length:Int)-m=d:=⟨_,rfl⟩;have OH:d≤0:=oq;have P4: -9223372036854775808≤m∨m< -9223372036854775808:=oq;have H:=Oh h;have QM:¬m≤1:=oq;exact nW
theorem Jl(g:Nat)(A:Option Addr)(c:Nat)(L:List Pr)(m:Int)(w:World)(h:Lst w g A c L)(hf:aV L)(hm:m=1)(_hhi:m≤9223372036854775807)(hl:(L.length:Int)≤1):
  Cl 346 #[.pointer (some ⟨g,0,none⟩),.int .i64 m] w fun e w'=>e=.returned (.int .u64 0)∧bg g A L w w':=by
 have c0:=h.1.c0;have Lt:(L.length:Int)≤100000:=by have:=hf.len;omega
 obtain⟨d,hd⟩:∃d,(L.length:Int)-1=d:=⟨_,rfl⟩;have OH:d≤0:=oq;have P4: -9223372036854775808≤m∨m< -9223372036854775808:=oq;have H:=Oh h;subst hm;exact nW
set_option maxHeartbeats 3200000 in
theorem EO(g:Nat)(A:Option Addr)(c:Nat)(L:List Pr)(m:Int)(i:Nat)(w:World)(h:Lst w g A c L)(hf:aV L)(hm:m<1)(hi:(L.length:Int)-1=(i:Int))(Qd:0<i)(Pz:i<L.length):
  Cl 346 #[.pointer (some ⟨g,0,none⟩),.int .i64 m] w fun e w'=>e=.returned (.int .u64 (tot (L.take i):Nat))∧bg g A (fk L i) w w':=by
 have c0:=h.1.c0;have Lt:(L.length:Int)≤100000:=by have:=hf.len;omega
 have FR:max m 1=1:=oq;have hip:(0:Int)<(i:Int):=oq;have Ri:(i:Int)<(L.length:Int):=oq;have HSU:=Oh (mj g A c L i w h hf (Nat.le_of_lt Pz));obtain⟨p,hp⟩:=gs (L.drop i) 0 (by rw[List.length_drop];omega);have hcs:=oL hp;have RI:=kJ Pz
 have RX:p.2+tot (L.take i)≤tot L:=by
  exact nT
 have Rf:=hf.tot;have Re:(L.drop i).length=L.length-i:=List.length_drop;obtain⟨g',hA,Uq,If,Sn,hcl,So⟩:=Own.form (show Own w g 176 2 A L.length c (pcs L) from h.2) oq;subst hA;have hic:(i:Int)≤(c:Int):=oq;have Sm:¬c=i:=oq;have QI:(p.2:Int)+((tot (L.take i):Nat):Int)≤4611686018427387904:=oq;have hlen:=hf.len;have H:=Oh h;have RY:=Oh (fun W (hW:Lst W g (some ⟨g',0,none⟩) c L) c2=>lI (some ⟨g',i*2,none⟩) c2 (L.length-i) (L.drop i) W (og (bI.reads hW.2) (Nat.le_of_lt Pz)) oq Re);have Ur:=Oh hcs;have HCT:=Oh RI;have HP:=Oh hp;have Ut:=Oh Re;have hdp:0<L.length-i:=oq;have QM:¬1<m:=oq;exact oe
set_option maxHeartbeats 3200000 in
theorem EN(g:Nat)(A:Option Addr)(c:Nat)(L:List Pr)(m:Int)(i:Nat)(w:World)(h:Lst w g A c L)(hf:aV L)(hm:1<m)(hi:(L.length:Int)-m=(i:Int))(Qd:0<i)(Pz:i<L.length):
  Cl 346 #[.pointer (some ⟨g,0,none⟩),.int .i64 m] w fun e w'=>e=.returned (.int .u64 (tot (L.take i):Nat))∧bg g A (fk L i) w w':=by
 have c0:=h.1.c0;have Lt:(L.length:Int)≤100000:=by have:=hf.len;omega
 have FR:max m 1=m:=oq;have hip:(0:Int)<(i:Int):=oq;have Ri:(i:Int)<(L.length:Int):=oq;have HSU:=Oh (mj g A c L i w h hf (Nat.le_of_lt Pz));obtain⟨p,hp⟩:=gs (L.drop i) 0 (by rw[List.length_drop];omega);have hcs:=oL hp;have RI:=kJ Pz
 have RX:p.2+tot (L.take i)≤tot L:=by
  exact nT
 have Rf:=hf.tot;have Re:(L.drop i).length=L.length-i:=List.length_drop;obtain⟨g',hA,Uq,If,Sn,hcl,So⟩:=Own.form (show Own w g 176 2 A L.length c (pcs L) from h.2) oq;subst hA;have hic:(i:Int)≤(c:Int):=oq;have Sm:¬c=i:=oq;have QI:(p.2:Int)+((tot (L.take i):Nat):Int)≤4611686018427387904:=oq;have hlen:=hf.len;have H:=Oh h;have RY:=Oh (fun W (hW:Lst W g (some ⟨g',0,none⟩) c L) c2=>lI (some ⟨g',i*2,none⟩) c2 (L.length-i) (L.drop i) W (og (bI.reads hW.2) (Nat.le_of_lt Pz)) oq Re);have Ur:=Oh hcs;have HCT:=Oh RI;have HP:=Oh hp;have Ut:=Oh Re;have hdp:0<L.length-i:=oq;have QM:¬m≤1:=oq;exact oe
set_option maxHeartbeats 3200000 in
theorem EM(g:Nat)(A:Option Addr)(c:Nat)(L:List Pr)(m:Int)(i:Nat)(w:World)(h:Lst w g A c L)(hf:aV L)(hm:m=1)(hi:(L.length:Int)-1=(i:Int))(Qd:0<i)(Pz:i<L.length):
  Cl 346 #[.pointer (some ⟨g,0,none⟩),.int .i64 m] w fun e w'=>e=.returned (.int .u64 (tot (L.take i):Nat))∧bg g A (fk L i) w w':=by
 have c0:=h.1.c0;have Lt:(L.length:Int)≤100000:=by have:=hf.len;omega
 have hip:(0:Int)<(i:Int):=oq;have Ri:(i:Int)<(L.length:Int):=oq;have HSU:=Oh (mj g A c L i w h hf (Nat.le_of_lt Pz));obtain⟨p,hp⟩:=gs (L.drop i) 0 (by rw[List.length_drop];omega);have hcs:=oL hp;have RI:=kJ Pz
 have RX:p.2+tot (L.take i)≤tot L:=by
  exact nT
 have Rf:=hf.tot;have Re:(L.drop i).length=L.length-i:=List.length_drop;obtain⟨g',hA,Uq,If,Sn,hcl,So⟩:=Own.form (show Own w g 176 2 A L.length c (pcs L) from h.2) oq;subst hA;have hic:(i:Int)≤(c:Int):=oq;have Sm:¬c=i:=oq;have QI:(p.2:Int)+((tot (L.take i):Nat):Int)≤4611686018427387904:=oq;have hlen:=hf.len;have H:=Oh h;have RY:=Oh (fun W (hW:Lst W g (some ⟨g',0,none⟩) c L) c2=>lI (some ⟨g',i*2,none⟩) c2 (L.length-i) (L.drop i) W (og (bI.reads hW.2) (Nat.le_of_lt Pz)) oq Re);have Ur:=Oh hcs;have HCT:=Oh RI;have HP:=Oh hp;have Ut:=Oh Re;have hdp:0<L.length-i:=oq;subst hm;exact oe
theorem Kf(g:Nat)(A:Option Addr)(c:Nat)(L:List Pr)(m:Int)(w:World)(h:Lst w g A c L)(hf:aV L)(_h0: -9223372036854775808≤m)(h1:m≤9223372036854775807):
  Cl 346 #[.pointer (some ⟨g,0,none⟩),.int .i64 m] w fun e w'=>e=.returned (.int .u64 ((ah L m).2:Nat))∧bg g A (ah L m).1 w w':=by
 unfold ah dj
 by_cases hm:m≤1
 ·rw[show max m 1=1 by omega]
  by_cases he:m=1
  ·split
   ·exact Jl g A c L m w h hf he h1 oq
   ·exact EM g A c L m _ w h hf he oq oq oq
  ·split
   ·exact Jn g A c L m w h hf oq h1 oq
   ·exact EO g A c L m _ w h hf oq oq oq oq
 ·rw[show max m 1=m by omega];split
  ·exact Jm g A c L m w h hf oq h1 oq
  ·exact EN g A c L m _ w h hf oq oq oq oq
end
section
open Go.ChangeShapes Go.WideShapes Go.ChangeAt
namespace WfBounds
theorem u8{n:Int}(h:(Lit.int .u8 n).wf=true):0≤n∧n≤255:=by
 have QN:IntKind.u8.min=0:=rfl;have FR:IntKind.u8.max=255:=rfl;simp only[Lit.wf,Bool.and_eq_true,decide_eq_true_eq,QN,FR] at h;exact h
theorem u16{n:Int}(h:(Lit.int .u16 n).wf=true):0≤n∧n≤65535:=by
 have QN:IntKind.u16.min=0:=rfl;have FR:IntKind.u16.max=65535:=rfl;simp only[Lit.wf,Bool.and_eq_true,decide_eq_true_eq,QN,FR] at h;exact h
theorem u64{n:Int}(h:(Lit.int .u64 n).wf=true):0≤n∧n≤18446744073709551615:=by
 have QN:IntKind.u64.min=0:=rfl;have FR:IntKind.u64.max=18446744073709551615:=rfl;simp only[Lit.wf,Bool.and_eq_true,decide_eq_true_eq,QN,FR] at h;exact h
theorem i64{n:Int}(h:(Lit.int .i64 n).wf=true): -9223372036854775808≤n∧n≤9223372036854775807:=by
 have QN:IntKind.i64.min= -9223372036854775808:=rfl;have FR:IntKind.i64.max=9223372036854775807:=rfl;simp only[Lit.wf,Bool.and_eq_true,decide_eq_true_eq,QN,FR] at h;exact h
end WfBounds
section
variable {H:Type} {enc:TypeId×Value→H} {P:Program} {w:World} {base:Nat} {spare:Nat→Bool} {held:Bool}
theorem MV(n:Int)(h:(Lit.int .u8 n).wf=true):((UInt8.ofNat n.toNat).toNat:Int)=n:=by
 have QN:IntKind.u8.min=0:=rfl;have FR:IntKind.u8.max=255:=rfl;simp only[Lit.wf,Bool.and_eq_true,decide_eq_true_eq,QN,FR] at h;simp only[UInt8.toNat_ofNat'];omega
theorem mh{t e:TypeId}{fuel:Nat}{cs:List Value}{x:DataW H×List MemPlace}(ht:P.underlying t=some (.slice e))(he:P.underlying e=some (.int .u8))(hC:P.cellsOf e=1)(hf:DataW.trod enc P w base spare held fuel t cs=some x):
  ∃(A:Option Addr) (c:Nat) (l:List UInt8),cs=[.slice A l.length c]∧l.length≤maxLen∧l.length≤c∧Bts w w.heap.size A l:=by
 rcases open_ints ht he hC hf with⟨hcs,_⟩|⟨x,len,cap,zs,hcs,_,hl,hm,hz,_,hcell,hwz⟩
 ·exact⟨none,0,[],hcs,by simp,by simp,Bts.empty _ _ _⟩
 ·have hcl:∀i,i<zs.length→w.cell? (x.add i)=some (.int .u8 (zs.getD i 0)):=hcell;have hlen:len≤zs.length:=by rw[hz];split<;>omega
  let L:List UInt8:=(zs.take len).map fun n=>UInt8.ofNat n.toNat
  have hL:L.length=len:=by simp[L];omega
  refine⟨some x,cap,L,by rw[hcs,hL],by rw[hL];omega,by rw[hL];omega,by rw[bj];simp,fun hn=>?_⟩;have SZ:0<zs.length:=oq;have h0:=hcl 0 SZ;obtain⟨b,o,sp⟩:=x
  have ZS:sp=none:=by
   have:=World.cell?_spot h0;simpa [Addr.add] using this
  subst ZS;refine⟨b,o,rfl,?_,fun j u hu=>?_⟩
  ·have:=World.block_lt_of_cell? w _ h0
   rwa [qI] at this
  ·have hj:j<L.length:=by
    have:=(List.getElem?_eq_some_iff.1 hu).1
    rwa [bj] at this
   have TC:j<zs.length:=oq;have e1:=hcl j TC;rw[fM] at e1;rw[e1];have e2:(bvs L)[j]?=some (bv L[j]):=by simp[bvs,hj]
   rw[e2] at hu;injection hu with hu
   rw[←hu];have e3:L[j]=UInt8.ofNat (zs[j]).toNat:=by simp[L]
   have e4:zs.getD j 0=zs[j]:=by simp[List.getD,TC]
   rw[bv,e3,MV _ (hwz _ (List.getElem_mem TC)),e4]
theorem open_bytes{t e:TypeId}{r:Reach}{b0:Nat}{v:Value}{d:DataW H}{p:List MemPlace}(ht:P.underlying t=some (.slice e))(he:P.underlying e=some (.int .u8))(hC:P.cellsOf e=1)(hv:Value.okWide P w r b0 t v)(h:DataW.Trod enc P w base spare held t v d p):
  ∃(A:Option Addr) (c:Nat) (l:List UInt8),v=.slice A l.length c∧l.length≤maxLen∧l.length≤c∧Bts w w.heap.size A l:=by
 obtain⟨a,len,cap,rfl⟩:=okWide_slice ht hv;obtain⟨fuel,hf⟩:=h;obtain⟨A,c,l,hcs,h1,h2,h3⟩:=mh ht he hC hf;simp only[Value.cells] at hcs;exact⟨A,c,l,by simpa using hcs,h1,h2,h3⟩
end
section
variable {H:Type} {enc:TypeId×Value→H} {P:Program} {w:World} {base:Nat} {spare:Nat→Bool} {held:Bool}
theorem sQ{α:Type}{val:α→List Value}{s:Nat}(hlen:∀a,(val a).length=s){l:List α}{j:Nat}{u:Value}(h:(l.flatMap val)[j]?=some u):∃a,l[j/s]?=some a∧(val a)[j%s]?=some u:=by
 induction l generalizing j with
 |nil=>simp at h
 |cons a l ih=>
  rw[List.flatMap_cons] at h
  by_cases hj:j<s
  ·rw[List.getElem?_append_left (by rw[hlen];exact hj)] at h;rw[Nat.div_eq_of_lt hj,Nat.mod_eq_of_lt hj];exact⟨a,rfl,h⟩
  ·have hs:0<s:=by
    rcases Nat.eq_zero_or_pos s with h0|h0
    ·subst h0;have a56:∀b,val b=[]:=fun b=>List.eq_nil_of_length_eq_zero (hlen b)
     have:(val a++l.flatMap val)=[]:=by
      rw[a56 a]
      have e:∀m:List α,m.flatMap val=[]:=fun m=>by
       induction m with
       |nil=>rfl
       |cons b m ihm=>rw[List.flatMap_cons,a56 b,ihm];rfl
      rw[e];rfl
     rw[this] at h;simp at h
    ·exact h0
   rw[List.getElem?_append_right (by rw[hlen];omega),hlen] at h;obtain⟨b,h1,h2⟩:=ih h
   have e1:j/s=(j-s)/s+1:=by
    rw[show j=(j-s)+s by omega,Nat.add_div_right _ hs];simp
   have e2:j%s=(j-s)%s:=by
    rw[show j=(j-s)+s by omega,Nat.add_mod_right];simp
   rw[e1,e2];exact⟨b,by simpa using h1,h2⟩
theorem sP{α:Type}{val:α→List Value}{s:Nat}(hlen:∀a,(val a).length=s)(l:List α):(l.flatMap val).length=l.length*s:=by
 induction l with
 |nil=>simp
 |cons a l ih=>rw[List.flatMap_cons,Ok,hlen,ih,List.length_cons,Nat.add_mul,Nat.one_mul,Nat.add_comm]
theorem Be{t e:TypeId}{s:Nat}{r:Reach}{b0:Nat}{v:Value}{d:DataW H}{p:List MemPlace}(ht:P.underlying t=some (.slice e))(hC:P.cellsOf e=s)(hs:0<s)(hv:Value.okWide P w r b0 t v)(h:DataW.Trod enc P w base spare held t v d p){α:Type}(val:α→List Value)(hlen:∀a,(val a).length=s)(ok:α→Prop)(hel:∀(n:Nat) (cs:List Value) (y:DataW H×List MemPlace),cs.length=s→DataW.trod enc P w base spare held n e cs=some y→∃a,cs=val a∧ok a):
  ∃(A:Option Addr) (c:Nat) (l:List α),v=.slice A l.length c∧l.length≤maxLen∧l.length≤c∧(∀a∈l,ok a)∧am w w.heap.size s A l.length (l.flatMap val):=by
 obtain⟨a,len,cap,rfl⟩:=okWide_slice ht hv;obtain⟨fuel,hf⟩:=h;rcases Go.Deep.open_slice ht hf with⟨hcs,_⟩|⟨x,l,c,m,n,D,Pl,hcs,_,hl,hm,hmm,_,hV⟩
 ·simp[Value.cells] at hcs;obtain⟨rfl,rfl,rfl⟩:=hcs;exact⟨none,0,[],rfl,by simp,by simp,by simp,am.empty _ _ _ _⟩
 ·simp[Value.cells] at hcs;obtain⟨rfl,rfl,rfl⟩:=hcs;rw[hC] at hV;have hlm:len≤m:=by rw[hmm];split<;>omega
  have a0K:∀i,i<len→∃a,ok a∧∀k,k<s→w.cell? ((x.add (i*s)).add k)=(val a)[k]?:=fun i hi=>by
   obtain⟨cs',h1,h2⟩:=hV i oq;obtain⟨_,PT,Ql⟩:=World.cells?_some h1;obtain⟨a,rfl,hok⟩:=hel n cs' _ PT h2;exact⟨a,hok,Ql⟩
  by_cases h0:len=0
  ·subst h0;exact⟨some x,cap,[],rfl,by simp,by simp,by simp,am.empty _ _ _ _⟩
  ·obtain⟨a0,_,h0c⟩:=a0K 0 oq
   haveI:Inhabited α:=⟨a0⟩
   obtain⟨F,hF⟩:=Go.Deep.choose_lt a0K;have h00:=h0c 0 hs;have h0v:∃u,(val a0)[0]?=some u:=⟨(val a0)[0]'(by rw[hlen];exact hs),by simp[hlen,hs]⟩;obtain⟨u0,hu0⟩:=h0v;rw[hu0,C7] at h00;obtain⟨b,o,sp⟩:=x
   have ZS:sp=none:=by
    have:=World.cell?_spot h00;simpa [Addr.add] using this
   subst ZS;refine⟨some ⟨b,o,none⟩,cap,(List.range len).map F,by simp,by simp<;>omega,by simp<;>omega,?_,by rw[sP hlen];try simp,fun _=>⟨b,o,rfl,?_,fun j u hu=>?_⟩⟩
   ·intro a ha;obtain⟨i,hi,rfl⟩:=List.mem_map.1 ha;exact(hF i (by simpa using hi)).1
   ·have:=World.block_lt_of_cell? w _ h00
    rwa [qI] at this
   ·obtain⟨a,h1,h2⟩:=sQ hlen hu
    have hj:j/s<len:=by
     have:=(List.getElem?_eq_some_iff.1 h1).1;simpa using this
    have e1:=(hF (j/s) hj).2 (j%s) (Nat.mod_lt _ hs);rw[fM,fM] at e1
    have e2:o+j/s*s+j%s=o+j:=by
     have:=Nat.div_add_mod j s;rw[Nat.mul_comm] at this;omega
    rw[e2] at e1;rw[e1,←h2];have e3:((List.range len).map F)[j/s]?=some (F (j/s)):=by simp[hj]
    rw[e3] at h1;injection h1 with h1
    rw[h1]
end
theorem Dh(l:List Pr):l.flatMap G5=pcs l:=by
 induction l with
 |nil=>rfl
 |cons p l ih=>rw[List.flatMap_cons,ih];rfl
def FY(p:Pr):Prop:= -9223372036854775808≤p.1∧p.1≤9223372036854775807∧p.2≤18446744073709551615
def Ki(w:World)(A:Option Addr)(l:List Pr):Prop:=(∀p∈l,FY p)∧Prs w w.heap.size A l
end
section
open Pl
theorem xf{L:List Pr}{k:Int}{n:Nat}(h:eD L)(h0: -1048576≤k)(h1:k≤1048576):eD (put L k n):=by
 intro q hq;rcases gy q hq with e|⟨p,hp,e⟩
 ·omega
 ·have:=h p hp;omega
theorem vu{L:List Pr}{k:Int}{n:Nat}(hf:aV L)(hn:n≠0)(h0: -1048576≤k)(h1:k≤1048576)(hc:tot L+n≤4611686018427387904)(hl:L.length<100000):aV (put L k n):=
 ⟨jo hf.srt,mE hf.pos oq,xf hf.keys h0 h1,by rw[eI];exact hc,by have:=kS (l:=L) (k:=k) (n:=n);omega⟩
theorem lr{L:List Pr}{k:Int}{n:Nat}(hf:aV L)(hl:L.length<100000):aV (cq L k n 0).1∧(cq L k n 0).1.length≤L.length+1:=by
 rw[ml];split
 ·exact⟨hf,by simp⟩
 ·split
  ·exact⟨hf,by simp⟩
  ·split
   ·exact⟨hf,by simp⟩
   ·have:=hf.tot;exact⟨vu hf (by assumption) oq oq oq hl,kS⟩
def ofL:List Pr→List Pr→List Pr×Int
 | [],L=>(L,0)
 |p::l,L=>if(cq L p.1 p.2 0).2=0 then ofL l (cq L p.1 p.2 0).1 else([],(cq L p.1 p.2 0).2)
def MG(w:World)(R:List Pr×Int)(e:Ending)(w':World):Prop:=
 (R.2=0∧(∃g A c,e=.returned (.tuple #[.pointer (some ⟨g,0,none⟩),.int .i64 0])∧w.heap.size≤g∧Lst w' g A c R.1)∧Below w.heap.size w w')∨
 (R.2≠0∧e=.returned (.tuple #[.pointer none,.int .i64 R.2])∧Below w.heap.size w w')
theorem jc{l:List Pr}{i:Nat}{p:Pr}(h:l[i]?=some p):l.drop i=p::l.drop (i+1):=by
 obtain⟨h1,h2⟩:=List.getElem?_eq_some_iff.1 h;rw[List.drop_eq_getElem_cons h1,h2]
theorem jH{w wo w':World}{g:Nat}{A:Option Addr}{c:Nat}{L L':List Pr}(aC:Below w.heap.size w wo)(hg:w.heap.size≤g)(h:Lst wo g A c L)(hc:bg g A L' wo w'):(∃A' c',Lst w' g A' c' L')∧Below w.heap.size w w':=by
 obtain⟨A',c',h1,h2,_⟩:=hc;refine⟨⟨A',c',h1⟩,aC.trans (h2.below aC.size (fun i hi=>?_))⟩;rcases hi with rfl|hi
 ·exact hg
 ·exact Oo hg (Own.block (show Own wo g 176 2 A L.length c (pcs L) from h.2) hi).1
set_option maxHeartbeats 3200000 in
theorem JJ(A0:Option Addr)(c0:Nat)(l:List Pr)(w:World)(hb:Prs w w.heap.size A0 l)(hl:l.length≤50000):
  Cl 387 #[.slice A0 l.length c0] w (MG w (ofL l [])):=by
 obtain⟨R,hR⟩:=nm (ofL l []);rw[←hR];have HR:=Oh hR;have HB:=Oh hb;have Lt:(l.length:Int)≤50000:=oq;clear hR hb;go_enter func387,ntmps387;go_wp2_with fail;have ST:=Oh (show Lst (w.alloc (.cells #[.slice none 0 0,.int .u64 0] 426)) w.heap.size none 0 [] from⟨Blk.new _ _ _,Own.nil _ _ _ _⟩);have aS:=Oh ((Oq w.heap.size w).alloc (Oi _) (.cells #[.slice none 0 0,.int .u64 0] 426));go_loopw [12] (fun v wr=>∃(i:Nat) (L:List Pr) (A:Option Addr) (c:Nat),v=.int .i64 (i:Int)∧i≤l.length∧L.length≤i∧aV L∧R=ofL (l.drop i) L∧Lst wr w.heap.size A c L∧Below w.heap.size w wr) (fun v _=>l.length-(intOf v).toNat)
 case atStart=>exact⟨0,[],none,0,rfl,Nat.zero_le _,Oi _,aV.nil,HR.out,ST.out,aS.out⟩
 case round=>
  obtain⟨i,L,A,c,rfl,hi,hLl,hf,Sx,a58,aC⟩:=hrel;obtain⟨wo,rfl⟩:=nm (wr:World);have TE:=Oh a58;have Mk:=Oh aC;have HF:=Oh hf;have Sy:=Oh Sx;have OB:=Oh hLl;clear a58 aC hf Sx hLl
  by_cases hlt:i<l.length
  ·have Ri:(i:Int)<(l.length:Int):=oq;have Qd:(0:Int)≤(i:Int):=oq;obtain⟨p,hp⟩:=gs l i hlt;obtain⟨b,o,rfl,OO,hc⟩:=(HB.out.below Mk.out).at_ oq;obtain⟨d1,d2⟩:=hc i p hp
   have Sh:R=if(cq L p.1 p.2 0).2=0 then ofL (l.drop (i+1)) (cq L p.1 p.2 0).1 else([],(cq L p.1 p.2 0).2):=by
    rw[Sy.out,jc hp];rfl
   have HI:=Oh hlt;have hrf:=lr (k:=p.1) (n:=p.2) HF.out (by have:=OB.out;omega);have Y1:=Oh (fun W (h:Lst W w.heap.size A c L)=>zM w.heap.size A c L p.1 p.2 W h HF.out);obtain⟨x,n⟩:=p;dsimp only at d1 d2 Sh Y1 hrf;generalize cq L x n 0=r at*;obtain⟨r1,r2⟩:=r;dsimp only at Sh Y1 hrf;have ZT:=Oh hrf
   by_cases h0:r2=0
   ·rw[if_pos h0] at Sh;subst h0;have QJ:=Oh Sh;clear hc hp Sh OO hi hlt hrf;go_wp2_with fail;have hbA:=(Oq wo.heap.size wo).alloc (Oi _) (.cells #[.int .i64 x,.int .u64 (n:Int)] 176);refine(Y1.out _ (TE.out.below hbA)).mono ?_;rintro e w3 ⟨rfl,h3⟩;obtain⟨⟨A3,c3,Si⟩,dO⟩:=jH (fG Mk.out (.cells #[.int .i64 x,.int .u64 (n:Int)] 176)) (Oi _) (TE.out.below hbA) h3;have Uy:=Oh Si;have fR:=Oh dO;clear hbA h3 Si dO;go_wp2_with fail;go_roundw
    case rel=>exact⟨i+1,r1,A3,c3,by go_num,HI.out,by have:=ZT.out.2;have:=OB.out;omega,ZT.out.1,QJ.out,Uy.out,fR.out⟩
    case measure=>exact ms HI
   ·rw[if_neg h0] at Sh;have QJ:=Oh Sh;have e1:(r2 !=0)=true:=sq;have e2:(r2==0)=false:=sq;have H0:=Oh h0;clear hc hp Sh OO hi hlt hrf h0;go_wp2_with fail;have hbA:=(Oq wo.heap.size wo).alloc (Oi _) (.cells #[.int .i64 x,.int .u64 (n:Int)] 176);refine(Y1.out _ (TE.out.below hbA)).mono ?_;rintro e w3 ⟨rfl,h3⟩;obtain⟨_,dO⟩:=jH (fG Mk.out (.cells #[.int .i64 x,.int .u64 (n:Int)] 176)) (Oi _) (TE.out.below hbA) h3;have fR:=Oh dO;clear hbA h3 dO;go_wp2_with fail;go_ret2;rw[QJ.out];exact .inr ⟨H0.out,rfl,fR.out⟩
  ·have hX:R=(L,0):=by rw[Sy.out,List.drop_of_length_le oq];rfl
   have HX:=Oh hX;have hge:¬(i:Int)<(l.length:Int):=oq;clear hi hlt hX;go_wp2_with fail;go_ret2;rw[HX.out];exact .inl ⟨rfl,⟨w.heap.size,A,c,rfl,Oi _,TE.out⟩,Mk.out⟩
end
end Go.Proofs.YtmbippkpjdoojaaGreat
