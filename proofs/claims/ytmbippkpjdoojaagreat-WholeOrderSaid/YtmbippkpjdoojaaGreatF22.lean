/- Parts of a proof, merged. -/
import Derived.Test.YtmbippkpjdoojaaGreatF21
import Derived.WideKeyArr2
import Derived.Maps.GroupsBeside
set_option maxRecDepth 100000
set_option maxHeartbeats 1600000
namespace Go.Proofs.YtmbippkpjdoojaaGreat
open Tryz
open Go.RowKit
namespace Hu
open Go.RowKit
open Bit Bt Mt Df
theorem qj{w:World}{base:Nat}{e:TypeId}{size:Nat}{A:Option Addr}{n c:Nat}{xs:List Value}(h:Own w base e size A n c xs){g:Nat}(hg:aa A=some g):∃cs,Blk w g e cs:=by
 rcases h.2 with⟨hv,_⟩|⟨g',cap,cur,hv,_,hh,_⟩
 ·injection hv with hA _ _
  subst hA;simp[aa] at hg
 ·injection hv with hA _ _
  subst hA;have:g'=g:=by simpa [aa] using hg
  subst this;exact⟨cur,hh⟩
theorem fQ.app{w w3:World}{base g Lc Sc k:Nat}{LA SA A3:Option Addr}{c3:Nat}{ls:List UInt8}{cnt:Nat→Nat}{S:List Nat}{f:Bool}{o:Obj}(h:fQ w base g LA Lc SA Sc ls cnt S f)(o3:Own w3 base 3 1 A3 (S.length+1) c3 (nvs (S++[k])))(g3:(w.alloc o).grownBy w3 (aa SA)):
  Blk w3 g 492 (fw (.slice LA ls.length Lc) cnt (.slice SA S.length Sc) f)∧fQ (w3.setCell ⟨g,17,none⟩ (.slice A3 (S.length+1) c3)) base g LA Lc A3 c3 ls cnt (S++[k]) f:=by
 have hs:Own w base 3 1 SA S.length Sc (nvs S):=h.sym;have hl:Own w base 5 1 LA ls.length Lc (bvs ls):=h.len;have hb:=(h.blk.alloc o).grown g3 (fun e=>Own.ne_blk hs h.blk od e.symm)
 have Si:Own w3 base 5 1 LA ls.length Lc (bvs ls):=(Own.alloc hl o).kept g3 (by
  rcases LA with _|a
  ·exact .inl rfl
  ·right
   intro e;obtain⟨cs,hcs⟩:=qj hs e.symm;exact Own.ne_blk hl hcs od rfl)
 refine⟨hb,?_,?_,?_⟩
 ·have h1:=hb.put 17 (.slice A3 (S.length+1) c3);rw[sH] at h1;rw[Ok];exact h1
 ·exact Own.setOther Si (p:=⟨g,17,none⟩) (Own.ne_blk Si hb od) _
 ·unfold NI;rw[Ok];exact Own.setOther o3 (p:=⟨g,17,none⟩) (Own.ne_blk o3 hb od) _
def JF(w:World)(ls:List UInt8)(e:Ending)(w':World):Prop:=∃g LA Lc SA Sc,e=.returned (.tuple #[.pointer (some ⟨g,0,none⟩),.int .i64 0])∧w.heap.size≤g∧fQ w' w.heap.size g LA Lc SA Sc ls (iq ls ls.length) (io ls) true∧Below w.heap.size w w'
theorem Lb(A:Option Addr)(c:Nat)(ls:List UInt8)(w:World)(h:Bts w w.heap.size A ls)(hx:∀x∈ls,x.toNat≤15)(hm:ls.length≤320)(ht:lV ls=32768)(hs:(io ls).length≠1):
  Cl 335 #[.slice A ls.length c] w (JF w ls):=by
 have HCN:=Oh (sY A c w.heap.size ls w h hx oq);have RY:=Oh (l7 A c ls w h oq);have HA:=Oh h;have HX:=Oh hx;have HM:=Oh hm;have HT:=Oh ht;have HS:=Oh hs;have x1:decide ((320:Int)<(ls.length:Int))=false:=sq;have x2:decide (320<ls.length)=false:=sq;clear h hx ht hs;go_enter func335,ntmps335;go_wp2_with fail;refine HCN.out.mono ?_;rintro e w1 ⟨rfl,hw⟩;obtain rfl:=hw.symm;go_wp2_with fail;refine RY.out.mono ?_;rintro e w1 ⟨LA,Lc,rfl,o1,b1⟩;have HG:Hid (w.heap.size≤w1.heap.size):=Oh b1.size;have AC:Hid (fQ (w1.alloc (.cells (fw (.slice LA ls.length Lc) (fun _=>0) (.slice none 0 0) false) 492)) w.heap.size w1.heap.size LA Lc none 0 ls (iq ls 0) [] false):=Oh ⟨by rw[C1];exact Blk.new _ _ _,Own.alloc (show Own w1 w.heap.size 5 1 LA ls.length Lc (bvs ls) from o1) _,Own.nil _ _ _ _⟩;have oK:Hid (Below w.heap.size w (w1.alloc (.cells (fw (.slice LA ls.length Lc) (fun _=>0) (.slice none 0 0) false) 492))):=Oh (b1.alloc b1.size _);rw[wS] at AC oK;have TD:Hid (Below w.heap.size w w1):=Oh b1;clear o1 b1 HCN RY;go_wp2_with fail;obtain⟨g,hg⟩:=nm (w1.heap.size);rw[←hg] at HG AC ⊢;clear hg;generalize w1.alloc (.cells #[.slice LA ls.length Lc,.int .i64 0,.int .i64 0,.int .i64 0,.int .i64 0,.int .i64 0,.int .i64 0,.int .i64 0,.int .i64 0,.int .i64 0,.int .i64 0,.int .i64 0,.int .i64 0,.int .i64 0,.int .i64 0,.int .i64 0,.int .i64 0,.slice none 0 0,.bool false] 492)=w2 at*;clear TD x1 x2;go_loopw [5,25] (fun t v wr=>∃k:Nat,k≤ls.length∧t=.int .i64 (ik ls k:Int)∧v=.int .i64 (k:Int)∧fQ wr w.heap.size g LA Lc none 0 ls (iq ls k) [] false∧Below w.heap.size w wr) (fun _ v _=>ls.length-(intOf v).toNat)
 case atStart=>exact⟨0,oq,rfl,rfl,AC.out,oK.out⟩
 case round=>
  obtain⟨k,hk,rfl,rfl,OV,aC⟩:=hrel;have UZ:=Oh OV;have Pg:=Oh aC;clear OV aC AC oK
  by_cases hlt:k<ls.length
  ·obtain⟨ba,oa,rfl,_,Wj⟩:=(HA.out.below Pg.out).at_ oq;have hc:=Wj k hlt;have hxk:=HX.out _ (List.getElem_mem hlt);have PB:ls.getD k 0=ls[k]:=by rw[List.getD_eq_getElem?_getD,Oj hlt];rfl
   have OZ:(k:Int)<(ls.length:Int):=oq;have SM:=Af (show k≤ls.length by omega);have Ps:=lO hlt
   by_cases U7:ls[k].toNat=0
   ·have HCN:=Oh (C2 (ls:=ls) (k:=k) (by rw[PB];exact U7));have Rd:wt (ls.getD k 0)=0:=by unfold wt;rw[PB,if_pos U7]
    rw[Rd,Nat.add_zero (ik ls k)] at Ps;have HTN:=Oh Ps;have HL:=Oh hlt;rw[U7] at hc;clear Wj hxk PB SM Ps Rd hlt U7 hk;go_wp2_with fail;go_roundw
    case rel=>exact⟨k+1,HL.out,by rw[HTN.out],by go_num,by rw[HCN.out];exact UZ.out,Pg.out⟩
    case measure=>exact ms HL
   ·obtain⟨x,YH⟩:=nm (ls[k].toNat);rw[←YH] at hc hxk U7;have cx:=UZ.out.cn (show x<16 by omega);have hcl:=Js ls k x;have h1:=Jt (ls:=ls) (k:=k) (by rw[PB,←YH];exact U7);rw[PB,←YH] at h1;have HAT:=Oh h1;have HOT:=Oh (fun i (h:i≠x)=>xy (ls:=ls) (k:=k) (i:=i) (by rw[PB,←YH];exact h));have hwx:wt (ls.getD k 0)=2^(15-x):=by unfold wt;rw[PB,←YH,if_neg U7]
    rw[hwx] at Ps;have UV:2^(15-x)≤32768:=Oo (Nat.pow_le_pow_right od (show 15-x≤15 by omega)) od;obtain⟨C,hC⟩:=nm (iq ls k x);rw[←hC] at cx hcl HAT;have fr:=UZ.out.blk.free;have aio:(x:Int)<16:=oq;have aip:(0:Int)<(x:Int):=oq;have aiq:0<x:=oq;have y1:IntKind.u8.wrap (15-(x:Int))=((15-x:Nat):Int):=by rw[show 15-(x:Int)=((15-x:Nat):Int) by omega];exact IntWalk.u8_in _ ⟨oq,oq⟩
    have XI:=Oh (And.intro hxk U7);have HTN:=Oh Ps;have HL:=Oh hlt;have Qh:=Oh (And.intro SM UV);have VL:=Oh (And.intro hC hcl);clear Wj PB SM Ps hwx hk h1 YH hC UV hcl hxk U7 hlt;go_upto_region 9 with(fail);refine wp_region_noPanic ?_;refine ag (S:=(fun(V:World)=>V.cell? ⟨g,1+x,none⟩=some (.int .i64 (C:Int)))) (L:=10) ok' cx (fun hHeld=>?_);refine tV 0 ?_;refine tV 1 ?_;refine tV 2 ?_;refine tV 3 ?_;refine tV 4 ?_;refine tV 5 ?_;refine tV 6 ?_;refine tV 7 ?_;refine tV 8 ?_;refine tV 9 ?_;refine aL 10 ?_;refine cD ?_;go_wp2_with fail;have hL:=HL.out;have hTK:=Qh.out;have hCC:=VL.out;have hXX:=XI.out;have eC:IntKind.i64.wrap ((C:Int)+1)=((C+1:Nat):Int):=by rw[show(C:Int)+1=((C+1:Nat):Int) by omega];exact i6
    refine⟨⟨k+1,hL,?_,by go_num,?_,(Pg.out.setCell HG.out _).drew⟩,by simp[intOf];omega⟩
    ·rw[HTN.out,show((2:Int)^(15-x))=((2^(15-x):Nat):Int) by simp];generalize 2^(15-x)=P at*;rw[IntWalk.wrap64_in (P:Int) ⟨oq,oq⟩,IntWalk.wrap64_in _ ⟨oq,oq⟩,Int.natCast_add]
    ·rw[IntWalk.wrap64_in ((C:Int)+1) ⟨oq,oq⟩,show(C:Int)+1=((C+1:Nat):Int) by omega];exact(UZ.out.put (1+x) _ (iq ls (k+1)) false (wT oq HAT.out (fun j hj=>HOT.out j hj))).drewN 1
  ·obtain rfl:k=ls.length:=oq;clear hlt hk;have Yh:Hid (fQ wr w.heap.size g LA Lc none 0 ls (iq ls ls.length) (mt ls 0) false):=Oh UZ.out;clear UZ;rw[wL ls,HT.out];generalize hcn:iq ls ls.length=CN at Yh ⊢;have acb:=Oh hcn;clear hcn;go_wp2_with fail;go_loopw [8] (fun v wr=>∃(n:Nat) (SA:Option Addr) (Sc:Nat),n≤15∧v=.int .u8 ((n+1:Nat):Int)∧fQ wr w.heap.size g LA Lc SA Sc ls CN (mt ls n) false∧Below w.heap.size w wr) (fun v _=>16-(intOf v).toNat)
   case atStart=>exact⟨0,none,0,oq,rfl,Yh.out,Pg.out⟩
   case round=>
    obtain⟨n,SA,Sc,hn,rfl,OV,aC⟩:=hrel;have T8:=Oh OV;have a3K:=Oh aC;clear OV aC Yh Pg
    by_cases a3L:n<15
    ·have hni:((n+1:Nat):Int)≤15:=oq;obtain⟨p,hp⟩:=nm (n+1);rw[←hp] at hni ⊢;have HP:=Oh (And.intro hp a3L);clear hp a3L hn;go_wp2_with fail;go_loopw [53] (fun v wr=>∃(k:Nat) (SA:Option Addr) (Sc:Nat),k≤ls.length∧v=.int .i64 (k:Int)∧fQ wr w.heap.size g LA Lc SA Sc ls CN (mt ls n++pM ls p k) false∧Below w.heap.size w wr) (fun v _=>ls.length-(intOf v).toNat)
     case atStart=>exact⟨0,SA,Sc,oq,rfl,by rw[pW,List.append_nil];exact T8.out,a3K.out⟩
     case round=>
      obtain⟨k,SA,Sc,hk,rfl,OV,aC⟩:=hrel;have Um:=Oh OV;have Vi:=Oh aC;clear OV aC T8 a3K
      by_cases hlt:k<ls.length
      ·obtain⟨ba,oa,rfl,_,Wj⟩:=(HA.out.below Vi.out).at_ oq;have hc:=Wj k hlt;have PB:ls.getD k 0=ls[k]:=by rw[List.getD_eq_getElem?_getD,Oj hlt];rfl
       have OZ:(k:Int)<(ls.length:Int):=oq;obtain⟨x,YH⟩:=nm (ls[k].toNat);have UD:=iZ ls p k;rw[PB,←YH] at UD;rw[←YH] at hc
       by_cases he:x=p
       ·have e1:((x:Int)==(p:Int))=true:=by rw[he];simp
        rw[if_pos he] at UD;have HSN:=Oh UD;have HL:=Oh hlt;obtain⟨S,hS⟩:=nm (mt ls n++pM ls p k)
        have Z5:S.length≤6000:=by
         have h1:=nM ls n;have h2:=nN ls p k;have h3:n*ls.length≤15*320:=Nat.mul_le_mul (by have:=HP.out;omega) hm;rw[hS,Ok];omega
        rw[←hS] at Um;have HSS:=Oh hS;have c17:wr.cell? ⟨g,17,none⟩=some (.slice SA S.length Sc):=Um.out.blk.ce;clear Wj PB UD YH he hlt hk hS;go_wp2_with (at_builtin;refine Hid.out ?_);have nE:=Own.alloc (show Own wr w.heap.size 3 1 SA S.length Sc (nvs S) from Um.out.sym) (.cells #[.int .i64 (k:Int)] 3);refine aj (xs:=nvs S) (news:=nvs [k]) rfl rfl oG rfl nE rfl (am.lit (bQ _ _) rfl rfl) (Ht _) (S.length+1) rfl (nvs (S++[k])) (Hv _ _).symm (by unfold maxLen;omega) oq (by have:=Vi.out.size;simp;omega) ?_;intro A3 c3 w3 o3 g3 q3;have hA3:=fQ.app Um.out o3 g3;have dO:=hA3.1;have Ss:=Oh hA3.2;have fR:Hid (Below w.heap.size w w3):=Oh ((Vi.out.alloc Vi.out.size _).grown g3 (by have:=Vi.out.size;simp;omega) (fun i hi=>(Own.block (show Own wr w.heap.size 3 1 SA S.length Sc (nvs S) from Um.out.sym) hi).1));have k17:w3.cell? ⟨g,17,none⟩=some (.slice SA S.length Sc):=dO.ce;have Xz:=dO.free;clear nE o3 g3 q3 hA3 dO c17;go_wp2_with fail;go_roundw
        case rel=>
         refine⟨_,_,_,_,_,_,_,_,_,_,_,_,_,_,_,_,_,_,_,_,_,?_,rfl⟩;exact⟨k+1,A3,c3,HL.out,by go_num,by rw[HSN.out,←List.append_assoc,←HSS.out];exact Ss.out,fR.out.setCell HG.out _⟩
        case measure=>exact ms HL
       ·have e1:((x:Int)==(p:Int))=false:=by rw[beq_eq_false_iff_ne];omega
        rw[if_neg he,List.append_nil] at UD;have HSN:=Oh UD;have HL:=Oh hlt;clear Wj PB UD YH he hlt hk;go_wp2_with fail;go_roundw
        case rel=>exact⟨k+1,SA,Sc,HL.out,by go_num,by rw[HSN.out];exact Um.out,Vi.out⟩
        case measure=>exact ms HL
      ·obtain rfl:k=ls.length:=oq;clear hlt hk;have hSS:mt ls n++pM ls p ls.length=mt ls (n+1):=by rw[HP.out.1];rfl
       rw[hSS] at Um;clear hSS;go_wp2_with fail;go_roundw
       case rel=>exact⟨n+1,SA,Sc,by have:=HP.out;omega,by have:=HP.out;go_num,Um.out,Vi.out⟩
       case measure=>exact ms HP
    ·obtain rfl:n=15:=oq;clear a3L hn;have hSY:mt ls 15=io ls:=rfl;rw[hSY] at T8;have e1:(((io ls).length:Int)==1)=false:=by rw[beq_eq_false_iff_ne];have:=HS.out;omega
     have c17:wr.cell? ⟨g,17,none⟩=some (.slice SA (io ls).length Sc):=T8.out.blk.ce;have c18:wr.cell? ⟨g,18,none⟩=some (.bool false):=T8.out.blk.ce;have fr:=T8.out.blk.free;go_wp2_with fail;go_ret2;refine⟨g,LA,Lc,SA,Sc,rfl,HG.out,?_,a3K.out.setCell HG.out _⟩;rw[acb.out];exact T8.out.put 18 _ CN true rfl
end Hu
namespace Hu
open Go.RowKit
open Bit Bt Mt Df
def iU(l:List Nat):List Value:=l.map fun n:Nat=>Value.int .u32 (n:Int)
theorem Cs(l:List Nat)(i y:Nat):(iU l).toArray.setIfInBounds i (.int .u32 (y:Int))=(iU (l.set i y)).toArray:=by
 simp[iU,List.map_set]
def stK(ls:List UInt8)(j:Nat):Nat×Nat×List Nat:=((io ls).take j).foldl (dC ls) (0,0,List.replicate ls.length 0)
theorem CG(ls:List UInt8):stK ls 0=(0,0,List.replicate ls.length 0):=rfl
theorem GL(ls:List UInt8):(stK ls (io ls).length).2.2=fS ls:=by unfold stK fS;rw[List.take_length]
theorem CH{ls:List UInt8}{j i:Nat}(h:(io ls)[j]?=some i):stK ls (j+1)=dC ls (stK ls j) i:=by
 unfold stK;rw[List.take_add_one,h,List.foldl_append];rfl
theorem ym(ls:List UInt8)(j:Nat):(stK ls j).2.2.length=ls.length:=by
 unfold stK;generalize(io ls).take j=S
 suffices h:∀(S:List Nat) (s:Nat×Nat×List Nat),s.2.2.length=ls.length→(S.foldl (dC ls) s).2.2.length=ls.length from h _ _ os'
 intro S
 induction S with
 |nil=>intro s h;exact h
 |cons i S ih=>intro s h;exact ih _ (by rw[qZ];exact h)
theorem CI(ls:List UInt8)(j:Nat):(stK ls j).1<4294967296∧(stK ls j).2.1<256:=by
 unfold stK;generalize(io ls).take j=S
 suffices h:∀(S:List Nat) (s:Nat×Nat×List Nat),(s.1<4294967296∧s.2.1<256)→((S.foldl (dC ls) s).1<4294967296∧(S.foldl (dC ls) s).2.1<256) from h _ _ ⟨by show(0:Nat)<4294967296;decide,by show(0:Nat)<256;decide⟩
 intro S
 induction S with
 |nil=>intro s h;exact h
 |cons i S ih=>intro s h;exact ih _ ⟨Nat.mod_lt _ od,UInt8.toNat_lt _⟩
theorem N4(C q:Nat):((C:Int)*2^(min q 32)%4294967296)=((C*2^q%4294967296:Nat):Int):=by
 have e:((C:Int)*2^(min q 32))=((C*2^(min q 32):Nat):Int):=by simp
 rw[e]
 have h:C*2^(min q 32)%4294967296=C*2^q%4294967296:=by
  by_cases hq:q≤32
  ·rw[Nat.min_eq_left hq]
  ·rw[Nat.min_eq_right oq,show q=32+(q-32) by omega,Nat.pow_add,←Nat.mul_assoc,Nat.mul_right_comm];rw[show C*2^32=C*4294967296 from rfl,show C*2^(q-32)*2^32=(C*2^(q-32))*4294967296 from rfl,Nat.mul_mod_left,Nat.mul_mod_left]
 rw[←h];rfl
def qM(w:World)(L:List Nat)(e:Ending)(w':World):Prop:=∃g,e=.returned (.slice (some ⟨g,0,none⟩) L.length L.length)∧w.heap.size≤g∧Blk w' g 33 (iU L).toArray∧Below w.heap.size w w'
theorem Jp(base g Lc Sc:Nat)(LA SA:Option Addr)(ls:List UInt8)(cnt:Nat→Nat)(f:Bool)(w:World)(h:fQ w base g LA Lc SA Sc ls cnt (io ls) f)(hm:ls.length≤320):
  Cl 336 #[.pointer (some ⟨g,0,none⟩)] w (qM w (fS ls)):=by
 have Zm:madeCells (Value.cells (.int .u32 0)) (ls.length*1)=(iU (stK ls 0).2.2).toArray:=by
  rw[Nat.mul_one,CG];have h:=toList_madeCells_one (.int .u32 0) ls.length;rw[show iU (List.replicate ls.length 0)=List.replicate ls.length (.int .u32 0) by simp[iU],←h];rfl
 have hmk:=fun W=>j8 (P:=prog) underlying73 (z:=.int .u32 0) (size:=1) (bytes:=4) ok' .i64 .i64 ls.length oq oq W;rw[Zm] at hmk;have St:(io ls).length≤15*320:=Oo (nM ls 15) (Nat.mul_le_mul_left _ hm);have HSS:Hid (∀i∈io ls,i<ls.length):=Oh (fun i hi=>yl hi);have HH:=Oh h;have c0:=h.blk.c0;have c17:w.cell? ⟨g,17,none⟩=some (.slice SA (io ls).length Sc):=h.blk.ce;have If:=h.blk.lt;generalize hSY:io ls=S at*;have HSY:=Oh hSY;clear h Zm hSY;go_enter func336,ntmps336;go_wp2_with fail;have oK:Hid (Below w.heap.size w (w.alloc (.cells (iU (stK ls 0).2.2).toArray 33))):=Oh (Ba);have HR0:Hid (Blk (w.alloc (.cells (iU (stK ls 0).2.2).toArray 33)) w.heap.size 33 (iU (stK ls 0).2.2).toArray):=Oh (Blk.new _ _ _);clear c0 c17 hmk;generalize w.alloc (.cells (iU (stK ls 0).2.2).toArray 33)=w1 at*;go_loopw [4,5,20] (fun c l v wr=>∃j:Nat,j≤S.length∧c=.int .u32 ((stK ls j).1:Int)∧l=.int .u8 ((stK ls j).2.1:Int)∧v=.int .i64 (j:Int)∧Blk wr w.heap.size 33 (iU (stK ls j).2.2).toArray∧Below w.heap.size w wr) (fun _ _ v _=>S.length-(intOf v).toNat)
 case atStart=>exact⟨0,oq,rfl,rfl,rfl,HR0.out,oK.out⟩
 case round=>
  obtain⟨j,hj,rfl,rfl,rfl,hblk,aC⟩:=hrel;have Pw:=Oh hblk;have Pg:=Oh aC;have OV:=HH.out.below aC;clear hblk aC HR0 oK
  by_cases hlt:j<S.length
  ·obtain⟨i,hi⟩:=gs S j hlt;have Pz:=HSS.out i (Om hi);obtain⟨gs,rfl,_,_,_,hcs,_⟩:=Own.form (show Own wr base 3 1 SA S.length Sc (nvs S) from OV.sym) oq;obtain⟨gl,rfl,_,_,_,hcl,_⟩:=Own.form (show Own wr base 5 1 LA ls.length Lc (bvs ls) from OV.len) oq;have k1:=hcs j (.int .i64 (i:Int)) (by simp[nvs,hi]);have k2:=hcl i (.int .u8 ((ls.getD i 0).toNat:Int)) (by simp[bvs,bv,Oj Pz,List.getD_eq_getElem?_getD]);have k0:=OV.blk.c0
   have kg:∃v,wr.cell? ⟨w.heap.size,i,none⟩=some v:=by
    have hl:=ym ls j;exact⟨.int .u32 (((stK ls j).2.2[i]:Nat):Int),by rw[Pw.out.cell];simp only[iU,List.getElem?_toArray,List.getElem?_map,Oj (show i<(stK ls j).2.2.length by omega),Option.map_some]⟩
   obtain⟨kv,kg⟩:=kg;have fr:=Pw.out.free;have R4:=CH (ls:=ls) (j:=j) (i:=i) (by rw[HSY.out];exact hi);obtain⟨Xc,OT⟩:=CI ls j;have hn:=UInt8.toNat_lt (ls.getD i 0);unfold dC at R4;obtain⟨n,Ud⟩:=nm ((ls.getD i 0).toNat);rw[←Ud] at R4 k2 hn;obtain⟨C,l,arr,hs⟩:∃C l arr,stK ls j=(C,l,arr):=⟨_,_,_,rfl⟩;rw[hs] at R4 Pw Xc OT ⊢;dsimp only at R4 Xc OT Pw ⊢;have Ri:(i:Int)<(ls.length:Int):=oq;have hjj:(j:Int)<(S.length:Int):=oq;obtain⟨q,hq⟩:=nm ((n+256-l)%256);have y1:IntKind.u8.wrap ((n:Int)-(l:Int))=(q:Int):=by rw[IntKind.wrap_u8];omega
   rw[←hq] at R4;have UZ:=Oh R4;have HL:=Oh (And.intro hlt Pz);clear OV hcs hcl hi Pz hs Ud R4 hlt hq hj;go_wp2_with fail;have R4:=UZ.out;rw[N4];generalize hV:C*2^q%4294967296=V at*;refine⟨⟨j+1,HL.out.1,?_,?_,by go_num,?_,Pg.out.setCell (Oi _) _⟩,by have:=HL.out;simp[intOf];omega⟩
   ·rw[R4]
    congr 1
   ·rw[R4]
   ·rw[R4,←Cs];exact Pw.out.put i _
  ·obtain rfl:j=S.length:=oq;clear hlt hj OV;have a71:Hid ((stK ls S.length).2.2=fS ls):=Oh (by rw[←GL,HSY.out]);have TX:Hid ((fS ls).length=ls.length):=Oh (by rw[←a71.out];exact ym ls _);go_wp2_with fail;go_ret;refine⟨w.heap.size,by rw[TX.out];rfl,Oi _,?_,Pg.out⟩;rw[←a71.out];exact Pw.out
theorem wk(A:Option Addr)(c:Nat)(ls:List UInt8)(w:World)(h:Bts w w.heap.size A ls)(hx:∀x∈ls,x.toNat≤15)(hm:ls.length≤320)(ht:lV ls=32768)(hs:(io ls).length≠1):
  Cl 265 #[.slice A ls.length c] w (qM w (fS ls)):=by
 have HM:=Oh (Lb A c ls w h hx hm ht hs);have HC:=Oh (fun g LA Lc SA Sc cnt W (h:fQ W w.heap.size g LA Lc SA Sc ls cnt (io ls) true)=>Jp w.heap.size g Lc Sc LA SA ls cnt true W h hm);clear h hx hm ht hs;go_enter func265,ntmps265;go_wp2_with fail;refine HM.out.mono ?_;rintro e w1 ⟨g,LA,Lc,SA,Sc,rfl,hg,OV,eQ⟩;have HS:=Oh OV;have HB:=Oh eQ;clear OV eQ HM hg;go_wp2_with fail;refine(HC.out _ _ _ _ _ _ _ HS.out).mono ?_;rintro e w2 ⟨g2,rfl,PK,aT,PT⟩;have H2:=Oh aT;have bY:=Oh (ai HB.out PT);have HG:=Oh (Oo HB.out.size PK);clear aT PT PK;go_wp2_with fail;go_ret;exact⟨g2,rfl,HG.out,H2.out,bY.out⟩
end Hu
namespace De
open Go.RowKit
open Bit Bt Mt Df
def pr2(p:Nat×Nat):Value:=.tuple #[.int .i64 (p.1:Int),.int .i64 (p.2:Int)]
theorem Mz(s:Nat)(h1:257≤s)(h2:s≤285)(w:World):Cl 396 #[.int .i64 (s:Int)] w (Rt (pr2 (iw s)) w):=by
 have x1:decide ((s:Int)<257)=false:=sq;have x2:decide ((285:Int)<(s:Int))=false:=sq;obtain⟨k,hk⟩:∃k,s=257+k:=⟨s-257,oq⟩;have y0:(s:Int)-257=(k:Int):=oq;have hs:¬(s<257∨285<s):=oq
 by_cases h28:k=28
 ·subst h28;subst hk;have e:iw (257+28)=(258,0):=by decide
  rw[e];clear x1 x2 y0 hs h1 h2;go_enter func396,ntmps396;go_wp2_with fail;go_ret2;exact⟨rfl,rfl⟩
 ·have x3:((s:Int)==285)=false:=by rw[beq_eq_false_iff_ne];omega
  by_cases h8:k<8
  ·have e:iw s=(3+k,0):=by unfold iw;rw[if_neg hs,if_neg oq,if_pos oq,show s-257=k by omega]
   rw[e];have x4:decide ((k:Int)<8)=true:=sq;have HK:=Oh (And.intro h8 h28);clear e hs hk h28;go_enter func396,ntmps396;go_wp2_with fail;go_ret2;exact⟨by simp[pr2],rfl⟩
  ·have e:iw s=(3+(4+k%4)*2^(k/4-1),k/4-1):=by unfold iw;rw[if_neg hs,if_neg oq,if_neg oq,show s-257=k by omega]
   rw[e];have x4:decide ((k:Int)<8)=false:=sq;have k1:(8:Int)≤(k:Int):=oq;have k2:(k:Int)<28:=oq;clear e hs hk h28;go_enter func396,ntmps396;go_wp2_with fail
   have e2:wrap64 (3+wrap64 ((4+(k:Int)%4)*2^(k/4-1)))=((3+(4+k%4)*2^(k/4-1):Nat):Int):=by
    have hP:2^(k/4-1)≤2^5:=Nat.pow_le_pow_right od oq;have hQ:(4+k%4)*2^(k/4-1)≤7*2^5:=Nat.mul_le_mul oq hP;have e1:(4+(k:Int)%4)*2^(k/4-1)=(((4+k%4)*2^(k/4-1):Nat):Int):=by simp
    rw[e1];generalize(4+k%4)*2^(k/4-1)=Q at*;rw[IntWalk.wrap64_in (Q:Int) ⟨oq,oq⟩,IntWalk.wrap64_in _ ⟨oq,oq⟩];omega
   go_ret2;refine⟨?_,rfl⟩;rw[e2];unfold pr2;dsimp only;rw[show((k/4-1:Nat):Int)=(k:Int)/4-1 by omega];rfl
theorem Nt(s:Nat)(h2:s≤29)(w:World):Cl 397 #[.int .i64 (s:Int)] w (Rt (pr2 (cZ s)) w):=by
 have x1:decide ((s:Int)<0)=false:=by simp
 have x2:decide ((29:Int)<(s:Int))=false:=sq;have x2b:decide (29<s)=false:=sq
 by_cases h4:s<4
 ·have e:cZ s=(1+s,0):=by unfold cZ;rw[if_neg oq,if_pos h4]
  rw[e];have x4:decide ((s:Int)<4)=true:=sq;have x4b:decide (s<4)=true:=sq;clear e;go_enter func397,ntmps397;go_wp2_with fail;go_ret2;exact⟨by simp[pr2],rfl⟩
 ·have e:cZ s=(1+(2+s%2)*2^(s/2-1),s/2-1):=by unfold cZ;rw[if_neg oq,if_neg h4]
  rw[e];have x4:decide ((s:Int)<4)=false:=sq;have x4b:decide (s<4)=false:=sq;have k1:(4:Int)≤(s:Int):=oq;have k2:(s:Int)<30:=oq;clear e;go_enter func397,ntmps397;go_wp2_with fail
  have e2:wrap64 (1+wrap64 ((2+(s:Int)%2)*2^(s/2-1)))=((1+(2+s%2)*2^(s/2-1):Nat):Int):=by
   have hP:2^(s/2-1)≤2^13:=Nat.pow_le_pow_right od oq;have hQ:(2+s%2)*2^(s/2-1)≤3*2^13:=Nat.mul_le_mul oq hP;have e1:(2+(s:Int)%2)*2^(s/2-1)=(((2+s%2)*2^(s/2-1):Nat):Int):=by simp
   rw[e1];generalize(2+s%2)*2^(s/2-1)=Q at*;rw[IntWalk.wrap64_in (Q:Int) ⟨oq,oq⟩,IntWalk.wrap64_in _ ⟨oq,oq⟩];omega
  go_ret2;refine⟨?_,rfl⟩;rw[e2];unfold pr2;dsimp only;rw[show((s/2-1:Nat):Int)=(s:Int)/2-1 by omega];rfl
def pr3(p:Nat×Nat×Nat):Value:=.tuple #[.int .i64 (p.1:Int),.int .i64 (p.2.1:Int),.int .i64 (p.2.2:Int)]
theorem np(fn:FuncId)(of:Nat→Nat×Nat)(first n k:Nat)(w:World)(hk:k≤30)(hf:first≤257)(hn:n≤40000)(eg:∀args w,(callFunc fn args).run prog w=.ok (.enter fn args) w)(HC:Hid (∀s,first≤s→s<first+k→∀w,Cl fn #[.int .i64 (s:Int)] w (Rt (pr2 (of s)) w)))(HG:Hid (∃s,first≤s∧s<first+k∧(of s).1≤n)):
  Cl 395 #[.int .i64 (first:Int),.int .i64 (((first+k:Nat):Int)-1),.int .i64 (n:Int),.func (Fn.func fn) #[] #[]] w (Rt (pr3 (cN of first n k)) w):=by
 go_enter func395,ntmps395;go_wp2_with fail;go_loop [11] (fun v=>∃j:Nat,j≤k∧v=.int .i64 (((first+j:Nat):Int)-1)∧cN of first n k=cN of first n j∧∃s,first≤s∧s<first+j∧(of s).1≤n) (fun v=>(intOf v+1).toNat)
 case atStart=>exact⟨k,Oi _,rfl,rfl,HG.out⟩
 case round=>
  obtain⟨j,hj,rfl,Uc,s,RS,SB,Zn⟩:=hrel;obtain⟨i,rfl⟩:∃i,j=i+1:=⟨j-1,oq⟩;have e0:((first+(i+1):Nat):Int)-1=((first+i:Nat):Int):=oq;rw[e0];have HCi:=Oh (HC.out (first+i) oq oq);obtain⟨p,hp⟩:=nm (first+i);have hfp:(first:Int)≤(p:Int):=oq;have WO:cN of first n (i+1)=if(of p).1≤n then(p,(of p).2,n-(of p).1) else cN of first n i:=by rw[hp];rfl
  rw[←hp] at HCi ⊢;unfold pr2 at HCi
  by_cases hle:(of p).1≤n
  ·rw[if_pos hle] at WO;have HR:=Oh (Uc.trans WO);obtain⟨a,ha⟩:=nm ((of p).1);obtain⟨b,hb⟩:=nm ((of p).2);rw[←ha,←hb] at HCi HR;rw[←ha] at hle;have acd:(a:Int)≤(n:Int):=oq;have HL:=Oh hle;have OJ:p≤300:=oq;clear RS SB Zn Uc WO ha hb hp hle hj e0;go_wp2_with fail;refine(HCi.out _).mono ?_;rintro e w1 ⟨rfl,rfl⟩;go_wp2_with fail;go_ret3;refine⟨?_,rfl⟩;rw[HR.out];unfold pr3;dsimp only;rw[show((n-a:Nat):Int)=(n:Int)-(a:Int) by have:=HL.out;omega];rfl
  ·rw[if_neg hle] at WO;have HR:=Oh (Uc.trans WO)
   have hex:∃s,first≤s∧s<first+i∧(of s).1≤n:=by
    refine⟨s,RS,?_,Zn⟩;rcases Nat.lt_or_ge s (first+i) with h|h
    ·exact h
    ·obtain rfl:s=p:=oq;exact absurd Zn hle
   have HE:=Oh hex;obtain⟨a,ha⟩:=nm ((of p).1);obtain⟨b,hb⟩:=nm ((of p).2);rw[←ha,←hb] at HCi;rw[←ha] at hle;have acd:¬(a:Int)≤(n:Int):=oq;have OJ:p≤300:=oq;have HP:=Oh (And.intro hp hj);clear RS SB Zn Uc WO ha hb hp hle hj e0 hex;go_wp2_with fail;refine(HCi.out _).mono ?_;rintro e w1 ⟨rfl,rfl⟩;go_wp2_with fail;go_round
   case rel=>
    refine⟨trivial,_,_,_,_,_,_,_,_,_,_,_,_,_,_,_,_,_,_,_,_,_,_,_,_,_,?_,rfl⟩;exact⟨i,by have:=HP.out;omega,by have:=HP.out;rw[this.1],HR.out,HE.out⟩
   case measure=>simp[intOf]
theorem xt:∀args w,(callFunc 396 args).run prog w=.ok (.enter 396 args) w:=enters_of func396 ok' rfl
theorem BI:∀args w,(callFunc 397 args).run prog w=.ok (.enter 397 args) w:=enters_of func397 ok' rfl
theorem DN(n:Nat)(h3:3≤n)(h:n≤258)(w:World):Cl 341 #[.int .i64 (n:Int)] w (Rt (pr3 (aG n)) w):=by
 have HG:=Oh (np 396 iw 257 n 29 w oq oq oq xt (Oh fun s h1 h2 w=>Mz s h1 oq w) (Oh ⟨257,oq,oq,by rw[show(iw 257).1=3 by decide];omega⟩));unfold pr3 at HG ⊢;rw[show cN iw 257 n 29=aG n from rfl] at HG;generalize aG n=r at*;have x1:decide ((n:Int)<3)=false:=sq;have x2:decide ((258:Int)<(n:Int))=false:=sq;have x2b:decide (258<n)=false:=sq;have x1b:decide (n<3)=false:=sq;clear h3 h;go_enter func341,ntmps341;go_wp2_with fail;refine HG.out.mono ?_;rintro e w1 ⟨rfl,rfl⟩;go_wp2_with fail;go_ret3;exact⟨rfl,rfl⟩
theorem KI(n:Nat)(h3:1≤n)(h:n≤32768)(w:World):Cl 342 #[.int .i64 (n:Int)] w (Rt (pr3 (de n)) w):=by
 have HG:=Oh (np 397 cZ 0 n 30 w oq oq oq BI (Oh fun s h1 h2 w=>Nt s oq w) (Oh ⟨0,oq,oq,by rw[show(cZ 0).1=1 by decide];omega⟩));unfold pr3 at HG ⊢;rw[show cN cZ 0 n 30=de n from rfl] at HG;generalize de n=r at*;have x1:decide ((n:Int)<1)=false:=sq;have x2:decide ((32768:Int)<(n:Int))=false:=sq;have x2b:decide (32768<n)=false:=sq;have x1b:decide (n<1)=false:=sq;clear h3 h;go_enter func342,ntmps342;go_wp2_with fail;refine HG.out.mono ?_;rintro e w1 ⟨rfl,rfl⟩;go_wp2_with fail;go_ret3;exact⟨rfl,rfl⟩
end De
namespace Dw
open Go.RowKit
open Bit Bt
structure Xs where
 a:Value
 b:Value
 c:Value
 d:Value
def Wri(X:Xs)(w:World)(g:Nat)(A:Option Addr)(c:Nat)(L:List Bool):Prop:=Blk w g 373 #[.slice A (bM L).length c,.int .i64 (L.length:Int),X.a,X.b,X.c,X.d]∧ak w g A c (bM L)
def br(X:Xs)(g:Nat)(A:Option Addr)(L:List Bool)(w w':World):Prop:=∃A' c',Wri X w' g A' c' L∧ab (WK g A) w w'∧(aa A'=aa A∨∃i,aa A'=some i∧w.heap.size≤i)
section
variable {X:Xs}
theorem jp{W:World}{g gb c q n:Nat}{L:List Bool}{P:List UInt8}(hP:P=room L)(hq:q=L.length/8)(hb:Blk W g 373 #[.slice (some ⟨gb,0,none⟩) P.length c,.int .i64 (L.length:Int),X.a,X.b,X.c,X.d])(ho:Own W g 5 1 (some ⟨gb,0,none⟩) P.length c (bvs P))(hne:g≠gb):
  Wri X ((W.setCell ⟨gb,q,none⟩ (.int .u8 ((UInt8.ofNat (num (L.drop (8*q))+(decide (n%2=1)).toNat*2^(L.length%8))).toNat:Int))).setCell ⟨g,1,none⟩ (.int .i64 ((L.length:Int)+1))) g (some ⟨gb,0,none⟩) c (L++[decide (n%2=1)]):=by
 exact uj
set_option maxHeartbeats 3200000 in
theorem gY(g:Nat)(A:Option Addr)(c:Nat)(L:List Bool)(n:Nat)(w:World)(h:Wri X w g A c L)(hn:n<4294967296)(hL:L.length≤1000000000):
  Cl 338 #[.pointer (some ⟨g,0,none⟩),.int .u32 (n:Int)] w fun e w'=>e=.returned (.tuple #[])∧br X g A (L++[decide (n%2=1)]) w w':=by
 exact uV
theorem br.then{g:Nat}{A:Option Addr}{L:List Bool}{w w' Wb:World}{A':Option Addr}(ho:ab (WK g A) w w')(hl:aa A'=aa A∨∃i,aa A'=some i∧w.heap.size≤i)(h:br X g A' L w' Wb):br X g A L w Wb:=by
 exact oc
theorem ia(g:Nat)(A:Option Addr)(c:Nat)(L:List Bool)(n k:Nat)(w:World)(h:Wri X w g A c L)(hn:n<4294967296)(hk:k≤32)(hf:eV n (k:Int)=true)(hL:L.length+32≤1000000000):
  Cl 266 #[.pointer (some ⟨g,0,none⟩),.int .u32 (n:Int),.int .i64 (k:Int)] w fun e w'=>e=.returned (.int .i64 0)∧br X g A (L++gb n k) w w':=by
 have HF:=fun W=>pc n (k:Int) W hn oq oq;rw[hf] at HF;replace HF:=Oh HF;have H:=Oh h;have Ud:(n:Int)<4294967296:=oq;clear hf h;go_enter func266,ntmps266;go_wp2_with fail;refine(HF.out _).mono ?_;rintro e w1 ⟨rfl,rfl⟩;go_wp2_with fail;go_loopw [16] (fun v wr=>∃i:Nat,i≤k∧v=.int .i64 (i:Int)∧br X g A (L++gb n i) w wr) (fun v _=>k-(intOf v).toNat)
 case atStart=>exact⟨0,Nat.zero_le _,rfl,A,c,by simpa [gb] using H.out,ab.refl _ _,.inl rfl⟩
 case round=>
  obtain⟨i,hi,rfl,A1,c1,iF,RP,Qs⟩:=hrel
  by_cases hlt:i<k
  ·exact uu
  ·obtain rfl:k=i:=oq;have HW:=Oh (show br X g A (L++gb n k) w wr from⟨A1,c1,iF,RP,Qs⟩);clear hi hlt iF RP Qs;go_wp2_with fail;go_ret;exact⟨rfl,HW.out⟩
theorem FU(g:Nat)(A:Option Addr)(c:Nat)(L:List Bool)(n k:Nat)(w:World)(h:Wri X w g A c L)(hn:n<4294967296)(hk:k≤32)(hf:eV n (k:Int)=true)(hL:L.length+32≤1000000000):
  Cl 344 #[.pointer (some ⟨g,0,none⟩),.int .u32 (n:Int),.int .i64 (k:Int)] w fun e w'=>e=.returned (.int .i64 0)∧br X g A (L++(gb n k).reverse) w w':=by
 have HF:=fun W=>pc n (k:Int) W hn oq oq;rw[hf] at HF;replace HF:=Oh HF;have hT:=fun W=>Kx n (k:Int) W hn oq oq;rw[nI n k hk] at hT;have ht:=Ct n (k:Int);rw[nI n k hk] at ht
 have Xd:eV (l9 n k) (k:Int)=true:=by
  rw[ib hk,Nat.div_eq_of_lt (nH n k)];rfl
 have HG:=Oh (ia g A c L (l9 n k) k w h ht hk Xd hL);rw[zc] at HG;have HT:=Oh hT;generalize l9 n k=m at*;clear hT Xd hf h;go_enter func344,ntmps344;go_wp2_with fail;refine(HF.out _).mono ?_;rintro e w1 ⟨rfl,rfl⟩;go_wp2_with fail;refine(HT.out _).mono ?_;rintro e w1 ⟨rfl,rfl⟩;go_wp2_with fail;refine HG.out.mono ?_;rintro e w1 ⟨rfl,h1⟩;have H1:=Oh h1;clear h1;go_wp2_with fail;go_ret;exact⟨rfl,H1.out⟩
theorem rU(g:Nat)(A:Option Addr)(c:Nat)(L:List Bool)(w:World)(h:Wri X w g A c L)(hL:L.length≤100000000):
  Cl 270 #[.pointer (some ⟨g,0,none⟩)] w (cY w (bM L)):=by
 obtain⟨EQ,ho⟩:=h;have OJ:=aU L;have c0:=EQ.c0;have HC:=Oh (l7 A c (bM L) w (ak.reads ho) oq);clear EQ ho OJ;go_enter func270,ntmps270;exact iM
end
end Dw
end Go.Proofs.YtmbippkpjdoojaaGreat
namespace Go.Proofs.YtmbippkpjdoojaaGreat.Mat
open Tryz
open Go.RowKit
section
open Mt
theorem Jv{x y:UInt8}(h:x≠y):((x.toNat:Int)==(y.toNat:Int))=false:=by
 simp only[beq_eq_false_iff_ne,ne_eq,Int.natCast_inj];exact fun e=>h (UInt8.toNat_inj.1 e)
theorem lB(w:World)(a b:Nat):(w.drewN a).drewN b=w.drewN (a+b):=by
 simp[World.drewN,Nat.add_assoc]
theorem Hh(g:Nat)(A:Option Addr)(c:Nat)(l:List UInt8)(M:Value)(i k:Nat)(w:World)(h:Blk w g 447 #[.slice A l.length c,M])(hb:Bts w w.heap.size A l)(hm:l.length≤16777216)(hik:i<k)(Sb:k<l.length):
  Cl 394 #[.pointer (some ⟨g,0,none⟩),.int .i64 (i:Int),.int .i64 (k:Int)] w (Rq (.int .i64 (sm l i k 258:Nat)) w):=by
 obtain⟨b,o,rfl,Ov,hcell⟩:=hb.at_ oq;have c0:=h.c0;obtain⟨R,hR⟩:=nm (sm l i k 258);rw[←hR];have HR:=Oh hR;have HC:=Oh hcell;clear h hb hcell hR Ov;go_enter func394,ntmps394;go_wp2_with fail;go_loopg [7] (258) (fun gk v wr=>∃n q:Nat,n+gk=258∧v=.int .i64 (n:Int)∧wr=w.drewN q∧n+sm l (i+n) (k+n) (258-n)=R)
 case atStart=>exact⟨0,0,rfl,rfl,rfl,by rw[HR.out];simp⟩
 case round=>
  obtain⟨n,q,hn,rfl,rfl,hs⟩:=hrel;have hn8:(n:Int)≤258:=oq;have SZ:(0:Int)≤(n:Int):=oq;have HN:=Oh hn;have HS:=Oh hs;clear hn hs
  by_cases h2:n<258
  ·have h2i:(n:Int)<258:=oq;obtain⟨p,hp⟩:=nm (i+n);obtain⟨r,hr⟩:=nm (k+n);have e1:IntKind.i64.wrap ((i:Int)+(n:Int))=(p:Int):=by rw[show(i:Int)+(n:Int)=(p:Int) by omega];exact i6
   have e2:IntKind.i64.wrap ((k:Int)+(n:Int))=(r:Int):=by rw[show(k:Int)+(n:Int)=(r:Int) by omega];exact i6
   have hp0:(0:Int)≤(p:Int):=oq;have hr0:(0:Int)≤(r:Int):=oq
   by_cases h3:r<l.length
   ·have h3i:(r:Int)<(l.length:Int):=oq;have OJ:(p:Int)<(l.length:Int):=oq;have d1:=HC.out p oq;have d2:=HC.out r h3
    by_cases h4:l[p]'oq=l[r]
    ·rw[←h4] at d2;have H4:=Oh (show l[i+n]?=l[k+n]? by rw[←hp,←hr,Oj oq,Oj h3,h4]);have H3:=Oh (show k+n<l.length by omega);have H2:=Oh h2;generalize l[p]'oq=x at*;clear h4 hp hr h3 h2;go_wp2_with fail;go_quiet (fail);go_wp2_with fail;go_roundg (258-(n+1))
     case measure=>have h1:=HN.out;have h2:=H2.out;omega
     case rel=>exact⟨n+1,_,by have h2:=H2.out;omega,by go_num,rfl,by rw[HR.out];exact GQ H2.out H3.out H4.out (HS.out.trans HR.out)⟩
    ·have hbe:=Jv h4;have H4:=Oh (show l[i+n]?≠l[k+n]? by rw[←hp,←hr,Oj oq,Oj h3];simpa using h4);generalize l[p]'oq=x at*;generalize l[r]=y at*;clear h4 hp hr h3 h2;go_wp2_with fail;go_quiet (fail);go_wp2_with fail;go_ret;obtain rfl:R=n:=by rw[HR.out];exact(xR (.inr (.inr H4.out)) (HS.out.trans HR.out)).symm
     exact⟨rfl,q+nq,lB w q nq⟩
   ·have h3i:¬(r:Int)<(l.length:Int):=oq;have hx:decide (r<l.length)=false:=sq;have H3:=Oh (show¬k+n<l.length by omega);clear hp hr h3 h2;go_wp2_with fail;go_quiet (fail);go_wp2_with fail;go_ret;obtain rfl:R=n:=by rw[HR.out];exact(xR (.inr (.inl H3.out)) (HS.out.trans HR.out)).symm
    exact⟨rfl,q+nq,lB w q nq⟩
  ·obtain rfl:n=258:=by have:=HN.out;omega
   go_wp2_with fail;go_quiet (fail);go_wp2_with fail;go_ret;obtain rfl:R=258:=by rw[HR.out];exact(xR (.inl rfl) (HS.out.trans HR.out)).symm
   exact⟨rfl,q+nq,lB w q nq⟩
end
section
open Go.ChangeMaps
open Go.MapKept
open Go.ChangeShapes
open Go.WideElems (Fit rd rg pl rd_val elemAt entry_then_store)
open Go.Maps (Keyed)
theorem Ia:laidOutB prog=true:=by kernel_rfl
theorem NH:(493:TypeId)<Tryz.prog.types.size:=of_decide_eq_true ok'
theorem MT:(match prog.underlying 493 with|some (.array _ _)|some (.struct _)=>true|_=>false)=true:=by rw[underlying493]
theorem Gf:WideMaps.KeyLaw prog 493:=deep_law_laid Ia (m:=2) oq NH ok' MT
section
variable {H:Type} {P:Program} {w:World} {t k E:TypeId} {R:Value→Option (DataW H×List MemPlace)} {b:Nat} {es:Array MapEntry} {clock:Nat}
theorem Gm(K:WideMaps.KeyLaw P k)(ht:P.underlying t=some (.map k E))(F:Fit P k R es clock){key val:Value}{kl:Lit}(iD:keyOf P k key=some kl):
  ∃o,∀W:World,W.heap[b]?=some (.map es clock)→(Instr.mapUpdate t (.map (some b)) key val).run P W=.ok () (setBlock W b o):=by
 by_cases hex:∃e∈es.toList,e.key=key
 ·obtain⟨e,he,hek⟩:=hex;obtain⟨j0,Yc,rfl⟩:=List.getElem_of_mem he;refine⟨.map (es.modify j0 fun e'=> {e' with key:=key,val:=val}) clock,fun W hb=>?_⟩;rcases K.find W iD es.toList F.keys with⟨_,h2⟩|⟨j,e0,h1,h2,h3⟩
  ·exact absurd hek (h2 _ he)
  ·obtain⟨hj,hje⟩:=List.getElem?_eq_some_iff.1 h2
   have hjj:j=j0:=by
    rcases Nat.lt_trichotomy j j0 with hlt|heq|hlt
    ·exact absurd (by rw[hje,h3,hek]) (List.pairwise_iff_getElem.1 ((stamped_iff _ _).1 F.stamped).2.2 j j0 hj Yc hlt)
    ·exact heq
    ·exact absurd (by rw[hje,h3,hek]) (List.pairwise_iff_getElem.1 ((stamped_iff _ _).1 F.stamped).2.2 j0 j Yc hj hlt)
   subst hjj;have hja:es[j]?=some e0:=by simpa using h2
   simp[Instr.mapUpdate,run_underlying ht,MapKept.run_getObj_map hb,K.check W false iD,h1,hja,h3,K.stays W iD,MapKept.run_setObj_map _ hb,Result.andThen,setBlock]
 ·refine⟨.map (es.push ⟨key,val,clock⟩) (clock+1),fun W hb=>?_⟩;rcases K.find W iD es.toList F.keys with⟨h1,_⟩|⟨j,e0,_,h2,h3⟩
  ·simp[Instr.mapUpdate,run_underlying ht,MapKept.run_getObj_map hb,K.check W false iD,h1,MapKept.run_setObj_map _ hb,Result.andThen,setBlock]
  ·exact absurd ⟨e0,Om h2,h3⟩ hex
variable {base n:Nat} {e:TypeId} {q:IntKind} {D:DataW H}
theorem qY{key:Value}{kl:Lit}(h:w.ownsGroups P k base e q b n D)(K:WideMaps.KeyLaw P k)(ht:P.underlying t=some (.map k E))(hz:∀u:World,(zeroValue E).run P u=.ok (.slice none 0 0) u)(hn:n<maxLen)(iD:keyOf P k key=some kl):
  ∃v zs st w1,(Instr.mapEntry t (.map (some b)) key).run P w=.ok (.tuple #[v,goInt st]) w1∧w.grownBy w1 (some b)∧w1.heap.size=w.heap.size∧D.atKey kl .nil=rowDatum q v zs∧w1.ownsInts base e q v zs∧zs.length≤n∧b<base∧
   ∀(w2:World) (v':Value) (zs':List Int),w1.grownBy w2 v.ownBlock→w2.ownsInts base e q v' zs'→zs'.length≤n+1→(v'.ownBlock=v.ownBlock∨∃g,v'.ownBlock=some g∧w.heap.size≤g)→
    ∃w3,(Instr.entryStore t (.map (some b)) (goInt st) v').run P w2=.ok () w3∧w3.ownsGroups P k base e q b (n+1) (D.put kl (rowDatum q v' zs'))∧w2.grownBy w3 (some b):=by
 have hh:=h;obtain⟨es,clock,hb,F,hs,hD,OO,hlen,Vt⟩:=h;have a1S:b<w.heap.size:=(Array.getElem?_eq_some_iff.1 hb).1;obtain⟨v,zs,Q9,hat,RD,hzl,Un⟩:=hh.at (Keyed.of_law K) ht (hz w) hn iD;obtain⟨v0,st,es1,To,iN,a73,UY⟩:=entry_then_store K ht hz hb F iD
 have hv:v0=v:=by
  rcases Maps.fit_look false (Keyed.of_law K) ht (hz w) hb F iD with⟨hl,Qc,_⟩|⟨e0,y,oS,h3,hl,_⟩
  ·rw[Q9] at hl;rcases a73 with⟨e1,PH,QM,_⟩|⟨_,Pc⟩
   ·exact absurd QM (Qc e1 PH)
   ·simp at hl;rw[Pc,hl]
  ·rw[Q9] at hl;rcases a73 with⟨e1,PH,QM,Pc⟩|⟨Qc,_⟩
   ·have:e1=e0:=entry_eq_of_key ((stamped_iff _ _).1 F.stamped).2.2 PH oS (QM.trans h3.symm);simp at hl;rw[Pc,hl,this]
   ·exact absurd h3 (Qc e0 oS)
 subst hv
 have hvb:v0.ownBlock≠some b:=fun e1=>by
  have:=(RD.1.lt b e1).1;omega
 have Px:w.grownBy (setBlock w b (.map es1 To)) (some b):=⟨rfl,rfl,rfl,by simp[setBlock],fun i _ hi=>heap_setBlock_other hb _ (fun e1=>hi (by rw[e1]))⟩
 have ace:=RD.kept Px (by
  cases hvo:v0.ownBlock with
  |none=>exact .inl rfl
  |some g=>exact .inr (fun e1=>hvb (by rw[hvo,e1])))
 refine⟨v0,zs,st,_,iN,Px,by simp[setBlock],hat,ace,hzl,OO,fun w2 v' zs' PK a1p hl' YI=>?_⟩;have eQ:(setBlock w b (.map es1 To)).heap[b]?=some (.map es1 To):=heap_setBlock_same hb _;have aT:w2.heap[b]?=some (.map es1 To):=(PK.block b (by simpa [setBlock] using a1S) (fun e1=>hvb e1.symm)).trans eQ;obtain⟨es',YJ,QZ,hru⟩:=UY w2 v' aT;obtain⟨o,ho⟩:=Gm (b:=b) (val:=v') K ht F iD
 have hoe:o=.map es' YJ:=by
  have h1:=(ho w hb).symm.trans hru;simp only[Result.ok.injEq,true_and] at h1;have h2:(setBlock w b o).heap[b]?=some o:=heap_setBlock_same hb _;rw[h1,heap_setBlock_same hb] at h2;exact(Option.some.inj h2).symm
 have hwb:(setBlock w2 b (.map es clock)).heap[b]?=some (.map es clock):=heap_setBlock_same aT _
 have hgw:w.grownBy (setBlock w2 b (.map es clock)) v0.ownBlock:=by
  refine⟨PK.os,PK.tape,PK.output,?_,fun i hi hne=>?_⟩
  ·have:=PK.size;simpa [setBlock] using this
  ·by_cases hib:i=b
   ·subst hib;rw[hwb,hb]
   ·rw[heap_setBlock_other aT _ hib,PK.block i (by simpa [setBlock] using hi) hne,heap_setBlock_other hb _ hib]
 have hgv:w2.grownBy (setBlock w2 b (.map es clock)) (some b):=⟨rfl,rfl,rfl,by simp[setBlock],fun i _ hi=>heap_setBlock_other aT _ (fun e1=>hi (by rw[e1]))⟩
 have VD:=a1p.kept hgv (by
  cases hvo:v'.ownBlock with
  |none=>exact .inl rfl
  |some g=>
   refine .inr (fun e1=>?_);have:=(a1p.1.lt g hvo).1;cases e1;omega)
 obtain⟨w3,SL,r1,_⟩:=Un _ v' zs' hgw VD hl' YI
 have OU:w3=setBlock w2 b (.map es' YJ):=by
  have h1:=(ho _ hwb).symm.trans SL;simp only[Result.ok.injEq,true_and] at h1;rw[←h1,hoe];simp[setBlock]
 exact⟨w3,by rw[OU];exact QZ,r1,by rw[OU];exact⟨rfl,rfl,rfl,by simp[setBlock],fun i _ hi=>heap_setBlock_other aT _ (fun e1=>hi (by rw[e1]))⟩⟩
end
end
section
open Go.ChangeMaps
open Go.MapKept
open Go.ChangeShapes
open Go.Maps (Keyed)
open Go.WideElems (rd_val)
open Mt
abbrev TM:TypeId:=445
abbrev TK:TypeId:=493
theorem zE:WideMaps.ArrKey prog TK 5 3:=⟨underlying493,by kernel_rfl,by kernel_rfl,by kernel_rfl⟩
theorem JT:∃m,Tryz.prog.types.size=m+1:=⟨Tryz.prog.types.size-1,by have:=NH;simp only[TypeId] at this;omega⟩
theorem G1(u:World):(zeroValue 408).run prog u=.ok (.slice none 0 0) u:=by kernel_rfl
def k3(x y z:UInt8):Value:=.agg #[bv x,bv y,bv z]
def l3(x y z:UInt8):Lit:=.string (keyBytes [.int .u8 (x.toNat:Int),.int .u8 (y.toNat:Int),.int .u8 (z.toNat:Int)])
theorem Ju(x:UInt8):(Lit.int .u8 (x.toNat:Int)).wf=true:=by
 have:=x.toNat_lt;simp[Lit.wf,IntKind.min,IntKind.max,IntKind.bits,IntKind.signed];omega
theorem Cf(x y z:UInt8):keyOf prog TK (k3 x y z)=some (l3 x y z):=by
 have hkt:=zE.keyType JT;obtain⟨m,hm⟩:=JT;unfold keyOf k3 l3;simp only[zE.hu];rw[if_pos (by simp[hkt,Value.formed,zE.hu,zE.size]),hm];unfold Program.keyLits;simp only[zE.hu,Value.cells];rw[if_pos (by rw[zE.size];rfl),show List.range 3=[0,1,2] from rfl,List.mapM_cons,List.mapM_cons,List.mapM_cons,List.mapM_nil];simp[zE.one,Program.keyLits,underlying5,Ju,bv]
theorem Nf{x y z x' y' z':UInt8}(h:¬(x'=x∧y'=y∧z'=z)):l3 x' y' z'≠l3 x y z:=fun e=>by
 have h1:=Cf x' y' z';rw[e] at h1;have h2:=Gf.inj h1 (Cf x y z);simp only[k3,bv,Value.agg.injEq,Array.mk.injEq,List.cons.injEq,Value.int.injEq,true_and,and_true,Int.natCast_inj,UInt8.toNat_inj] at h2;exact h ⟨h2.1,h2.2.1,h2.2.2⟩
def psI(l:List UInt8)(n:Nat)(x y z:UInt8):List Int:=(ps l n x y z).map fun(p:Nat)=>(p:Int)
def At(D:DataW Unit)(k:Lit)(zs:List Int):Prop:=(zs=[]∧D.atKey k .nil=.nil)∨D.atKey k .nil=.slice (lits .i64 zs) []
theorem DL{a b:List Int}(h:(lits .i64 a:List (DataW Unit))=lits .i64 b):a=b:=by
 unfold lits at h;exact(List.map_inj_right (fun a b Pd=>by simpa using Pd)).1 h
theorem At.same{D:DataW Unit}{k:Lit}{zs ys:List Int}{w:World}{base:Nat}{e:TypeId}{v:Value}(h:At D k zs)(hat:D.atKey k .nil=rowDatum .i64 v ys)(RD:w.ownsInts base e .i64 v ys):ys=zs:=by
 rcases RD.datum (H:=Unit) with⟨e1,rfl⟩|e1<;>rw[e1] at hat<;>rcases h with⟨rfl,h⟩|h<;>rw[hat] at h
 all_goals first|rfl|(cases h;done)|exact DL (by simpa using h)
theorem DK{P:Program}{t k E:TypeId}{R:Value→Option (DataW Unit×List MemPlace)}{b:Nat}{es:Array MapEntry}{clock:Nat}(K:WideMaps.KeyLaw P k)(ht:P.underlying t=some (.map k E))(hz:∀u:World,(zeroValue E).run P u=.ok (.slice none 0 0) u)(F:WideElems.Fit P k R es clock){key:Value}{kl:Lit}(iD:keyOf P k key=some kl):
  ∃v,∀W:World,W.heap[b]?=some (.map es clock)→(Instr.lookup t (.map (some b)) key false).run P W=.ok v W:=by
 by_cases hex:∃e∈es.toList,e.key=key
 ·obtain⟨e,he,hek⟩:=hex;refine⟨e.val,fun W hb=>?_⟩;rcases Maps.fit_look false (Keyed.of_law K) ht (hz W) hb F iD with⟨_,h2,_⟩|⟨e0,y,oS,h3,hl,_⟩
  ·exact absurd hek (h2 e he)
  ·have:e0=e:=entry_eq_of_key ((stamped_iff _ _).1 F.stamped).2.2 oS he (h3.trans hek.symm);subst this;simpa using hl
 ·refine⟨.slice none 0 0,fun W hb=>?_⟩;rcases Maps.fit_look false (Keyed.of_law K) ht (hz W) hb F iD with⟨hl,_⟩|⟨e0,y,oS,h3,_⟩
  ·simpa using hl
  ·exact absurd ⟨e0,oS,h3⟩ hex
def bx(w:World)(Bm base:Nat)(l:List UInt8)(n:Nat):Prop:=
 ∃D:DataW Unit,w.ownsGroups prog TK base 3 .i64 Bm n D∧Maps.IsMap D∧∀x y z,At D (l3 x y z) (psI l n x y z)
theorem bx.new(w:World)(l:List UInt8):bx (w.alloc (.map #[] 0)) w.heap.size (w.heap.size+1) l 0:=
 ⟨.map [],World.ownsGroups_made _ _ _ _ _,Maps.isMap_empty,fun _ _ _=>.inl ⟨rfl,rfl⟩⟩
theorem bx.at_{w:World}{Bm base n:Nat}{l:List UInt8}(h:bx w Bm base l n)(hn:n<maxLen)(x y z:UInt8):
  ∃v,(Instr.lookup TM (.map (some Bm)) (k3 x y z) false).run prog w=.ok v w∧w.ownsInts base 3 .i64 v (psI l n x y z):=by
 obtain⟨D,ho,_,hat⟩:=h;obtain⟨v,zs,iN,h1,RD,_,_⟩:=ho.at (t:=TM) (Keyed.of_law Gf) underlying445 (G1 w) hn (Cf x y z);have:=(hat x y z).same h1 RD;subst this;exact⟨v,iN,RD⟩
theorem bx.look{w:World}{Bm base n:Nat}{l:List UInt8}(h:bx w Bm base l n)(hn:n<maxLen)(x y z:UInt8):
  ∃v,(∀W:World,W.heap[Bm]?=w.heap[Bm]?→(Instr.lookup TM (.map (some Bm)) (k3 x y z) false).run prog W=.ok v W)∧w.ownsInts base 3 .i64 v (psI l n x y z):=by
 obtain⟨v,iN,RD⟩:=h.at_ hn x y z;obtain⟨D,⟨es,clock,hb,F,_⟩,_⟩:=h;obtain⟨v2,h2⟩:=DK (b:=Bm) Gf underlying445 G1 F (Cf x y z);have e:=(h2 w hb).symm.trans iN;simp only[Result.ok.injEq,and_true] at e;subst e;exact⟨v2,fun W hW=>h2 W (hW.trans hb),RD⟩
theorem bx.skip{w:World}{Bm base n:Nat}{l:List UInt8}(h:bx w Bm base l n)(hn:l.length<n+3):bx w Bm base l (n+1):=by
 obtain⟨D,⟨es,clock,hb,F,hs,hD,OO,hlen,Vt⟩,hm,hat⟩:=h;refine⟨D,⟨es,clock,hb,F,oq,hD,OO,fun x hx zs hz=>Nat.le_succ_of_le (hlen x hx zs hz),Vt⟩,hm,fun x y z=>?_⟩
 have e:psI l (n+1) x y z=psI l n x y z:=by
  unfold psI;rw[rC,if_neg];intro h3;simp only[at3,Bool.and_eq_true,beq_iff_eq] at h3;have:=(List.getElem?_eq_some_iff.1 h3.2).1;omega
 rw[e];exact hat x y z
theorem bx.entry{w:World}{Bm base n:Nat}{l:List UInt8}(h:bx w Bm base l n)(hn:n<maxLen){x y z:UInt8}(h3:at3 l n x y z=true):
  ∃v st w1,(Instr.mapEntry TM (.map (some Bm)) (k3 x y z)).run prog w=.ok (.tuple #[v,goInt st]) w1∧w.grownBy w1 (some Bm)∧w1.heap.size=w.heap.size∧w1.ownsInts base 3 .i64 v (psI l n x y z)∧Bm<base∧
   ∀(w2:World) (v':Value),w1.grownBy w2 v.ownBlock→w2.ownsInts base 3 .i64 v' (psI l n x y z++[(n:Int)])→(v'.ownBlock=v.ownBlock∨∃g,v'.ownBlock=some g∧w.heap.size≤g)→
    ∃w3,(Instr.entryStore TM (.map (some Bm)) (goInt st) v').run prog w2=.ok () w3∧bx w3 Bm base l (n+1)∧w2.grownBy w3 (some Bm):=by
 obtain⟨D,ho,hm,hat⟩:=h;obtain⟨v,zs,st,w1,iN,hg,Is,h1,RD,hzl,OO,Un⟩:=qY (t:=TM) ho Gf underlying445 G1 hn (Cf x y z);have:=(hat x y z).same h1 RD;subst this;refine⟨v,st,w1,iN,hg,Is,RD,OO,fun w2 v' PK hown YI=>?_⟩
 have hlen:(psI l n x y z++[(n:Int)]).length≤n+1:=by
  have:=sv l n x y z;simp[psI];omega
 obtain⟨w3,SL,Rr,SU⟩:=Un w2 v' _ PK hown hlen YI;refine⟨w3,SL,⟨_,Rr,(let ⟨es,e⟩:=hm;by subst e;exact⟨_,rfl⟩),fun x' y' z'=>?_⟩,SU⟩
 by_cases hx:x'=x∧y'=y∧z'=z
 ·obtain⟨rfl,rfl,rfl⟩:=hx
  have e:psI l (n+1) x' y' z'=psI l n x' y' z'++[(n:Int)]:=by
   unfold psI;rw[rC,if_pos h3,List.map_append];rfl
  rw[e];refine .inr ?_;rw[Maps.atKey_put_same hm ((Keyed.of_law Gf).key (Cf x' y' z')),hown.datum_pos os']
 ·have e:psI l (n+1) x' y' z'=psI l n x' y' z':=by
   unfold psI;rw[rC,if_neg];intro hh;simp only[at3,Bool.and_eq_true,beq_iff_eq] at h3 hh;obtain⟨⟨a1,a2⟩,a3⟩:=hh;rw[h3.1.1] at a1;rw[h3.1.2] at a2;rw[h3.2] at a3;exact hx ⟨(Option.some.inj a1).symm,(Option.some.inj a2).symm,(Option.some.inj a3).symm⟩
  rw[e];unfold At;rw[Maps.atKey_put_other (Nf hx)];exact hat x' y' z'
theorem bx.kept{w w':World}{Bm base n:Nat}{l:List UInt8}{row:Option Nat}(h:bx w Bm base l n)(hg:w.grownBy w' row)(hb:some Bm≠row)(hr:∀blk,row=some blk→∃t cs,3≠t∧Blk w blk t cs):bx w' Bm base l n:=by
 obtain⟨D,ho,hm,hat⟩:=h;refine⟨D,ho.kept hg hb ?_,hm,hat⟩;obtain⟨es0,acg,QC,F,_⟩:=ho;intro es clock he x hx;rw[QC] at he;cases he;obtain⟨y,hy⟩:=F.reads x hx;obtain⟨z,hz,_⟩:=rd_val hy;obtain⟨zs,RP,_⟩:=rowElem_inv hz;obtain⟨A,c,hv⟩:=ja RP.1;have ho2:=RP.1;rw[hv] at ho2 ⊢;rw[ay]
 cases row with
 |none=>
  cases A with
  |none=>exact .inl rfl
  |some a=>exact .inr (by simp[aa])
 |some blk=>
  obtain⟨t,cs,hne,hblk⟩:=hr blk rfl;exact .inr (Own.ne_blk ho2 hblk hne)
theorem bx.grown{w w':World}{Bm base n:Nat}{l:List UInt8}(h:bx w Bm base l n)(hg:w.grownBy w' none):bx w' Bm base l n:=
 h.kept hg os' (fun _ e=>by cases e)
end
section
open Mt
theorem Hw(g:Nat)(A:Option Addr)(c:Nat)(l:List UInt8)(M:Value)(n:Nat)(w:World)(h:Blk w g 447 #[.slice A l.length c,M])(hm:l.length≤16777216)(hnl:n≤l.length)(hn:l.length<n+3):
  Cl 340 #[.pointer (some ⟨g,0,none⟩),.int .i64 (n:Int)] w fun e w'=>e=.returned (.tuple #[])∧∃q,w'=w.drewN q:=by
 have c0:=h.c0;have e1:IntKind.i64.wrap ((n:Int)+3)=(n:Int)+3:=i6;have h1:¬(n:Int)+3≤(l.length:Int):=oq;clear h;go_enter func340,ntmps340;go_wp2_with fail;exact bodyPost_end (v:=.tuple #[]) (results_none results340 _ _ _) rfl ⟨rfl,0,rfl⟩
theorem wN{P:Program}{w w1:World}{ops:Array Oper}{o:Oper}{a:Act}{K:Act→World→Prop}{Q:Exit→Act→World→Prop}{E:Prop}(PB:o.guard=none){m x:Operand}{t:TypeId}(ho:o.op=.mapEntry t m x){M key v:Value}(hm:a.eval m=M)(hx:a.eval x=key)(iN:(Instr.mapEntry t M key).run P w=.ok v w1)(h:K (a.put o.dst v) w1):if Region.wanted o (yielded ops a.tmps)=true then Oper.wp P o a w K Q else E:=by
 have hw:Region.wanted o (yielded ops a.tmps)=true:=by simp[Region.wanted,PB]
 rw[if_pos hw];unfold Oper.wp;simp[execOp,ho,hm,hx,iN,Result.andThen];exact h
theorem sF{P:Program}{w w1:World}{ops:Array Oper}{o:Oper}{a:Act}{K:Act→World→Prop}{Q:Exit→Act→World→Prop}{E:Prop}(PB:o.guard=none){m x s:Operand}{t:TypeId}(ho:o.op=.entryStore t m x s){M st v:Value}(hm:a.eval m=M)(hx:a.eval x=st)(hs:a.eval s=v)(iN:(Instr.entryStore t M st v).run P w=.ok () w1)(h:K (a.put o.dst undef) w1):if Region.wanted o (yielded ops a.tmps)=true then Oper.wp P o a w K Q else E:=by
 have hw:Region.wanted o (yielded ops a.tmps)=true:=by simp[Region.wanted,PB]
 rw[if_pos hw];unfold Oper.wp;simp[execOp,ho,hm,hx,hs,iN,Result.andThen];exact h
def NK(Bm base:Nat)(w:World)(i:Nat):Prop:=i=Bm∨(base≤i∧∃cs,Blk w i 3 cs)
theorem oG:fH prog 408 3 1 8:=cy underlying408 (z:=.int .i64 0) ok' od od
theorem Du(g:Nat)(A:Option Addr)(c:Nat)(l:List UInt8)(Bm base n:Nat)(w:World)(h:Blk w g 447 #[.slice A l.length c,.map (some Bm)])(hb:Bts w w.heap.size A l)(hM:bx w Bm base l n)(hm:l.length≤16777216)(hn:n+3≤l.length)(hcl:l.length≤c)(oF:base≤w.heap.size):
  Cl 340 #[.pointer (some ⟨g,0,none⟩),.int .i64 (n:Int)] w fun e w'=>e=.returned (.tuple #[])∧bx w' Bm base l (n+1)∧ab (NK Bm base w) w w':=by
 have c0:=h.c0;have c1:=h.c1;have e1:IntKind.i64.wrap ((n:Int)+3)=(n:Int)+3:=i6;have h1:(n:Int)+3≤(l.length:Int):=oq;have h0:(0:Int)≤(n:Int):=oq;obtain⟨b,o,rfl,Ov,hcell⟩:=hb.at_ oq;have d0:=hcell n oq;have d1:=hcell (n+1) oq;have d2:=hcell (n+2) oq;rw[←Nat.add_assoc] at d1 d2;have h3:at3 l n l[n] l[n+1] l[n+2]=true:=by simp[at3]
 generalize l[n]=x at*;generalize l[n+1]=y at*;generalize l[n+2]=z at*
 have hgB:g≠Bm:=by
  obtain⟨D,⟨es,clock,XS,_⟩,_⟩:=hM;intro e;subst e;have h':w.heap[g]?=some (.cells #[.slice (some ⟨b,o,none⟩) l.length c,.map (some g)] 447 (0,0)):=h;rw[h'] at XS;cases XS
 have If:=h.lt
 have hBl:Bm<w.heap.size:=by
  obtain⟨D,⟨es,clock,XS,_⟩,_⟩:=hM;exact(Array.getElem?_eq_some_iff.1 XS).1
 have HB:=Oh h;have HM:=Oh hM;have H3:=Oh h3;clear hM h3;have h5:((n:Int)+3≤(c:Int)):=oq;have a74:∀W:World,(Instr.arrayAt TK (.slice (some ⟨b,o+n,none⟩) 3 (c-n))).run prog W=.ok (.pointer (some ⟨b,o+n,none⟩)) W:=fun W=>run_arrayAt W TK _ 3 _ 3 (c-n) underlying493 (Oi _);clear h hb hcell;go_enter func340,ntmps340;go_wp2_with fail;have hS:∀W:World,Blk W g 447 #[.slice (some ⟨b,o,none⟩) l.length c,.map (some Bm)]→Blk W w.heap.size TK #[bv x,bv y,bv z]→(fun w'=>w'.cell? ⟨g,1,none⟩=some (.map (some Bm))∧w'.cell? ⟨w.heap.size,0,none⟩=some (.int .u8 (x.toNat:Int))∧w'.cell? ⟨w.heap.size,1,none⟩=some (.int .u8 (y.toNat:Int))∧w'.cell? ⟨w.heap.size,2,none⟩=some (.int .u8 (z.toNat:Int))) W:=fun W h1 h2=>⟨h1.ce,h2.ce,h2.ce,h2.ce⟩;have B1:Blk (w.alloc (.cells #[bv x,bv y,bv z] TK)) g 447 #[.slice (some ⟨b,o,none⟩) l.length c,.map (some Bm)]:=HB.out.alloc _;have K1:Blk (w.alloc (.cells #[bv x,bv y,bv z] TK)) w.heap.size TK #[bv x,bv y,bv z]:=Blk.new _ _ _;obtain⟨W2,Pe⟩:=nm (((w.alloc (.cells #[bv x,bv y,bv z] TK)).alloc (.cells #[.int .i64 (n:Int)] 3)).drew);have a75:W2.heap.size=w.heap.size+2:=by rw[Pe];simp[World.drew]
 have B2:Hid (Blk W2 g 447 #[.slice (some ⟨b,o,none⟩) l.length c,.map (some Bm)]):=Oh (by rw[Pe];exact(B1.alloc _).drew);have K2:Hid (Blk W2 w.heap.size TK #[bv x,bv y,bv z]):=Oh (by rw[Pe];exact(K1.alloc _).drew)
 have N2:Blk W2 (w.heap.size+1) 3 #[.int .i64 (n:Int)]:=by
  have h:=Blk.new (w.alloc (.cells #[bv x,bv y,bv z] TK)) 3 #[.int .i64 (n:Int)];rw[Pe];simp only[World.size_alloc] at h;exact h.drew
 have M2:bx W2 Bm base l n:=by
  rw[Pe];exact((HM.out.grown (World.grownBy_alloc w (.cells #[bv x,bv y,bv z] TK) none)).grown (World.grownBy_alloc (w.alloc (.cells #[bv x,bv y,bv z] TK)) (.cells #[.int .i64 (n:Int)] 3) none)).grown ⟨rfl,rfl,rfl,Oi _,fun _ _ _=>rfl⟩
 obtain⟨v,st,w1,iN,Px,Is,RD,OO,Un⟩:=M2.entry (by unfold maxLen;omega) H3.out;obtain⟨A',c',hv⟩:=ja RD.1;subst hv;have B3:Hid (Blk w1 g 447 #[.slice (some ⟨b,o,none⟩) l.length c,.map (some Bm)]):=Oh (B2.out.grown Px (by simpa using hgB));have K3:Hid (Blk w1 w.heap.size TK #[bv x,bv y,bv z]):=Oh (K2.out.grown Px sq);have N3:Blk w1 (w.heap.size+1) 3 #[.int .i64 (n:Int)]:=N2.grown Px sq
 have QD:am w1 (w.heap.size+2) 1 (some ⟨w.heap.size+1,0,none⟩) 1 [.int .i64 (n:Int)]:=⟨rfl,fun _=>⟨_,_,rfl,oq,fun j u hj=>by
  rw[N3.cell]
  cases j with
  |zero=>simpa using hj
  |succ j=>simp at hj⟩⟩
 have o1:ab (NK Bm base w) w w1:=by
  have h:ab (NK Bm base w) w W2:=by rw[Pe];exact(((ab.refl _ w).alloc _).alloc _).drew
  exact h.step (ab.of_grown Px) (fun i e=>.inl (.inl (by simpa using e.symm)))
 have Rg:∀i,aa A'=some i→NK Bm base w i∨w.heap.size≤i:=fun i hi=>by
  by_cases hlt:w.heap.size≤i
  ·exact .inr hlt
  ·refine .inl (.inr ?_);rcases RD.1.2 with⟨hv,_⟩|⟨gg,cap,cur,hv,hbg,hh,_⟩
   ·injection hv with hA _ _
    subst hA;cases hi
   ·injection hv with hA _ _
    subst hA;simp only[aa,Option.map_some,Option.some.injEq] at hi;subst hi;have e1:=Px.block gg (by rw[a75];omega) sq;rw[e1,Pe] at hh;refine⟨hbg,cur,?_⟩
    have e2:w.heap[gg]?=(((w.alloc (.cells #[bv x,bv y,bv z] TK)).alloc (.cells #[.int .i64 (n:Int)] 3)).drew).heap[gg]?:=by
     have h:ab (fun _=>False) w (((w.alloc (.cells #[bv x,bv y,bv z] TK)).alloc (.cells #[.int .i64 (n:Int)] 3)).drew):=(((ab.refl _ w).alloc _).alloc _).drew;exact(h.block gg oq (fun h=>h)).symm
    exact e2.trans hh
 rw[Pe] at iN;rw[Pe] at B2 K2;refine wp_region_noPanic ?_;refine aR (S:=(fun w'=>w'.cell? ⟨g,1,none⟩=some (.map (some Bm))∧w'.cell? ⟨w.heap.size,0,none⟩=some (.int .u8 (x.toNat:Int))∧w'.cell? ⟨w.heap.size,1,none⟩=some (.int .u8 (y.toNat:Int))∧w'.cell? ⟨w.heap.size,2,none⟩=some (.int .u8 (z.toNat:Int)))) (L:=11) ok' (hS _ B1.drew K1.drew) (fun hHeld=>?_);refine tT 0 ?_;refine tT 1 ?_;refine tT 2 ?_;refine tT 3 ?_;refine tT 4 ?_;refine tT 5 ?_;refine dP 6 fun K hK=>?_;go_simp;refine hK.out _ _ ?_ (fun hHeld=>?_)
 ·exact fun _=>hS _ B2.out K2.out
 clear hK K;replace hHeld:=hHeld od
 try go_simp
 refine dP 7 fun K hK=>?_;refine wN (by rfl) (by rfl) (by rfl) (by rfl) iN ?_;refine hK.out _ _ ?_ (fun hHeld=>?_)
 ·exact fun _=>hS _ B3.out K3.out
 clear hK K;replace hHeld:=hHeld od
 try go_simp
 refine tT 8 ?_;refine tT 10 ?_;refine dP 9 fun K hK=>?_;refine bo (by rfl) (by rfl) oG (by rfl) (show Own w1 base 3 1 A' _ c' _ from RD.1) (by rfl) QD (by simp[Value.oneCell']) _ rfl _ rfl (by simp[psI,maxLen];have:=sv l n x y z;omega) (by simp[psI];have:=sv l n x y z;omega) (by rw[Is,a75];omega) ?_;intro A2 c2 w3 Rr SU Si;have ach:w3.ownsInts base 3 .i64 (.slice A2 ((psI l n x y z).length+1) c2) (psI l n x y z++[(n:Int)]):=RD.appended Rr (by simp[Lit.wf,IntKind.min,IntKind.max,IntKind.bits,IntKind.signed];omega)
 have YI:(Value.slice A2 ((psI l n x y z).length+1) c2).ownBlock=(Value.slice A' (psI l n x y z).length c').ownBlock∨∃g,(Value.slice A2 ((psI l n x y z).length+1) c2).ownBlock=some g∧W2.heap.size≤g:=by
  rw[ay,ay];exact Si.imp id (fun e=>⟨_,e,by rw[Is];exact Oi _⟩)
 have o3:ab (NK Bm base w) w w3:=o1.step (ab.of_grown SU) Rg;obtain⟨w4,Vm,hM4,Yb⟩:=Un w3 _ (by rw[ay];exact SU) ach YI;have o4:ab (NK Bm base w) w w4:=o3.step (ab.of_grown Yb) (fun i e=>.inl (.inl (by simpa using e.symm)));have B4:=Blk.grown B3.out SU (fun e=>Own.ne_blk (show Own w1 base 3 1 A' _ c' _ from RD.1) B3.out od e.symm);have K4:=Blk.grown K3.out SU (fun e=>Own.ne_blk (show Own w1 base 3 1 A' _ c' _ from RD.1) K3.out od e.symm);refine hK.out _ _ ?_ (fun hHeld=>?_)
 ·exact fun _=>hS _ B4 K4
 clear hK K;replace hHeld:=hHeld od
 try go_simp
 refine dP 11 fun K hK=>?_;refine sF (by rfl) (by rfl) (by rfl) (by rfl) (by rfl) Vm ?_;refine hK.out _ _ ?_ (fun hHeld=>?_)
 ·exact fun h=>absurd rfl h
 clear hK K
 try go_simp
 refine me ?_;go_wp2_with fail;exact bodyPost_end (v:=.tuple #[]) (results_none results340 _ _ _) rfl ⟨rfl,hM4,o4⟩
theorem L6(g:Nat)(A:Option Addr)(c:Nat)(l:List UInt8)(Bm base n:Nat)(w:World)(h:Blk w g 447 #[.slice A l.length c,.map (some Bm)])(hb:Bts w w.heap.size A l)(hM:bx w Bm base l n)(hm:l.length≤16777216)(hnl:n≤l.length)(hcl:l.length≤c)(oF:base≤w.heap.size):
  Cl 340 #[.pointer (some ⟨g,0,none⟩),.int .i64 (n:Int)] w fun e w'=>e=.returned (.tuple #[])∧bx w' Bm base l (n+1)∧ab (NK Bm base w) w w':=by
 by_cases hn:n+3≤l.length
 ·exact Du g A c l Bm base n w h hb hM hm hn hcl oF
 ·refine(Hw g A c l _ n w h hm hnl oq).mono ?_;rintro e w' ⟨rfl,q,rfl⟩;exact⟨rfl,(hM.skip oq).grown ⟨rfl,rfl,rfl,Oi _,fun _ _ _=>rfl⟩,(ab.refl _ w).drewN q⟩
def tb(x:Nat)(t:Nat×Nat):Nat:=if t.1=0 then x else 0
def pi(x:Nat)(t:Nat×Nat):Array Value:=#[.int .u8 (tb x t:Nat),.int .i64 (t.1:Int),.int .i64 (t.2:Int)]
theorem tk(x:Nat)(t:Nat×Nat)(n q:Nat)(h:0<n):(((pi x t).setIfInBounds 0 (.int .u8 0)).setIfInBounds 1 (.int .i64 (n:Int))).setIfInBounds 2 (.int .i64 (q:Int))=pi x (n,q):=by
 have:n≠0:=oq;simp[pi,tb,this]
def xD(x:Nat)(t:Nat×Nat):Value:=.agg (pi x t)
theorem F3(g:Nat)(A:Option Addr)(c:Nat)(l:List UInt8)(M:Value)(a:Nat)(w:World)(h:Blk w g 447 #[.slice A l.length c,M])(hb:Bts w w.heap.size A l)(hm:l.length≤16777216)(ha:a<l.length)(hn:l.length<a+3):
  Cl 339 #[.pointer (some ⟨g,0,none⟩),.int .i64 (a:Int)] w (Rb (xD l[a].toNat (0,0)) w):=by
 obtain⟨b,o,rfl,Ov,hcell⟩:=hb.at_ oq;have c0:=h.c0;have d0:=hcell a ha;have e1:IntKind.i64.wrap ((a:Int)+3)=(a:Int)+3:=i6;have h1:(l.length:Int)<(a:Int)+3:=oq;have hai:(a:Int)<(l.length:Int):=oq;have If:=h.lt;generalize l[a]=x at*;clear h hb hcell;go_enter func339,ntmps339;go_wp2_with fail;refine bodyPost_ret (v:=.agg #[.int .u8 (x.toNat:Int),.int .i64 0,.int .i64 0]) (results_cell_row results339 _ _ w.heap.size 379 _ (0,0) _ ?_ ?_ underlying379 (by rfl) ok') ?_ ?_
 ·rfl
 ·exact(Below.heap_alloc _ _ w.heap.size os').trans (heap_alloc_new _ _)
 ·rfl
 refine⟨rfl,?_⟩
 ·exact(Ba).alloc os' _
end
end Go.Proofs.YtmbippkpjdoojaaGreat.Mat
