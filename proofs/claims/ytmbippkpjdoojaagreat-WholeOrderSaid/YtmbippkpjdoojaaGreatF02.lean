/- Parts of a proof, merged. -/
import Derived.Test.YtmbippkpjdoojaaGreatF01
import Derived.BigQuiet
import Derived.Deep.CutBlock
import Derived.Deep.DeepCutAuto
import Derived.Laws.CopyOwn
import Derived.Laws.DeepNot64
import Derived.Lib.LazyBuf
import Derived.Lib.Overlaps
import Derived.Lib.Small
import Derived.Lib.Walk
import Derived.Maps.Ext
import Derived.Shelf.Bits.Mul64
import Derived.StillTailTactics
set_option maxRecDepth 100000
set_option maxHeartbeats 1600000
namespace Go.Proofs.YtmbippkpjdoojaaGreat
open Tryz
open Go.RowKit
theorem ub {p:Prop} (h:p:=by
  have hkN:k=N:=oq
  have HOF:Hid (OS E w wr x m YS cS S (Py N) (fun i=>i=gs) (fun W=>Blk W gs 29 (spC sk lo hs d gr ac sz))):=Oh (by
   have h:=Xv.out;rw[hkN] at h;exact h)
  clear Xv hkN UL Zm
  have Qd:∀k,k<5→inv N (Py N k).1 (Py N k).2:=fun k hk=>by
   by_cases e4:k=4
   ·subst e4;exact Xw.out N a4n
   ·rw[a93.out N k e4];exact UM.out N k a4n
  obtain⟨s3,Zn⟩:∃s3,s3=(max (Py N 3).1 (Py N 1).1,az (Py N 3).2 (Py N 1).2):=⟨_,rfl⟩;have hi3:inv (N+N) s3.1 s3.2:=by rw[Zn];exact HKO.out.invT N N _ _ _ _ (Qd 3 (by decide)) (Qd 1 (by decide)) oq
  have Uo:=Oh (show Cl 11 #[.pointer (some ⟨x,0,none⟩),.agg #[.int .u8 3,.int .u32 3,.int .u32 1,.int .u8 0,.int .i64 0,.int .i64 0,.int .i64 0,.bool false,.int .i64 0,.int .i64 0,.int .i64 0,.int .u64 0,.int .u64 0,.int .u64 0,.slice none 0 0,.slice none 0 0,.int .i64 0,.int .i64 0,.slice none 0 0]] wr (fun o w'=>o=.returned (.agg (rz (.slice none 0 0)))∧∃Q',OS E w w' x m YS cS Q' (ii (Py N) 3 s3) (fun i=>i=gs) (fun W=>Blk W gs 29 (spC sk lo hs d gr ac sz))) from by
   rw[Zn];exact vA HKO.out HOF.out 3 1 (by decide) (by decide) (by decide) N N (Qd 3 (by decide)) (Qd 1 (by decide)) oq)
  obtain⟨st1,VP⟩:∃s,s=ii (Py N) 3 s3:=⟨_,rfl⟩;have g2:st1 2=Py N 2:=by rw[VP];rfl
  have g3:st1 3=s3:=by rw[VP];rfl
  have g0:st1 0=BL:=by rw[VP,←a4o.out];rfl
  have g4:st1 4=BL:=by rw[VP,←a94.out];rfl
  rw[←VP] at Uo
  have PW:=Oh (fun V Q (h:OS E w V x m YS cS Q st1 (fun i=>i=gs) (fun W=>Blk W gs 29 (spC sk lo hs d gr ac sz)))=>show Cl 11 #[.pointer (some ⟨x,0,none⟩),.agg #[.int .u8 3,.int .u32 2,.int .u32 3,.int .u8 0,.int .i64 0,.int .i64 0,.int .i64 0,.bool false,.int .i64 0,.int .i64 0,.int .i64 0,.int .u64 0,.int .u64 0,.int .u64 0,.slice none 0 0,.slice none 0 0,.int .i64 0,.int .i64 0,.slice none 0 0]] V (fun o w'=>o=.returned (.agg (rz (.slice none 0 0)))∧∃Q',OS E w w' x m YS cS Q' (ii st1 2 BL) (fun i=>i=gs) (fun W=>Blk W gs 29 (spC sk lo hs d gr ac sz))) from by
   have h9:=vA HKO.out h 2 3 (by decide) (by decide) (by decide) N (N+N) (by rw[g2];exact Qd 2 (by decide)) (by rw[g3];exact hi3) oq;rw[g2,g3,Zn,a95.out] at h9;exact h9)
  obtain⟨st2,Xx⟩:∃s,s=ii st1 2 BL:=⟨_,rfl⟩;have Pg:Hid (st2 0=BL∧st2 2=BL∧st2 4=BL):=Oh ⟨by rw[Xx,←g0];rfl,by rw[Xx];rfl,by rw[Xx,←g4];rfl⟩;rw[←Xx] at PW;have HIB:Hid (inv N BL.1 BL.2):=Oh (by rw[←a4o.out];exact Qd 0 (by decide));obtain⟨v3,SQ⟩:∃v3,v3=ver%3:=⟨_,rfl⟩;have q1:(ver:Int)%3=(v3:Int):=oq;have q2:Int.tmod (ver:Int) 3=(v3:Int):=by rw[Int.tmod_eq_emod_of_nonneg oq];exact q1
  have afH:v3<3:=oq;obtain⟨T,hT⟩:∃T,T=txt (1+v3) BL.1 BL.2:=⟨_,rfl⟩
  have HE:=Oh (fun V Q G P (k:Nat) (hk:k<5) (hb:st2 k=BL) (h:OS E w V x m YS cS Q st2 G P)=>show Cl 11 #[.pointer (some ⟨x,0,none⟩),.agg (acC ⟨7,k,0,0,0,0,0,false,0,0,0,0,0,0,none,0,0,none,0,0,((1+v3:Nat):Int),0,none,0,0⟩)] V (fun o w'=>∃A' c',o=.returned (.agg (bC 0 0 false 0 0 0 0 (.slice A' T.length c')))∧ak w' V.heap.size A' c' T∧Below V.heap.size V w') from by
   have h9:=Bd HKO.out h k hk N (1+v3) (by rw[hb];exact HIB.out) oq oq;rw[hb,←hT] at h9;exact h9)
  clear Zn hi3 VP Xx g0 g2 g3 g4 Qd SQ hT;go_wp2_with fail;refine Uo.out.mono ?_;rintro e w5 ⟨rfl,Q5,h5⟩;have Up:=Oh (PW.out w5 Q5 h5);clear h5;go_wp2_with fail;refine Up.out.mono ?_;rintro e w6 ⟨rfl,Q6,h6⟩;have H6:=Oh h6;have WV:=Oh (show Cl 11 #[.pointer (some ⟨x,0,none⟩),.agg #[.int .u8 7,.int .u32 0,.int .u32 0,.int .u8 0,.int .i64 0,.int .i64 0,.int .i64 0,.bool false,.int .i64 0,.int .i64 0,.int .i64 0,.int .u64 0,.int .u64 0,.int .u64 0,.slice none 0 0,.slice none 0 0,.int .i64 (1+(v3:Int)),.int .i64 0,.slice none 0 0]] w6 _ from HE.out w6 Q6 _ _ 0 (by decide) Pg.out.1 h6);clear h6;go_wp2_with fail;refine WV.out.mono ?_;rintro e w7 ⟨A7,c7,rfl,ho,hb⟩;have H7:=Oh (H6.out.as' (H6.out.as_.bytes hb ho));clear ho hb;go_wp2_with (first|(refine wpList_store_row rfl 39 _ _ rfl w7.heap.size (bC 0 0 false 0 0 0 0 (.slice A7 T.length c7)) rfl rfl 39 (ap 0) (Blk.new w7 _ _) aF rfl aP ?_)|fail);obtain⟨r7,hr7⟩:∃r,r=w7.heap.size:=⟨_,rfl⟩;have h8:=AS.res (t:=39) (z:=(rz (.slice none 0 0))) (cs:=(bC 0 0 false 0 0 0 0 (.slice A7 T.length c7))) H7.out.as_;rw[←hr7] at h8;rw[←hr7];have H8:=Oh (H7.out.as' h8);generalize(w7.alloc (.cells (rz (.slice none 0 0)) 39)).setRow r7 (bC 0 0 false 0 0 0 0 (.slice A7 T.length c7))=W8 at*;clear h8 hr7;have YT:=Oh (show Cl 11 #[.pointer (some ⟨x,0,none⟩),.agg #[.int .u8 7,.int .u32 2,.int .u32 0,.int .u8 0,.int .i64 0,.int .i64 0,.int .i64 0,.bool false,.int .i64 0,.int .i64 0,.int .i64 0,.int .u64 0,.int .u64 0,.int .u64 0,.slice none 0 0,.slice none 0 0,.int .i64 (1+(v3:Int)),.int .i64 0,.slice none 0 0]] W8 _ from HE.out W8 Q6 _ _ 2 (by decide) Pg.out.2.1 H8.out);refine YT.out.mono ?_;rintro e w9 ⟨A9,c9,rfl,ho,hb⟩;have H9:=Oh (H8.out.as' (H8.out.as_.bytes hb ho));clear ho hb;go_wp2_with (first|(refine wpList_store_row rfl 39 _ _ rfl w9.heap.size (bC 0 0 false 0 0 0 0 (.slice A9 T.length c9)) rfl rfl 39 (ap 0) (Blk.new w9 _ _) aF rfl aP ?_)|fail);obtain⟨r9,hr9⟩:∃r,r=w9.heap.size:=⟨_,rfl⟩;have VQ:=AS.res (t:=39) (z:=(rz (.slice none 0 0))) (cs:=(bC 0 0 false 0 0 0 0 (.slice A9 T.length c9))) H9.out.as_
  rw[←hr9] at VQ;rw[←hr9];have H10:=Oh (H9.out.as' VQ);generalize(w9.alloc (.cells (rz (.slice none 0 0)) 39)).setRow r9 (bC 0 0 false 0 0 0 0 (.slice A9 T.length c9))=W10 at*;clear VQ hr9;have YU:=Oh (show Cl 11 #[.pointer (some ⟨x,0,none⟩),.agg #[.int .u8 7,.int .u32 4,.int .u32 0,.int .u8 0,.int .i64 0,.int .i64 0,.int .i64 0,.bool false,.int .i64 0,.int .i64 0,.int .i64 0,.int .u64 0,.int .u64 0,.int .u64 0,.slice none 0 0,.slice none 0 0,.int .i64 (1+(v3:Int)),.int .i64 0,.slice none 0 0]] W10 _ from HE.out W10 Q6 _ _ 4 (by decide) Pg.out.2.2 H10.out);refine YU.out.mono ?_;rintro e Qe ⟨A11,c11,rfl,ho,hb⟩;have Zo:=Oh (H10.out.as' (H10.out.as_.bytes hb ho));clear ho hb;obtain⟨WF,hWF⟩:∃WF,WF=(Qe.alloc (.cells (rz (.slice none 0 0)) 39)).setRow Qe.heap.size (bC 0 0 false 0 0 0 0 (.slice A11 T.length c11)):=⟨_,rfl⟩;obtain⟨r11,a1z⟩:∃r,r=Qe.heap.size:=⟨_,rfl⟩;have hf:=AS.res (t:=39) (z:=(rz (.slice none 0 0))) (cs:=bC 0 0 false 0 0 0 0 (.slice A11 T.length c11)) Zo.out.as_;rw[←hWF,←a1z] at hf;rw[←a1z] at hWF;have y70:WF.cell? ⟨r7,0,none⟩=some (.int .i64 0):=by rw[hf.held.it.1.1.1.1.2.cell];rfl
  have y71:WF.cell? ⟨r7,1,none⟩=some (.int .i64 0):=by rw[hf.held.it.1.1.1.1.2.cell];rfl
  have y72:WF.cell? ⟨r7,2,none⟩=some (.bool false):=by rw[hf.held.it.1.1.1.1.2.cell];rfl
  have y73:WF.cell? ⟨r7,3,none⟩=some (.int .u64 0):=by rw[hf.held.it.1.1.1.1.2.cell];rfl
  have y74:WF.cell? ⟨r7,4,none⟩=some (.int .u64 0):=by rw[hf.held.it.1.1.1.1.2.cell];rfl
  have y75:WF.cell? ⟨r7,5,none⟩=some (.int .u64 0):=by rw[hf.held.it.1.1.1.1.2.cell];rfl
  have y76:WF.cell? ⟨r7,6,none⟩=some (.int .u64 0):=by rw[hf.held.it.1.1.1.1.2.cell];rfl
  have y77:WF.cell? ⟨r7,7,none⟩=some (.slice A7 T.length c7):=by rw[hf.held.it.1.1.1.1.2.cell];rfl
  have y90:WF.cell? ⟨r9,0,none⟩=some (.int .i64 0):=by rw[hf.held.it.1.1.2.cell];rfl
  have y91:WF.cell? ⟨r9,1,none⟩=some (.int .i64 0):=by rw[hf.held.it.1.1.2.cell];rfl
  have y92:WF.cell? ⟨r9,2,none⟩=some (.bool false):=by rw[hf.held.it.1.1.2.cell];rfl
  have y93:WF.cell? ⟨r9,3,none⟩=some (.int .u64 0):=by rw[hf.held.it.1.1.2.cell];rfl
  have y94:WF.cell? ⟨r9,4,none⟩=some (.int .u64 0):=by rw[hf.held.it.1.1.2.cell];rfl
  have y95:WF.cell? ⟨r9,5,none⟩=some (.int .u64 0):=by rw[hf.held.it.1.1.2.cell];rfl
  have y96:WF.cell? ⟨r9,6,none⟩=some (.int .u64 0):=by rw[hf.held.it.1.1.2.cell];rfl
  have y97:WF.cell? ⟨r9,7,none⟩=some (.slice A9 T.length c9):=by rw[hf.held.it.1.1.2.cell];rfl
  have WW:Hid (Blk WF r7 39 (bC 0 0 false 0 0 0 0 (.slice A7 T.length c7))):=Oh hf.held.it.1.1.1.1.2;have SR:Hid (Blk WF r9 39 (bC 0 0 false 0 0 0 0 (.slice A9 T.length c9))):=Oh hf.held.it.1.1.2;have Xy:Hid (Blk WF r11 39 (bC 0 0 false 0 0 0 0 (.slice A11 T.length c11))):=Oh hf.held.it.2;have YV:Hid (Bts WF WF.heap.size A7 T):=Oh (ak.reads hf.held.it.1.1.1.1.1.2);have WX:Hid (Bts WF WF.heap.size A9 T):=Oh (ak.reads hf.held.it.1.1.1.2);have Zp:Hid (Bts WF WF.heap.size A11 T):=Oh (ak.reads hf.held.it.1.2);have HWB:=Oh hf.below;have By:=Oh (show Cl 12 #[.agg (rz (.slice A7 T.length c7)),.agg (rz (.slice A9 T.length c9))] WF _ from Ft A7 A9 c7 c9 T WF YV.out WX.out);clear hf;subst hWF;subst a1z;go_wp2_with (first|(refine wpList_store_row rfl 39 _ _ rfl Qe.heap.size (bC 0 0 false 0 0 0 0 (.slice A11 T.length c11)) rfl rfl 39 (ap 0) (Blk.new Qe _ _) aF rfl aP ?_)|fail);refine By.out.mono ?_;rintro e RV ⟨rfl,VR⟩;have uN:=Oh (show Cl 12 #[.agg (rz (.slice A7 T.length c7)),.agg (rz (.slice A11 T.length c11))] RV _ from Ft A7 A11 c7 c11 T RV (YV.out.at_below VR) (Zp.out.at_below VR));have HY7:=Oh (WW.out.below VR WW.out.lt);have TL:=Oh (Xy.out.below VR Xy.out.lt);have Zq:=Oh (ai HWB.out VR);clear VR y70 y71 y72 y73 y74 y75 y76 y77 y90 y91 y92 y93 y94 y95 y96 y97;have x70:RV.cell? ⟨r7,0,none⟩=some (.int .i64 0):=by rw[HY7.out.cell];rfl
  have x71:RV.cell? ⟨r7,1,none⟩=some (.int .i64 0):=by rw[HY7.out.cell];rfl
  have x72:RV.cell? ⟨r7,2,none⟩=some (.bool false):=by rw[HY7.out.cell];rfl
  have x73:RV.cell? ⟨r7,3,none⟩=some (.int .u64 0):=by rw[HY7.out.cell];rfl
  have x74:RV.cell? ⟨r7,4,none⟩=some (.int .u64 0):=by rw[HY7.out.cell];rfl
  have x75:RV.cell? ⟨r7,5,none⟩=some (.int .u64 0):=by rw[HY7.out.cell];rfl
  have x76:RV.cell? ⟨r7,6,none⟩=some (.int .u64 0):=by rw[HY7.out.cell];rfl
  have x77:RV.cell? ⟨r7,7,none⟩=some (.slice A7 T.length c7):=by rw[HY7.out.cell];rfl
  have x90:RV.cell? ⟨Qe.heap.size,0,none⟩=some (.int .i64 0):=by rw[TL.out.cell];rfl
  have x91:RV.cell? ⟨Qe.heap.size,1,none⟩=some (.int .i64 0):=by rw[TL.out.cell];rfl
  have x92:RV.cell? ⟨Qe.heap.size,2,none⟩=some (.bool false):=by rw[TL.out.cell];rfl
  have x93:RV.cell? ⟨Qe.heap.size,3,none⟩=some (.int .u64 0):=by rw[TL.out.cell];rfl
  have x94:RV.cell? ⟨Qe.heap.size,4,none⟩=some (.int .u64 0):=by rw[TL.out.cell];rfl
  have x95:RV.cell? ⟨Qe.heap.size,5,none⟩=some (.int .u64 0):=by rw[TL.out.cell];rfl
  have x96:RV.cell? ⟨Qe.heap.size,6,none⟩=some (.int .u64 0):=by rw[TL.out.cell];rfl
  have x97:RV.cell? ⟨Qe.heap.size,7,none⟩=some (.slice A11 T.length c11):=by rw[TL.out.cell];rfl
  go_wp2_with fail;refine uN.out.mono ?_;rintro e YW ⟨rfl,UN⟩;have a99:=Oh (ai Zq.out UN);clear UN;go_wp2_with fail;go_ret;exact⟨rfl,a99.out⟩):p:=h
theorem uV {p:Prop} (h:p:=by
  obtain⟨hb,ho⟩:=h;unfold ak at ho
  by_cases h8:L.length%8=0
  ·have e8:(((L.length:Int)%8)==0)=true:=sq;obtain⟨P,hP⟩:=nm (room L);have hPp:bvs (bM L)++bvs [0]=bvs P:=by rw[hP,room,if_pos h8,aE]
   have hPl:(bM L).length+1=P.length:=by rw[hP,room,if_pos h8];simp
   have hPm:P.length≤1000000000:=by rw[hP,cW];omega
   have c0:=hb.c0;have c1:=hb.c1;have fr:=hb.free;have HB:=Oh hb;have HO:=Oh ho;have HPP:=Oh hPp;have RG:=Oh hPl;have HP:=Oh hP;have H8:=Oh h8;clear hb ho hPp hPl hP h8;go_enter func338,ntmps338;go_wp2_with (at_builtin;refine Hid.out ?_);have nE:=Own.alloc HO.out (.cells #[.int .u8 0] 5);refine aj (xs:=bvs (bM L)) rfl rfl bu rfl nE rfl (cX w 0) (aO _) P.length RG.out (bvs P) HPP.out (by unfold maxLen;omega) oq (by have:=HB.out.lt;simp;omega) ?_;intro A3 c3 w3 o3 g3 q3;have dO:=(HB.out.alloc (.cells #[.int .u8 0] 5)).grown g3 (fun e=>Own.ne_blk nE (HB.out.alloc _) od e.symm);have Xz:=dO.free;have WY:=dO.c0;have c13:=dO.c1;have RW:ab (WK g A) w w3:=((ab.refl (WK g A) w).alloc _).step (ab.of_grown g3) (fun i hi=>.inl (.inr hi));have hbn:aa A3≠some g:=Own.ne_blk o3 dO od;have hb:=dO.put 0 (.slice A3 P.length c3);have ho:=Own.setOther o3 (p:=⟨g,0,none⟩) hbn (.slice A3 P.length c3);have PR:=RW.set (p:=⟨g,0,none⟩) (.inl (.inl rfl)) (.slice A3 P.length c3);have YX:Hid (aa A3=aa A∨∃i,aa A3=some i∧w.heap.size≤i):=Oh (q3.imp id (fun e=>⟨_,e,by simp⟩));have oN:=Oh hb;have Pk:=Oh ho;have RH:=Oh PR;clear nE o3 g3 q3 dO RW hbn hb ho PR c0 c1 fr;go_wp2_with fail;have hb:=oN.out;have ho:=Pk.out;have PR:=RH.out;have hP:=HP.out;have h8:=H8.out;clear WY c13 Xz oN Pk RH HB HO HPP RG HP H8;generalize w3.setCell ⟨g,0,none⟩ (.slice A3 P.length c3)=w4 at*;have c0:=hb.c0;have c1:=hb.c1;have fr:=hb.free;clear e8;obtain⟨gb,hA,hbg,If,Sm,hcl,fz⟩:=Own.form (show Own w4 g 5 1 A3 P.length c3 (bvs P) from ho) (by rw[hP,cW];omega);subst hA;have hne:¬g=gb:=Blk.ne_own hb ho;have Qo:¬gb=g:=fun e=>hne e.symm;obtain⟨q,hq⟩:=nm (L.length/8);obtain⟨r,hr⟩:=nm (L.length%8);obtain⟨a,ha⟩:=nm (num (L.drop (8*q)))
   have har:a<2^r:=by
    have:=xX (L.drop (8*q));rw[←ha,List.length_drop] at this;rw[show r=L.length-8*q by omega];exact this
   have XA:a<256:=Nat.lt_of_lt_of_le har (Oo (Nat.pow_le_pow_right od (show r≤8 by omega)) od)
   have hcq:=hcl q (.int .u8 (a:Int)) (by
    have h1:=yv L;rw[←hq,←hP,←ha] at h1;simp only[bvs,List.getElem?_map,h1,bv,Option.map_some,UInt8.toNat_ofNat',Nat.mod_eq_of_lt XA])
   have hqp:(q:Int)<(P.length:Int):=by
    have:=cW L;rw[←hP] at this;omega
   have eq1:(L.length:Int)/8=(q:Int):=oq;have eq2:(L.length:Int)%8=(r:Int):=oq;have eq3:(L.length:Int).tmod 8=(r:Int):=by rw[Int.tmod_eq_emod_of_nonneg oq];exact eq2
   have eq4:IntKind.i64.wrap (q:Int)=(q:Int):=i6
   have hand:bits .and .u32 (n:Int) 1=((n%2:Nat):Int):=by
    rw[show(1:Int)=((1:Nat):Int) from rfl,u32_and_nat _ _ hn oq,nat_mask1]
   have hval:=yy (n:=n) (show r<8 by omega) har;obtain⟨W,hW⟩:=nm ({w4 with drawn:=w4.drawn+1}:World);have k0:W.cell? ⟨g,0,none⟩=some (.slice (some ⟨gb,0,none⟩) P.length c3):=by rw[hW];exact c0
   have k1:W.cell? ⟨g,1,none⟩=some (.int .i64 (L.length:Int)):=by rw[hW];exact c1
   have k2:W.cell? ⟨gb,q,none⟩=some (.int .u8 (a:Int)):=by rw[hW];exact hcq
   have k3:∀i,W.frozen? ⟨g,i,none⟩=false:=by rw[hW];exact fr
   have k4:∀i,W.frozen? ⟨gb,i,none⟩=false:=by rw[hW];exact fz
   have XB:=Oh (jp (W:=W) (n:=n) hP hq (by rw[hW];exact hb) (by rw[hW];exact ho) hne);have XC:Hid (ab (WK g A) w W):=Oh (by rw[hW];exact PR.drew);have HGK:Hid (WK g A gb∨w.heap.size≤gb):=Oh (YX.out.elim (fun e=>.inl (.inr e.symm)) (fun⟨i,e,hi⟩=>.inr (by rw[show gb=i by simpa [aa] using e];exact hi)));rw[←ha,←hr] at XB;generalize UInt8.ofNat (a+(decide (n%2=1)).toNat*2^r)=nv at*;clear hq hr ha har XA hcl Sm;have HW:=Oh hW;clear hW hP h8 hb ho PR;refine wp_region_still_tail 22 ok' ok' ?_;simp only[List.take_succ_cons,List.take_zero,List.drop_succ_cons,List.drop_zero];rw[←HW.out]
   repeat still_step
   refine wpStill_nil ?_;go_wp2_with fail;exact bodyPost_end (v:=.tuple #[]) (results_none results338 _ _ _) rfl ⟨rfl,_,_,XB.out,(XC.out.set (p:=⟨gb,q,none⟩) HGK.out _).set (p:=⟨g,1,none⟩) (.inl (.inl rfl)) _,YX.out⟩
  ·have e8:(((L.length:Int)%8)==0)=false:=sq;obtain⟨P,hP⟩:=nm (room L);have hPp:bM L=P:=by rw[hP,room,if_neg h8]
   rw[hPp] at hb ho;have c0:=hb.c0;have c1:=hb.c1;have fr:=hb.free;obtain⟨gb,hA,hbg,If,Sm,hcl,fz⟩:=Own.form (show Own w g 5 1 A P.length c (bvs P) from ho) (by rw[hP,cW];omega);subst hA;have hne:¬g=gb:=Blk.ne_own hb ho;have Qo:¬gb=g:=fun e=>hne e.symm;obtain⟨q,hq⟩:=nm (L.length/8);obtain⟨r,hr⟩:=nm (L.length%8);obtain⟨a,ha⟩:=nm (num (L.drop (8*q)))
   have har:a<2^r:=by
    have:=xX (L.drop (8*q));rw[←ha,List.length_drop] at this;rw[show r=L.length-8*q by omega];exact this
   have XA:a<256:=Nat.lt_of_lt_of_le har (Oo (Nat.pow_le_pow_right od (show r≤8 by omega)) od)
   have hcq:=hcl q (.int .u8 (a:Int)) (by
    have h1:=yv L;rw[←hq,←hP,←ha] at h1;simp only[bvs,List.getElem?_map,h1,bv,Option.map_some,UInt8.toNat_ofNat',Nat.mod_eq_of_lt XA])
   have hqp:(q:Int)<(P.length:Int):=by
    have:=cW L;rw[←hP] at this;omega
   have eq1:(L.length:Int)/8=(q:Int):=oq;have eq2:(L.length:Int)%8=(r:Int):=oq;have eq3:(L.length:Int).tmod 8=(r:Int):=by rw[Int.tmod_eq_emod_of_nonneg oq];exact eq2
   have eq4:IntKind.i64.wrap (q:Int)=(q:Int):=i6
   have hand:bits .and .u32 (n:Int) 1=((n%2:Nat):Int):=by
    rw[show(1:Int)=((1:Nat):Int) from rfl,u32_and_nat _ _ hn oq,nat_mask1]
   have hval:=yy (n:=n) (show r<8 by omega) har;obtain⟨W,hW⟩:=nm ({w with drawn:=w.drawn+1}:World);have k0:W.cell? ⟨g,0,none⟩=some (.slice (some ⟨gb,0,none⟩) P.length c):=by rw[hW];exact c0
   have k1:W.cell? ⟨g,1,none⟩=some (.int .i64 (L.length:Int)):=by rw[hW];exact c1
   have k2:W.cell? ⟨gb,q,none⟩=some (.int .u8 (a:Int)):=by rw[hW];exact hcq
   have k3:∀i,W.frozen? ⟨g,i,none⟩=false:=by rw[hW];exact fr
   have k4:∀i,W.frozen? ⟨gb,i,none⟩=false:=by rw[hW];exact fz
   have XB:=Oh (jp (W:=W) (n:=n) hP hq (by rw[hW];exact hb) (by rw[hW];exact ho) hne);have XC:Hid (ab (WK g (some ⟨gb,0,none⟩)) w W):=Oh (by rw[hW];exact(ab.refl _ w).drew);have HGK:Hid (WK g (some ⟨gb,0,none⟩) gb∨w.heap.size≤gb):=Oh (.inl (.inr rfl));rw[←ha,←hr] at XB;generalize UInt8.ofNat (a+(decide (n%2=1)).toNat*2^r)=nv at*;clear hq hr ha har XA hcl Sm;have e9:((r:Int)==0)=false:=by rw[←eq2];exact e8
   have HW:=Oh hW;clear hW hP hPp h8 hb ho e8;go_enter func338,ntmps338;go_wp2_with fail;refine wp_region_still_tail 22 ok' ok' ?_;simp only[List.take_succ_cons,List.take_zero,List.drop_succ_cons,List.drop_zero];rw[←HW.out]
   repeat still_step
   refine wpStill_nil ?_;go_wp2_with fail;exact bodyPost_end (v:=.tuple #[]) (results_none results338 _ _ _) rfl ⟨rfl,_,_,XB.out,(XC.out.set (p:=⟨gb,q,none⟩) HGK.out _).set (p:=⟨g,1,none⟩) (.inl (.inl rfl)) _,.inl rfl⟩):p:=h
theorem kn {p:Prop} (h:p:=by
  clear Rd hp HI;refine wp_region_noPanic ?_;refine ag (S:=(fun(_:World)=>True)) (L:=8) ok' trivial (fun hHeld=>?_);have TN:=Oh OY.out.drew;have OL:Hid (Below w.heap.size w w0.drew):=Oh oK.out.drew;clear OY oK;generalize w0.drew=wd at*;refine tV 1 ?_;refine tV 2 ?_;refine tV 5 ?_;refine tV 6 ?_;refine bO 0 fun K hK=>?_;go_simp;refine(iP _).mono ?_;rintro e v4 ⟨rfl,b4⟩;have YY:=Oh (TN.out.below b4 TN.out.lt);have oN:Hid (Below w.heap.size w v4):=Oh (ai OL.out b4);clear b4;replace hHeld:=trivial;refine hK.out _ _ hHeld ?_;clear hK K;try go_simp
  refine tV 3 ?_;refine tV 4 ?_;refine bO 7 fun K hK=>?_;go_simp;refine(oO A t.length c (bvs t) _ (TP.out.at_below oN.out) (aO _) (by have:=Qf.out;omega)).mono ?_;rintro e v7 ⟨A7,c7,rfl,o7,b7⟩;have WZ:=Oh (YY.out.below b7 YY.out.lt);have Qx:Hid (Below w.heap.size w v7):=Oh (ai oN.out b7);have HO7:Hid (ak v7 w.heap.size A7 c7 t):=Oh (Own.mono o7 oN.out.size);clear o7 b7;replace hHeld:=trivial;refine hK.out _ _ hHeld ?_;clear hK K;try go_simp
  refine iV 8 fun K hK=>?_;go_simp;refine(HR.out _ p A7 c7 Qx.out WZ.out PD.out HO7.out).mono ?_;rintro e v5 ⟨rfl,f,rfl,hf,hh,hn,hk⟩;have OE:Hid (Below w.heap.size w v5):=Oh (Qx.out.trans (hk.below Qx.out.size (fun i hi=>by rw[hi];exact PD.out)));have Tr:=Oh (And.intro hf hh);have QS:Hid (∀i,f.F i→w.heap.size≤i):=Oh (fun i hi=>(hn i hi).elim (fun e=>by rw[e];exact PD.out) (fun h=>Oo Qx.out.size h));clear hf hh hn hk HR;refine hK.out _ _ ?_;clear hK K;try go_simp
  refine aA 9 ?_;refine cD ?_;clear hHeld;go_wp2_with fail;refine(HS.out _ f Tr.out.1 Tr.out.2).mono ?_;rintro e v6 ⟨A6,c6,rfl,o6,b6⟩;have HF6:=Oh (And.intro Tr.out.1 (Tr.out.2.below b6));have PS:Hid (Below w.heap.size w v6):=Oh (ai OE.out b6);have SS:Hid (Bts v6 v6.heap.size A6 t):=Oh (ak.reads o6);clear b6 o6;go_wp2_with fail;have heq:=ju A6 A c6 c t t v6 SS.out (TP.out.at_below PS.out) (by have:=Qf.out;omega);rw[show(t==t)=true by simp] at heq;refine heq.mono ?_;rintro e v8 ⟨rfl,q8,hw8⟩;have XD:Hid (ar f.I f.F v8):=Oh (by rw[hw8];exact HF6.out.2.drewN _);have Qg:Hid (Below w.heap.size w v8):=Oh (by rw[hw8];exact ae PS.out _);clear hw8 heq;go_wp2_with fail;go_ret2;exact⟨f,rfl,HF6.out.1,XD.out,QS.out,Qg.out⟩):p:=h
theorem oe {p:Prop} (h:p:=by
  clear h hf Uq If Sn hcl So Qd Pz hcs RI hp Re RX Rf hlen;obtain⟨S,hS⟩:=nm (tot (L.take i));rw[←hS] at HSU Ur QI ⊢;clear hS;go_enter func346,ntmps346;go_wp2_with fail;refine HSU.out.mono ?_;rintro e w1 ⟨rfl,eQ⟩;have Qp:=H.out.below eQ;clear c0;have c0:=Qp.1.c0;have ST:=Oh Qp;have aS:=Oh eQ;clear Qp eQ;go_wp2_with fail;refine(RY.out w1 ST.out _).mono ?_;rintro e w2 ⟨A3,c3,rfl,h3,aT⟩;rw[Ut.out];obtain⟨g3,hA3,SU,TQ,a9d,a4v,a4w⟩:=Own.form (show Own w2 w1.heap.size 176 2 A3 (L.drop i).length c3 (pcs (L.drop i)) from h3) (by rw[Ut.out];exact hdp);subst hA3;have hL2:=ST.out.below aT;have hgw:=ST.out.1.lt;have hne:¬g3=g:=oq;have Qo:¬g=g3:=oq;clear c0;have c0:=hL2.1.c0;have fr:=hL2.1.free;have d1:w2.cell? ⟨g3,1,none⟩=some (.int .u64 (p.2:Nat)):=a4v _ _ (kT HP.out).2;have fr2:=a4w 1;have hbB:=aS.out.trans (aT.mono aS.out.size);have QT:=hL2.1.put 0 (.slice (some ⟨g3,0,none⟩) (L.length-i) c3);have YZ:=Own.setOther (show Own w2 w1.heap.size 176 2 (some ⟨g3,0,none⟩) (L.drop i).length c3 (pcs (L.drop i)) from h3) (p:=⟨g,0,none⟩) (by simpa [aa] using hne) (.slice (some ⟨g3,0,none⟩) (L.length-i) c3);have SV:=(ab.of_below (K:=LK g (some ⟨g',0,none⟩)) hbB).set (p:=⟨g,0,none⟩) (.inl (.inl rfl)) (.slice (some ⟨g3,0,none⟩) (L.length-i) c3);have Zr:=DE (w:=w) (A:=some ⟨g',0,none⟩) (S:=S) (t:=tot L) (by simpa using QT) YZ (Nat.le_of_lt hgw) Ut.out.symm HP.out hne (by rw[←Ur.out,HCT.out]) SV (Oo aS.out.size SU);rw[←Ur.out] at Zr;have HE:=Oh Zr;clear h3 aT hL2 hgw SU TQ a9d a4v a4w hbB QT YZ SV Zr;go_wp2_with fail;go_ret;exact⟨rfl,HE.out⟩):p:=h
theorem ur {p:Prop} (h:p:=by
  have za0:=XE.out.c0;have za1:=XE.out.c1;have zb0:=XF.out.c0;have zb1:=XF.out.c1;have fa:=XE.out.free;have fb:=XF.out.free;replace hHeld:=(show(fun(V:World)=>V.cell? ⟨NL,0,none⟩=some (.slice (some ⟨bb,o,none⟩) L.length c)∧V.cell? ⟨bb,o+i1*2,none⟩=some (.int .i64 a.1)∧V.cell? ⟨bb,o+i1*2+1,none⟩=some (.int .u64 (a.2:Int))∧V.cell? ⟨bb,o+i*2,none⟩=some (.int .i64 b.1)∧V.cell? ⟨bb,o+i*2+1,none⟩=some (.int .u64 (b.2:Int))) v2 from⟨(B2.out.cell (p:=⟨NL,0,none⟩) Qq.out.2).trans k1,(B2.out.cell (p:=⟨bb,o+i1*2,none⟩) Qq.out.1).trans a0,(B2.out.cell (p:=⟨bb,o+i1*2+1,none⟩) Qq.out.1).trans a1,(B2.out.cell (p:=⟨bb,o+i*2,none⟩) Qq.out.1).trans b0,(B2.out.cell (p:=⟨bb,o+i*2+1,none⟩) Qq.out.1).trans b1⟩);refine hK.out _ _ hHeld ?_;clear hK K;try go_simp
  refine bO 11 fun K hK=>?_;go_simp;obtain⟨v3,SQ⟩:=nm ((v2.setCell ⟨Na,0,none⟩ (.int .i64 a.1)).setCell ⟨Na,1,none⟩ (.int .u64 (a.2:Int)));have B3:Hid (Below w5.heap.size w5 v3):=Oh (by rw[SQ];exact(B2.out.setCell (p:=⟨Na,0,none⟩) a1C.out _).setCell (p:=⟨Na,1,none⟩) a1C.out _);have a9i:Hid (Blk v3 Na 308 #[.int .i64 a.1,.int .u64 (a.2:Int)]):=Oh (by rw[SQ];exact(XE.out.put 0 _).put 1 _);have Zs:Hid (Blk v3 Nb 308 #[.int .i64 0,.int .u64 0]):=Oh (by rw[SQ];exact(XF.out.far (p:=⟨Na,0,none⟩) (fun e=>PX.out e.symm) _).far (p:=⟨Na,1,none⟩) (fun e=>PX.out e.symm) _);rw[←SQ];clear SQ za0 za1 zb0 zb1 fa fb;have zb0:=Zs.out.c0;have zb1:=Zs.out.c1;have fb:=Zs.out.free;replace hHeld:=(show(fun(V:World)=>V.cell? ⟨NL,0,none⟩=some (.slice (some ⟨bb,o,none⟩) L.length c)∧V.cell? ⟨bb,o+i1*2,none⟩=some (.int .i64 a.1)∧V.cell? ⟨bb,o+i1*2+1,none⟩=some (.int .u64 (a.2:Int))∧V.cell? ⟨bb,o+i*2,none⟩=some (.int .i64 b.1)∧V.cell? ⟨bb,o+i*2+1,none⟩=some (.int .u64 (b.2:Int))) v3 from⟨(B3.out.cell (p:=⟨NL,0,none⟩) Qq.out.2).trans k1,(B3.out.cell (p:=⟨bb,o+i1*2,none⟩) Qq.out.1).trans a0,(B3.out.cell (p:=⟨bb,o+i1*2+1,none⟩) Qq.out.1).trans a1,(B3.out.cell (p:=⟨bb,o+i*2,none⟩) Qq.out.1).trans b0,(B3.out.cell (p:=⟨bb,o+i*2+1,none⟩) Qq.out.1).trans b1⟩);refine hK.out _ _ hHeld ?_;clear hK K;try go_simp
  refine aL 12 ?_;refine cD ?_;obtain⟨v4,hv4⟩:=nm ((v3.setCell ⟨Nb,0,none⟩ (.int .i64 b.1)).setCell ⟨Nb,1,none⟩ (.int .u64 (b.2:Int)));have B4:Hid (Below w5.heap.size w5 v4):=Oh (by rw[hv4];exact(B3.out.setCell (p:=⟨Nb,0,none⟩) a1D.out _).setCell (p:=⟨Nb,1,none⟩) a1D.out _);have a4y:Hid (Blk v4 Nb 308 #[.int .i64 b.1,.int .u64 (b.2:Int)]):=Oh (by rw[hv4];exact(Zs.out.put 0 _).put 1 _);have a4z:Hid (Blk v4 Na 308 #[.int .i64 a.1,.int .u64 (a.2:Int)]):=Oh (by rw[hv4];exact(a9i.out.far (p:=⟨Nb,0,none⟩) PX.out _).far (p:=⟨Nb,1,none⟩) PX.out _);rw[←hv4];clear hv4 zb0 zb1 fb a0 a1 b0 b1 k1;have a0:=a4z.out.c0;have a1:=a4z.out.c1;have b0:=a4y.out.c0;have b1:=a4y.out.c1;have s4:=(RJ.out.below B4.out RJ.out.lt).c0;go_wp2_with fail;refine(Qy.out _).mono ?_;rintro e v5 ⟨rfl,b5⟩;have PS:=Oh (ai (ai OE.out B4.out) b5);clear b5;go_wp2_with fail;go_ret2;exact⟨rfl,PS.out⟩):p:=h
theorem vj {p:Prop} (h:p:=by
  go_wp2_with fail;have HNM:=Oh (fun W (h:Rdr W base g A c l p1)=>UO.out 1 4611686018427387904 W p1 h RL.out);obtain⟨r4,Vm⟩:=nm (eE 1 4611686018427387904 l p1);have HNS:=Oh (fun n p2 (h:eE 1 4611686018427387904 l p1=some (n,p2))=>dv h RL.out);rw[←Vm] at HNM QJ HNS;clear Vm
  cases r4 with
  |none=>
   have OQ:=QJ.out;dsimp only at OQ;subst OQ;refine(HNM.out _ MS3.out.rd).mono ?_;rintro e w4 ⟨rfl,k4⟩;exact⟨rfl,rfl,MS3.out.only.trans k4⟩
  |some r4=>
   obtain⟨nn,p2⟩:=r4;have Ts:=(HNS.out nn p2 rfl).2.2.2;have Qz:=Oh Ts;clear Ts;refine(HNM.out _ MS3.out.rd).mono ?_;rintro e w4 ⟨rfl,r4,k4⟩;have ms4:=MS3.out.num r4 k4;have y4:=ms4.bk.c1;have f4:=ms4.bk.free 1;have ms5:=ms4.store 1 (.int .u64 (nn:Nat));have y5:=ms5.bk.c0;have y6:=ms5.bk.c1;have Zt:=Oh ms5;clear r4 k4 ms4 ms5;go_wp2_with (at_builtin;refine Hid.out ?_);have Rg:=Own.alloc (show Own _ w.heap.size 176 2 _ S.length cp (pcs S) from Zt.out.row) (.cells #[.int .i64 k,.int .u64 (nn:Nat)] 176);refine aj (xs:=pcs S) rfl rfl cg rfl Rg rfl (by have h:=gz (w4.setCell ⟨N1,1,none⟩ (.int .u64 (nn:Nat))) k nn;rw[World.size_setCell] at h;exact h) (aI _) (S.length+1) rfl (pcs (S++[(k,nn)])) (au _ _).symm (by have:=Uu.out;unfold maxLen;omega) (by have:=Uu.out;omega) (by have:=Zt.out.only.size;rw[World.size_alloc];omega) ?_;intro A6 c6 w6 o6 g6 q6;have O6:Hid (bI w6 w.heap.size A6 c6 (S++[(k,nn)])):=Oh (Dm o6 rfl);have NB6:Hid (Blk w6 w.heap.size 337 #[eU g]):=Oh ((Zt.out.nb.alloc _).grown g6 (fun e=>Own.ne_blk Rg (Zt.out.nb.alloc _) od e.symm))
   have R6:Hid (Rdr w6 base g A c l p2):=Oh ⟨(Zt.out.rd.1.alloc _).grown g6 (fun e=>Own.ne_blk Rg (Zt.out.rd.1.alloc _) od e.symm),Own.kept (Own.alloc Zt.out.rd.2 _) g6 (by
    cases hA:aa A with
    |none=>exact .inl rfl
    |some x=>exact .inr (fun e=>Own.ne_own (Own.alloc Zt.out.rd.2 _) Rg od x hA e.symm))⟩
   have K6:Hid (ab (RK g) w w6):=Oh ((Zt.out.only.alloc _).step (ab.of_grown g6) (fun j hj=>.inr (Own.block Rg hj).1));clear o6 g6 q6 Rg;go_wp2_with fail;go_roundw
   case rel=>exact⟨i+1,S++[(k,nn)],A6,c6,p2,by go_num,by rw[Ok];rfl,HI.out,by rw[Ok,Uu.out];rfl,Qz.out,QJ.out,O6.out,R6.out,K6.out,NB6.out,fun q hq=>by
    rw[eO (l:=S++[(k,nn)]) (j:=i) (q:=(k,nn)) (by rw[←Uu.out,List.getElem?_append_right (Oi _),Nat.sub_self];rfl)] at hq;injection hq with hq
    rw[←hq];exact HKB.out⟩
   case measure=>exact ms HI):p:=h
theorem tZ {p:Prop} (h:p:=by
  obtain⟨i,rfl⟩:∃i:Nat,z=(i:Int):=⟨z.toNat,oq⟩;have Vn:i+1+k=N:=oq;obtain⟨Pz,XG⟩:=(HNL.out i).1 oq;have t3:(i:Int)<(l.length:Int):=oq;obtain⟨p,hp⟩:∃p,l[i]?=some p:=⟨_,Oj Pz⟩;obtain⟨RN,X0⟩:=a4A.out i p hp;obtain⟨W,hW⟩:∃W:World,W= {wr with drawn:=wr.drawn+1}:=⟨_,rfl⟩;have TR:Hid (OS E w W x m YS cS S (Py k) (fun i=>i=gs) (fun W=>Blk W gs 29 (spC sk lo hs d gr ac sz))):=Oh (Xv.out.next (by rw[hW];exact(Oq _ _).drew));obtain⟨bl,o,rfl,Ov,hc⟩:=(HP.out.at_below TR.out.as_.below).at_ oq;obtain⟨d1,Z0⟩:=hc i p hp;obtain⟨v,n⟩:=p;dsimp only at d1 Z0 RN X0;obtain⟨nm,Uv⟩:∃nm,nm=ns i:=⟨_,rfl⟩;have q1:(n:Int)%1000000=(nm:Int):=oq;have q2:Int.tmod (n:Int) 1000000=(nm:Int):=by rw[Int.tmod_eq_emod_of_nonneg oq];exact q1
  have a1H:nm<1000000:=by rw[Uv];exact a1I.out i
  have HD:=Oh (show Cl 11 #[.pointer (some ⟨x,0,none⟩),.agg #[.int .u8 2,.int .u32 4,.int .u32 0,.int .u8 0,.int .i64 0,.int .i64 0,.int .i64 0,.bool false,.int .i64 0,.int .i64 0,.int .i64 v,.int .u64 (nm:Int),.int .u64 0,.int .u64 0,.slice none 0 0,.slice none 0 0,.int .i64 0,.int .i64 0,.slice none 0 0]] W _ from lw HKO.out TR.out 4 (by decide) v nm k (Xw.out k oq) oq (by rw[RN];exact a1J.out i) a1H)
  have PE:=Oh (fun(V:World) Q (h:OS E w V x m YS cS Q (ii (Py k) 4 (max (Py k 4).1 (fF v nm),eu (Py k 4).2 (QK v nm))) (fun i=>i=gs) (fun W=>Blk W gs 29 (spC sk lo hs d gr ac sz)))=>show OS E w V x m YS cS Q (Py (k+1)) (fun i=>i=gs) (fun W=>Blk W gs 29 (spC sk lo hs d gr ac sz)) from by
   rw[RN,Uv] at h;exact h.congr (a9j.out k i oq Vn))
  have HW:=Oh hW;have HIJ:=Oh Vn;clear hW hp RN X0 hc Ov Pz XG Uv Vn Xv UL Zm;go_wp2_with fail;refine wp_region_still_tail 13 (by kernel_rfl) (by kernel_rfl) ?_;simp only[List.take_succ_cons,List.take_zero,List.drop_succ_cons,List.drop_zero];rw[←HW.out]
  iterate 13 still_step
  refine wpStill_nil ?_;go_wp2_with fail;refine HD.out.mono ?_;rintro e w5 ⟨⟨cd,rfl⟩,Q5,h5⟩;have Zu:=Oh (PE.out w5 Q5 h5);clear h5 d1 Z0;go_wp2_with fail;go_roundw
  case rel=>exact⟨k+1,(i:Int)-1,YS,cS,Q5,rfl,by have:=HIJ.out;omega,oq,Zu.out⟩
  case measure=>simp[intOf]):p:=h
theorem vf {p:Prop} (h:p:=by
  have m0:Qr.cell? ⟨N9,0,none⟩=some (.int .i64 c):=by rw[Zv.out.cell];rfl
  rcases WZ.out.2.2 with hc|hc
  ·subst hc
   go_wp2_with (first
    |(refine wpList_load_row rfl 39 _ rfl N9 rfl 39 (bC 0 v vg lg ls up tt (.slice rA rn rc)) (0,0) _ Zv.out underlying39 (by rfl) aF ?_)
    |(refine wpList_store_row rfl 39 _ _ rfl (w.heap.size+1) (bC 0 v vg lg ls up tt (.slice rA rn rc)) rfl rfl 39 (ap 0) UQ.out aF rfl aP ?_)
    |fail)
   go_wp2_with fail;refine lq results11 rfl rfl (setRow_heap _ _ _ _ _ _ UQ.out) rfl ⟨s,by rw[WZ.out.2.1],WZ.out.1,Zw.out.only (aY _ _ _) (fun i hi=>(SR.out i hi).2),⟨VS.out.only.step (aY _ _ _) (fun i hi=>.inr oq),VS.out.new⟩⟩
  ·by_cases hz:c=0
   ·subst hz;have Rh:=WZ.out.2.1
    go_wp2_with (first
     |(refine wpList_load_row rfl 39 _ rfl N9 rfl 39 (bC 0 v vg lg ls up tt (.slice rA rn rc)) (0,0) _ Zv.out underlying39 (by rfl) aF ?_)
     |(refine wpList_store_row rfl 39 _ _ rfl (w.heap.size+1) (bC 0 v vg lg ls up tt (.slice rA rn rc)) rfl rfl 39 (ap 0) UQ.out aF rfl aP ?_)
     |fail)
    go_wp2_with fail;refine lq results11 rfl rfl (setRow_heap _ _ _ _ _ _ UQ.out) rfl ⟨s,by rw[WZ.out.2.1],WZ.out.1,Zw.out.only (aY _ _ _) (fun i hi=>(SR.out i hi).2),⟨VS.out.only.step (aY _ _ _) (fun i hi=>.inr oq),VS.out.new⟩⟩
   ·have z1:(c==0)=false:=by rw[beq_eq_false_iff_ne];exact hz
    have z2:(c !=0)=true:=by rw[bne,z1];rfl
    go_wp2_with fail;refine(mC _ _).mono ?_;rintro e Qe ⟨rfl,VT⟩;have a4B:=Oh (UQ.out.below VT UQ.out.lt);have UR:=Oh (Zw.out.below VT);have Zp:=Oh (VS.out.post VT);clear VT;go_wp2_with (first|(refine wpList_store_row rfl 39 _ _ rfl (w.heap.size+1) (ap c) rfl rfl 39 (ap 0) a4B.out aF rfl aP ?_)|fail);go_wp2_with fail;refine lq results11 rfl rfl (setRow_heap _ _ _ _ _ _ a4B.out) rfl ⟨s,by rw[hc],WZ.out.1,UR.out.only (aY _ _ _) (fun i hi=>(SR.out i hi).2),⟨Zp.out.only.step (aY _ _ _) (fun i hi=>.inr oq),Zp.out.new⟩⟩):p:=h
theorem uz {p:Prop} (h:p:=by
  have c0:w.cell? ⟨p,0,none⟩=some (.int .u8 (k:Int)):=by rw[hb.cell];exact hk
  have HB:=Oh hb;clear hb;go_enter func17,ntmps17;go_upto_region 6 with(fail);refine wp_region_noPanic ?_;refine ag (S:=(fun(V:World)=>V.cell? ⟨p,0,none⟩=some (.int .u8 (k:Int)))) (L:=11) ok' c0 (fun hHeld=>?_);have OL:Hid (Below w.heap.size w w.drew):=Oh (Oq _ _).drew;refine tV 0 ?_;refine tV 1 ?_;refine tV 2 ?_;refine tV 3 ?_;refine tV 4 ?_;refine fV 6 ?_;refine fV 7 ?_;refine bO 5 fun K hK=>?_;go_simp;refine(HT.out _ OL.out).mono ?_;rintro e v1 ⟨A1,c1,rfl,o1,b1⟩;have IF:Hid (Bts v1 v1.heap.size A1 t):=Oh (ak.reads o1);have Tt:Hid (t.length≤c1):=Oh (kx o1);have aS:Hid (Below w.heap.size w v1):=Oh (ai OL.out b1);clear o1 b1 HT;replace hHeld:=(show(fun(V:World)=>V.cell? ⟨p,0,none⟩=some (.int .u8 (k:Int))) v1 from((HB.out.below aS.out HB.out.lt).cell 0).trans hk);refine hK.out _ _ hHeld ?_;clear hK K;try go_simp
  refine bO 8 fun K hK=>?_;go_simp;refine(HE.out _ _ _ IF.out Tt.out).mono ?_;rintro e v2 ⟨A2,c2,rfl,o2,b2⟩;have nO:Hid (ak v2 w.heap.size A2 c2 b):=Oh (Own.mono (show Own v2 _ 5 1 A2 b.length c2 (bvs b) from o2) aS.out.size);have bY:Hid (Below w.heap.size w v2):=Oh (ai aS.out b2);clear o2 b2 HE;replace hHeld:=(show(fun(V:World)=>V.cell? ⟨p,0,none⟩=some (.int .u8 (k:Int))) v2 from((HB.out.below bY.out HB.out.lt).cell 0).trans hk);refine hK.out _ _ hHeld ?_;clear hK K;try go_simp
  refine fV 9 ?_;refine fV 10 ?_;refine aL 11 ?_;refine aA 12 ?_;refine cD ?_;go_wp2_with fail;go_ret2;exact⟨A2,c2,rfl,nO.out,bY.out⟩):p:=h
theorem ku {p:Prop} (h:p:=by
  refine bO 4 fun K hK=>?_;go_simp;refine(HS.out _ f US.out.1 US.out.2).mono ?_;rintro e v6 ⟨rfl,b6⟩;have HF6:=Oh (And.intro US.out.1 (US.out.2.below b6));have PS:Hid (Below w.heap.size w v6):=Oh (ai Zx.out b6);have QU:=Oh (XH.out.below b6 XH.out.lt);clear b6;replace hHeld:=QU.out;refine hK.out _ _ hHeld ?_;clear hK K;try go_simp
  refine aL 6 ?_;refine aA 7 ?_;refine cD ?_;clear hHeld;go_wp2_with fail;go_ret2;exact⟨f,rfl,HF6.out.1,HF6.out.2,QS.out,PS.out⟩):p:=h
theorem nX {p:Prop} (h:p:=by
  obtain⟨x,hx⟩:=gs hs i hlt;obtain⟨b,o,rfl,_,d0⟩:=HH.out.at_ hx;have Le:=(jb hx).1;have hle:=kG hs (i+1);have hN:=HN.out;have t1:(i:Int)<(hs.length:Int):=oq;have t2:IntKind.i64.wrap (((aw (hs.take i):Nat):Int)+(x.n:Int))=((aw (hs.take (i+1)):Nat):Int):=by rw[Le,show((aw (hs.take i):Nat):Int)+(x.n:Int)=((aw (hs.take i)+x.n:Nat):Int) by omega];exact i6
  have t3:decide (((aw (hs.take (i+1)):Nat):Int)<0)=false:=by simp
  have t4:(aw (hs.take (i+1)):Int)≤100000000:=oq;clear Le hle hN hi;obtain⟨N1,Zy⟩:=nm (aw (hs.take (i+1)));rw[←Zy] at t2 t3 t4;have OG:=Oh Zy;clear Zy;generalize aw (hs.take i)=N0 at*;have oR:=Oh hlt;clear hlt;go_wp2_with fail;go_roundw
  case rel=>exact⟨i+1,oR.out,by go_num,by rw[OG.out],(by first|rfl|trivial)⟩
  case measure=>exact ms oR):p:=h
theorem uC {p:Prop} (h:p:=by
  rw[show some (⟨wq.heap.size,0,none⟩:Addr)=some ⟨w1.heap.size+1,0,none⟩ by rw[RO];simp] at hu;rw[←RO];clear RO;refine(HP.out _ _ hu).mono ?_;rintro e w4 ⟨A4,c4,rfl,o4,b4⟩;have oN:Hid (Below w.heap.size w w4):=Oh (dO.trans (b4.mono dO.size));have Pk:Hid (ak w4 w.heap.size A4 c4 H):=Oh (Own.mono (show Own w4 _ 5 1 A4 H.length c4 (bvs H) from o4) dO.size);have k1c:=(HB.out.below oN.out HB.out.lt).c1;clear dO o4 b4 HP Zz k1b bY hu;dsimp only;go_wp2_with fail;refine(Uw.out _ oN.out).mono ?_;rintro e w5 ⟨A5,c5,rfl,o5,b5⟩;have OE:Hid (Below w.heap.size w w5):=Oh (oN.out.trans (b5.mono oN.out.size));have RZ:Hid (Bts w5 w5.heap.size A5 W):=Oh (ak.reads o5);have a4C:Hid (Own w5 w.heap.size 5 1 A4 H.length c4 (bvs H)):=Oh (Own.below (show Own w4 w.heap.size 5 1 A4 H.length c4 (bvs H) from Pk.out) b5);clear o5 b5 Uw k1c Pk oN;go_wp2_with (at_builtin;refine Hid.out ?_);refine aj (xs:=bvs H) rfl rfl bu rfl a4C.out rfl RZ.out (aO _) (H.length+W.length) rfl (bvs (H++W)) (aE _ _).symm (by have:=HHL.out;have:=HWL.out;unfold maxLen;omega) (by have:=HHL.out;have:=HWL.out;omega) OE.out.size ?_;intro A6 c6 w6 o6 g6 q6;have Ow:=Oh o6;have PS:Hid (Below w.heap.size w w6):=Oh (OE.out.grown g6 OE.out.size (fun i hi=>(Own.block a4C.out hi).1));clear o6 g6 q6;go_wp2_with fail;go_ret;refine⟨A6,c6,by rw[XI.out,Ok];rfl,?_,PS.out⟩;rw[XI.out];unfold ak;rw[Ok];exact Ow.out):p:=h
theorem ve {p:Prop} (h:p:=by
  rcases A with _|a
  ·have UT:l=[]:=by
    rcases Nat.eq_zero_or_pos l.length with h0|h0
    ·exact List.length_eq_zero_iff.1 h0
    ·obtain⟨b,o,e,_⟩:=hb.at_ h0;cases e
   subst UT;have hk:∀W:World,(binOp .eql 24 (.slice none 0 c) (.slice none 0 0)).run prog W=.ok (.bool true) W:=fun W=>Lib.run_eql_slice_nil W 24 5 none 0 c 0 0 underlying24;simp only[List.length_nil];clear hb;go_enter func50,ntmps50;go_wp2_with fail;go_ret;exact⟨none,0,rfl,Own.nil _ _ _ _,Oq _ _⟩
  ·have hk:∀W:World,(binOp .eql 24 (.slice (some a) l.length c) (.slice none 0 0)).run prog W=.ok (.bool false) W:=fun W=>Lib.run_eql_slice_nil W 24 5 (some a) l.length c 0 0 underlying24;have HB:=Oh hb;clear hb;go_enter func50,ntmps50;go_wp2_with (at_builtin;refine Hid.out ?_);have Ux:Own (w.alloc (.cells #[] 5)) w.heap.size 5 1 (some ⟨w.heap.size,0,none⟩) 0 0 []:=Own.made w _ _ _ #[] 0 (Oi _) (Nat.zero_le _) rfl;have Oy:Below w.heap.size w (w.alloc (.cells #[] 5)):=Ba;have QV:=HB.out.at_below Oy;refine aj (xs:=[]) rfl rfl bu rfl Ux rfl QV (aO _) l.length (Nat.zero_add _) (bvs l) rfl (by unfold maxLen;omega) oq Oy.size ?_;intro A2 c2 w2 o2 g2 q2;have nO:Hid (ak w2 w.heap.size A2 c2 l):=Oh o2;have ZC:=Oh (wD Oy Ux g2 (Oi _) Oy.size);clear Ux Oy QV o2 g2 q2;go_wp2_with fail;go_ret;exact⟨A2,c2,rfl,nO.out,ZC.out⟩):p:=h
theorem uX {p:Prop} (h:p:=by
  refine aj (xs:=pcs T) (news:=pcs [(v,n)]) rfl rfl fK rfl nE rfl (kz _ v n) (aI _) (T.length+1) rfl (pcs (T++[(v,n)])) (au _ _).symm (by have:=Qf.out;unfold maxLen;omega) (by have:=Qf.out;omega) (by have:=Pb.out.size;simp;omega) ?_;intro A6 c6 w6 o6 g6 q6;have Ow:Hid (dk w6 w.heap.size A6 c6 (T++[(v,n)])):=Oh (by unfold dk;rw[Ok];exact o6);have Vo:ab (fun i=>w.heap.size≤i) w3 w6:=(ab.of_below (Ba)).step (ab.of_grown g6) (fun i hi=>.inl (Own.block nE hi).1)
  have TS:Hid (Rdr w6 base g A c l P3):=Oh (by
   have hne:=Own.ne_own nE (Own.alloc Oz.out.2 (.cells #[.int .i64 v,.int .u64 (n:Int)] 186)) od;refine⟨(Oz.out.1.alloc _).grown g6 (fun e=>Own.ne_blk nE (Oz.out.1.alloc _) od e.symm),Own.kept (Own.alloc Oz.out.2 _) g6 ?_⟩;rcases ha:aa A with _|j
   ·exact .inl rfl
   ·exact .inr (fun e=>hne j e.symm ha))
  have X7:Hid (ab (RK g) w w6):=Oh (Pb.out.step Vo (fun i hi=>.inr hi));have VU:Hid (Blk w6 w.heap.size 344 #[.pointer (some ⟨g,0,none⟩)]):=Oh ((PA.out.alloc _).grown g6 (fun e=>Own.ne_blk nE (PA.out.alloc _) od e.symm));clear o6 g6 q6 nE Vo;go_wp2_with fail;go_roundw
  case rel=>exact⟨i+1,P3,A6,c6,oR.out,by rw[Qh.out];simp,by go_num,TS.out,(by rw[if_neg oq,Nat.add_sub_cancel,HP5.out];exact QW.out),UU.out,by rw[Qh.out];exact Ow.out,X7.out,VU.out⟩
  case measure=>exact ms oR):p:=h
theorem uH {p:Prop} (h:p:=by
  go_wp2_with (at_builtin;refine Hid.out ?_);have nE:=Own.alloc TR.out (.cells #[.int .i64 v] 2);refine aj (xs:=ivs T) (news:=ivs [v]) rfl rfl jv rfl nE rfl (am.lit (bQ w3 _) rfl rfl) (kX _) (T.length+1) rfl (ivs (T++[v])) (Iu _ _).symm (by have:=Qf.out;unfold maxLen;omega) (by have:=Qf.out;omega) (by have:=Pb.out.size;simp;omega) ?_;intro A6 c6 w6 o6 g6 q6;have Ow:Hid (Own w6 w.heap.size 2 1 A6 (T++[v]).length c6 (ivs (T++[v]))):=Oh (by rw[Ok];exact o6);have Vo:ab (fun i=>w.heap.size≤i) w3 w6:=(ab.of_below (Ba)).step (ab.of_grown g6) (fun i hi=>.inl (Own.block nE hi).1)
  have TS:Hid (Rdr w6 base g A c l P3):=Oh (by
   have hne:=Own.ne_own nE (Own.alloc Oz.out.2 (.cells #[.int .i64 v] 2)) od;refine⟨(Oz.out.1.alloc _).grown g6 (fun e=>Own.ne_blk nE (Oz.out.1.alloc _) od e.symm),Own.kept (Own.alloc Oz.out.2 _) g6 ?_⟩;rcases ha:aa A with _|j
   ·exact .inl rfl
   ·exact .inr (fun e=>hne j e.symm ha))
  have X7:Hid (ab (RK g) w w6):=Oh (Pb.out.step Vo (fun i hi=>.inr hi));clear o6 g6 q6 nE Vo;go_wp2_with fail;go_roundw
  case rel=>exact⟨i+1,P3,A6,c6,oR.out,by rw[Qh.out];simp,by go_num,TS.out,by rw[if_neg oq,Nat.add_sub_cancel,HP5.out];exact QW.out,UU.out,by rw[Qh.out];exact Ow.out,X7.out⟩
  case measure=>exact ms oR):p:=h
theorem ul {p:Prop} (h:p:=by
  by_cases hp:0<fA
  ·have UV:decide ((0:Int)<(fA:Int))=true:=sq;have Ts:decide (0<fA)=true:=sq
   by_cases hq:kA=K
   ·have HN:Hid ((F0+S1:Nat)=F0+fA):=Oh (by have:=By.out;rw[if_pos ⟨hp,hq⟩] at this;omega);have Z1:(kA==K)=true:=by simp;exact hq
    have hsm:((F0:Nat):Int)+(fA:Int)≤4611686018427387904:=by have:=By.out;rw[if_pos ⟨hp,hq⟩] at this;omega
    clear hp hq;obtain⟨F1,hF1⟩:=nm (F0:Nat);rw[←hF1] at hsm HN ⊢;clear hF1;go_wp2_with fail;go_round
    case rel=>exact .inr (.inl ⟨by rw[HN.out];go_num,rfl⟩)
    case measure=>simp[intOf]
   ·have HN:Hid ((F0+S1:Nat)=F0):=Oh (by have:=By.out;rw[if_neg (fun h=>hq h.2)] at this;omega);have Z1:(kA==K)=false:=by simp;exact hq
    clear hp hq;go_wp2_with fail;go_round
    case rel=>exact .inr (.inl ⟨by rw[HN.out],rfl⟩)
    case measure=>simp[intOf]
  ·have HN:Hid ((F0+S1:Nat)=F0):=Oh (by have:=By.out;rw[if_neg (fun h=>hp h.1)] at this;omega);have UV:decide ((0:Int)<(fA:Int))=false:=sq;have Ts:decide (0<fA)=false:=sq;clear hp;go_wp2_with fail;go_round
   case rel=>exact .inr (.inl ⟨by rw[HN.out],rfl⟩)
   case measure=>simp[intOf]):p:=h
theorem tR {p:Prop} (h:p:=by
  have f1:w3.cell? ⟨N,1,none⟩=some (.int .u64 (n:Nat)):=(World.cell?_of_block (K4.out.block N Pw.out.lt Z2.out)).trans Pw.out.ce;have fR:=Oh (HAL.out.trans (ke HOA.out S8.out K4.out));have a1K:Hid ((S++L1).length≤50+20*i):=Oh (by have:=Uu.out;have:=a1L.out;rw[Ok];omega);have Tv:=Oh (fun A c W (h:ak W w1.heap.size A c (S++L1)) (hb:w1.heap.size≤W.heap.size)=>zn n ZD.out w1.heap.size A c (S++L1) W h hb (by have:=a1K.out;have:=HI.out;have:=Z3.out;omega));obtain⟨S2,Sp⟩:=nm (S++L1);rw[←Sp] at O4 a1K Tv
  first
   |rw[show S.length+L1.length=S2.length by rw[Sp,Ok]]
   |rw[←Sp]
  have uN:=Oh Sp;clear Sp;go_wp2_with fail;refine(Tv.out _ _ _ O4.out fR.out.size).mono ?_;rintro e w4 ⟨A5,c5,rfl,o5,k5⟩;have O5:=Oh o5;have oN:=Oh (fR.out.trans (ke O4.out fR.out.size k5));clear o5 k5;go_wp2_with fail;go_roundw
  case rel=>exact⟨i+1,S2++leb n,A5,c5,by go_num,by rw[Ok],HI.out,by have:=a1K.out;have:=af ZD.out;rw[Ok];omega,by rw[a1M.out,uN.out];simp only[List.append_assoc],O5.out,oN.out⟩
  case measure=>exact ms HI):p:=h
theorem uo {p:Prop} (h:p:=by
  go_enter func306,ntmps306;go_wp2_with fail;go_quiet (fail);go_wp2_with fail;refine(HD.out _).mono ?_;rintro e w1 ⟨rfl,n1,rfl⟩;go_wp2_with fail
  have hb:Blk (((((w.alloc (.cells #[.int .u64 (hi:Int),.int .u64 (lo:Int)] 414)).alloc (.cells #[.int .u64 0,.int .u64 0] 414)).drewN (nq+n1)).setCell ⟨w.heap.size+1,0,none⟩ (.int .u64 (q:Int))).setCell ⟨w.heap.size+1,1,none⟩ (.int .u64 (Q:Int))) (w.heap.size+1) 414 #[.int .u64 (q:Int),.int .u64 (Q:Int)]:=by
   have h:=Blk.new (w.alloc (.cells #[.int .u64 (hi:Int),.int .u64 (lo:Int)] 414)) 414 #[.int .u64 0,.int .u64 0];rw[World.size_alloc] at h;have h2:=((h.drewN (nq+n1)).put 0 (.int .u64 (q:Int))).put 1 (.int .u64 (Q:Int));simpa using h2
  refine bodyPost_ret (v:=.tuple #[.agg #[.int .u64 (q:Int),.int .u64 (Q:Int)],.int .u64 (R:Int),.int .i64 0]) (pF results306 _ _ (w.heap.size+1) 414 _ (0,0) _ rfl hb underlying414 (by rfl) ok') rfl ?_;exact⟨rfl,((ae ((Ba).alloc os' _) _).setCell os' _).setCell os' _⟩):p:=h
theorem tK {p:Prop} (h:p:=by
  intro A7 c7 w7 o7 g7 q7;have hb7:=XJ.grown g7 (fun e=>a1N e.symm);have a4F:=a1O.step (ab.of_grown g7) (fun i hi=>.inr (XK i hi));have a1P:∀x,aa A7=some x→w.heap.size≤x:=fun x hx=>(Own.block o7 hx).1;have a4G:aa A7≠some g:=fun hx=>by have:=a1P g hx;omega
  have j0:=hb7.c0;have fr7:=hb7.free;have Qx:=Oh (hb7.put 0 (.slice A7 (nt+na+nb) c7));have HO7:=Oh (Own.setOther o7 (p:=⟨g,0,none⟩) a4G (.slice A7 (nt+na+nb) c7));have a9m:=Oh (a4F.set (p:=⟨g,0,none⟩) (.inl (show TK g g from rfl)) (.slice A7 (nt+na+nb) c7));have a9n:=Oh a1P;clear o14 rA rB UN TU VW TW Vp o6 g6 q6 rB6 XJ hs6 a1O XK a1N o7 g7 q7 hb7 a4F a1P a4G k1 k2 fr;generalize nt+na+nb=k7 at*;go_wp2_with fail;go_ret;refine⟨rfl,A7,c7,⟨?_,?_⟩,?_,.inr a9n.out⟩
  ·have h:=Qx.out;rw[←HLR.out];simpa using h
  ·have h:=HO7.out;unfold bI;rw[←HLR.out];exact Own.mono h (Nat.le_of_lt If)
  ·exact a9m.out):p:=h
theorem uj {p:Prop} (h:p:=by
  have hp:=Dk L (decide (n%2=1));rw[←hP,←hq] at hp;have hl:(bM (L++[decide (n%2=1)])).length=P.length:=by rw[←hp,List.length_set]
  refine⟨?_,?_⟩
  ·have h1:=(hb.far (p:=⟨gb,q,none⟩) hne (.int .u8 ((UInt8.ofNat (num (L.drop (8*q))+(decide (n%2=1)).toNat*2^(L.length%8))).toNat:Int))).put 1 (.int .i64 ((L.length:Int)+1));rw[hl,Ok];simpa using h1
  ·have h1:=(Own.stored ho q (.int .u8 ((UInt8.ofNat (num (L.drop (8*q))+(decide (n%2=1)).toNat*2^(L.length%8))).toNat:Int))).setOther (p:=⟨g,1,none⟩) (by simpa [aa] using fun e=>hne e.symm) (.int .i64 ((L.length:Int)+1));unfold ak;rw[hl,←hp]
   have e:(bvs P).set q (.int .u8 ((UInt8.ofNat (num (L.drop (8*q))+(decide (n%2=1)).toNat*2^(L.length%8))).toNat:Int))=bvs (P.set q (UInt8.ofNat (num (L.drop (8*q))+(decide (n%2=1)).toNat*2^(L.length%8)))):=by
    unfold bvs;rw[List.map_set];rfl
   rw[←e];exact h1):p:=h
theorem dZ {p:Prop} (h:p:=by
  go_wp2_with fail;refine HH.out.mono ?_;rintro e w2 ⟨rfl,h2⟩;have H2:=Oh h2;clear h2;go_wp2_with fail;go_ret;exact⟨rfl,H2.out⟩):p:=h
theorem oc {p:Prop} (h:p:=by
  obtain⟨A2,c2,h1,h2,h3⟩:=h;refine⟨A2,c2,h1,ho.step h2 (fun i hi=>?_),?_⟩
  ·rcases hi with rfl|hi
   ·exact .inl (.inl rfl)
   ·rcases hl with hl|⟨j,hj,hw⟩
    ·exact .inl (.inr (hl▸hi))
    ·rw[hj] at hi;injection hi with hi
     exact .inr oq
  ·rcases h3 with h3|⟨j,hj,hw⟩
   ·rcases hl with hl|⟨j,hj,hw⟩
    ·exact .inl (h3.trans hl)
    ·exact .inr ⟨j,h3.trans hj,hw⟩
   ·exact .inr ⟨j,hj,Oo ho.size hw⟩):p:=h
theorem tN {p:Prop} (h:p:=by
  have Sb:(kk:Int)<(l.length:Int):=oq;have HN:=Oh (L6 (w.heap.size+1) A c l w.heap.size (w.heap.size+1) kk wr hblk (HB.out.at_below aC) PI oq oq hcl oq);have HO:=Oh hown;have HM:=Oh PI;have HG:=Oh hblk;have HW:=Oh aC;have HZ:=Oh Is;have HJ:=Oh hjn;have VX:=Oh OZ;clear hown PI hblk aC Is hj hjn OZ;go_wp2_with fail;refine HN.out.mono ?_;rintro e w4 ⟨rfl,hm4,YZ⟩;have UW:=Oh hm4;have Pk:=Oh YZ;clear hm4 YZ;go_wp2_with fail;go_roundw
  case rel=>exact⟨j+1,kk+1,HJ.out,by rw[VX.out];omega,by go_num,by go_num,Own.only HO.out Pk.out (L8 HM.out HO.out od),UW.out,HG.out.only Pk.out (xY HM.out HG.out od),HW.out.trans (Dv Pk.out (by have:=HZ.out;omega) (Oi _) oq),Oo HZ.out Pk.out.size⟩
  case measure=>exact ms HJ):p:=h
theorem uT {p:Prop} (h:p:=by
  have OJ:p<w.heap.size:=hb.lt;clear hb;go_enter func143,ntmps143;go_wp2_with fail;refine(HC.out _ (Ba)).mono ?_;rintro e w2 ⟨rfl,b2⟩;have HB:=Oh ((Blk.new w 37 #[.int .i64 0,.bool false,.int .u64 0]).below b2 os');have HW:Hid (Below w.heap.size w w2):=Oh (ai (Ba) b2);have k0:=HB.out.c0;have k1:=HB.out.c1;have k2:=HB.out.c2;have fr:=HB.out.free;clear b2 HC c0 ck;go_wp2_with fail;exact bodyPost_ret (v:=.tuple #[.agg #[.int .i64 v,.bool false,.int .u64 0],.int .i64 0]) (cF results143 _ _ w.heap.size 37 #[.int .i64 v,.bool false,.int .u64 0] (0,0) _ rfl ((((HB.out.put 0 _).put 0 _).put 1 _).put 2 _) underlying37 (by rfl) iT) rfl ⟨rfl,((((HW.out.setCell (Oi _) _).setCell (Oi _) _).setCell (Oi _) _).setCell (Oi _) _)⟩):p:=h
theorem uu {p:Prop} (h:p:=by
  have Ri:(i:Int)<(k:Int):=oq;have ag7:(i:Int)≤32:=oq;have Sq:=IQ n i;have hle:(gb n i).length=i:=ao n i;obtain⟨m,hm⟩:=nm (n/2^i);have QL:m<4294967296:=by rw[hm];exact Nat.lt_of_le_of_lt (Nat.div_le_self _ _) hn
  have em:(n:Int)/2^i=(m:Int):=by rw[hm];simp
  rw[←hm] at Sq;have HP:=Oh (gY g A1 c1 (L++gb n i) m wr iF QL (by rw[Ok,hle];omega));rw[List.append_assoc,←Sq] at HP;have HO:=Oh RP;have HL:=Oh Qs;have HI:=Oh hlt;clear Sq hle hm iF RP Qs hlt hi;go_wp2_with fail;refine HP.out.mono ?_;rintro e w2 ⟨rfl,Ox⟩;have ZC:=Oh (br.then HO.out HL.out Ox);clear Ox;go_wp2_with fail;go_roundw
  case rel=>exact⟨i+1,HI.out,by go_num,ZC.out⟩
  case measure=>exact ms HI):p:=h
theorem nV {p:Prop} (h:p:=by
  go_wp2_with fail;go_roundw
  case rel=>
   refine⟨i+1,A2,c2,B2,d2,HI.out,by go_num,by rw[QX.out],?_,PJ.2.2.2⟩;have Qs:(L.take (i+1)).length=i+1:=by rw[List.length_take,Nat.min_eq_left HI.out]
   refine⟨?_,?_,?_⟩
   ·rw[Qs];exact PJ.1
   ·rw[Qs,←HKC.out];exact PJ.2.1
   ·rw[Qs,←HUC.out];exact PJ.2.2.1
  case measure=>have:=HI.out;simp[intOf];omega):p:=h
theorem vh {p:Prop} (h:p:=by
  dsimp only;go_wp2_with (at_builtin;refine Hid.out ?_);have nE:ak w2 base A c S:=Own.below (show Own w base 5 1 A S.length c (bvs S) from HO.out) B2.out;refine aj (xs:=bvs S) rfl rfl bu rfl nE rfl (ak.reads O2.out) (aO _) (S.length+L.length) rfl (bvs (S++L)) (aE _ _).symm (by have:=HL.out;unfold maxLen;omega) (by have:=HL.out;omega) (Oo Tx.out B2.out.size) ?_;intro A3 c3 w3 o3 g3 q3;have B3:Hid (ab (fun i=>aa A=some i) w w3):=Oh ((ab.of_below B2.out).trans (ab.of_grown g3));have O3:Hid (ak w3 base A3 c3 (S++L)):=Oh (by unfold ak;rw[Ok];exact o3);clear nE o3 g3 q3;go_wp2_with fail;go_ret;exact⟨A3,c3,by rw[Ok];rfl,O3.out,B3.out⟩):p:=h
theorem kw {p:Prop} (h:p:=by
  have ZC:=Oh (wD Oy Ux g2 (Oi _) Oy.size);clear Ux Oy QV o2 g2 q2;go_wp2_with fail;go_ret;exact⟨A2,c2,rfl,nO.out,ZC.out⟩):p:=h
theorem iM {p:Prop} (h:p:=by
  go_wp2_with fail;refine HC.out.mono ?_;rintro e w1 ⟨A1,c1,rfl,h1,h2⟩;have H1:=Oh h1;have H2:=Oh h2;clear h1 h2;go_wp2_with fail;go_ret;exact⟨A1,c1,rfl,H1.out,H2.out⟩):p:=h
theorem kt {p:Prop} (h:p:=by
  have HH:=Oh HC;clear hb HC;go_enter func29,ntmps29;go_wp2_with fail;refine HH.out.mono ?_;rintro e w2 ⟨A,c,rfl,h2,b2⟩;have H2:=Oh (And.intro h2 b2);clear h2 b2;go_wp2_with fail;go_ret;exact⟨A,c,rfl,H2.out⟩):p:=h
theorem vq {p:Prop} (h:p:=by
  have q2:=XL.out.1.cell 2;have c2f:=XL.out.1.free 2;have RQ:w5.cell? ⟨g,2,none⟩=some (.int .u64 (fA:Nat)):=q2.trans (by rw[HFE.out];rfl);clear q2;go_wp2_with fail;go_ret;refine⟨rfl,A4,c4,⟨?_,?_⟩,?_,HA5.out.2.2⟩
  ·have h:=XL.out.1.put 2 (.int .u64 ((F0+S1+S2:Nat):Int));rw[HZ2.out];simpa using h
  ·rw[←HZ1.out];have h:=HA5.out.1;exact⟨h.1.far (p:=⟨g,2,none⟩) (fun e=>(HS.out.ne) e.symm) _,Own.setOther h.2 (p:=⟨g,2,none⟩) (fun e=>Own.ne_blk (show Own w5 gl 176 2 A4 _ c4 (pcs _) from h.2) XL.out.1 od e) _⟩
  ·exact(HA5.out.2.1.mono (K:=SK g gl A) (fun i hi=>.inr hi)).set (p:=⟨g,2,none⟩) (.inl (.inl rfl)) _):p:=h
theorem ud {p:Prop} (h:p:=by
  go_wp2_with fail;go_ret2;refine⟨w.heap.size+1,gl,A3,c3,rfl,oq,HGL.out,?_,⟨(Uy.out.1.far (p:=⟨w.heap.size+1,1,none⟩) (fun e=>PX.out e.symm) _).far (p:=⟨w.heap.size+1,2,none⟩) (fun e=>PX.out e.symm) _,?_⟩,(B3.out.setCell os' _).setCell os' _⟩
  ·have h:=(S3.out.put 1 (.pointer (some ⟨gl,0,none⟩))).put 2 (.int .u64 (f:Int));simpa using h
  ·have hn:aa A3≠some (w.heap.size+1):=Own.ne_blk (show Own w3 gl 176 2 A3 l.length c3 (pcs l) from Uy.out.2) S3.out od;exact Own.setOther (Own.setOther Uy.out.2 (p:=⟨w.heap.size+1,1,none⟩) hn _) (p:=⟨w.heap.size+1,2,none⟩) hn _):p:=h
theorem ob {p:Prop} (h:p:=by
  intro A2 c2 w2 o2 g2 q2;have nO:=Oh o2;have bY:=Oh (wD HB.out HO.out g2 (Oi _) HB.out.size);clear o2 g2 q2;go_wp2_with fail;go_roundw
  case rel=>exact⟨i+1,A2,c2,oR.out,by go_num,by rw[PE.out.1],by rw[PE.out.1,PE.out.2];exact nO.out,bY.out⟩
  case measure=>exact ms oR):p:=h
theorem uA {p:Prop} (h:p:=by
  have OL:Hid (Below w.heap.size w w2.drew):=Oh bY.out.drew;refine tV 0 ?_;refine tV 1 ?_;refine tV 2 ?_;refine tV 3 ?_;refine tV 4 ?_;refine tV 5 ?_;refine tV 6 ?_;refine tV 7 ?_;refine iV 8 fun K hK=>?_;go_simp;refine(HC.out _ OL.out).mono ?_;rintro e v4 ⟨rfl,h4⟩;have H4:=Oh h4;clear h4;refine hK.out _ _ ?_;clear hK K;try go_simp
  refine aA 9 ?_;refine cD ?_;go_wp2_with fail;go_ret;exact⟨rfl,_,OL.out,H4.out⟩):p:=h
theorem u9 {p:Prop} (h:p:=by
  rintro e w5 ⟨A5,c5,rfl,o5,k5⟩;have RZ:=Oh o5;have OE:Hid (Below base w w5):=Oh (jf (fR.out.trans (b1.mono Pp.out)) RP (Oo Pp.out b1.size) k5);have HK5:Hid (dD w w5):=Oh (Pb.out.trans ((dD.of_below b1).trans (dD.of_only RP k5)));have RJ:Hid (base≤w5.heap.size):=Oh (Oo Pp.out (Oo b1.size k5.size));clear b1 RP o5 k5;go_wp2_with fail;go_roundw
  case rel=>exact⟨i+1,A5,c5,oR.out,by rw[SW.out,Ok],by go_num,by rw[SW.out];exact RZ.out,OE.out,HK5.out,RJ.out⟩
  case measure=>exact ms oR):p:=h
theorem kr {p:Prop} (h:p:=by
  go_wp2_with fail;go_quiet (fail);go_wp2_with fail;go_quiet (fail);go_wp2_with fail;go_ret2;rw[PY.out];exact⟨rfl,⟨Ty.out.1.drewN _,Ty.out.2⟩,by rw[Uz.out];exact((ab.refl _ w).drewN q).drewN _⟩):p:=h
theorem nU {p:Prop} (h:p:=by
  go_enter func218,ntmps218;go_wp2_with fail;refine(HM.out _).mono ?_;rintro e w1 ⟨rfl,eQ⟩;have aS:=Oh eQ;clear eQ;go_wp2_with fail;refine(HD.out _).mono ?_;rintro e w2 ⟨rfl,aT⟩;have bY:=Oh (ai aS.out aT);clear aT;go_wp2_with fail;go_ret3;exact⟨rfl,fG bY.out _⟩):p:=h
theorem uO {p:Prop} (h:p:=by
  rw[←hN,hZ2,←e1]
  have e3:(q1*4294967296+q0)*(Z*4294967296)=Z*q1*18446744073709551616+Z*q0*4294967296:=by
   have e4:q1*4294967296*(Z*4294967296)=Z*q1*18446744073709551616:=by
    rw[Nat.mul_mul_mul_comm,Nat.mul_comm q1 Z]
   have e5:q0*(Z*4294967296)=Z*q0*4294967296:=by
    rw[←Nat.mul_assoc,Nat.mul_comm q0 Z]
   rw[Nat.add_mul,e4,e5]
  rw[e3];have e2':Z*q0+r0=r1*4294967296+Pm:=by rw[e2,hx]
  clear e1 e3 hx hN hv MK Pc PF hu hZ hZ2 XM hul a1Q OH uP h1 P4;generalize Z*q1=A at*;generalize Z*q0=B at*;omega):p:=h
theorem tX {p:Prop} (h:p:=by
  go_wp2_with fail;go_loopw [1,2] (fun u v wr=>u=.int .i64 0∧v=.int .i64 (L.length:Int)∧wr=w) (fun _ _ _=>0)
  case atStart=>exact⟨rfl,rfl,rfl⟩
  case round=>
   obtain⟨rfl,rfl,hw⟩:=hrel;obtain rfl:=hw.symm;go_wp2_with fail;refine HI.out.mono ?_;rintro e w2 ⟨rfl,L',h1,h2,h3⟩;have HR:=Oh (And.intro h1 (And.intro h2 h3));clear h1 h2 h3;go_wp2_with fail;refine bodyPost_ret (results_none rfl _ _ _) rfl ?_;exact⟨rfl,L',HR.out⟩):p:=h
theorem kq {p:Prop} (h:p:=by
  have fr:=EQ.free;have HR:=Oh (And.intro hr aT);clear hr b2 aT EQ HN HB;go_wp2_with fail;go_ret;exact⟨rfl,q,w2,HR.out.1,HR.out.2,rfl⟩):p:=h
theorem tY {p:Prop} (h:p:=by
  have hge:decide ((l.length:Int)≤(j:Int))=true:=sq;have a1R:decide (l.length≤j)=true:=sq;have OQ:R=(20,0,0):=by rw[hR,List.drop_of_length_le oq];rfl
  have PY:=Oh OQ;have Ty:=Oh UX;clear hR hlt hi hn QY hj OQ UX hp;go_wp2_with fail;go_quiet (fail);go_wp2_with fail;go_ret2;rw[PY.out];exact⟨rfl,⟨Ty.out.1.drewN nq,Ty.out.2⟩,by rw[Uz.out];exact((ab.refl _ w).drewN q).drewN nq⟩):p:=h
theorem kj {p:Prop} (h:p:=by
  go_wp2_with fail;refine(HM.out _).mono ?_;rintro e w1 ⟨rfl,eQ⟩;have aS:=Oh eQ;clear eQ;go_wp2_with fail;go_ret2;exact⟨rfl,aS.out⟩):p:=h
theorem uk {p:Prop} (h:p:=by
  generalize aZ (ah all m).1=F at*;go_enter func291,ntmps291;go_wp2_with fail;refine HC.out.mono ?_;rintro e w1 ⟨rfl,eQ⟩;have By:=Oh (HS.out.below eQ);have aS:=Oh eQ;clear eQ;go_wp2_with fail;refine(Rj.out w1 By.out).mono ?_;rintro e w2 ⟨⟨b,rfl⟩,aT⟩;have c2:=X8.out w2 (By.out.below aT);have bY:=Oh (ai aS.out aT);clear aT;go_wp2_with fail;go_ret3;exact⟨rfl,bY.out⟩):p:=h
theorem uf {p:Prop} (h:p:=by
  have HKN:Hid (ab (fun i=>aa (some ⟨g,0,none⟩)=some i) w wn):=Oh (by rw[VY];exact((Pb.out.set (p:=⟨g,j,none⟩) (.inl rfl) _).set (p:=⟨g,q,none⟩) (.inl rfl) _).drew);clear VY sO Pb e0 e1 ef z1 z2;go_wp2_with fail;go_roundw
  case rel=>exact⟨q,(L2.set j y).set q x,by have:=HJ.out;have:=HQ.out;omega,(by first|rfl|(congr 1)),HPN.out,Sr.out,HKN.out⟩
  case measure=>exact ms HQ):p:=h
theorem uS {p:Prop} (h:p:=by
  obtain rfl:k=i:=oq;have QY:(p:Int)+(k:Int)≤100000000:=oq;have HR:=Oh hR;clear hlt hi hp hR;go_wp2_with fail;have PR:ab (RK g) w wo:=by rw[Uz.out];exact(ab.refl _ _).drewN q
  go_ret2;refine⟨rfl,HR.out.moved ?_ ((ab.refl (RK g) _).set (p:=⟨g,1,none⟩) (.inl rfl) _),PR.set (p:=⟨g,1,none⟩) (.inl rfl) _⟩;have h1:=HR.out.1.put 1 (.int .i64 ((p:Int)+(k:Int)));simpa using h1):p:=h
theorem uq {p:Prop} (h:p:=by
  have z1:decide ((0:Int)<(j:Int))=false:=sq;have z2:decide (0<j)=false:=sq;clear hz hj PT;go_upto_region 4 with(fail);go_quiet (fail);go_wp2_with fail;go_roundw
  case rel=>exact⟨i+1,L2,oq,by have:=oR.out;omega,by go_num,Qz.out,by first|exact nO.out|exact Own.below nO.out (ae (Oq _ _) _),by first|exact OC.out|exact OC.out.drewN _⟩
  case measure=>exact ms oR):p:=h
theorem kp {p:Prop} (h:p:=by
  go_wp2_with fail;exact Ag rfl rfl (setRow_heap _ _ _ _ _ _ HT.out.res) rfl ⟨rfl,below_setRow HT.out.below (Oi _) _⟩):p:=h
theorem ug {p:Prop} (h:p:=by
  go_simp;refine hK.out _ _ ?_;clear hK K;try go_simp
  refine cD ?_;go_wp2_with fail;go_ret2;exact⟨A2,c2,rfl,nO.out,bY.out⟩):p:=h
theorem uh {p:Prop} (h:p:=by
  obtain rfl:i=L.length:=oq;have t1:¬(L.length:Int)<(L.length:Int):=oq;have ho:=P5.out;have hd:=HD.out;rw[List.take_length] at ho ⊢;rw[List.drop_length] at hd;have HO:=Oh ho;have Up:=Oh hd;clear hi hlt ho hd P5;go_wp2_with fail;go_ret;exact⟨P,AA,cc,rfl,HR.out,Up.out,RG.out,HO.out,HK.out⟩):p:=h
theorem uM {p:Prop} (h:p:=by
  go_wp2_with fail;go_quiet (fail);go_wp2_with fail;go_quiet (fail);go_wp2_with fail;go_roundw
  case rel=>exact⟨i+1,n+y%128*128^i,q+_,by go_num,by rw[HOR.out],HI.out,HN.out,by have:=HJ.out;have:=HL.out;omega,by rw[PY.out,HJ.out];rfl,by rw[Uz.out,World.drewN_drewN]⟩
  case measure=>exact ms HI):p:=h
theorem uI {p:Prop} (h:p:=by
  clear h6 d3;go_wp2_with fail;go_roundw
  case rel=>
   refine⟨_,_,_,_,_,_,_,_,_,_,_,_,_,_,_,_,_,_,_,_,_,_,_,_,_,_,_,_,_,_,_,_,_,_,_,_,_,_,_,_,_,_,_,_,_,_,_,_,_,?_,rfl⟩;exact⟨i+1,AR,cR,Q6,by go_num,HI.out.1,H6.out⟩
  case measure=>have:=HI.out.1;simp[intOf];omega):p:=h
theorem uU {p:Prop} (h:p:=by
  go_wp2_with fail;obtain⟨n,hn⟩:=TX.out;refine hn.mono ?_;rintro e w2 ⟨rfl,Ox⟩;obtain rfl:=Ox.symm;clear hn;go_wp2_with fail;refine(HP.out _).mono ?_;rintro e w2 ⟨rfl,L',h1,h2,h3⟩;have HR:=Oh (And.intro h1 (And.intro h2 h3));clear h1 h2 h3;go_wp2_with fail;go_end0;exact⟨rfl,L',HR.out⟩):p:=h
theorem nY {p:Prop} (h:p:=by
  have fr:=EQ.free;have HR:=Oh (And.intro hr b2);clear hr b2 EQ HN HB;go_wp2_with fail;go_ret;exact⟨rfl,q,w2,HR.out.1,HR.out.2,rfl⟩):p:=h
theorem nS {p:Prop} (h:p:=by
  rw[HR.out.1];have t1:¬(hs.length:Int)<(hs.length:Int):=oq;clear hi hlt HO;go_wp2_with fail;go_ret;exact⟨A,c,rfl,sO.out,HB.out⟩):p:=h
theorem uB {p:Prop} (h:p:=by
  have:=Blk.new (w.alloc (.cells (rz (.slice A l.length c)) 39)) 39 (rz (.slice B l.length c2));simpa using this):p:=h
theorem uW {p:Prop} (h:p:=by
  go_wp2_with fail;refine(Tz.out _ _ _ H2.out (Oo Tx.out (Oo aS.out.size OC.out.size))).mono ?_;rintro e w3 ⟨A3,c3,rfl,h3,k3,q3⟩;have H3:=Oh (Kw aS.out (Gy OC.out Vq.out h3 k3 q3));clear h3 k3 q3;go_wp2_with fail;go_end0;exact H3.out):p:=h
theorem uK {p:Prop} (h:p:=by
  refine(HW.out _ _ hu (HT.out.at_below b1)).mono ?_;rintro e w2 ⟨A2,c2,rfl,o2,b2⟩;have nO:=Oh (Own.mono (show Own w2 _ 5 1 A2 _ c2 _ from o2) b1.size);have bY:=Oh (ai b1 b2);clear o2 b2 hu b1;go_wp2_with fail;go_ret2;exact⟨A2,c2,rfl,nO.out,bY.out⟩):p:=h
theorem nR {p:Prop} (h:p:=by
  go_wp2_with fail;go_roundw
  case rel=>exact⟨i+1,A3,c3,oR.out,by go_num,Vr.out,sO.out,fR.out⟩
  case measure=>exact ms oR):p:=h
theorem nT {p:Prop} (h:p:=by
  have h1:=fy (L:=L) (i:=i) (p:=p) (by rw[List.getElem?_drop] at hp;exact hp);have h2:=gL L (i+1);omega):p:=h
theorem uR {p:Prop} (h:p:=by
  go_wp2_with fail;refine(ZE.out _).mono ?_;rintro e w5 ⟨rfl,rfl⟩;go_wp2_with fail;go_roundw
  case rel=>exact⟨j+1,A,c,HI.out,by rw[HX.out],by rw[HX.out],by rw[Sd.out];exact Oz.out,by rw[HX.out];exact a4I.out,XO.out⟩
  case measure=>exact ms HY):p:=h
theorem nZ {p:Prop} (h:p:=by
  clear iN hi hz OP Vk UK Is ht hcs hm QA;go_wp2_with fail;go_ret;exact⟨some ⟨w.heap.size,0,none⟩,c1,rfl,HO.out,HB.out⟩):p:=h
theorem vi {p:Prop} (h:p:=by
  induction l generalizing i with
  |nil=>simp at h
  |cons q l ih=>
   cases i with
   |zero=>
    simp at h;subst h;simp[pcs]
   |succ i=>
    have:=ih (i:=i) (by simpa using h);rw[show(i+1)*2=i*2+2 by omega];simpa [pcs] using this):p:=h
theorem uF {p:Prop} (h:p:=by
  intro q hq;rcases List.mem_or_eq_of_mem_set hq with hq|rfl
  ·exact Own.setOther (h.rows q hq) (p:=⟨g,i,none⟩) (fun e=>Own.ne_own (h.rows q hq) h.top od g e rfl) _
  ·exact Own.setOther hr (p:=⟨g,i,none⟩) (fun e=>Own.ne_own hr h.top od g e rfl) _):p:=h
theorem D8 {p:Prop} (h:p:=by
  go_wp2_with fail;refine HC.out.mono ?_;rintro e w1 ⟨A1,c1,rfl,h1,h2⟩;have H1:=Oh h1;have H2:=Oh h2;clear h1 h2;go_wp2_with fail;go_ret;exact⟨w1.heap.size,A1,c1,rfl,H2.out.size,⟨Blk.new w1 _ _,Own.alloc H1.out _⟩,fG H2.out _⟩):p:=h
theorem u7 {p:Prop} (h:p:=by
  go_wp2_with fail;go_quiet (fail);go_wp2_with fail;go_quiet (fail);go_wp2_with fail;rw[HOR.out];refine(HU.out _).mono ?_;rintro e w2 ⟨rfl,rfl⟩;go_wp2_with fail;go_ret2;rw[PY.out];exact⟨by rw[HSG.out];rfl,yw Ty.out Uz.out (i+1) oq⟩):p:=h
theorem uE {p:Prop} (h:p:=by
  have hne:(er !=0)=true:=sq;have Qo:(er==0)=false:=sq;have HER:=Oh her;clear her;go_wp2_with fail;go_ret;exact⟨rfl,A3,c3,Ss.out.stored HS.out (by rw[(H1.out HER.out).2];exact(H1.out HER.out).1) (TY.out HER.out)⟩):p:=h
theorem uQ {p:Prop} (h:p:=by
  exact⟨(B9.out.cell (p:=⟨p2,1,none⟩) (Blk.lt hHeld.2.2.1.blk)).trans hHeld.1,(B9.out.cell (p:=⟨p,1,none⟩) (Blk.lt hHeld.2.2.2.1.blk)).trans hHeld.2.1,hHeld.2.2.1.below B9.out,hHeld.2.2.2.1.below B9.out,ai hHeld.2.2.2.2 B9.out⟩):p:=h
theorem uZ {p:Prop} (h:p:=by
  refine⟨Z,mK,Pm,Ph,q1,r1,q0,r0,hZ2,hZ3,hZ4,hu.symm,a1Q,by rw[←hv];exact PF,SQ,hv4,ZF,UA,e1,oq,by rw[←hx];exact ZG,Vs,by rw[←hx];exact e2,oq,?_,?_⟩
  ·rw[←hU,e6,hQ]
  ·rw[←hU,e7,←Ot]):p:=h
theorem ue {p:Prop} (h:p:=by
  clear hR hlt hi hcl hx hj QY hp XP;go_wp2_with fail;go_quiet (fail);go_wp2_with fail;go_roundw
  case rel=>exact⟨i+1,q+nq,by go_num,by rw[HOR.out],HI.out,by rw[Uz.out,World.drewN_drewN]⟩
  case measure=>exact ms HI):p:=h
theorem uc {p:Prop} (h:p:=by
  rintro e w1 ⟨rfl,A',c',h1⟩;have H1:=Oh h1;clear h1;go_wp2_with fail;go_ret;exact⟨rfl,A',c',H1.out.sto,(ab.of_below fR.out).trans H1.out.only,fun x hx=>(H1.out.new x hx).imp id (Oo fR.out.size)⟩):p:=h
theorem nW {p:Prop} (h:p:=by
  clear h hf hl P4;go_enter func346,ntmps346;go_wp2_with fail;go_ret;exact⟨rfl,bg.refl H.out⟩):p:=h
theorem uG {p:Prop} (h:p:=by
  have ZI:=Oh (fun W=>DB s W);obtain⟨lo,md,hh⟩:=s;unfold spV at ZI;dsimp only at*;clear h hT hs hi hk;generalize T.length=n at*;go_enter func292,ntmps292;go_wp2;go_ret2;exact⟨rfl,Ba⟩):p:=h
theorem vo {p:Prop} (h:p:=by
  rw[←List.take_append_drop i L,au,List.getElem?_append_right (by rw[aQ,List.length_take];omega),aQ,List.length_take,show i*2+j-min i L.length*2=j by omega];exact hj):p:=h
theorem vr {p:Prop} (h:p:=by
  go_wp2_with fail;go_roundw
  case rel=>exact⟨i+1,L2,oq,by have:=oR.out;omega,by go_num,Qz.out,Own.below nO.out (ae (Oq _ _) _),OC.out.drewN _⟩
  case measure=>exact ms oR):p:=h
theorem uD {p:Prop} (h:p:=by
  go_enter func92,ntmps92;go_wp2_with fail;refine(Z4.out _).mono ?_;rintro e w1 ⟨rfl,h1⟩;have H1:=Oh h1;clear h1;go_wp2_with fail;go_ret2;exact⟨none,0,rfl,Own.nil _ _ _ _,H1.out⟩):p:=h
theorem uY {p:Prop} (h:p:=by
  have hk:k<10:=(List.getElem?_eq_some_iff.1 hf).1;intro args w;rcases k with _|_|_|_|_|_|_|_|_|_|k<;>first|omega|(injection hf with hf;subst hf;kernel_rfl)):p:=h
theorem vl {p:Prop} (h:p:=by
  go_wp2_with fail;refine HC.out.mono ?_;rintro e w1 ⟨A1,c1,rfl,o1,b1⟩;have HO:=Oh (And.intro o1 b1);clear o1 b1;go_wp2_with fail;go_ret;exact⟨A1,c1,rfl,HO.out.1,HO.out.2⟩):p:=h
theorem tQ {p:Prop} (h:p:=by
  obtain rfl:i=q:=oq;have Vn:¬(i:Int)<(j:Int):=oq;have ZJ:decide (i<j)=false:=sq;clear hi hj Qi hlt;go_wp2_with fail;go_ret;exact⟨rfl,_,rfl⟩):p:=h
theorem ui {p:Prop} (h:p:=by
  rw[List.nodup_append];refine⟨h.nodup,by simp,?_⟩;intro a ha b hb e;rw[List.mem_singleton.1 hb] at e;subst e;have:=((h.mem _).1 ha).2;rw[hl] at this;cases this):p:=h
theorem tW {p:Prop} (h:p:=by
  go_wp2_with fail;refine wp_loop_rounds 1 ?_;rw[rounds_succ];go_wp2_with fail;refine wp_loop_rounds 1 ?_;rw[rounds_succ];go_wp2_with fail;go_ret2;exact⟨rfl,rfl⟩):p:=h
theorem vc {p:Prop} (h:p:=by
  have hx2:=Oh hx;clear hx;go_enter func389,ntmps389;go_wp2_with fail;go_ret;exact⟨congrArg (fun z=>Ending.returned (.int .u64 z)) hx2.out,rfl⟩):p:=h
theorem uy {p:Prop} (h:p:=by
  rw[h1,←rP (n:=x.toNat%128+128*n),show(x.toNat%128+128*n)%128=x.toNat%128 by omega,show(x.toNat%128+128*n)/128=n by omega]):p:=h
theorem tS {p:Prop} (h:p:=by
  rw[e] at ha ⊢;have h:=Nat.two_pow_add_eq_or_of_lt ha b;rw[Nat.mul_comm,Nat.or_comm] at h;rw[Nat.add_comm,Nat.mul_comm b,←Nat.mul_comm b,h,Nat.or_comm]):p:=h
theorem vd {p:Prop} (h:p:=by
  go_enter func194,ntmps194;go_wp2_with fail;go_quiet ((go_at_call 258;exact Calls.quiet_of (HT.out _)));go_wp2_with fail;go_ret;exact⟨rfl,_,rfl⟩):p:=h
theorem vp {p:Prop} (h:p:=by
  have h3:=List.length_erase_of_mem (h p List.mem_cons_self);have h4:=List.length_pos_of_mem (h p List.mem_cons_self);simp only[List.length_cons];omega):p:=h
theorem uJ {p:Prop} (h:p:=by
  exact⟨(B2.out.cell (p:=⟨p,2,none⟩) (Nat.lt_of_lt_of_le hp hHeld.2.2.size)).trans hHeld.1,hHeld.2.1.below B2.out,ai hHeld.2.2 B2.out⟩):p:=h
theorem ua {p:Prop} (h:p:=by
  intro h0;have e0:Builtin.zeroCells z.cells m=#[]:=Array.eq_empty_of_size_eq_zero (by rw[size_zeroCells,UK];exact h0);rw[e0];simp):p:=h
theorem vm {p:Prop} (h:p:=by
  rcases Nat.eq_zero_or_pos (ci 0 0 l).1 with h|h
  ·have:=(ga l 0 0 h).1;omega
  ·rw[wh l 0 0 oq];exact Nat.zero_le _):p:=h
theorem tM {p:Prop} (h:p:=by
  go_wp2_with fail;refine(HN.out w).mono ?_;rintro e w1 ⟨rfl,hw⟩;obtain rfl:=hw.symm;go_wp2_with fail;go_ret;exact⟨by simp,rfl⟩):p:=h
theorem tU {p:Prop} (h:p:=by
  go_wp2_with fail;go_roundw
  case rel=>exact⟨i+1,oR.out,by go_num,(by first|rfl|trivial)⟩
  case measure=>exact ms oR):p:=h
theorem tP {p:Prop} (h:p:=by
  exact List.take_left' (by rw[aQ,Ok,List.length_take,List.length_cons,List.length_drop];omega)):p:=h
theorem va {p:Prop} (h:p:=by
  rcases h.2 with⟨hv,h0⟩|⟨_,_,_,hv,_,_,h2,_⟩
  ·injection hv with _ h2 h3;omega
  ·injection hv with _ h3 h4;omega):p:=h
theorem uL {p:Prop} (h:p:=by
  rintro o w' ⟨rfl,f,hf,hfp,hfh,XQ⟩;obtain⟨t1,t2⟩:=(h.below hb).turn hi hfp hfh XQ;exact⟨f,rfl,hf,t1.hld,t2⟩):p:=h
theorem ut {p:Prop} (h:p:=by
  have t1:¬(i:Int)<(L.length:Int):=oq;clear hlt;go_wp2_with fail;go_end0;exact⟨rfl,L1,HP.out,HO.out,HK.out⟩):p:=h
theorem uw {p:Prop} (h:p:=by
  by_cases hk:q.1<k
  ·rw[if_pos hk];omega
  ·rw[if_neg hk,rH (fun r hr=>by have:=h1 r hr;omega)];omega):p:=h
theorem ux {p:Prop} (h:p:=by
  simp only[World.size_alloc] at k1 k2;exact⟨((Ba).alloc os' _).alloc sq _,(k0.alloc _).alloc _,k1.alloc _,k2⟩):p:=h
end Go.Proofs.YtmbippkpjdoojaaGreat
