/- Parts of a proof, merged. -/
import Derived.Test.YtmbippkpjdoojaaGreatF06
set_option maxRecDepth 100000
set_option maxHeartbeats 1600000
namespace Go.Proofs.YtmbippkpjdoojaaGreat
open Tryz
open Go.RowKit
section
open Pl
namespace Pl
def mrg:List Pr→List Pr→List Pr
 | [],M=>M
 |p::L,[]=>p::L
 |p::L,q::M=>if p.1<q.1 then p::mrg L (q::M) else if q.1<p.1 then q::mrg (p::L) M else(p.1,p.2+q.2)::mrg L M
termination_by L M=>L.length+M.length
theorem yK(L:List Pr):mrg L []=L:=by cases L<;>simp[mrg]
theorem vF(p q:Pr)(L M:List Pr):mrg (p::L) (q::M)=if p.1<q.1 then p::mrg L (q::M) else if q.1<p.1 then q::mrg (p::L) M else(p.1,p.2+q.2)::mrg L M:=by rw[mrg]
theorem eZ(p:Pr)(L:List Pr)(j:Int):cnt (p::L) j=if p.1=j then p.2 else cnt L j:=rfl
theorem vE(k:Nat):∀(L M:List Pr),L.length+M.length≤k→Srt L→Pos L→Srt M→Pos M→
  Srt (mrg L M)∧Pos (mrg L M)∧(∀j,cnt (mrg L M) j=cnt L j+cnt M j)∧(∀r∈mrg L M,(∃p∈L,p.1=r.1)∨(∃q∈M,q.1=r.1)):=by
 induction k with
 |zero=>
  intro L M hk _ _ hm Pq;have h1:L=[]:=List.eq_nil_of_length_eq_zero oq;subst h1;rw[mrg];exact⟨hm,Pq,fun j=>by simp[cnt],fun r hr=>.inr ⟨r,hr,rfl⟩⟩
 |succ k ih=>
  intro L M hk hl Qk hm Pq
  cases L with
  |nil=>
   rw[mrg];exact⟨hm,Pq,fun j=>by simp[cnt],fun r hr=>.inr ⟨r,hr,rfl⟩⟩
  |cons p L=>
   cases M with
   |nil=>
    rw[yK];exact⟨hl,Qk,fun j=>by simp[cnt],fun r hr=>.inl ⟨r,hr,rfl⟩⟩
   |cons q M=>
    simp only[List.length_cons] at hk;obtain⟨a1,a2⟩:=aq.1 hl;obtain⟨b1,b2⟩:=aq.1 hm;obtain⟨a3,a4⟩:=aH.1 Qk;obtain⟨b3,b4⟩:=aH.1 Pq;rw[vF]
    by_cases h1:p.1<q.1
    ·rw[if_pos h1];obtain⟨c1,c2,c3,c4⟩:=ih L (q::M) (by simp only[List.length_cons];omega) a2 a4 hm Pq;refine⟨aq.2 ⟨fun r hr=>?_,c1⟩,aH.2 ⟨a3,c2⟩,fun j=>?_,fun r hr=>?_⟩
     ·rcases c4 r hr with⟨x,hx,e⟩|⟨x,hx,e⟩
      ·have:=a1 x hx;omega
      ·rcases List.mem_cons.1 hx with rfl|hx
       ·omega
       ·have:=b1 x hx;omega
     ·rw[eZ p (mrg L (q::M)),c3,eZ p L]
      by_cases hj:p.1=j
      ·have hz:cnt (q::M) j=0:=fT (fun x hx=>by
        rcases List.mem_cons.1 hx with rfl|hx
        ·omega
        ·have:=b1 x hx;omega)
       rw[if_pos hj,if_pos hj,hz];rfl
      ·rw[if_neg hj,if_neg hj]
     ·rcases List.mem_cons.1 hr with rfl|hr
      ·exact .inl ⟨r,by simp,rfl⟩
      ·rcases c4 r hr with⟨x,hx,e⟩|h
       ·exact .inl ⟨x,by simp[hx],e⟩
       ·exact .inr h
    ·rw[if_neg h1]
     by_cases h2:q.1<p.1
     ·rw[if_pos h2];obtain⟨c1,c2,c3,c4⟩:=ih (p::L) M (by simp only[List.length_cons];omega) hl Qk b2 b4;refine⟨aq.2 ⟨fun r hr=>?_,c1⟩,aH.2 ⟨b3,c2⟩,fun j=>?_,fun r hr=>?_⟩
      ·rcases c4 r hr with⟨x,hx,e⟩|⟨x,hx,e⟩
       ·rcases List.mem_cons.1 hx with rfl|hx
        ·omega
        ·have:=a1 x hx;omega
       ·have:=b1 x hx;omega
      ·rw[eZ q (mrg (p::L) M),c3,eZ q M]
       by_cases hj:q.1=j
       ·have hz:cnt (p::L) j=0:=fT (fun x hx=>by
         rcases List.mem_cons.1 hx with rfl|hx
         ·omega
         ·have:=a1 x hx;omega)
        rw[if_pos hj,if_pos hj,hz,Nat.zero_add]
       ·rw[if_neg hj,if_neg hj]
      ·rcases List.mem_cons.1 hr with rfl|hr
       ·exact .inr ⟨r,by simp,rfl⟩
       ·rcases c4 r hr with h|⟨x,hx,e⟩
        ·exact .inl h
        ·exact .inr ⟨x,by simp[hx],e⟩
     ·rw[if_neg h2];obtain⟨c1,c2,c3,c4⟩:=ih L M oq a2 a4 b2 b4;refine⟨aq.2 ⟨fun r hr=>?_,c1⟩,aH.2 ⟨by simp only;omega,c2⟩,fun j=>?_,fun r hr=>?_⟩
      ·simp only;rcases c4 r hr with⟨x,hx,e⟩|⟨x,hx,e⟩
       ·have:=a1 x hx;omega
       ·have:=b1 x hx;omega
      ·rw[eZ (p.1,p.2+q.2) (mrg L M),c3,eZ p L,eZ q M];simp only
       by_cases hj:p.1=j
       ·rw[if_pos hj,if_pos hj,if_pos oq]
       ·rw[if_neg hj,if_neg hj,if_neg oq]
      ·rcases List.mem_cons.1 hr with rfl|hr
       ·exact .inl ⟨p,by simp,rfl⟩
       ·rcases c4 r hr with⟨x,hx,e⟩|⟨x,hx,e⟩
        ·exact .inl ⟨x,by simp[hx],e⟩
        ·exact .inr ⟨x,by simp[hx],e⟩
theorem vD{L M:List Pr}(hl:Srt L)(Qk:Pos L)(hm:Srt M)(Pq:Pos M):mrg L M=az L M:=by
 obtain⟨a,b,c,_⟩:=vE _ L M (Oi _) hl Qk hm Pq;obtain⟨d,e,_⟩:=cm hl Qk Pq;exact ext a b d e (fun k=>by rw[c,gu hl hm])
end Pl
def TK(g:Nat)(i:Nat):Prop:=i=g
def Gg(g:Nat)(A:Option Addr)(L:List Pr)(w w':World):Prop:=∃A' c',Lst w' g A' c' L∧ab (TK g) w w'∧(aa A'=aa A∨∀j,aa A'=some j→w.heap.size≤j)
theorem CA(g gt:Nat)(A At:Option Addr)(c ct:Nat)(L M:List Pr)(w:World)(h:Lst w g A c L)(ht:Lst w gt At ct M)(hc:tot L≤4611686018427387904)(OA:4611686018427387904-tot L<tot M):
  Cl 286 #[.pointer (some ⟨g,0,none⟩),.pointer (some ⟨gt,0,none⟩)] w fun e w'=>e=.returned (.int .i64 6)∧Gg g A L w w':=by
 have c1:=h.1.c1;have t1:=ht.1.c1;have ZR:IntKind.u64.wrap (4611686018427387904-((tot L:Nat):Int))=4611686018427387904-((tot L:Nat):Int):=IntWalk.u64_in _ ⟨oq,oq⟩;have e1:decide (4611686018427387904-((tot L:Nat):Int)<((tot M:Nat):Int))=true:=sq;have H:=Oh h;clear h ht OA hc;go_enter func286,ntmps286;go_wp2_with fail;go_quiet (fail);go_wp2_with fail;go_ret;exact⟨rfl,A,c,⟨H.out.1.drewN _,H.out.2⟩,(ab.refl _ _).drewN _,.inl rfl⟩
theorem vv{w:World}{B:Nat}{b o:Nat}{p:Pr}{D:List Pr}(h:Prs w B (some ⟨b,o,none⟩) (p::D)):Prs w B (some ⟨b,o+2,none⟩) D:=by
 refine⟨aQ _,fun hn=>?_⟩;obtain⟨b',o',e,hb,hc⟩:=h.2 os';injection e with e
 injection e with e1 e2 _
 subst e1;subst e2;refine⟨b,o+2,rfl,hb,fun j u hj=>?_⟩;have:=hc (j+2) u (by simpa [pcs] using hj)
 rwa [show o+(j+2)=o+2+j by omega] at this
theorem mG{w:World}{B:Nat}{A:Option Addr}:Prs w B A []:=am.empty ..
theorem Prs.below'{w wo w3:World}{B:Nat}{A:Option Addr}{D:List Pr}(h:Prs wo B A D)(h3:Below B w w3)(ho:Below B w wo):Prs w3 B A D:=
 am.keep h (fun _ hp=>(h3.cell hp).trans (ho.cell hp).symm)
def Gd:Value→Nat
 | .slice _ n _=>n
 |_=>0
set_option maxHeartbeats 12800000 in
theorem GF(g gt:Nat)(A At:Option Addr)(c ct:Nat)(L M:List Pr)(w:World)(h:Lst w g A c L)(ht:Lst w gt At ct M)(hf:aV L)(Y2:aV M)(OA:¬4611686018427387904-tot L<tot M)(hlm:L.length+M.length≤100000):
  Cl 286 #[.pointer (some ⟨g,0,none⟩),.pointer (some ⟨gt,0,none⟩)] w fun e w'=>e=.returned (.int .i64 0)∧Gg g A (az L M) w w':=by
 have c0:=h.1.c0;have c1:=h.1.c1;have t0:=ht.1.c0;have t1:=ht.1.c1;have hc:=hf.tot;have ZR:IntKind.u64.wrap (4611686018427387904-((tot L:Nat):Int))=4611686018427387904-((tot L:Nat):Int):=IntWalk.u64_in _ ⟨oq,oq⟩;have e1:decide (4611686018427387904-((tot L:Nat):Int)<((tot M:Nat):Int))=false:=sq;have Rf:tot (az L M)=tot L+tot M:=vt;have Pq:=vD hf.srt hf.pos Y2.srt Y2.pos;obtain⟨R,hR⟩:=nm (az L M);rw[←hR] at Rf Pq ⊢
 have Sn:∀(g:Nat) (A:Option Addr) (c:Nat) (L:List Pr),bI w g A c L→L.length≤c:=fun g A c L h=>by
  exact va
 have HLC:=Oh (Sn g A c L h.2);have a9S:=Oh (Sn gt At ct M ht.2);have H:=Oh h;have HT:=Oh ht;have a2g:=Oh Rf;have HMP:=Oh Pq;have a2h:Hid (tot L+tot M≤4611686018427387904):=Oh oq;have HLM:=Oh hlm;have a9T:=Oh (Own.ne_blk (show Own w g 176 2 A L.length c (pcs L) from h.2) h.1 od);have a9U:=Oh (Own.ne_blk (show Own w gt 176 2 At M.length ct (pcs M) from ht.2) h.1 od);have If:=h.1.lt;have a5b:=ht.1.lt;clear h ht OA hc hf Y2 Rf Pq hR hlm Sn;go_enter func286,ntmps286;go_wp2_with fail;go_quiet (fail);go_wp2_with fail;go_quiet (fail);go_wp2_with fail;clear e1 ZR;go_loopw [5,6,7] (fun u a b wr=>∃(T Da Db:List Pr) (A5 Aa Ab:Option Addr) (c5 ca cb nt na nb:Nat),u=.slice A5 nt c5∧a=.slice Aa na ca∧b=.slice Ab nb cb∧nt=T.length∧na=Da.length∧nb=Db.length∧na≤ca∧nb≤cb∧T++mrg Da Db=R∧nt+na+nb≤100000∧Prs wr w.heap.size Aa Da∧Prs wr w.heap.size Ab Db∧bI wr w.heap.size A5 c5 T∧Below w.heap.size w wr∧aa Aa≠some g∧aa Ab≠some g) (fun _ a b _=>Gd a+Gd b)
 case atStart=>exact⟨[],L,M,none,A,At,0,c,ct,0,L.length,M.length,rfl,rfl,rfl,rfl,rfl,rfl,HLC.out,a9S.out,by rw[List.nil_append,HMP.out],by have:=HLM.out;omega,bI.reads H.out.2,bI.reads HT.out.2,Own.nil _ _ _ _,ae (ae (Oq _ _) _) _,a9T.out,a9U.out⟩
 case round=>
  obtain⟨T,Da,Db,A5,Aa,Ab,c5,ca,cb,nt,na,nb,rfl,rfl,rfl,XZ,Y3,TF,Wj,hcb,hTR,hlen,hpa,hpb,hot,aC,a5c,a5d⟩:=hrel;obtain⟨wo,rfl⟩:=nm (wr:World);have Mk:=Oh aC;have HTR:=Oh hTR;have agw:nt+na+nb≤100000:=hlen;have Wk:=Oh XZ;have HOT:=Oh hot;have HPA:=Oh hpa;have Rn:=Oh hpb;have HGA:=Oh a5c;have HGB:=Oh a5d;clear aC hTR hot hpa hpb a5c a5d
  cases Da with
  |nil=>
   have Sj:(T++[])++Db=R:=by have h:=HTR.out;rw[mrg] at h;rw[List.append_nil];exact h
   have x1:decide ((0:Int)<(na:Int))=false:=by simp only[List.length_nil] at Y3;simp;omega
   have x2:decide (0<na)=false:=by simp only[List.length_nil] at Y3;simp;omega
   have EQ:=H.out.1.below Mk.out If;have k1:wo.cell? ⟨g,1,none⟩=some (.int .u64 (tot L:Nat)):=(Mk.out.cell (p:=⟨g,1,none⟩) If).trans c1;have k2:wo.cell? ⟨gt,1,none⟩=some (.int .u64 (tot M:Nat)):=(Mk.out.cell (p:=⟨gt,1,none⟩) a5b).trans t1;have fr:=EQ.free;have Pw:=Oh EQ;have hcp:=a2h.out;have QI:IntKind.u64.wrap (((tot L:Nat):Int)+((tot M:Nat):Int))=((tot R:Nat):Int):=by rw[a2g.out,IntWalk.u64_in _ ⟨oq,oq⟩];omega
   have HLR:Hid (nt+na+nb=R.length):=Oh (by rw[←Sj,Ok,Ok];simp only[List.length_nil] at*;omega);have Wk:=Oh XZ;have Y4:=Oh Sj;have Z2:=Oh Y3;have Sd:=Oh TF;clear EQ hcp c1 t1 c0 t0 Sj XZ hlen Wj hcb Y3 TF;go_wp2_with fail;refine wp_region_noPanic ?_;refine aR (S:=((fun W'=>W'.cell? ⟨g,1,none⟩=some (.int .u64 (tot L:Nat))∧W'.cell? ⟨gt,1,none⟩=some (.int .u64 (tot M:Nat))))) (L:=11) ok' ⟨by simpa using k1,by simpa using k2⟩ (fun hHeld=>?_);refine tT 0 ?_;refine tT 1 ?_;refine tT 2 ?_;refine tT 3 ?_;refine tT 4 ?_;refine tT 5 ?_;refine tT 6 ?_;refine tT 7 ?_;refine tT 8 ?_;refine tT 9 ?_;refine tT 10 ?_;refine dP 11 fun K hK=>?_;go_simp;refine hK.out _ _ ?_ (fun hHeld=>?_)
   ·exact fun h=>absurd rfl h
   clear hK K
   try go_simp
   refine me ?_;obtain⟨Y5,PN⟩:=nm ((wo.setCell ⟨g,1,none⟩ (.int .u64 ((tot R:Nat):Int))).drew);rw[←PN]
   have UN:Blk Y5 g 426 #[.slice A L.length c,.int .u64 ((tot R:Nat):Int)]:=by
    have h:=(Pw.out.put 1 (.int .u64 ((tot R:Nat):Int))).drew;rw[PN];simpa using h
   have V2:Own wo w.heap.size 176 2 A5 nt c5 (pcs T):=by rw[Wk.out];exact HOT.out
   have TU:∀x,aa A5=some x→w.heap.size≤x:=fun x hx=>(Own.block V2 hx).1;have VW:aa A5≠some g:=fun hx=>by have:=TU g hx;omega
   have o14:Own Y5 w.heap.size 176 2 A5 nt c5 (pcs T):=by rw[PN];exact(Own.setOther V2 (p:=⟨g,1,none⟩) VW _).drew
   have P7:∀(A:Option Addr) (D:List Pr),aa A≠some g→Prs wo w.heap.size A D→Prs Y5 w.heap.size A D:=fun A D hA hD=>⟨hD.1,fun hn=>by
    obtain⟨bb,oo,e,OO,XY⟩:=hD.2 hn;subst e;refine⟨bb,oo,rfl,OO,fun j u hj=>?_⟩;rw[PN,show((wo.setCell ⟨g,1,none⟩ (.int .u64 ((tot R:Nat):Int))).drew).cell? ⟨bb,oo+j,none⟩=wo.cell? ⟨bb,oo+j,none⟩ from World.cell?_of_block (Below.heap_setCell wo ⟨g,1,none⟩ _ bb (fun e=>hA (by rw[e];rfl)))];exact XY j u hj⟩
   have rA:=P7 Aa ([]) HGA.out HPA.out;have rB:=P7 Ab (Db) HGB.out Rn.out;have TW:w.heap.size≤Y5.heap.size:=by rw[PN];simpa [World.setCell] using Mk.out.size
   have Vp:ab (TK g) w Y5:=by rw[PN];exact((ab.of_below (K:=TK g) Mk.out).set (p:=⟨g,1,none⟩) (.inl (show TK g g from rfl)) _).drew
   clear P7 V2 PN;go_wp2_with (at_builtin;refine Hid.out ?_);refine aj (xs:=pcs T) (news:=pcs ([])) rfl rfl cg rfl o14 rfl (by have h:=rA;unfold Prs at h;rw[←Z2.out] at h;exact h) (aI _) (nt+na) rfl (pcs (T++([]))) (au _ _).symm (by unfold maxLen;omega) oq TW ?_;intro A6 c6 w6 o6 g6 q6;have rB6:Prs w6 w.heap.size Ab (Db):=am.grown rB g6 TW TU;have XJ:=UN.grown g6 (fun e=>VW e.symm);have hs6:=Oo TW g6.size;have a1O:=Vp.step (ab.of_grown g6) (fun i hi=>.inr (TU i hi));have XK:∀x,aa A6=some x→w.heap.size≤x:=fun x hx=>(Own.block o6 hx).1;have a1N:aa A6≠some g:=fun hx=>by have:=XK g hx;omega
   go_wp2_with (at_builtin;refine Hid.out ?_);refine aj (xs:=pcs (T++([]))) (news:=pcs (Db)) rfl rfl cg rfl o6 rfl (by have h:=rB6;unfold Prs at h;rw[←Sd.out] at h;exact h) (aI _) (nt+na+nb) rfl (pcs R) (by rw[←au,Y4.out]) (by unfold maxLen;omega) oq hs6 ?_;exact tK
  |cons p Da=>
   cases Db with
   |nil=>
    have Sj:(T++(p::Da))++[]=R:=by have h:=HTR.out;rw[yK] at h;rw[List.append_nil];exact h
    have x0:decide ((0:Int)<(na:Int))=true:=by rw[List.length_cons] at Y3;simp;omega
    have x0b:decide (0<na)=true:=by rw[List.length_cons] at Y3;simp;omega
    have x1:decide ((0:Int)<(nb:Int))=false:=by simp only[List.length_nil] at TF;simp;omega
    have x2:decide (0<nb)=false:=by simp only[List.length_nil] at TF;simp;omega
    have EQ:=H.out.1.below Mk.out If;have k1:wo.cell? ⟨g,1,none⟩=some (.int .u64 (tot L:Nat)):=(Mk.out.cell (p:=⟨g,1,none⟩) If).trans c1;have k2:wo.cell? ⟨gt,1,none⟩=some (.int .u64 (tot M:Nat)):=(Mk.out.cell (p:=⟨gt,1,none⟩) a5b).trans t1;have fr:=EQ.free;have Pw:=Oh EQ;have hcp:=a2h.out;have QI:IntKind.u64.wrap (((tot L:Nat):Int)+((tot M:Nat):Int))=((tot R:Nat):Int):=by rw[a2g.out,IntWalk.u64_in _ ⟨oq,oq⟩];omega
    have HLR:Hid (nt+na+nb=R.length):=Oh (by rw[←Sj,Ok,Ok];simp only[List.length_nil] at*;omega);have Wk:=Oh XZ;have Y4:=Oh Sj;have Z2:=Oh Y3;have Sd:=Oh TF;clear EQ hcp c1 t1 c0 t0 Sj XZ hlen Wj hcb Y3 TF;go_wp2_with fail;refine wp_region_noPanic ?_;refine aR (S:=((fun W'=>W'.cell? ⟨g,1,none⟩=some (.int .u64 (tot L:Nat))∧W'.cell? ⟨gt,1,none⟩=some (.int .u64 (tot M:Nat))))) (L:=11) ok' ⟨by simpa using k1,by simpa using k2⟩ (fun hHeld=>?_);refine tT 0 ?_;refine tT 1 ?_;refine tT 2 ?_;refine tT 3 ?_;refine tT 4 ?_;refine tT 5 ?_;refine tT 6 ?_;refine tT 7 ?_;refine tT 8 ?_;refine tT 9 ?_;refine tT 10 ?_;refine dP 11 fun K hK=>?_;go_simp;refine hK.out _ _ ?_ (fun hHeld=>?_)
    ·exact fun h=>absurd rfl h
    clear hK K
    try go_simp
    refine me ?_;obtain⟨Y5,PN⟩:=nm ((wo.setCell ⟨g,1,none⟩ (.int .u64 ((tot R:Nat):Int))).drew);rw[←PN]
    have UN:Blk Y5 g 426 #[.slice A L.length c,.int .u64 ((tot R:Nat):Int)]:=by
     have h:=(Pw.out.put 1 (.int .u64 ((tot R:Nat):Int))).drew;rw[PN];simpa using h
    have V2:Own wo w.heap.size 176 2 A5 nt c5 (pcs T):=by rw[Wk.out];exact HOT.out
    have TU:∀x,aa A5=some x→w.heap.size≤x:=fun x hx=>(Own.block V2 hx).1;have VW:aa A5≠some g:=fun hx=>by have:=TU g hx;omega
    have o14:Own Y5 w.heap.size 176 2 A5 nt c5 (pcs T):=by rw[PN];exact(Own.setOther V2 (p:=⟨g,1,none⟩) VW _).drew
    have P7:∀(A:Option Addr) (D:List Pr),aa A≠some g→Prs wo w.heap.size A D→Prs Y5 w.heap.size A D:=fun A D hA hD=>⟨hD.1,fun hn=>by
     obtain⟨bb,oo,e,OO,XY⟩:=hD.2 hn;subst e;refine⟨bb,oo,rfl,OO,fun j u hj=>?_⟩;rw[PN,show((wo.setCell ⟨g,1,none⟩ (.int .u64 ((tot R:Nat):Int))).drew).cell? ⟨bb,oo+j,none⟩=wo.cell? ⟨bb,oo+j,none⟩ from World.cell?_of_block (Below.heap_setCell wo ⟨g,1,none⟩ _ bb (fun e=>hA (by rw[e];rfl)))];exact XY j u hj⟩
    have rA:=P7 Aa (p::Da) HGA.out HPA.out;have rB:=P7 Ab ([]) HGB.out Rn.out;have TW:w.heap.size≤Y5.heap.size:=by rw[PN];simpa [World.setCell] using Mk.out.size
    have Vp:ab (TK g) w Y5:=by rw[PN];exact((ab.of_below (K:=TK g) Mk.out).set (p:=⟨g,1,none⟩) (.inl (show TK g g from rfl)) _).drew
    clear P7 V2 PN;go_wp2_with (at_builtin;refine Hid.out ?_);refine aj (xs:=pcs T) (news:=pcs (p::Da)) rfl rfl cg rfl o14 rfl (by have h:=rA;unfold Prs at h;rw[←Z2.out] at h;exact h) (aI _) (nt+na) rfl (pcs (T++(p::Da))) (au _ _).symm (by unfold maxLen;omega) oq TW ?_;intro A6 c6 w6 o6 g6 q6;have rB6:Prs w6 w.heap.size Ab ([]):=am.grown rB g6 TW TU;have XJ:=UN.grown g6 (fun e=>VW e.symm);have hs6:=Oo TW g6.size;have a1O:=Vp.step (ab.of_grown g6) (fun i hi=>.inr (TU i hi));have XK:∀x,aa A6=some x→w.heap.size≤x:=fun x hx=>(Own.block o6 hx).1;have a1N:aa A6≠some g:=fun hx=>by have:=XK g hx;omega
    go_wp2_with (at_builtin;refine Hid.out ?_);refine aj (xs:=pcs (T++(p::Da))) (news:=pcs ([])) rfl rfl cg rfl o6 rfl (by have h:=rB6;unfold Prs at h;rw[←Sd.out] at h;exact h) (aI _) (nt+na+nb) rfl (pcs R) (by rw[←au,Y4.out]) (by unfold maxLen;omega) oq hs6 ?_;exact tK
   |cons q Db=>
    obtain⟨b1,o1,hA1,V3,Wm⟩:=HPA.out.at_ os';obtain⟨b2,o2,TI,Wn,Ql⟩:=Rn.out.at_ os';subst hA1;subst TI;obtain⟨d1,d2⟩:=Wm 0 p rfl;obtain⟨d3,d4⟩:=Ql 0 q rfl;have a5g:=Oh (vv HPA.out);have a5h:=Oh (vv Rn.out);have U2:=HTR.out;rw[vF] at U2;have Y6:∀r∈R,r.2≤4611686018427387904:=fun r hr=>by have h1:=aW hr;have h2:=a2g.out;have h3:=a2h.out;omega
    have HME:=Oh Y6;rw[List.length_cons] at Y3 TF;obtain⟨px,pn⟩:=p;obtain⟨qx,qn⟩:=q;dsimp only at d1 d2 d3 d4 U2;rw[Nat.zero_mul,Nat.add_zero] at d1 d2 d3 d4;have eQ:b1<(wo.drewN nq).drew.heap.size:=Nat.lt_of_lt_of_le V3 Mk.out.size;have aT:b2<(wo.drewN nq).drew.heap.size:=Nat.lt_of_lt_of_le Wn Mk.out.size;have d1w:=(Mk.out.cell (p:=⟨b1,o1,none⟩) V3).symm.trans d1;have d2w:=(Mk.out.cell (p:=⟨b1,o1+1,none⟩) V3).symm.trans d2;have d3w:=(Mk.out.cell (p:=⟨b2,o2,none⟩) Wn).symm.trans d3;have d4w:=(Mk.out.cell (p:=⟨b2,o2+1,none⟩) Wn).symm.trans d4;have Sz:(0:Int)<(na:Int):=oq;have Vv:(0:Int)<(nb:Int):=oq;have hn3:(1:Int)≤(na:Int):=oq;have hn4:(1:Int)≤(nb:Int):=oq;have hn5:(1:Int)≤(ca:Int):=oq;have hn6:(1:Int)≤(cb:Int):=oq;have hn7:1≤na:=oq;have hn8:1≤nb:=oq;have Z2:=Oh (show na-1=Da.length by omega);have Sd:=Oh (show nb-1=Db.length by omega);have HCA:=Oh (show na-1≤ca-1 by omega);have HCB:=Oh (show nb-1≤cb-1 by omega);have a5k:Hid (ca=1→Da=[]):=Oh (fun h=>List.eq_nil_of_length_eq_zero oq);have a5l:Hid (cb=1→Db=[]):=Oh (fun h=>List.eq_nil_of_length_eq_zero oq);have Xb:=Oh (show nt+1+(na-1)+nb≤100000∧nt+1+na+(nb-1)≤100000∧nt+1+(na-1)+(nb-1)≤100000∧na≤ca∧nb≤cb by omega);have a9W:Hid (nb=((qx,qn)::Db).length):=Oh (by rw[List.length_cons];exact TF);have a9X:Hid (na=((px,pn)::Da).length):=Oh (by rw[List.length_cons];exact Y3);clear Wm Ql Y3 TF Y6 hlen XZ
    by_cases hlt:px<qx
    ·rw[if_pos hlt] at U2;have HMC:Hid ((T++[(px,pn)])++mrg Da ((qx,qn)::Db)=R):=Oh (by rw[List.append_assoc];exact U2);have x1:decide (px<qx)=true:=by simpa using hlt
     clear U2
     by_cases Wm:ca=1
     all_goals
      go_wp2_with fail;go_quiet (fail);go_wp2_with fail;have hOT:Own (wo.drewN nq).drew w.heap.size 176 2 A5 nt c5 (pcs T):=by rw[Wk.out];exact HOT.out
      refine wp_region_noPanic ?_;refine aR (S:=(fun W'=>W'.cell? ⟨b1,o1,none⟩=some (.int .i64 px)∧W'.cell? ⟨b1,o1+1,none⟩=some (.int .u64 (pn:Int)))) (L:=9) ok' ⟨by simpa using d1,by simpa using d2⟩ (fun hHeld=>?_);refine tT 0 ?_;refine tT 1 ?_;refine tT 2 ?_;refine tT 3 ?_;refine tT 6 ?_;refine tT 7 ?_;refine dP 4 fun K hK=>?_;go_simp;refine hK.out _ _ ?_ (fun hHeld=>?_)
      ·exact fun _=>⟨by simpa using(World.cell?_alloc_lt (wo.drewN nq).drew _ ⟨b1,o1,none⟩ eQ).trans d1,by simpa using(World.cell?_alloc_lt (wo.drewN nq).drew _ ⟨b1,o1+1,none⟩ eQ).trans d2⟩
      clear hK K;replace hHeld:=hHeld od
      try go_simp
      refine dP 5 fun K hK=>?_;refine bo (s:=.tmp 67) (x:=.tmp 71) (t:=172) (base:=w.heap.size) (A:=A5) (n:=nt) (c:=c5) (xs:=pcs T) (B:=((wo.drewN nq).drew.alloc (.cells #[.int .i64 px,.int .u64 (pn:Int)] 176)).heap.size) (D:=some ⟨(wo.drewN nq).drew.heap.size,0,none⟩) (m:=1) (c2:=1) (news:=pcs [(px,pn)]) (by rfl) (by rfl) cg (by rfl) (Own.alloc hOT (.cells #[.int .i64 px,.int .u64 (pn:Int)] 176)) (by rfl) (gz (wo.drewN nq).drew px pn) (aI _) (nt+1) rfl (pcs (T++[(px,pn)])) (au _ _).symm (by unfold maxLen;omega) oq (by have:=Mk.out.size;simp;omega) ?_;intro A3 c3 w3 o3 g3 q3;have PZ:=wD (fG (show Below w.heap.size w (wo.drewN nq).drew from(ae Mk.out nq).drew) (.cells #[.int .i64 px,.int .u64 (pn:Int)] 176)) (Own.alloc hOT _) g3 (Oi _) (fG (show Below w.heap.size w (wo.drewN nq).drew from(ae Mk.out nq).drew) (.cells #[.int .i64 px,.int .u64 (pn:Int)] 176)).size;have f0:=(PZ.cell (p:=⟨b1,o1,none⟩) V3).trans d1w;have f1:=(PZ.cell (p:=⟨b1,o1+1,none⟩) V3).trans d2w;have fR:=Oh PZ;have sO:=Oh o3;clear o3 g3 q3 PZ;refine hK.out _ _ ?_ (fun hHeld=>?_)
      ·exact fun _=>⟨f0,f1⟩
      clear hK K;replace hHeld:=hHeld od
      try go_simp
      refine tT 8 ?_;refine dP 9 fun K hK=>?_;go_simp;refine hK.out _ _ ?_ (fun hHeld=>?_)
      ·exact fun h=>absurd rfl h
      clear hK K
      try go_simp
      refine me ?_;go_wp2_with fail;go_roundw
      case rel=>exact⟨T++[(px,pn)],Da,(qx,qn)::Db,A3,_,_,c3,_,_,nt+1,na-1,nb,rfl,rfl,rfl,by rw[Ok,Wk.out];rfl,Z2.out,a9W.out,by have:=HCA.out;omega,Xb.out.2.2.2.2,HMC.out,Xb.out.1,by first|exact(a5g.out).below' fR.out Mk.out|(rw[a5k.out (by assumption)];exact mG),Rn.out.below' fR.out Mk.out,by unfold bI;rw[Ok,←Wk.out];exact sO.out,fR.out,HGA.out,HGB.out⟩
      case measure=>simp[Gd];omega
    ·rw[if_neg hlt] at U2;have x1:decide (px<qx)=false:=sq
     by_cases hgt:qx<px
     ·rw[if_pos hgt] at U2;have HMC:Hid ((T++[(qx,qn)])++mrg ((px,pn)::Da) Db=R):=Oh (by rw[List.append_assoc];exact U2);have x2:decide (qx<px)=true:=by simpa using hgt
      clear U2
      by_cases Wm:cb=1
      all_goals
       go_wp2_with fail;go_quiet (fail);go_wp2_with fail;generalize nq=n1 at*;go_quiet (fail);rw[World.drewN_drewN];go_wp2_with fail;have hOT:Own (wo.drewN (n1+nq)).drew w.heap.size 176 2 A5 nt c5 (pcs T):=by rw[Wk.out];exact HOT.out
       refine wp_region_noPanic ?_;refine aR (S:=(fun W'=>W'.cell? ⟨b2,o2,none⟩=some (.int .i64 qx)∧W'.cell? ⟨b2,o2+1,none⟩=some (.int .u64 (qn:Int)))) (L:=9) ok' ⟨by simpa using d3,by simpa using d4⟩ (fun hHeld=>?_);refine tT 0 ?_;refine tT 1 ?_;refine tT 2 ?_;refine tT 3 ?_;refine tT 6 ?_;refine tT 7 ?_;refine dP 4 fun K hK=>?_;go_simp;refine hK.out _ _ ?_ (fun hHeld=>?_)
       ·exact fun _=>⟨by simpa using(World.cell?_alloc_lt (wo.drewN (n1+nq)).drew _ ⟨b2,o2,none⟩ aT).trans d3,by simpa using(World.cell?_alloc_lt (wo.drewN (n1+nq)).drew _ ⟨b2,o2+1,none⟩ aT).trans d4⟩
       clear hK K;replace hHeld:=hHeld od
       try go_simp
       refine dP 5 fun K hK=>?_;refine bo (s:=.tmp 85) (x:=.tmp 89) (t:=172) (base:=w.heap.size) (A:=A5) (n:=nt) (c:=c5) (xs:=pcs T) (B:=((wo.drewN (n1+nq)).drew.alloc (.cells #[.int .i64 qx,.int .u64 (qn:Int)] 176)).heap.size) (D:=some ⟨(wo.drewN (n1+nq)).drew.heap.size,0,none⟩) (m:=1) (c2:=1) (news:=pcs [(qx,qn)]) (by rfl) (by rfl) cg (by rfl) (Own.alloc hOT (.cells #[.int .i64 qx,.int .u64 (qn:Int)] 176)) (by rfl) (gz (wo.drewN (n1+nq)).drew qx qn) (aI _) (nt+1) rfl (pcs (T++[(qx,qn)])) (au _ _).symm (by unfold maxLen;omega) oq (by have:=Mk.out.size;simp;omega) ?_;intro A3 c3 w3 o3 g3 q3;have PZ:=wD (fG (show Below w.heap.size w (wo.drewN (n1+nq)).drew from(ae Mk.out (n1+nq)).drew) (.cells #[.int .i64 qx,.int .u64 (qn:Int)] 176)) (Own.alloc hOT _) g3 (Oi _) (fG (show Below w.heap.size w (wo.drewN (n1+nq)).drew from(ae Mk.out (n1+nq)).drew) (.cells #[.int .i64 qx,.int .u64 (qn:Int)] 176)).size;have f0:=(PZ.cell (p:=⟨b2,o2,none⟩) Wn).trans d3w;have f1:=(PZ.cell (p:=⟨b2,o2+1,none⟩) Wn).trans d4w;have fR:=Oh PZ;have sO:=Oh o3;clear o3 g3 q3 PZ;refine hK.out _ _ ?_ (fun hHeld=>?_)
       ·exact fun _=>⟨f0,f1⟩
       clear hK K;replace hHeld:=hHeld od
       try go_simp
       refine tT 8 ?_;refine dP 9 fun K hK=>?_;go_simp;refine hK.out _ _ ?_ (fun hHeld=>?_)
       ·exact fun h=>absurd rfl h
       clear hK K
       try go_simp
       refine me ?_;go_wp2_with fail;go_roundw
       case rel=>exact⟨T++[(qx,qn)],(px,pn)::Da,Db,A3,_,_,c3,_,_,nt+1,na,nb-1,rfl,rfl,rfl,by rw[Ok,Wk.out];rfl,a9X.out,Sd.out,Xb.out.2.2.2.1,by have:=HCB.out;omega,HMC.out,Xb.out.2.1,HPA.out.below' fR.out Mk.out,by first|exact(a5h.out).below' fR.out Mk.out|(rw[a5l.out (by assumption)];exact mG),by unfold bI;rw[Ok,←Wk.out];exact sO.out,fR.out,HGA.out,HGB.out⟩
       case measure=>simp[Gd];omega
     ·rw[if_neg hgt] at U2;obtain⟨sn,UD⟩:=nm (pn+qn);rw[←UD] at U2;have HMC:Hid ((T++[(px,sn)])++mrg Da Db=R):=Oh (by rw[List.append_assoc];exact U2);have hsb:=HME.out (px,sn) (by rw[←U2];simp);dsimp only at hsb;have QI:IntKind.u64.wrap ((pn:Int)+(qn:Int))=(sn:Int):=by rw[IntWalk.u64_in _ ⟨oq,oq⟩];omega
      have x2:decide (qx<px)=false:=sq;clear U2 UD hsb
      by_cases Wm:ca=1<;>by_cases Ql:cb=1
      all_goals
       go_wp2_with fail;go_quiet (fail);go_wp2_with fail;generalize nq=n1 at*;go_quiet (fail);rw[World.drewN_drewN];go_wp2_with fail;have hOT:Own (wo.drewN (n1+nq)).drew w.heap.size 176 2 A5 nt c5 (pcs T):=by rw[Wk.out];exact HOT.out
       refine wp_region_noPanic ?_;refine aR (S:=(fun W'=>W'.cell? ⟨b1,o1,none⟩=some (.int .i64 px)∧W'.cell? ⟨b1,o1+1,none⟩=some (.int .u64 (pn:Int))∧W'.cell? ⟨b2,o2+1,none⟩=some (.int .u64 (qn:Int)))) (L:=17) ok' ⟨by simpa using d1,by simpa using d2,by simpa using d4⟩ (fun hHeld=>?_);refine tT 0 ?_;refine tT 1 ?_;refine tT 2 ?_;refine tT 3 ?_;refine tT 4 ?_;refine tT 5 ?_;refine tT 6 ?_;refine tT 7 ?_;refine tT 8 ?_;refine tT 9 ?_;refine tT 10 ?_;refine tT 11 ?_;refine tT 12 ?_;refine tT 13 ?_;refine tT 14 ?_;refine dP 15 fun K hK=>?_;go_simp;refine hK.out _ _ ?_ (fun hHeld=>?_)
       ·exact fun _=>⟨by simpa using(World.cell?_alloc_lt (wo.drewN (n1+nq)).drew _ ⟨b1,o1,none⟩ eQ).trans d1,by simpa using(World.cell?_alloc_lt (wo.drewN (n1+nq)).drew _ ⟨b1,o1+1,none⟩ eQ).trans d2,by simpa using(World.cell?_alloc_lt (wo.drewN (n1+nq)).drew _ ⟨b2,o2+1,none⟩ aT).trans d4⟩
       clear hK K;replace hHeld:=hHeld od
       try go_simp
       refine dP 16 fun K hK=>?_;refine bo (s:=.tmp 36) (x:=.tmp 51) (t:=172) (base:=w.heap.size) (A:=A5) (n:=nt) (c:=c5) (xs:=pcs T) (B:=((wo.drewN (n1+nq)).drew.alloc (.cells #[.int .i64 px,.int .u64 (sn:Int)] 176)).heap.size) (D:=some ⟨(wo.drewN (n1+nq)).drew.heap.size,0,none⟩) (m:=1) (c2:=1) (news:=pcs [(px,sn)]) (by rfl) (by rfl) cg (by rfl) (Own.alloc hOT (.cells #[.int .i64 px,.int .u64 (sn:Int)] 176)) (by rfl) (gz (wo.drewN (n1+nq)).drew px sn) (aI _) (nt+1) rfl (pcs (T++[(px,sn)])) (au _ _).symm (by unfold maxLen;omega) oq (by have:=Mk.out.size;simp;omega) ?_;intro A3 c3 w3 o3 g3 q3;have PZ:=wD (fG (show Below w.heap.size w (wo.drewN (n1+nq)).drew from(ae Mk.out (n1+nq)).drew) (.cells #[.int .i64 px,.int .u64 (sn:Int)] 176)) (Own.alloc hOT _) g3 (Oi _) (fG (show Below w.heap.size w (wo.drewN (n1+nq)).drew from(ae Mk.out (n1+nq)).drew) (.cells #[.int .i64 px,.int .u64 (sn:Int)] 176)).size;have f0:=(PZ.cell (p:=⟨b1,o1,none⟩) V3).trans d1w;have f1:=(PZ.cell (p:=⟨b1,o1+1,none⟩) V3).trans d2w;have f2:=(PZ.cell (p:=⟨b2,o2+1,none⟩) Wn).trans d4w;have fR:=Oh PZ;have sO:=Oh o3;clear o3 g3 q3 PZ;refine hK.out _ _ ?_ (fun hHeld=>?_)
       ·exact fun _=>⟨f0,f1,f2⟩
       clear hK K;replace hHeld:=hHeld od
       try go_simp
       refine dP 17 fun K hK=>?_;go_simp;refine hK.out _ _ ?_ (fun hHeld=>?_)
       ·exact fun h=>absurd rfl h
       clear hK K
       try go_simp
       refine me ?_;go_wp2_with fail;go_quiet (fail);go_wp2_with fail;go_roundw
       case rel=>exact⟨T++[(px,sn)],Da,Db,A3,_,_,c3,_,_,nt+1,na-1,nb-1,rfl,rfl,rfl,by rw[Ok,Wk.out];rfl,Z2.out,Sd.out,by have:=HCA.out;omega,by have:=HCB.out;omega,HMC.out,Xb.out.2.2.1,by first|exact(a5g.out).below' (ae fR.out _) Mk.out|(rw[a5k.out (by assumption)];exact mG),by first|exact(a5h.out).below' (ae fR.out _) Mk.out|(rw[a5l.out (by assumption)];exact mG),by unfold bI;rw[Ok,←Wk.out];exact sO.out,ae fR.out _,HGA.out,HGB.out⟩
       case measure=>simp[Gd];omega
theorem KF(g gt:Nat)(A At:Option Addr)(c ct:Nat)(L M:List Pr)(w:World)(h:Lst w g A c L)(ht:Lst w gt At ct M)(hf:aV L)(Y2:aV M)(hlm:L.length+M.length≤100000):
  Cl 286 #[.pointer (some ⟨g,0,none⟩),.pointer (some ⟨gt,0,none⟩)] w fun e w'=>e=.returned (.int .i64 (bE L M 0).2)∧Gg g A (bE L M 0).1 w w':=by
 rw[oY]
 by_cases OA:4611686018427387904-tot L<tot M
 ·rw[if_neg (fun h=>by rw[h,dX] at OA;omega),if_pos OA];exact CA g gt A At c ct L M w h ht hf.tot OA
 ·have hk:=GF g gt A At c ct L M w h ht hf Y2 OA hlm
  by_cases hM:M=[]
  ·rw[if_pos hM];subst hM;exact hk
  ·rw[if_neg hM,if_neg OA];exact hk
theorem li{L M:List Pr}(hf:aV L)(Y2:aV M)(hlm:L.length+M.length≤100000):aV (bE L M 0).1∧(bE L M 0).1.length≤L.length+M.length:=by
 rw[oY];split
 ·exact⟨hf,by simp⟩
 ·split
  ·exact⟨hf,by simp⟩
  ·have hp:=vD hf.srt hf.pos Y2.srt Y2.pos;obtain⟨a,b,_,d⟩:=vE _ L M (Oi _) hf.srt hf.pos Y2.srt Y2.pos;rw[hp] at a b d;have h1:=hf.tot;refine⟨⟨a,b,fun r hr=>?_,by simp only[vt];omega,by have:=iO (l:=L) (m:=M);simp only;omega⟩,iO⟩;rcases d r hr with⟨x,hx,e⟩|⟨x,hx,e⟩
   ·have:=hf.keys x hx;omega
   ·have:=Y2.keys x hx;omega
end
namespace Pl
theorem jM{L:List Pr}{i:Nat}(h:i<L.length):∃p R,L=L.take i++p::R∧fk L i=(p.1,p.2+tot (L.take i))::R∧L[i]?=some p:=by
 have h1:L.drop i=L[i]::L.drop (i+1):=List.drop_eq_getElem_cons h;refine⟨L[i],L.drop (i+1),?_,?_,Oj h⟩
 ·rw[←h1,List.take_append_drop]
 ·unfold fk;rw[h1]
theorem ll{L:List Pr}(hs:Srt L){i:Nat}{p:Pr}{R:List Pr}(h:L=L.take i++p::R):(∀q∈L.take i,q.1<p.1)∧(∀q∈R,p.1<q.1):=by
 have SB:Srt (L.take i++p::R):=by rw[←h];exact hs
 obtain⟨_,a2,a3⟩:=List.pairwise_append.1 SB;exact⟨fun q hq=>a3 q hq p os',(aq.1 a2).1⟩
theorem jm:∀(R L:List Pr),Srt L→Srt R→(∀p∈L,∃q∈R,q.1=p.1)→L.length≤R.length
 | [],L,_,_,h=>by
  cases L with
  |nil=>exact Oi _
  |cons p L=>obtain⟨q,hq,_⟩:=h p os';cases hq
 |q::R,[],_,_,_=>Nat.zero_le _
 |q::R,p::L,hl,hr,h=>by
  obtain⟨a1,a2⟩:=aq.1 hl;obtain⟨b1,b2⟩:=aq.1 hr;obtain⟨x,hx,e⟩:=h p os';rcases List.mem_cons.1 hx with rfl|hx2
  ·have h3:=jm R L a2 b2 (fun y hy=>by
    obtain⟨z,hz,e2⟩:=h y (by simp[hy]);rcases List.mem_cons.1 hz with rfl|hz
    ·have:=a1 y hy;omega
    ·exact⟨z,hz,e2⟩)
   simp only[List.length_cons];omega
  ·have h3:=jm R (p::L) hl b2 (fun y hy=>by
    obtain⟨z,hz,e2⟩:=h y hy;rcases List.mem_cons.1 hz with rfl|hz
    ·have h4:=b1 x hx2;rcases List.mem_cons.1 hy with rfl|hy
     ·omega
     ·have:=a1 y hy;omega
    ·exact⟨z,hz,e2⟩)
   simp only[List.length_cons] at h3 ⊢;omega
def up(L:List Pr)(k:Int):Nat:=(L.filter (fun p=>decide (k≤p.1))).length
theorem gW{L:List Pr}(hs:Srt L)(P:Pr→Bool):Srt (L.filter P):=List.Pairwise.filter _ hs
theorem sb{L R:List Pr}(hl:Srt L)(hr:Srt R){k:Int}(h:∀p∈L,k≤p.1→∃q∈R,q.1=p.1):up L k≤up R k:=by
 refine jm _ _ (gW hl _) (gW hr _) (fun p hp=>?_);obtain⟨h1,h2⟩:=List.mem_filter.1 hp;have h3:=of_decide_eq_true h2;obtain⟨q,hq,e⟩:=h p h1 h3;exact⟨q,List.mem_filter.2 ⟨hq,decide_eq_true oq⟩,e⟩
theorem Ku{L:List Pr}{k:Int}(h:∀p∈L,k≤p.1):up L k=L.length:=by
 unfold up;rw[List.filter_eq_self.2 (fun p hp=>decide_eq_true (h p hp))]
theorem te{L:List Pr}(hs:Srt L){i:Nat}{p:Pr}{R:List Pr}(h:L=L.take i++p::R):up L p.1=R.length+1:=by
 obtain⟨hl,hr⟩:=ll hs h;unfold up
 rw[h,List.filter_append,List.filter_eq_nil_iff.2 (fun q hq=>by have:=hl q hq;simp;omega),List.nil_append,
  List.filter_eq_self.2 (fun q hq=>by
   rcases List.mem_cons.1 hq with rfl|hq
   ·simp
   ·have:=hr q hq;simp;omega),List.length_cons]
theorem MU(L:List Pr)(k:Int):up L k≤L.length:=List.length_filter_le _ _
theorem rb{R:List Pr}(hr:Srt R){k j:Int}(h:k<j){q:Pr}(hq:q∈R)(e:q.1=k):up R j+1≤up R k:=by
 have h1:(q::R.filter (fun p=>decide (j≤p.1))).length≤(R.filter (fun p=>decide (k≤p.1))).length:=by
  refine jm _ _ (aq.2 ⟨fun x hx=>?_,gW hr _⟩) (gW hr _) (fun x hx=>?_)
  ·have:=of_decide_eq_true (List.mem_filter.1 hx).2;omega
  ·rcases List.mem_cons.1 hx with rfl|hx
   ·exact⟨x,List.mem_filter.2 ⟨hq,decide_eq_true oq⟩,rfl⟩
   ·obtain⟨h2,h3⟩:=List.mem_filter.1 hx;have:=of_decide_eq_true h3;exact⟨x,List.mem_filter.2 ⟨h2,decide_eq_true oq⟩,rfl⟩
 rw[List.length_cons] at h1;exact h1
theorem kd(A B:List Pr)(K:Int):below (A++B) K=below A K+below B K:=by
 unfold below;rw[List.filter_append,cj]
theorem bF(p:Pr)(L:List Pr)(K:Int):below (p::L) K=(if p.1<K then p.2 else 0)+below L K:=by
 unfold below;rw[List.filter_cons]
 by_cases h:p.1<K
 ·rw[if_pos (by simpa using h),if_pos h,aK]
 ·rw[if_neg (by simpa using h),if_neg h,Nat.zero_add]
theorem qK{L:List Pr}{K:Int}(h:∀p∈L,p.1<K):below L K=tot L:=by
 unfold below;rw[List.filter_eq_self.2 (fun p hp=>decide_eq_true (h p hp))]
theorem dL{L:List Pr}{K:Int}(h:∀p∈L,K≤p.1):below L K=0:=by
 unfold below;rw[List.filter_eq_nil_iff.2 (fun p hp=>by have:=h p hp;simp;omega)];rfl
theorem C4{L:List Pr}{k:Int}{n:Nat}(K:Int):below (put L k n) K=below L K+if k<K then n else 0:=by
 induction L with
 |nil=>rw[put,bF];simp[below,tot]
 |cons p L ih=>
  rw[put]
  by_cases c1:p.1<k
  ·rw[if_pos c1,bF,ih,bF];omega
  ·rw[if_neg c1]
   by_cases c2:p.1=k
   ·rw[if_pos c2,bF,bF,←c2];simp only
    by_cases h:p.1<K
    ·rw[if_pos h,if_pos h,if_pos h];omega
    ·rw[if_neg h,if_neg h,if_neg h];omega
   ·rw[if_neg c2,bF,bF];simp only;omega
theorem gX{L M:List Pr}(K:Int):below (az L M) K=below L K+below M K:=by
 induction M generalizing L with
 |nil=>simp[az,below,tot]
 |cons p M ih=>rw[show az L (p::M)=az (put L p.1 p.2) M from rfl,ih,C4,bF];omega
theorem qh{L M:List Pr}:∀q∈az L M,(∃p∈L,p.1=q.1)∨∃p∈M,p.1=q.1:=by
 induction M generalizing L with
 |nil=>intro q hq;exact .inl ⟨q,hq,rfl⟩
 |cons x M ih=>
  intro q hq;rcases ih q hq with⟨p,hp,e⟩|⟨p,hp,e⟩
  ·rcases gy p hp with h|⟨y,hy,e2⟩
   ·exact .inr ⟨x,by simp,oq⟩
   ·exact .inl ⟨y,hy,oq⟩
  ·exact .inr ⟨p,by simp[hp],e⟩
theorem dJ{L:List Pr}{k:Int}(h:cnt L k≠0):∃p∈L,p.1=k:=⟨_,zt h,rfl⟩
theorem jw{L:List Pr}(hs:Srt L)(hp:Pos L){p:Pr}(h:p∈L):cnt L p.1≠0:=by rw[dK hs h];have:=hp p h;omega
structure mo(k:Int)(L M:List Pr):Prop where
 srt:Srt M
 pos:Pos M
 above:∀j,k<j→cnt M j=cnt L j
 under:∀K,k<K→below M K=below L K
 least:∀q∈M,k≤q.1
 keys:∀q∈M,∃p∈L,p.1=q.1
theorem je{L:List Pr}(hs:Srt L)(hp:Pos L){i:Nat}(hi:i<L.length):∃p,p∈L∧mo p.1 L (fk L i)∧up L p.1=L.length-i:=by
 obtain⟨p,R,e1,e2,e3⟩:=jM hi;obtain⟨hl,hr⟩:=ll hs e1
 have hlen:L.length=(L.take i).length+(R.length+1):=by
  have:=congrArg List.length e1;rw[Ok,List.length_cons] at this;exact this
 have hti:(L.take i).length=i:=by rw[List.length_take];omega
 refine⟨p,Om e3,⟨wm hs i,ws hp i,fun j hj=>?_,fun K hK=>?_,fun q hq=>?_,fun q hq=>?_⟩,by rw[te hs e1];omega⟩
 ·rw[e2]
  have hc:cnt L j=cnt R j:=by
   have:∀(A:List Pr),(∀q∈A,q.1≠j)→cnt (A++p::R) j=cnt (p::R) j:=by
    intro A
    induction A with
    |nil=>intro _;rfl
    |cons a A ih=>intro h;rw[List.cons_append,cnt,if_neg (h a os'),ih (fun q hq=>h q (by simp[hq]))]
   rw[e1,this _ (fun q hq=>by have:=hl q hq;omega),cnt,if_neg oq]
  rw[hc,cnt,if_neg (by simp only;omega)]
 ·rw[e2,bF]
  have hb:below L K=tot (L.take i)+(p.2+below R K):=by
   have h1:below L K=below (L.take i++p::R) K:=by rw[←e1]
   rw[h1,kd,qK (fun q hq=>by have:=hl q hq;omega),bF,if_pos hK]
  rw[hb,if_pos (by simpa using hK)];simp only;omega
 ·rw[e2] at hq;rcases List.mem_cons.1 hq with rfl|hq
  ·exact Int.le_refl _
  ·have:=hr q hq;omega
 ·rw[e2] at hq;rcases List.mem_cons.1 hq with rfl|hq
  ·exact⟨p,Om e3,rfl⟩
  ·exact⟨q,by rw[e1];exact List.mem_append_right _ (by simp[hq]),rfl⟩
theorem jN{L:List Pr}(hs:Srt L)(hp:Pos L){k:Int}(h:∀q∈L,k≤q.1):mo k L L:=⟨hs,hp,fun _ _=>rfl,fun _ _=>rfl,h,fun q hq=>⟨q,hq,rfl⟩⟩
theorem EV{k:Int}{L M M':List Pr}(h:mo k L M)(h':mo k L M'):M=M':=by
 refine ext h.srt h.pos h'.srt h'.pos (fun j=>?_)
 have hb:∀(X:List Pr),Srt X→(∀q∈X,k≤q.1)→below X (k+1)=cnt X k:=by
  intro X hX
  induction X with
  |nil=>intro _;rfl
  |cons x X ih=>
   intro hx;obtain⟨a1,a2⟩:=aq.1 hX;rw[bF,cnt]
   by_cases he:x.1=k
   ·rw[if_pos oq,if_pos he,dL (fun q hq=>by have:=a1 q hq;omega),Nat.add_zero]
   ·have:=hx x os';rw[if_neg oq,if_neg he,ih a2 (fun q hq=>hx q (by simp[hq])),Nat.zero_add]
 rcases Int.lt_trichotomy j k with hj|hj|hj
 ·rw[fT (fun q hq=>by have:=h.least q hq;omega),fT (fun q hq=>by have:=h'.least q hq;omega)]
 ·subst hj;rw[←hb M h.srt h.least,←hb M' h'.srt h'.least,h.under _ oq,h'.under _ oq]
 ·rw[h.above j hj,h'.above j hj]
theorem lF{L M:List Pr}(hl:Srt L)(Qk:Pos L)(hm:Srt M)(Pq:Pos M)(c:Int):(ah (az (ah L c).1 (ah M c).1) c).1=(ah (az L M) c).1:=by
 have Wm:1≤dj c:=by unfold dj;omega
 obtain⟨Rh,hrp,_⟩:=cm hl Qk Pq;have V4:∀j,cnt (az L M) j=cnt L j+cnt M j:=gu hl hm;have Wo:∀p∈L,∃q∈az L M,q.1=p.1:=fun p hp=>dJ (by rw[V4];have:=jw hl Qk hp;omega);have Wp:∀p∈M,∃q∈az L M,q.1=p.1:=fun p hp=>dJ (by rw[V4];have:=jw hm Pq hp;omega)
 by_cases hR:(az L M).length≤dj c
 ·have h1:=jm _ _ hl Rh Wo;have h2:=jm _ _ hm Rh Wp;have e1:ah L c=(L,0):=by unfold ah;rw[if_pos oq]
  have e2:ah M c=(M,0):=by unfold ah;rw[if_pos oq]
  rw[e1,e2]
 ·obtain⟨pR,hpR,hcR,huR⟩:=je Rh hrp (i:=(az L M).length-dj c) oq;have agB:up (az L M) pR.1=dj c:=oq;have ecR:(ah (az L M) c).1=fk (az L M) ((az L M).length-dj c):=by unfold ah;rw[if_neg hR]
  have a5n:∀(X:List Pr),Srt X→Pos X→(∀p∈X,∃q∈az L M,q.1=p.1)→∃k,k≤pR.1∧mo k X (ah X c).1:=by
   intro X hX hXp a9Y
   by_cases hXl:X.length≤dj c
   ·have e:(ah X c).1=X:=by unfold ah;rw[if_pos hXl]
    rw[e]
    cases X with
    |nil=>exact⟨pR.1,Int.le_refl _,jN hX hXp (fun q hq=>by cases hq)⟩
    |cons x X=>
     refine⟨min x.1 pR.1,oq,jN hX hXp (fun q hq=>?_)⟩;rcases List.mem_cons.1 hq with rfl|hq
     ·omega
     ·have:=(aq.1 hX).1 q hq;omega
   ·have e:(ah X c).1=fk X (X.length-dj c):=by unfold ah;rw[if_neg hXl]
    rw[e];obtain⟨pX,hpX,hcX,huX⟩:=je hX hXp (i:=X.length-dj c) oq;refine⟨pX.1,?_,hcX⟩;rcases Int.lt_or_le pR.1 pX.1 with h|h
    ·exfalso;have h1:=sb (k:=pX.1) hX Rh (fun p hp _=>a9Y p hp);have h2:=rb Rh h hpR rfl;omega
    ·exact h
  obtain⟨kL,hkL,hcL⟩:=a5n L hl Qk Wo;obtain⟨kM,hkM,hcM⟩:=a5n M hm Pq Wp;generalize(ah L c).1=L' at*;generalize(ah M c).1=M' at*;obtain⟨hps,Y7,_⟩:=cm hcL.srt hcL.pos hcM.pos;have a0R:∀j,cnt (az L' M') j=cnt L' j+cnt M' j:=gu hcL.srt hcM.srt
  have V5:∀p∈az L' M',∃q∈az L M,q.1=p.1:=fun p hp=>by
   rcases qh p hp with⟨x,hx,e⟩|⟨x,hx,e⟩
   ·obtain⟨y,hy,e2⟩:=hcL.keys x hx;obtain⟨z,hz,e3⟩:=Wo y hy;exact⟨z,hz,oq⟩
   ·obtain⟨y,hy,e2⟩:=hcM.keys x hx;obtain⟨z,hz,e3⟩:=Wp y hy;exact⟨z,hz,oq⟩
  have P7:∀(X X':List Pr) (k:Int),k≤pR.1→Srt X→Pos X→mo k X X'→∀j,pR.1≤j→cnt X j≠0→cnt X' j≠0:=by
   intro X X' k hk hX hXp hcl j hj hne;rcases Int.lt_or_le k j with h|h
   ·rw[hcl.above j h];exact hne
   ·have he:j=k:=oq;subst he;have h1:=hcl.under (j+1) oq;intro h0
    have h2:below X' (j+1)=0:=dL (fun q hq=>by
     have h3:=hcl.least q hq;rcases Int.lt_or_le j q.1 with h4|h4
     ·omega
     ·have h5:q.1=j:=oq;have:=jw hcl.srt hcl.pos hq;rw[h5] at this;exact absurd h0 this)
    rw[h2] at h1;obtain⟨p,hp,e⟩:=dJ hne
    have h6:p.2≤below X (j+1):=by
     unfold below;exact aW (List.mem_filter.2 ⟨hp,decide_eq_true oq⟩)
    have:=hXp p hp;omega
  have a5o:∀p∈az L M,pR.1≤p.1→∃q∈az L' M',q.1=p.1:=fun p hp hj=>by
   have h1:=jw Rh hrp hp;rw[V4] at h1;refine dJ ?_;rw[a0R]
   by_cases h2:cnt L p.1=0
   ·have:=P7 M M' kM hkM hm Pq hcM p.1 hj oq;omega
   ·have:=P7 L L' kL hkL hl Qk hcL p.1 hj h2;omega
  have huP:up (az L' M') pR.1=dj c:=by
   have h1:=sb (k:=pR.1) hps Rh (fun p hp _=>V5 p hp);have h2:=sb (k:=pR.1) Rh hps a5o;omega
  have hPc:mo pR.1 (az L M) (ah (az L' M') c).1:=by
   have Pd:∀j,pR.1<j→cnt (az L' M') j=cnt (az L M) j:=fun j hj=>by rw[a0R,V4,hcL.above j oq,hcM.above j oq]
   have Vl:∀K,pR.1<K→below (az L' M') K=below (az L M) K:=fun K hK=>by rw[gX,gX,hcL.under K oq,hcM.under K oq]
   by_cases hP:(az L' M').length≤dj c
   ·have e:(ah (az L' M') c).1=az L' M':=by unfold ah;rw[if_pos hP]
    rw[e];refine⟨hps,Y7,Pd,Vl,fun q hq=>?_,V5⟩
    have h1:(az L' M').filter (fun p=>decide (pR.1≤p.1))=az L' M':=List.filter_sublist.eq_of_length (by
     have h3:=MU (az L' M') pR.1;unfold up at huP h3;omega)
    rw[←h1] at hq;exact of_decide_eq_true (List.mem_filter.1 hq).2
   ·obtain⟨pP,hpP,hcP,agI⟩:=je hps Y7 (i:=(az L' M').length-dj c) oq;have e:(ah (az L' M') c).1=fk (az L' M') ((az L' M').length-dj c):=by unfold ah;rw[if_neg hP]
    have hk:pP.1=pR.1:=by
     rcases Int.lt_trichotomy pP.1 pR.1 with h|h|h
     ·have:=rb hps h hpP rfl;omega
     ·exact h
     ·obtain⟨q,hq,e2⟩:=a5o pR hpR (Int.le_refl _);have:=rb hps (k:=pR.1) h hq e2;omega
    rw[e];rw[hk] at hcP
    exact⟨hcP.srt,hcP.pos,fun j hj=>by rw[hcP.above j hj,Pd j hj],fun K hK=>by rw[hcP.under K hK,Vl K hK],hcP.least,fun q hq=>by
     obtain⟨x,hx,e1⟩:=hcP.keys q hq;obtain⟨y,hy,e2⟩:=V5 x hx;exact⟨y,hy,oq⟩⟩
  rw[ecR];exact EV hPc hcR
end Pl
namespace Pl
def aZ:List Pr→Int
 | []=>0
 |p::_=>p.1
theorem oJ(c:Int):1≤dj c:=by unfold dj;omega
theorem cB(c:Int):ah [] c=([],0):=by unfold ah;rw[if_pos (show([]:List Pr).length≤dj c from Nat.zero_le _)]
theorem zr{L:List Pr}(h:L≠ [])(c:Int):(ah L c).1≠ []:=by
 have:=oJ c;have hl:=List.length_pos_iff.2 h;refine List.length_pos_iff.1 ?_;unfold ah;split
 ·exact hl
 ·simp only[gJ];omega
structure MI(c:Int)(X:List Pr)(k:Int):Prop where
 first:aZ (ah X c).1=k
 clamp:mo k X (ah X c).1
 fold:(ah X c).2=below X k
 mem:∃p∈X,p.1=k
 upk:up X k≤dj c
 full:(ah X c).2≠0→up X k=dj c
 len:(ah X c).1.length=up X k
theorem jG{p:Pr}{L:List Pr}(hs:Srt (p::L)):up (p::L) p.1=(p::L).length:=Ku (fun q hq=>by
 rcases List.mem_cons.1 hq with rfl|hq
 ·exact Int.le_refl _
 ·have:=(aq.1 hs).1 q hq;omega)
theorem kW{X:List Pr}(hs:Srt X)(hp:Pos X)(c:Int)(hX:X≠ []):∃k,MI c X k:=by
 have hc:=oJ c
 by_cases hl:X.length≤dj c
 ·have e:ah X c=(X,0):=by unfold ah;rw[if_pos hl]
  cases X with
  |nil=>exact absurd rfl hX
  |cons p L=>
   have hle:∀q∈p::L,p.1≤q.1:=fun q hq=>by
    rcases List.mem_cons.1 hq with rfl|hq
    ·exact Int.le_refl _
    ·have:=(aq.1 hs).1 q hq;omega
   refine⟨p.1,by rw[e];rfl,by rw[e];exact jN hs hp hle,by rw[e,dL hle],⟨p,by simp,rfl⟩,by rw[jG hs];exact hl,fun h=>absurd (by rw[e]) h,by rw[e,jG hs]⟩
 ·have hi:X.length-dj c<X.length:=oq;have e:ah X c=(fk X (X.length-dj c),tot (X.take (X.length-dj c))):=by unfold ah;rw[if_neg hl]
  obtain⟨p,R,e1,e2,e3⟩:=jM hi;obtain⟨hlt,hgt⟩:=ll hs e1;obtain⟨q,hq,hcl,hu⟩:=je hs hp hi
  have hqp:q.1=p.1:=by
   have h1:=te hs e1
   have hlen:X.length=(X.take (X.length-dj c)).length+(R.length+1):=by
    have:=congrArg List.length e1;rw[Ok,List.length_cons] at this;exact this
   rw[List.length_take] at hlen;rcases Int.lt_trichotomy q.1 p.1 with h|h|h
   ·have:=rb hs h hq rfl;omega
   ·exact h
   ·have:=rb hs h (Om e3) rfl;omega
  rw[hqp] at hcl hu;refine⟨p.1,by rw[e,e2];rfl,by rw[e];exact hcl,?_,⟨p,Om e3,rfl⟩,oq,fun _=>by omega,by rw[e];simp only[gJ];omega⟩;rw[e];have h1:below X p.1=below (X.take (X.length-dj c)++p::R) p.1:=by rw[←e1]
  rw[h1,kd,qK hlt,dL (fun q hq=>by
   rcases List.mem_cons.1 hq with rfl|hq
   ·exact Int.le_refl _
   ·have:=hgt q hq;omega)]
  rfl
def dx(X:List Pr×Nat)(k:Int):Nat:=if 0<X.2∧aZ X.1=k then X.2 else 0
theorem xA{X:List Pr}{a b:Int}(h:a≤b):below X a≤below X b:=by
 induction X with
 |nil=>exact Oi _
 |cons p X ih=>
  rw[bF,bF]
  by_cases h1:p.1<a
  ·rw[if_pos h1,if_pos oq];omega
  ·rw[if_neg h1];omega
theorem qu{X R:List Pr}(hX:Srt X)(hXp:Pos X)(hR:Srt R)(c:Int){k:Int}(QO:∀p∈X,∃q∈R,q.1=p.1)(hk:∃p∈R,p.1=k)(hu:up R k≤dj c):
  below X k=below (ah X c).1 k+dx (ah X c) k:=by
 by_cases h0:X=[]
 ·subst h0;rw[cB];rfl
 obtain⟨k0,h⟩:=kW hX hXp c h0;unfold dx;rw[h.first];rcases Int.lt_trichotomy k0 k with h1|h1|h1
 ·rw[if_neg oq,h.clamp.under k h1];rfl
 ·subst h1;rw[dL h.clamp.least,h.fold]
  by_cases hz:below X k0=0
  ·rw[if_neg oq,hz]
  ·rw[if_pos ⟨oq,rfl⟩,Nat.zero_add]
 ·have e1:below (ah X c).1 k=0:=dL (fun q hq=>by have:=h.clamp.least q hq;omega);rw[if_neg oq,e1]
  by_cases hz:(ah X c).2=0
  ·have h2:=xA (X:=X) (a:=k) (b:=k0) oq;rw[←h.fold,hz] at h2;omega
  ·exfalso;have h2:=h.full hz;have h3:=sb (k:=k0) hX hR (fun p hp _=>QO p hp);obtain⟨p,hp,e⟩:=hk;have h4:=rb hR h1 hp e;omega
theorem qv{L M:List Pr}(hl:Srt L)(Qk:Pos L)(hm:Srt M)(Pq:Pos M)(c:Int):
  (ah (az L M) c).2=(ah (az (ah L c).1 (ah M c).1) c).2+dx (ah L c) (aZ (ah (az L M) c).1)+dx (ah M c) (aZ (ah (az L M) c).1):=by
 obtain⟨Rh,hrp,_⟩:=cm hl Qk Pq;have V4:∀j,cnt (az L M) j=cnt L j+cnt M j:=gu hl hm;have Wo:∀p∈L,∃q∈az L M,q.1=p.1:=fun p hp=>dJ (by rw[V4];have:=jw hl Qk hp;omega);have Wp:∀p∈M,∃q∈az L M,q.1=p.1:=fun p hp=>dJ (by rw[V4];have:=jw hm Pq hp;omega)
 by_cases hR:az L M=[]
 ·have hL:L=[]:=by
   cases L with
   |nil=>rfl
   |cons p L=>obtain⟨q,hq,_⟩:=Wo p os';rw[hR] at hq;cases hq
  have hM:M=[]:=by
   cases M with
   |nil=>rfl
   |cons p M=>obtain⟨q,hq,_⟩:=Wp p os';rw[hR] at hq;cases hq
  subst hL;subst hM;rw[show az ([]:List Pr) []=[] from rfl,cB];rfl
 have htw:=lF hl Qk hm Pq c;obtain⟨k,h⟩:=kW Rh hrp c hR
 have hLs:Srt (ah L c).1∧Pos (ah L c).1:=by
  by_cases h0:L=[]
  ·subst h0;rw[cB];exact⟨Srt.nil,Pos.nil⟩
  ·obtain⟨_,h⟩:=kW hl Qk c h0;exact⟨h.clamp.srt,h.clamp.pos⟩
 have hMs:Srt (ah M c).1∧Pos (ah M c).1:=by
  by_cases h0:M=[]
  ·subst h0;rw[cB];exact⟨Srt.nil,Pos.nil⟩
  ·obtain⟨_,h⟩:=kW hm Pq c h0;exact⟨h.clamp.srt,h.clamp.pos⟩
 obtain⟨hps,Y7,_⟩:=cm hLs.1 hLs.2 hMs.2
 have hP:az (ah L c).1 (ah M c).1≠ []:=fun h0=>by
  have h1:=zr hR c;rw[h0,cB] at htw;exact h1 htw.symm
 obtain⟨k2,h2⟩:=kW hps Y7 c hP;have R3:k2=k:=by rw[←h2.first,htw,h.first]
 subst R3;rw[h.first,h.fold,h2.fold,gX,gX,qu hl Qk Rh c Wo h.mem h.upk,qu hm Pq Rh c Wp h.mem h.upk];omega
theorem wl(k:Int)(n:Nat)(c:Int):ah [(k,n)] c=([(k,n)],0):=by
 have:=oJ c;unfold ah;rw[if_pos (by simpa using this)]
theorem DW{L:List Pr}(hl:Srt L)(Qk:Pos L)(c:Int)(k:Int){n:Nat}(hn:0<n):(ah (put (ah L c).1 k n) c).1=(ah (put L k n) c).1:=by
 have h:=lF hl Qk (M:=[(k,n)]) (aq.2 ⟨(fun q hq=>by cases hq),Srt.nil⟩) (aH.2 ⟨hn,Pos.nil⟩) c;rw[wl] at h;exact h
theorem El{L:List Pr}(hl:Srt L)(Qk:Pos L)(c:Int)(k:Int){n:Nat}(hn:0<n):(ah (put L k n) c).2=(ah (put (ah L c).1 k n) c).2+dx (ah L c) (aZ (ah (put L k n) c).1):=by
 have h:=qv hl Qk (M:=[(k,n)]) (aq.2 ⟨(fun q hq=>by cases hq),Srt.nil⟩) (aH.2 ⟨hn,Pos.nil⟩) c;rw[wl] at h;have e:dx ([(k,n)],0) (aZ (ah (az L [(k,n)]) c).1)=0:=by unfold dx;rw[if_neg os']
 rw[e] at h;exact h
end Pl
section
open Pl
theorem Lst.only{K:Nat→Prop}{w w':World}{g:Nat}{A:Option Addr}{c:Nat}{L:List Pr}(h:Lst w g A c L)(k:ab K w w')(hg:¬K g)(hA:∀x,aa A=some x→¬K x):Lst w' g A c L:=⟨h.1.only k hg,Own.only h.2 k hA⟩
theorem eM{L:List Pr}(hf:aV L)(m:Int):aV (ah L m).1∧tot (ah L m).1=tot L∧(ah L m).1.length≤L.length:=by
 have hc:1≤dj m:=by unfold dj;omega
 unfold ah;split
 ·exact⟨hf,rfl,Oi _⟩
 ·have h1:=kJ (L:=L) (i:=L.length-dj m) oq;refine⟨⟨wm hf.srt _,ws hf.pos _,lG (P:=fun k=> -1048576≤k∧k≤1048576) hf.keys,by simp only[h1];exact hf.tot,?_⟩,h1,?_⟩
  ·have:=hf.len;simp only[gJ];omega
  ·simp only[gJ];omega
section
variable {w w':World} {g g' c c' base cw:Nat} {A A' A2 W:Option Addr} {L L' M:List Pr}
def dE(g:Nat)(A:Option Addr)(L':List Pr)(w w':World)(A':Option Addr)(c':Nat):Prop:=Lst w' g A' c' L'∧ab (LK g A) w w'∧∀x,aa A'=some x→aa A=some x∨w.heap.size≤x
theorem bg.acted(h:bg g A L w w'):∃A' c',dE g A L w w' A' c':=by
 obtain⟨A',c',h1,h2,h3⟩:=h;refine⟨A',c',h1,h2,fun x hx=>?_⟩;rcases h3 with h3|⟨i,h3,h4⟩
 ·exact .inl (by rw[←h3];exact hx)
 ·rw[hx] at h3;injection h3 with h3
  exact .inr oq
theorem Gg.acted(h:Gg g A L w w'):∃A' c',dE g A L w w' A' c':=by
 obtain⟨A',c',h1,h2,h3⟩:=h;refine⟨A',c',h1,h2.mono (fun i hi=>.inl hi),fun x hx=>?_⟩;rcases h3 with h3|h3
 ·exact .inl (by rw[←h3];exact hx)
 ·exact .inr (h3 x hx)
end
theorem EP{L:List Pr}{m:Nat}(h:1≤m):(ah L (m:Int)).1.length≤m:=by
 unfold ah dj;rw[show(max (m:Int) 1).toNat=m by omega];split
 ·assumption
 ·simp only[gJ];omega
structure Sto(w:World)(g gl:Nat)(A:Option Addr)(c:Nat)(m:Int)(all:List Pr):Prop where
 blk:Blk w g 360 #[.int .i64 m,.pointer (some ⟨gl,0,none⟩),.int .u64 ((ah all m).2:Nat)]
 lst:Lst w gl A c (ah all m).1
def SK(g gl:Nat)(A:Option Addr)(i:Nat):Prop:=i=g∨LK gl A i
structure eB(g gl:Nat)(A:Option Addr)(m:Int)(all:List Pr)(w w':World)(A':Option Addr)(c':Nat):Prop where
 sto:Sto w' g gl A' c' m all
 only:ab (SK g gl A) w w'
 new:∀x,aa A'=some x→aa A=some x∨w.heap.size≤x
section
variable {w w':World} {g gl c:Nat} {A:Option Addr} {m:Int} {all:List Pr}
theorem Sto.below(h:Sto w g gl A c m all)(hb:Below w.heap.size w w'):Sto w' g gl A c m all:=⟨h.blk.below hb h.blk.lt,h.lst.below hb⟩
theorem Sto.ne(h:Sto w g gl A c m all):g≠gl:=Blk.ne h.blk h.lst.1 od
theorem Sto.c0(h:Sto w g gl A c m all):w.cell? ⟨g,0,none⟩=some (.int .i64 m):=h.blk.ce
theorem Sto.c1(h:Sto w g gl A c m all):w.cell? ⟨g,1,none⟩=some (.pointer (some ⟨gl,0,none⟩)):=h.blk.ce
theorem Sto.c2(h:Sto w g gl A c m all):w.cell? ⟨g,2,none⟩=some (.int .u64 ((ah all m).2:Nat)):=h.blk.ce
end
theorem dw{L:List Pr}(hf:aV L)(m:Int):aV (ah L m).1:=(eM hf m).1
theorem iQ{L:List Pr}(hf:aV L)(m:Int):tot (ah L m).1=tot L:=(eM hf m).2.1
theorem jt{L:List Pr}(m:Int):(ah L m).2≤tot L:=by
 unfold ah;split
 ·exact Nat.zero_le _
 ·exact gL L _
theorem yc(m:Int)(w:World)(h0:2≤m)(h1:m≤4096):Cl 240 #[.int .i64 m] w fun e w'=>e=.returned (.tuple #[.pointer (some ⟨w.heap.size+1,0,none⟩),.int .i64 0])∧Sto w' (w.heap.size+1) w.heap.size none 0 m []∧Below w.heap.size w w':=by
 have e1:decide (m<2)=false:=sq;have e2:decide (4096<m)=false:=sq;clear h0 h1;go_enter func240,ntmps240;go_wp2_with fail;go_ret2;refine⟨rfl,⟨?_,?_,?_⟩,(Ba).alloc os' _⟩
 ·rw[cB];have h:=Blk.new (w.alloc (.cells #[.slice none 0 0,.int .u64 0] 426)) 360 #[.int .i64 m,.pointer (some ⟨w.heap.size,0,none⟩),.int .u64 0];simp only[World.size_alloc] at h;exact h
 ·rw[cB];exact(Blk.new w 426 #[.slice none 0 0,.int .u64 0]).alloc _
 ·rw[cB];exact Own.nil _ _ _ _
theorem nP(g gl:Nat)(A:Option Addr)(c:Nat)(C:List Pr)(w:World)(c1:w.cell? ⟨g,1,none⟩=some (.pointer (some ⟨gl,0,none⟩)))(h:Lst w gl A c C)(hf:aV C):Cl 345 #[.pointer (some ⟨g,0,none⟩)] w fun e w'=>(∃b,e=.returned (.tuple #[.int .i64 (aZ C),.bool b]))∧Below w.heap.size w w':=by
 have HC:=Oh (yC gl A c C w h hf);have hlen:(C.length:Int)≤100000:=by have:=hf.len;omega
 clear h hf
 cases C with
 |nil=>
  go_enter func345,ntmps345;go_wp2_with fail;refine HC.out.mono ?_;rintro e w1 ⟨A1,c1,rfl,h1,h2⟩;have H2:=Oh h2;clear h1 h2;simp only[List.length_nil];go_wp2_with fail;go_ret2;exact⟨⟨_,rfl⟩,H2.out⟩
 |cons p C=>
  obtain⟨x,n⟩:=p;obtain⟨N,hN⟩:=nm (((x,n)::C:List Pr).length);have hN0:0<N:=by rw[hN];simp
  have Zy:(0:Int)<(N:Int):=oq;have hNe:((N:Int)==0)=false:=sq;rw[←hN] at hlen;have HN:=Oh hN;clear hN hN0;go_enter func345,ntmps345;go_wp2_with fail;refine HC.out.mono ?_;rintro e w1 ⟨A1,c1,rfl,h1,h2⟩;rw[←HN.out];obtain⟨b,o,rfl,_,hc⟩:=(bI.reads h1).at_ os';have d1:w1.cell? ⟨b,o,none⟩=some (.int .i64 x):=by have:=(hc 0 (x,n) rfl).1;simpa using this
  have H2:=Oh h2;clear h1 h2 hc;go_wp2_with fail;go_ret2;exact⟨⟨_,rfl⟩,H2.out⟩
section
variable (g gl:Nat) (A:Option Addr) (c:Nat) (m:Int) (all:List Pr) (w:World) (h:Sto w g gl A c m all)
include h
theorem Ay:Cl 180 #[.pointer (some ⟨g,0,none⟩)] w (Rt (.int .u64 ((ah all m).2:Nat)) w):=by
 have c2:=h.c2;clear h;go_enter func180,ntmps180;go_wp2_with fail;go_ret;exact⟨rfl,rfl⟩
theorem CF(hf:aV all):Cl 220 #[.pointer (some ⟨g,0,none⟩)] w (Rt (.int .u64 (tot all:Nat)) w):=by
 have c1:=h.c1;have HC:=Oh (Gp gl A c _ w h.lst);rw[iQ hf] at HC;clear h hf;go_enter func220,ntmps220;go_wp2_with fail;refine HC.out.mono ?_;rintro e w1 ⟨rfl,rfl⟩;go_wp2_with fail;go_ret;exact⟨rfl,rfl⟩
theorem CM(hf:aV all):Cl 177 #[.pointer (some ⟨g,0,none⟩)] w (en (ah all m).1 w):=by
 have c1:=h.c1;have HC:=Oh (yC gl A c _ w h.lst (dw hf m));clear h hf;generalize(ah all m).1=C at*;go_enter func177,ntmps177;exact iM
theorem ki(hf:aV all):Cl 345 #[.pointer (some ⟨g,0,none⟩)] w fun e w'=>(∃b,e=.returned (.tuple #[.int .i64 (aZ (ah all m).1),.bool b]))∧Below w.heap.size w w':=nP g gl A c _ w h.c1 h.lst (dw hf m)
theorem AE:Cl 179 #[.pointer (some ⟨g,0,none⟩)] w (Rt (.int .i64 m) w):=by
 have c0:=h.c0;clear h;go_enter func179,ntmps179;go_wp2_with fail;go_ret;exact⟨rfl,rfl⟩
def lU(all:List Pr)(m:Int)(r:Nat):Bool:=decide (0<(ah all m).2∧mu (ah all m).1 r=aZ (ah all m).1)
theorem GS(r:Nat)(hf:aV all)(h1:1≤r)(h2:r≤tot all):Cl 291 #[.pointer (some ⟨g,0,none⟩),.int .u64 (r:Int)] w (Rb (.tuple #[.int .i64 (mu (ah all m).1 r),.bool (lU all m r),.int .i64 0]) w):=by
 have c1:=h.c1;have HS:=Oh h;have HC:=Oh (Ll gl A c _ r w h.lst (dw hf m) h1 (by rw[iQ hf];exact h2));have Rj:=Oh (fun W (h:Sto W g gl A c m all)=>ki g gl A c m all W h hf);have hfo:((ah all m).2:Int)≤4611686018427387904:=by have:=jt (L:=all) m;have:=hf.tot;omega
 unfold lU
 have hv:decide (0<(ah all m).2∧mu (ah all m).1 r=aZ (ah all m).1)=(decide (0<(ah all m).2)&&(mu (ah all m).1 r==aZ (ah all m).1)):=by
  rw[Bool.eq_iff_iff];simp
 rw[hv];clear hv;generalize mu (ah all m).1 r=K at*
 by_cases h0:0<(ah all m).2
 ·have e0:decide (0<(ah all m).2)=true:=by simpa using h0
  have e1:decide ((0:Int)<((ah all m).2:Int))=true:=sq;rw[e0];have X8:=Oh (fun W (h:Sto W g gl A c m all)=>h.c2);clear h hf h1 h2 h0;generalize(ah all m).2=f at*;exact uk
 ·have e0:decide (0<(ah all m).2)=false:=by simpa using h0
  have ez:(ah all m).2=0:=oq;rw[e0];have X8:Hid (∀W (h:Sto W g gl A c m all),W.cell? ⟨g,2,none⟩=some (.int .u64 0)):=Oh (fun W h=>by have:=h.c2;rwa [ez] at this);clear h hf h1 h2 h0 hfo ez e0;exact uk
end
end
end Go.Proofs.YtmbippkpjdoojaaGreat
