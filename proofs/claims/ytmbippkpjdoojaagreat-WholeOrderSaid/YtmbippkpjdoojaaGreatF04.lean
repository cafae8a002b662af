/- Parts of a proof, merged. -/
import Derived.Test.YtmbippkpjdoojaaGreatF03
set_option maxRecDepth 100000
set_option maxHeartbeats 1600000
namespace Go.Proofs.YtmbippkpjdoojaaGreat
open Tryz
open Go.RowKit
theorem Ax{w:World}{B:Nat}{A:Option Addr}{c:Nat}{Q:List (Option Ent)}(h:am w B 1 A Q.length (Q.map mv))(hl:Q.length≤1000)(ha:∀o∈Q,o≠none):
  Cl 133 #[.slice A Q.length c,.pointer none] w fun o w'=>o=.returned (.int .i64 (-1))∧w'=w:=by
 have HH:=Oh h;have HA:=Oh ha;have Lt:(Q.length:Int)≤1000:=oq;clear h ha hl;go_enter func133,ntmps133;go_wp2_with fail;go_loopw [8] (fun u wr=>∃(i:Nat),i≤Q.length∧u=.int .i64 (i:Int)∧wr=w) (fun u _=>Q.length-(intOf u).toNat)
 case atStart=>exact⟨0,Nat.zero_le _,rfl,rfl⟩
 case round=>
  obtain⟨i,hi,rfl,hw⟩:=hrel;obtain rfl:=hw.symm
  by_cases hlt:i<Q.length
  ·obtain⟨o,ho⟩:=gs Q i hlt
   obtain⟨e,rfl⟩:∃e,o=some e:=by
    rcases o with _|e
    ·exact absurd rfl (HA.out none (Om ho))
    ·exact⟨e,rfl⟩
   obtain⟨b,of,rfl,_,hc⟩:=HH.out.2 oq;have d0:=hc i (.pointer (some ⟨e.p,0,none⟩)) (by rw[List.getElem?_map,ho];rfl);have t1:(i:Int)<(Q.length:Int):=oq;have hne:(binOp BinOp.eql 61 (.pointer none) (.pointer (some ⟨e.p,0,none⟩))).run prog w=.ok (.bool false) w:=rfl;have oR:=Oh hlt;clear ho hlt hi hc;exact tU
  ·obtain rfl:i=Q.length:=oq;have t1:¬(Q.length:Int)<(Q.length:Int):=oq;clear hi hlt;go_wp2_with fail;go_ret;exact⟨rfl,rfl⟩
theorem pm.ne_own{w:World}{m:Nat}{M:List (Nat×Nat)}(h:pm w m M){b:Nat}{t:TypeId}{sz:Nat}{A:Option Addr}{n c:Nat}{xs:List Value}(ho:Own w b t sz A n c xs):aa A≠some m:=by
 obtain⟨D,_,es,clock,h,_⟩:=h;rcases ho.2 with⟨hv,_⟩|⟨g,cap,cur,hv,_,hh,_⟩
 ·injection hv with hA _ _
  subst hA;simp[aa]
 ·injection hv with hA _ _
  subst hA;intro he;have:g=m:=by simpa [aa] using he
  subst this;rw[hh] at h;cases h
theorem J1:fH prog 76 61 1 8:=cy underlying76 (z:=.pointer none) ok' od od
theorem sE{P:Program}{w w1:World}{ops:Array Oper}{o:Oper}{a:Act}{K:Act→World→Prop}{Q:Exit→Act→World→Prop}{E:Prop}(PB:o.guard=none){m k:Operand}{t:TypeId}(ho:o.op=.mapEntry t m k){M key v:Value}(hm:a.eval m=M)(hk:a.eval k=key)(iN:(Instr.mapEntry t M key).run P w=.ok v w1)(h:K (a.put o.dst v) w1):if Region.wanted o (yielded ops a.tmps)=true then Oper.wp P o a w K Q else E:=by
 have hw:Region.wanted o (yielded ops a.tmps)=true:=by simp[Region.wanted,PB]
 rw[if_pos hw];unfold Oper.wp;simp[execOp,ho,hm,hk,iN,Result.andThen];exact h
theorem sD{P:Program}{w w1:World}{ops:Array Oper}{o:Oper}{a:Act}{K:Act→World→Prop}{Q:Exit→Act→World→Prop}{E:Prop}(PB:o.guard=none){m s x:Operand}{t:TypeId}(ho:o.op=.entryStore t m s x){M st v:Value}(hm:a.eval m=M)(hs:a.eval s=st)(hx:a.eval x=v)(iN:(Instr.entryStore t M st v).run P w=.ok () w1)(h:K (a.put o.dst undef) w1):if Region.wanted o (yielded ops a.tmps)=true then Oper.wp P o a w K Q else E:=by
 have hw:Region.wanted o (yielded ops a.tmps)=true:=by simp[Region.wanted,PB]
 rw[if_pos hw];unfold Oper.wp;simp[execOp,ho,hm,hs,hx,iN,Result.andThen];exact h
theorem yp{w:World}{x m c:Nat}{A:Option Addr}{Q:List (Option Ent)}{M:List (Nat×Nat)}(h:Sui w x m A c Q M){H:Nat}(hH:H<4294967296)(hM:M.lookup H=none)(QA:M.length≤1000)(hl:Q.length≤999)(ha:∀o∈Q,o≠none)(e:Ent)(he:ar e.I e.F w)(hd:∀i,e.F i→¬SG x m A Q i):
  Cl 66 #[.pointer (some ⟨x,0,none⟩),.int .u32 (H:Int),.pointer (some ⟨e.p,0,none⟩)] w fun o w'=>o=.returned (.tuple #[])∧∃A' c',Sui w' x m A' c' (Q++[some e]) (M++[(H,Q.length)])∧aD (fun i=>SG x m A Q i∨e.F i) (SG x m A' (Q++[some e])) w w':=by
 have HIX:=Oh (fun(W:World) (h:Sui W x m A c Q M)=>Ax (c:=c) (Own.reads h.row) oq ha);have HH:=Oh h;have HE:=Oh he;have Z6:=Oh hd;have HML:=Oh (And.intro hM QA);have iD:=JL hH;have c0:=h.c0;have c1:=h.c1;have fr:=h.blk.free;have Lt:(Q.length:Int)≤999:=oq;have HQL:=Oh hl;have HXM:Hid (x≠m):=Oh (h.mp.ne h.blk);clear h he hd hM QA ha hl hH;go_enter func66,ntmps66;go_wp2_with fail;refine(HIX.out _ HH.out).mono ?_;rintro o w1 ⟨rfl,iF⟩;obtain rfl:=iF.symm;go_wp2_with (at_builtin;refine Hid.out ?_);have b1:Below w.heap.size w (w.alloc (.cells #[.pointer none] 61)):=Ba;have QV:=HH.out.below b1;refine aj (xs:=Q.map mv) (news:=[.pointer none]) rfl rfl J1 rfl QV.row rfl (am.lit (bQ w _) rfl rfl) (by intro u hu;simp at hu;rw[hu];rfl) (Q.length+1) rfl (Q.map mv++[.pointer none]) rfl (by unfold maxLen;omega) oq (Nat.zero_le _) ?_;intro A2 c2 w2 o2 g2 q2;have R3:ab (fun i=>aa A=some i) w w2:=(ab.of_below b1).trans (ab.of_grown g2);have hAx:aa A≠some x:=Own.ne_blk HH.out.row HH.out.blk od;have hAm:aa A≠some m:=HH.out.mp.ne_own HH.out.row;have X2:=Oh (HH.out.blk.only R3 hAx);have H2:=Oh (HH.out.mp.only R3 hAm);have E2:Hid (∀f,some f∈Q→ar f.I f.F w2):=Oh (fun f hf=>(HH.out.held f hf).only R3 (fun i hi=>(HH.out.own f hf i hi).2.2));have N2:Hid (ar e.I e.F w2):=Oh (HE.out.only R3 (fun i hi h=>Z6.out i hi (.inr (.inr (.inl h)))));have K2:=Oh R3;have O2:=Oh o2
 have Q2:Hid (aa A2=aa A∨∃i,aa A2=some i∧w.heap.size≤i):=Oh (by
  rcases q2 with e|e
  ·exact .inl e
  ·exact .inr ⟨_,e,b1.size⟩)
 clear b1 QV o2 g2 q2 R3 hAx hAm c0 c1 fr HIX;have c1:=X2.out.c1;have fr:=X2.out.free;go_upto_region 4 with(fail);have X3:Hid (Blk (w2.setCell ⟨x,1,none⟩ (.slice A2 (Q.length+1) c2)) x 78 #[.map (some m),.slice A2 (Q.length+1) c2]):=Oh (X2.out.put 1 _);have hxK:ab (fun i=>i=x) w2 (w2.setCell ⟨x,1,none⟩ (.slice A2 (Q.length+1) c2)):=(ab.refl (fun i=>i=x) w2).set (p:=⟨x,1,none⟩) (.inl rfl) _;have H3:=Oh (H2.out.only hxK (fun e=>HXM.out e.symm));have O3:=Oh (Own.setOther O2.out (p:=⟨x,1,none⟩) (Own.ne_blk O2.out X2.out od) (.slice A2 (Q.length+1) c2));have E3:Hid (∀f,some f∈Q→ar f.I f.F (w2.setCell ⟨x,1,none⟩ (.slice A2 (Q.length+1) c2))):=Oh (fun f hf=>(E2.out f hf).only hxK (fun i hi h=>(HH.out.own f hf i hi).1 h));have N3:=Oh (N2.out.only hxK (fun i hi h=>Z6.out i hi (.inl h)));have K3:Hid (ab (fun i=>i=x∨aa A=some i) w (w2.setCell ⟨x,1,none⟩ (.slice A2 (Q.length+1) c2))):=Oh ((K2.out.mono fun _ h=>.inr h).trans (hxK.mono fun _ h=>.inl h));generalize w2.setCell ⟨x,1,none⟩ (.slice A2 (Q.length+1) c2)=w3 at*;clear hxK X2 H2 O2 E2 N2 K2 c1 fr;obtain⟨gt,hgt,_,_,_,RI,XQ⟩:=Own.form O3.out oq;subst hgt;have x0:=X3.out.c0;have x1:=X3.out.c1;have a4R:w3.frozen? ⟨gt,Q.length,none⟩=false:=XQ _;have t1:(Q.length:Int)<((Q.length+1:Nat):Int):=oq;have t2:(Q.length:Int)<(Q.length:Int)+1:=oq;have e0:∃u,w3.cell? ⟨gt,Q.length,none⟩=some u:=⟨_,RI Q.length (.pointer none) (by rw[List.getElem?_append_right os'];simp)⟩;obtain⟨u0,e0⟩:=e0;clear RI XQ;refine wp_region_noPanic ?_;refine ag (S:=(fun(V:World)=>V.cell? ⟨x,0,none⟩=some (.map (some m))∧V.cell? ⟨x,1,none⟩=some (.slice (some ⟨gt,0,none⟩) (Q.length+1) c2))) (L:=16) ok' ⟨x0,x1⟩ (fun hHeld=>?_);have X3d:=Oh X3.out.drew;have H3d:Hid (pm w3.drew m M):=Oh H3.out;have O3d:=Oh (Own.drew O3.out);have E3d:Hid (∀f,some f∈Q→ar f.I f.F w3.drew):=Oh (fun f hf=>(E3.out f hf).drewN 1);have N3d:Hid (ar e.I e.F w3.drew):=Oh (N3.out.drewN 1);have K3d:Hid (ab (fun i=>i=x∨aa A=some i) w w3.drew):=Oh (K3.out.drewN 1);have agd:w3.drew.frozen? ⟨gt,Q.length,none⟩=false:=a4R
 have e0d:w3.drew.cell? ⟨gt,Q.length,none⟩=some u0:=e0;clear X3 H3 O3 E3 N3 K3 x0 x1 a4R e0;have X3:=X3d;have H3:=H3d;have O3:=O3d;have K3:=K3d;have E3:=E3d;have N3:=N3d;clear X3d H3d O3d K3d E3d N3d;generalize w3.drew=wd at*;refine tV 0 ?_;refine tV 1 ?_;refine tV 2 ?_;refine tV 3 ?_;refine tV 4 ?_;refine tV 5 ?_;refine tV 6 ?_;refine tV 7 ?_;refine tV 8 ?_;refine tV 9 ?_;refine tV 10 ?_;refine tV 11 ?_;refine tV 12 ?_;refine bO 13 fun K hK=>?_;go_simp;obtain⟨v1,MK⟩:=nm (wd.setCell ⟨gt,Q.length,none⟩ (.pointer (some ⟨e.p,0,none⟩)));rw[←MK];have hgx:x≠gt:=fun e1=>Own.ne_blk O3.out X3.out od (by rw[e1];rfl);have ZM:gt≠m:=fun e1=>H3.out.ne_own O3.out (by rw[e1];rfl);have hk:ab (fun i=>i=gt) wd v1:=by rw[MK];exact(ab.refl (fun i=>i=gt) wd).set (p:=⟨gt,Q.length,none⟩) (.inl rfl) _
 have X4:=Oh (X3.out.only hk hgx);have H4:=Oh (H3.out.only hk (fun e1=>ZM e1.symm))
 have O4:Hid (Own v1 0 61 1 (some ⟨gt,0,none⟩) (Q.length+1) c2 ((Q++[some e]).map mv)):=Oh (by
  rw[MK];have h:=Own.stored O3.out Q.length (.pointer (some ⟨e.p,0,none⟩))
  rw[show(Q.map mv++[Value.pointer none]).set Q.length (.pointer (some ⟨e.p,0,none⟩))=(Q++[some e]).map mv by
   rw[List.set_append_right _ _ os'];simp[mv]] at h
  exact h)
 have K4:=Oh hk;clear hk MK hgx;replace hHeld:=(show(fun(V:World)=>V.cell? ⟨x,0,none⟩=some (.map (some m))∧V.cell? ⟨x,1,none⟩=some (.slice (some ⟨gt,0,none⟩) (Q.length+1) c2)) v1 from⟨X4.out.ce,X4.out.ce⟩);refine hK.out _ _ hHeld ?_;clear hK K;try go_simp
 refine bO 14 fun K hK=>?_;obtain⟨D,hD,ho⟩:=H4.out;obtain⟨vz,stp,v2,iN,hg,Is,R4⟩:=xb (t:=75) ho Ce underlying75 zG (by have:=HML.out.2;unfold maxLen;omega) iD (by rw[hD.has,HML.out.1];rfl);refine sE rfl rfl rfl rfl iN ?_;have hk:ab (fun i=>i=m) v1 v2:=(ab.of_grown hg).mono fun i hi=>(Option.some.inj hi).symm;have X5:=Oh (X4.out.only hk HXM.out);have O5:=Oh (Own.only O4.out hk (fun g e1 e2=>ZM (by have e3:gt=g:=Option.some.inj e1;rw[e3];exact e2)));have K5:=Oh hk;have UZ:=Oh (And.intro hD R4);clear hk hg Is R4 iN ho hD;replace hHeld:=(show(fun(V:World)=>V.cell? ⟨x,0,none⟩=some (.map (some m))∧V.cell? ⟨x,1,none⟩=some (.slice (some ⟨gt,0,none⟩) (Q.length+1) c2)) v2 from⟨X5.out.ce,X5.out.ce⟩);refine hK.out _ _ hHeld ?_;clear hK K;try go_simp
 refine tV 15 ?_;refine iV 16 fun K hK=>?_;obtain⟨v3,iN,ho,hg⟩:=UZ.out.2 v2 (.int .i64 (Q.length:Int)) (.lit (.int .i64 (Q.length:Int))) [] ⟨rfl,rfl,rfl,Oi _,fun _ _ _=>rfl⟩ (plainElem_int underlying3 (WalkArith.wf_i64 oq));refine sD rfl rfl rfl rfl rfl iN ?_;have hk:ab (fun i=>i=m) v2 v3:=(ab.of_grown hg).mono fun i hi=>(Option.some.inj hi).symm;have X6:=Oh (X5.out.only hk HXM.out);have O6:=Oh (Own.only O5.out hk (fun g e1 e2=>ZM (by have e3:gt=g:=Option.some.inj e1;rw[e3];exact e2)));have K6:=Oh hk;have H6:Hid (pm v3 m (M++[(H,Q.length)])):=Oh ⟨_,UZ.out.1.put HML.out.1,by rw[Ok];exact ho⟩;clear hk hg iN ho;refine hK.out _ _ ?_;clear hK K;try go_simp
 refine cD ?_
 have U1:Hid (aa A=some gt∨w.heap.size≤gt):=Oh (by
  rcases Q2.out with e1|⟨j,e1,hj⟩
  ·exact .inl e1.symm
  ·have:gt=j:=Option.some.inj e1;exact .inr oq)
 have K7:Hid (ab (fun i=>i=gt∨i=m) wd v3):=Oh (((K4.out.mono fun _ h=>.inl h).trans (K5.out.mono fun _ h=>.inr h)).trans (K6.out.mono fun _ h=>.inr h));clear hHeld K4 K5 K6 X4 X5 O4 O5 H4 UZ;go_wp2_with fail;go_end0
 have hown:∀i,¬SG x m A Q i→i<w.heap.size→¬(i=gt∨i=m):=fun i hi hl h=>by
  rcases h with rfl|rfl
  ·rcases U1.out with h1|h1
   ·exact hi (.inr (.inr (.inl h1)))
   ·omega
  ·exact hi (.inr (.inl rfl))
 have hQ:∀f,some f∈Q→∀i,f.F i→¬(i=gt∨i=m):=fun f hf i hi h=>by
  have h0:=HH.out.own f hf i hi;rcases h with rfl|rfl
  ·rcases U1.out with h1|h1
   ·exact h0.2.2 h1
   ·have:=(HH.out.held f hf).lt _ hi;omega
  ·exact h0.2.1 rfl
 refine⟨rfl,some ⟨gt,0,none⟩,c2,⟨?_,H6.out,?_,?_,?_,?_⟩,?_,?_⟩
 ·rw[Ok];exact X6.out
 ·rw[Ok];exact O6.out
 ·intro f hf;rcases List.mem_append.1 hf with hf|hf
  ·exact(E3.out f hf).only K7.out (hQ f hf)
  ·rw[List.mem_singleton] at hf;injection hf with hf
   subst hf;exact N3.out.only K7.out (fun i hi=>hown i (Z6.out i hi) (HE.out.lt i hi))
 ·intro f hf i hi;have hgi:∀i,¬(i=gt∨i=m)→i≠m∧aa (some ⟨gt,0,none⟩:Option Addr)≠some i:=fun i h=>⟨fun e=>h (.inr e),fun e=>h (.inl (Option.some.inj e).symm)⟩;rcases List.mem_append.1 hf with hf|hf
  ·exact⟨(HH.out.own f hf i hi).1,hgi i (hQ f hf i hi)⟩
  ·rw[List.mem_singleton] at hf;injection hf with hf
   subst hf;exact⟨fun e=>Z6.out i hi (.inl e),hgi i (hown i (Z6.out i hi) (HE.out.lt i hi))⟩
 ·rw[List.pairwise_append];refine⟨HH.out.apart,List.pairwise_singleton _ _,fun a ha b hb f g hf hg i hi hj=>?_⟩;rw[List.mem_singleton] at hb;subst hb;subst hf;injection hg with hg
  subst hg;exact Z6.out i hj (.inr (.inr (.inr ⟨f,ha,hi⟩)))
 ·refine(K3.out.mono (K:=fun i=>SG x m A Q i∨e.F i) ?_).step K7.out ?_
  ·rintro i (h|h)
   ·exact .inl (.inl h)
   ·exact .inl (.inr (.inr (.inl h)))
  ·rintro i (rfl|rfl)
   ·rcases U1.out with h1|h1
    ·exact .inl (.inl (.inr (.inr (.inl h1))))
    ·exact .inr h1
   ·exact .inl (.inl (.inr (.inl rfl)))
 ·rintro i (h|h|h|⟨f,hf,hi⟩)
  ·exact .inl (.inl (.inl h))
  ·exact .inl (.inl (.inr (.inl h)))
  ·have:gt=i:=Option.some.inj h;subst this;rcases U1.out with h1|h1
   ·exact .inl (.inl (.inr (.inr (.inl h1))))
   ·exact .inr h1
  ·rcases List.mem_append.1 hf with hf|hf
   ·exact .inl (.inl (.inr (.inr (.inr ⟨f,hf,hi⟩))))
   ·rw[List.mem_singleton] at hf;injection hf with hf
    subst hf;exact .inl (.inr hi)
section
variable {P:Program} {w:World}
theorem du(dT sT ty elem:TypeId)(g off a4S a9y:Nat)(ad:Addr)(a1V a4T:Nat)(cur:Array Value)(t:TypeId)(cs:List Value)(size n:Nat)(hu:P.underlying dT=some (.slice elem))(hs:(P.info? elem).map (·.size)=some size)(hg:w.heap[g]?=some (.cells cur t (0,0)))(hn:n=Nat.min a1V a4S)(hcs:cs.length=n*size)(a9z:∀j v,cs[j]?=some v→w.cell? (ad.add j)=some v)(PL:off+cs.length≤cur.size)(h1:∀v∈cs,v.oneCell'=true):
  (Builtin.copy_ #[dT,sT] ty #[.slice (some ⟨g,off,none⟩) a4S a9y,.slice (some ad) a1V a4T]).run P w=
   .ok (goInt n) (w.setRow g (cur.toList.take off++cs++cur.toList.drop (off+cs.length)).toArray):=by
 cases hq:P.info? elem with
 |none=>simp[hq] at hs
 |some i=>
  have hi:i.size=size:=by simpa [hq] using hs
  have hf:=run_firstCells_some (P:=P) (w:=w) i.size n ad a1V a4T cs (by rw[hi];exact hcs) a9z;have R4:=run_storeCells_at P g off t cs 0 cur w hg (by simpa using PL) h1;simp only[Nat.add_zero] at R4;simp[Builtin.copy_,run_underlying hu,Builtin.lenOf,sizeOf,typeInfo,hq,←hn,hf,R4]
theorem lM{o:Oper}{a:Act}{K:Act→World→Prop}{Q:Exit→Act→World→Prop}(d s:Operand)(t t':TypeId)(ho:o.op=.call {callee:=.builtin .copy,args:=#[d,s],argTypes:=#[t,t']})(v u:Value)(hd:a.eval d=v)(hs:a.eval s=u){v':Value}{w':World}(hr:(Builtin.copy_ #[t,t'] o.type #[v,u]).run P w=.ok v' w')(h:K (a.put o.dst v') w'):o.wp P a w K Q:=by
 unfold Oper.wp execOp;simp only[ho,resolve,invoke,builtin,Sem.run_bind,Sem.run_pure,Result.andThen_ok,List.map_toArray,List.map_cons,List.map_nil,hd,hs,hr];exact h
theorem ep{ops:Array Oper}{rest:List Oper}{o:Oper}{a:Act}{Q:Exit→Act→World→Prop}(PB:o.guard=none)(d s:Operand)(t t':TypeId)(ho:o.op=.call {callee:=.builtin .copy,args:=#[d,s],argTypes:=#[t,t']})(v u:Value)(hd:a.eval d=v)(hs:a.eval s=u){v':Value}{w':World}(hr:(Builtin.copy_ #[t,t'] o.type #[v,u]).run P w=.ok v' w')(h:wpList P ops Q rest (a.put o.dst v') w'):wpList P ops Q (o::rest) a w:=
 wpList_plain PB fun _ hK=>lM d s t t' ho v u hd hs hr (hK _ _ h)
theorem fC{ops:Array Oper}{o:Oper}{a:Act}{K:Act→World→Prop}{Q:Exit→Act→World→Prop}{E:Prop}(PB:o.guard=none)(d s:Operand)(t t':TypeId)(ho:o.op=.call {callee:=.builtin .copy,args:=#[d,s],argTypes:=#[t,t']})(v u:Value)(hd:a.eval d=v)(hs:a.eval s=u){v':Value}{w':World}(hr:(Builtin.copy_ #[t,t'] o.type #[v,u]).run P w=.ok v' w')(h:K (a.put o.dst v') w'):
  if Region.wanted o (yielded ops a.tmps)=true then Oper.wp P o a w K Q else E:=by
 have hw:Region.wanted o (yielded ops a.tmps)=true:=by simp[Region.wanted,PB]
 rw[if_pos hw];exact lM d s t t' ho v u hd hs hr h
theorem mS{t ti ty e:TypeId}{i:TypeInfo}{z:Value}{size bytes:Nat}(ht:P.underlying t=some (.slice e))(hti:P.underlying ti=some (.int .i64))(hi:P.info? e=some i)(hz:i.zero=some z)(OP:i.size=size)(Vk:i.bytes=bytes)(UK:z.cells.size=size)(ad:Addr)(n old:Nat)(xs:List Value)(hx:xs.length=n*size)(hc:∀j u,xs[j]?=some u→w.cell? (ad.add j)=some u)(m:Nat)(hm:1≤m)(ho:old<n+m)(TH:n+m≤140737488355328)(OD:(n+m)*bytes≤140737488355328):
  ∃c' cs,(Builtin.append_ #[t,ti] ty #[.slice (some ad) n old,.int .i64 (m:Int)]).run P w=.ok (.slice (some ⟨w.heap.size,0,none⟩) (n+m) c') (w.drew.alloc (.cells cs e))∧cs.size=c'*size∧n+m≤c'∧c'≤maxLen∧cs.toList.take (n*size)=xs:=by
 subst Vk;subst OP;have QA:n+m≤maxLen:=by unfold maxLen;omega
 have XS:m*i.bytes≤140737488355328:=Oo (Nat.mul_le_mul_right _ oq) OD;have XT:IntKind.i64.wrap (m:Int)=(m:Int):=i6
 have a1W:¬(281474976710656:Int)<(m:Int)*(i.bytes:Int):=by
  have:((m*i.bytes:Nat):Int)≤140737488355328:=oq;rw[Int.natCast_mul] at this;omega
 have Ou:¬((m:Int)<0):=oq;have a1X:¬(9223372036854775807<((n:Int)+(m:Int))):=oq;have XU:=run_firstCells_some (P:=P) (w:=w.drew) i.size n ad n old xs hx (by simpa using hc);have Le:Builtin.nextslicecap (n+m) old*i.bytes≤281474976710656:=growslice_fits oq OD;have hge:=grownCap_ge w (n+m) old e;have Qb:grownCap w (n+m) old e≤maxLen:=grownCap_le_maxLen w (n+m) old e QA;have hn:¬(n+m≤old):=oq;have a1Y:¬(281474976710656<Builtin.nextslicecap (n+m) old*i.bytes):=oq;refine⟨grownCap w (n+m) old e,xs.toArray++Builtin.zeroCells z.cells m++Builtin.zeroCells z.cells (grownCap w (n+m) old e-(n+m)),?_,?_,hge,Qb,?_⟩
 ·simp[Builtin.append_,run_underlying ht,run_underlying hti,sizeOf,typeInfo,zeroValue,hi,hz,asInt,asIntOf,XT,Ou,a1W,hn,a1X,a1Y,Question.forced,XU,newRow,grownCap];exact ua
 ·simp only[Array.size_append,List.size_toArray,size_zeroCells,UK,hx,←Nat.add_mul]
  congr 1
  omega
 ·simp only[Array.toList_append,List.append_assoc];rw[←hx];exact List.take_left
theorem cJ{ops:Array Oper}{rest:List Oper}{o:Oper}{a:Act}{Q:Exit→Act→World→Prop}(PB:o.guard=none)(d s:Operand)(t t':TypeId)(ho:o.op=.call {callee:=.builtin .append,args:=#[d,s],argTypes:=#[t,t']})(v u:Value)(hd:a.eval d=v)(hs:a.eval s=u){v':Value}{w':World}(hr:(Builtin.append_ #[t,t'] o.type #[v,u]).run P w=.ok v' w')(h:wpList P ops Q rest (a.put o.dst v') w'):wpList P ops Q (o::rest) a w:=
 wpList_plain PB fun _ hK=>by
  unfold Oper.wp execOp;simp only[ho,resolve,invoke,builtin,Sem.run_bind,Sem.run_pure,Result.andThen_ok,List.map_toArray,List.map_cons,List.map_nil,hd,hs,hr];exact hK _ _ h
end
structure Hd where
 A:Option Addr
 n:Nat
 c:Nat
 xs:List Value
def hdV(h:Hd):Value:=.slice h.A h.n h.c
def aw:List Hd→Nat
 | []=>0
 |h::hs=>h.n+aw hs
def bZ:List Hd→List Value
 | []=>[]
 |h::hs=>h.xs++bZ hs
theorem qw(a b:List Hd):aw (a++b)=aw a+aw b:=by
 induction a with
 |nil=>simp[aw]
 |cons x a ih=>simp only[List.cons_append,aw,ih];omega
theorem Bw(a b:List Hd):bZ (a++b)=bZ a++bZ b:=by
 induction a with
 |nil=>simp[bZ]
 |cons x a ih=>simp only[List.cons_append,bZ,ih,List.append_assoc]
theorem jb{hs:List Hd}{i:Nat}{h:Hd}(e:hs[i]?=some h):aw (hs.take (i+1))=aw (hs.take i)+h.n∧bZ (hs.take (i+1))=bZ (hs.take i)++h.xs:=by
 rw[List.take_add_one,e];simp[qw,Bw,aw,bZ]
theorem kG(hs:List Hd)(i:Nat):aw (hs.take i)≤aw hs:=by
 have h:=qw (hs.take i) (hs.drop i);rw[List.take_append_drop] at h;omega
structure fX(w:World)(B size:Nat)(S:Option Addr)(hs:List Hd):Prop where
 head:am w B 1 S hs.length (hs.map hdV)
 each:∀h∈hs,am w B size h.A h.n h.xs∧∀u∈h.xs,u.oneCell'=true
theorem fX.below{w w':World}{B size:Nat}{S:Option Addr}{hs:List Hd}(h:fX w B size S hs)(hb:Below B w w'):fX w' B size S hs:=
 ⟨h.head.below hb,fun x hx=>⟨(h.each x hx).1.below hb,(h.each x hx).2⟩⟩
theorem fX.at_{w:World}{B size:Nat}{S:Option Addr}{hs:List Hd}(h:fX w B size S hs){i:Nat}{x:Hd}(hi:hs[i]?=some x):∃b o,S=some ⟨b,o,none⟩∧b<B∧w.cell? ⟨b,o+i,none⟩=some (.slice x.A x.n x.c):=by
 have hl:=(List.getElem?_eq_some_iff.1 hi).1;obtain⟨b,o,e,hb,hc⟩:=h.head.2 oq;exact⟨b,o,e,hb,hc i _ (by simp[hi,hdV])⟩
section
variable {P:Program} {w:World}
theorem fE{t ti ty e:TypeId}{i:TypeInfo}{z:Value}{size bytes:Nat}(ht:P.underlying t=some (.slice e))(hti:P.underlying ti=some (.int .i64))(hi:P.info? e=some i)(hz:i.zero=some z)(OP:i.size=size)(Vk:i.bytes=bytes)(UK:z.cells.size=size)(m:Nat)(hm:1≤m)(TH:m≤140737488355328)(OD:m*bytes≤140737488355328):
  ∃c' cs,(Builtin.append_ #[t,ti] ty #[.slice none 0 0,.int .i64 (m:Int)]).run P w=.ok (.slice (some ⟨w.heap.size,0,none⟩) m c') (w.drew.alloc (.cells cs e))∧cs.size=c'*size∧m≤c'∧c'≤maxLen:=by
 subst Vk;subst OP;have QA:m≤maxLen:=by unfold maxLen;omega
 have XT:IntKind.i64.wrap (m:Int)=(m:Int):=i6
 have a1W:¬(281474976710656:Int)<(m:Int)*(i.bytes:Int):=by
  have:((m*i.bytes:Nat):Int)≤140737488355328:=oq;rw[Int.natCast_mul] at this;omega
 have Ou:¬((m:Int)<0):=oq;have a1X:¬(9223372036854775807<(m:Int)):=oq;have XU:=run_firstCells_none (P:=P) w.drew i.size 0 0 0;have Le:Builtin.nextslicecap m 0*i.bytes≤281474976710656:=by unfold Builtin.nextslicecap;rw[if_pos oq];omega
 have hge:=grownCap_ge w m 0 e;have Qb:grownCap w m 0 e≤maxLen:=grownCap_le_maxLen w m 0 e QA;have hn:¬(m≤0):=oq;have SZ:¬(m=0):=oq;have a1Y:¬(281474976710656<Builtin.nextslicecap m 0*i.bytes):=oq;refine⟨grownCap w m 0 e,Builtin.zeroCells z.cells m++Builtin.zeroCells z.cells (grownCap w m 0 e-m),?_,?_,hge,Qb⟩
 ·simp[Builtin.append_,run_underlying ht,run_underlying hti,sizeOf,typeInfo,zeroValue,hi,hz,asInt,asIntOf,XT,Ou,a1W,SZ,a1X,a1Y,Question.forced,XU,newRow,grownCap];exact ua
 ·simp only[Array.size_append,size_zeroCells,UK,←Nat.add_mul]
  congr 1
  omega
theorem fD{t e:TypeId}{size bytes:Nat}(hE:fH P t e size bytes)(g m c:Nat)(W:World):
  (Instr.slice t (.slice (some ⟨g,0,none⟩) m c) none (some (.int .i64 0)) none).run P W=.ok (.slice (some ⟨g,0,none⟩) 0 c) W:=by
 obtain⟨ht,i,z,hi,hz,OP,Vk,UK,Is⟩:=hE;have he:P.elem t=e:=by simp[Program.elem,ht]
 rw[run_slice_h (w:=W) t (some ⟨g,0,none⟩) m c (by rw[he];exact ht) .i64 0 oq oq,he];simp[Result.andThen,sliced,sizeOf,typeInfo,hi,Addr.add_lit]
end
theorem mO:fH prog 24 5 1 1:=cy underlying24 (z:=.int .u8 0) ok' od od
def oT(w:World)(n:Nat)(xs:List Value)(e:Ending)(w':World):Prop:=∃A c,e=.returned (.slice A n c)∧Own w' w.heap.size 5 1 A n c xs∧Below w.heap.size w w'
theorem oO(A:Option Addr)(n c:Nat)(xs:List Value)(w:World)(hb:am w w.heap.size 1 A n xs)(h1:∀u∈xs,u.oneCell'=true)(hl:n≤100000000):
  Cl 50 #[.slice A n c] w (oT w n xs):=by
 rcases A with _|a
 ·have UT:n=0:=by
   rcases Nat.eq_zero_or_pos n with h0|h0
   ·exact h0
   ·obtain⟨b,o,e,_⟩:=hb.2 h0;cases e
  subst UT;have hx:xs=[]:=List.length_eq_zero_iff.1 (by have:=hb.1;omega);subst hx;have hk:∀W:World,(binOp .eql 24 (.slice none 0 c) (.slice none 0 0)).run prog W=.ok (.bool true) W:=fun W=>Lib.run_eql_slice_nil W 24 5 none 0 c 0 0 underlying24;clear hb h1;go_enter func50,ntmps50;go_wp2_with fail;go_ret;exact⟨none,0,rfl,Own.nil _ _ _ _,Oq _ _⟩
 ·have hk:∀W:World,(binOp .eql 24 (.slice (some a) n c) (.slice none 0 0)).run prog W=.ok (.bool false) W:=fun W=>Lib.run_eql_slice_nil W 24 5 (some a) n c 0 0 underlying24;have HB:=Oh hb;have HO:=Oh h1;clear hb h1;go_enter func50,ntmps50;go_wp2_with (at_builtin;refine Hid.out ?_);have Ux:Own (w.alloc (.cells #[] 5)) w.heap.size 5 1 (some ⟨w.heap.size,0,none⟩) 0 0 []:=Own.made w _ _ _ #[] 0 (Oi _) (Nat.zero_le _) rfl;have Oy:Below w.heap.size w (w.alloc (.cells #[] 5)):=Ba;have QV:=HB.out.at_below Oy;refine aj (xs:=[]) rfl rfl mO rfl Ux rfl QV HO.out n (Nat.zero_add _) xs rfl (by unfold maxLen;omega) oq Oy.size ?_;intro A2 c2 w2 o2 g2 q2;have nO:Hid (Own w2 w.heap.size 5 1 A2 n c2 xs):=Oh o2;exact kw
theorem IL(m:Nat)(hm:m≤100000000)(w:World):
  Cl 173 #[.slice none 0 0,.int .i64 (m:Int)] w (oT w 0 []):=by
 have x0:decide ((m:Int)<0)=false:=by simp
 have x1:IntKind.i64.wrap ((m:Int)-0)=(m:Int):=i6;rcases Nat.eq_zero_or_pos m with h0|h0
 ·subst h0;go_enter func173,ntmps173;go_wp2_with fail;go_ret;exact⟨none,0,rfl,Own.nil _ _ _ _,Oq _ _⟩
 ·have x2:decide ((0:Int)<(m:Int))=true:=sq;have QA:(m:Int)≤100000000:=oq;go_enter func173,ntmps173;go_wp2_with (at_builtin;refine Hid.out ?_);obtain⟨ht,ti,z,hi,hz,OP,Vk,UK,Is⟩:=mO;obtain⟨c1,cs,iN,hcs,U2,Qb⟩:=fE (w:=w) (ty:=24) ht underlying3 hi hz OP Vk UK m h0 oq oq;refine cJ rfl _ _ _ _ rfl _ _ rfl rfl iN ?_;have HO:Hid (Own (w.drew.alloc (.cells cs 5)) w.heap.size 5 1 (some ⟨w.heap.size,0,none⟩) 0 c1 []):=Oh ⟨rfl,.inr ⟨w.heap.size,c1,cs,rfl,Oi _,heap_alloc_new w.drew _,Nat.zero_le _,Qb,hcs,by simp⟩⟩;have HB:Hid (Below w.heap.size w (w.drew.alloc (.cells cs 5))):=Oh ((Oq _ _).drew.alloc (Oi _) _);have St:=fun W=>fD (P:=prog) mO w.heap.size m c1 W;exact nZ
theorem C0(S:Option Addr)(cS:Nat)(hs:List Hd)(w:World)(h:fX w w.heap.size 1 S hs)(hl:hs.length≤100000000)(hn:aw hs≤100000000):
  Cl 94 #[.slice S hs.length cS] w (oT w (aw hs) (bZ hs)):=by
 have HH:=Oh h;have HN:=Oh hn;have HG:=Oh (IL (aw hs) hn w);have Rl:(aw hs:Int)≤100000000:=oq;have Lt:(hs.length:Int)≤100000000:=oq;have HR:=Oh (show aw (hs.take hs.length)=aw hs∧bZ (hs.take hs.length)=bZ hs by rw[List.take_length];exact⟨rfl,rfl⟩);clear h hn hl;go_enter func94,ntmps94;go_wp2_with fail;go_loopw [3,11] (fun u v wr=>∃(i:Nat),i≤hs.length∧v=.int .i64 (i:Int)∧u=.int .i64 (aw (hs.take i):Nat)∧wr=w) (fun _ v _=>hs.length-(intOf v).toNat)
 case atStart=>exact⟨0,Nat.zero_le _,rfl,rfl,rfl⟩
 case round=>
  obtain⟨i,hi,rfl,rfl,hw⟩:=hrel;obtain rfl:=hw.symm
  by_cases hlt:i<hs.length
  ·exact nX
  ·obtain rfl:i=hs.length:=oq;rw[HR.out.1];clear hi hlt;have t1:¬(hs.length:Int)<(hs.length:Int):=oq;go_wp2_with fail;refine HG.out.mono ?_;rintro e w1 ⟨A1,c1,rfl,o1,b1⟩;have IF:=Oh o1;have aS:=Oh b1;clear o1 b1 t1;go_wp2_with fail;go_loopw [6,27] (fun u v wr=>∃(i:Nat) (A:Option Addr) (c:Nat),i≤hs.length∧v=.int .i64 (i:Int)∧u=.slice A (aw (hs.take i)) c∧Own wr w.heap.size 5 1 A (aw (hs.take i)) c (bZ (hs.take i))∧Below w.heap.size w wr) (fun _ v _=>hs.length-(intOf v).toNat)
   case atStart=>exact⟨0,A1,c1,Nat.zero_le _,rfl,rfl,IF.out,aS.out⟩
   case round=>
    obtain⟨i,A,c,hi,rfl,rfl,ho,hb⟩:=hrel;have HO:=Oh ho;have HB:=Oh hb;clear ho hb IF aS HG
    by_cases hlt:i<hs.length
    ·obtain⟨x,hx⟩:=gs hs i hlt;have XV:=HH.out.below HB.out;obtain⟨b,o,rfl,_,d0⟩:=XV.at_ hx;have Wf:=Oh (XV.each x (Om hx));obtain⟨Le,hnv⟩:=jb hx;have hle:=kG hs (i+1);have hN:=HN.out;have t1:(i:Int)<(hs.length:Int):=oq;have oR:=Oh hlt;have PE:=Oh (And.intro Le hnv);have Qy:Hid (aw (hs.take i)+x.n≤100000000):=Oh oq;clear hlt Le hnv hle hN hi XV;generalize aw (hs.take i)=N0 at*;go_wp2_with (at_builtin;refine Hid.out ?_);refine aj rfl rfl mO rfl HO.out rfl Wf.out.1 Wf.out.2 _ rfl _ rfl (by have:=Qy.out;unfold maxLen;omega) (by have:=Qy.out;omega) HB.out.size ?_;exact ob
    ·obtain rfl:i=hs.length:=oq;have sO:Hid (Own wr w.heap.size 5 1 A (aw hs) c (bZ hs)):=Oh (by have h:=HO.out;rw[HR.out.1,HR.out.2] at h;exact h);exact nS
structure Ac where
 k:Nat
 H:Nat
 G:Nat
 sk:Nat
 lo:Int
 hi:Int
 d:Int
 gr:Bool
 ac:Int
 sz:Int
 v:Int
 n:Nat
 num:Nat
 den:Nat
 bA:Option Addr
 bn:Nat
 bc:Nat
 mA:Option Addr
 mn:Nat
 mc:Nat
 ver:Int
 lim:Int
 cA:Option Addr
 cn:Nat
 cc:Nat
def acC(a:Ac):Array Value:=#[.int .u8 (a.k:Int),.int .u32 (a.H:Int),.int .u32 (a.G:Int),.int .u8 (a.sk:Int),.int .i64 a.lo,.int .i64 a.hi,.int .i64 a.d,.bool a.gr,.int .i64 a.ac,.int .i64 a.sz,.int .i64 a.v,.int .u64 (a.n:Int),.int .u64 (a.num:Int),.int .u64 (a.den:Int),.slice a.bA a.bn a.bc,.slice a.mA a.mn a.mc,.int .i64 a.ver,.int .i64 a.lim,.slice a.cA a.cn a.cc]
theorem Jo(A:Option Addr)(c:Nat)(l:List UInt8)(w:World)(hb:Bts w w.heap.size A l)(hl:l.length≤100000000):
  Cl 68 #[.slice A l.length c] w fun e w'=>∃g,e=.returned (.pointer (some ⟨g,0,none⟩))∧Below w.heap.size w w':=by
 have HN:=Oh (show Cl 138 #[.slice A l.length c] w fun e w'=>∃g,e=.returned (.pointer (some ⟨g,0,none⟩))∧Below w.heap.size w w' from by
  have HC:=Oh (oO A l.length c (bvs l) w hb (aO l) hl);clear hb;go_enter func138,ntmps138;go_wp2_with fail;refine HC.out.mono ?_;rintro e w1 ⟨A1,c1,rfl,_,h2⟩;have H2:=Oh h2;clear h2;go_wp2_with fail;go_ret;exact⟨w1.heap.size,rfl,H2.out.alloc H2.out.size _⟩)
 clear hb;go_enter func68,ntmps68;go_wp2_with fail;refine HN.out.mono ?_;rintro e w1 ⟨g,rfl,h2⟩;have H2:=Oh h2;clear h2;go_wp2_with fail;go_ret;exact⟨w1.heap.size,rfl,H2.out.alloc H2.out.size _⟩
theorem F9:(Tryz.prog.info? 42).map (·.size)=some 19:=by kernel_rfl
structure Fr(w V:World)(a:Ac)(r:Array Value):Prop where
 act:Blk V w.heap.size 42 (acC a)
 res:Blk V (w.heap.size+1) 39 r
 below:Below w.heap.size w V
section
variable {w V V':World} {a:Ac} {r:Array Value}
theorem Fr.start(w:World)(a:Ac):Fr w ((w.alloc (.cells (acC a) 42)).alloc (.cells (ap 0) 39)) a (ap 0):=by
 have h1:=Blk.new w 42 (acC a);have h2:=Blk.new (w.alloc (.cells (acC a) 42)) 39 (ap 0);simp only[World.size_alloc] at h2;exact⟨h1.alloc _,h2,(Ba).alloc os' _⟩
theorem Fr.next(h:Fr w V a r)(k:Below V.heap.size V V'):Fr w V' a r:=⟨h.act.below k h.act.lt,h.res.below k h.res.lt,h.below.trans (k.mono h.below.size)⟩
theorem Fr.cell(h:Fr w V a r)(j:Nat):V.cell? ⟨w.heap.size,j,none⟩=(acC a)[j]?:=h.act.cell j
theorem Fr.alive(h:Fr w V a r){K:Nat→Prop}(k:ab K V V')(hK:∀i,K i→i<w.heap.size∨w.heap.size+1<i):Blk V' w.heap.size 42 (acC a)∧Blk V' (w.heap.size+1) 39 r:=
 ⟨h.act.only k (fun h1=>by rcases hK _ h1 with h|h<;>omega),h.res.only k (fun h1=>by rcases hK _ h1 with h|h<;>omega)⟩
end
theorem lm{P:Program}{w:World}{ops:Array Oper}{o:Oper}{a:Act}{K:Act→World→Prop}{Q:Exit→Act→World→Prop}{E:Prop}(PB:o.guard=none){ty:TypeId}{x y:Operand}(ho:o.op=.store ty x y)(g:Nat)(cells:Array Value)(hx:a.eval x=.pointer (some ⟨g,0,none⟩))(hy:a.eval y=.agg cells)(t:TypeId)(old:Array Value)(hg:w.heap[g]?=some (.cells old t (0,0)))(hi:(P.info? ty).map (·.size)=some cells.size)(hold:old.size=cells.size)(h1:cells.all (·.oneCell')=true)(h:K (a.put o.dst undef) (w.setRow g cells)):if Region.wanted o (yielded ops a.tmps)=true then Oper.wp P o a w K Q else E:=by
 have hw:Region.wanted o (yielded ops a.tmps)=true:=by simp[Region.wanted,PB]
 rw[if_pos hw];exact wp_store_row ty x y ho g cells hx hy t old hg hi hold h1 h
def cT(S:Ent→Prop)(p:Nat)(F:Nat→Prop)(w w':World):Prop:=∃f:Ent,S f∧f.p=p∧ar f.I f.F w'∧aD F f.F w w'
theorem cT.pre{S:Ent→Prop}{p:Nat}{F:Nat→Prop}{w w1 w2:World}(h:cT S p F w1 w2)(hb:Below w.heap.size w w1):cT S p F w w2:=by
 obtain⟨f,h1,h2,h3,h4⟩:=h;exact⟨f,h1,h2,h3,h4.pre hb⟩
theorem cT.post{S:Ent→Prop}{p:Nat}{F:Nat→Prop}{w w1 w2:World}(h:cT S p F w w1)(hb:Below w1.heap.size w1 w2):cT S p F w w2:=by
 obtain⟨f,h1,h2,h3,h4⟩:=h;exact⟨f,h1,h2,h3.below hb,h4.post hb⟩
theorem cT.only{S:Ent→Prop}{p:Nat}{F:Nat→Prop}{w w':World}(h:cT S p F w w'):ab F w w':=by
 obtain⟨f,_,_,_,h4⟩:=h;exact h4.only
theorem cT.put{S:Ent→Prop}{p:Nat}{F:Nat→Prop}{w w1 w2 w3:World}{g:Nat}(h:cT S p F w1 w2)(hb:Below w.heap.size w w1)(k:ab (fun i=>i=g) w2 w3)(hg:w.heap.size≤g)(Px:g<w1.heap.size)(hF:¬F g):cT S p F w w3:=by
 obtain⟨f,h1,h2,h3,h4⟩:=h;have hn:¬f.F g:=fun h=>(h4.new g h).elim hF oq;have h5:=h4.pre hb;exact⟨f,h1,h2,h3.only k (fun i hi e=>hn (by rw[←e];exact hi)),⟨h5.only.step k (fun i hi=>.inr (by rw[hi];exact hg)),h5.new⟩⟩
theorem aY(w:World)(g:Nat)(cs:Array Value):ab (fun i=>i=g) w (w.setRow g cs):=⟨rfl,rfl,rfl,by simp,fun i _ hi=>setRow_other w g i cs hi⟩
theorem eW{fn:Func}(hr:fn.results=#[.cell 6 39]){R:Ending→World→Prop}{b:Act}{W:World}{g:Nat}{cs:Array Value}(h6:b.tmps.getD 6 undef=.pointer (some ⟨g,0,none⟩))(hd:b.defers=[])(hb:Blk W g 39 cs)(hs:cs.size=8)(hR:R (.returned (.agg cs)) W):bodyPost prog fn R .ret b W:=
 bodyPost_ret (v:=.agg cs) (results_cell_row hr _ _ g 39 cs (0,0) _ h6 hb underlying39 (by rfl) (by rw[hs];kernel_rfl)) hd hR
section
variable {w:World} {x p:Nat} {a:Ac}
theorem CZ(o:Value)(n:Nat)(HC:Hid (∀W,Below w.heap.size w W→Cl 72 #[.pointer (some ⟨p,0,none⟩)] W (Rb (.int .u64 (n:Int)) W))):
  Cl 41 #[o,.pointer (some ⟨p,0,none⟩),.agg (acC a)] w (Rb (.agg (bC 0 0 false 0 0 0 n (.slice none 0 0))) w):=by
 have HF:=Oh (Fr.start w a);go_enter func41,ntmps41;go_wp2_with fail;refine(HC.out _ HF.out.below).mono ?_;rintro e w1 ⟨rfl,b1⟩;have Pf:=Oh (HF.out.next b1);clear b1 HC HF;go_wp2_with (first|(refine wpList_store_row rfl 39 _ _ rfl (w.heap.size+1) (bC 0 0 false 0 0 0 n (.slice none 0 0)) rfl rfl 39 (ap 0) Pf.out.res aF rfl aP ?_)|fail);go_wp2_with fail;exact eW results41 rfl rfl (setRow_heap _ _ _ _ _ _ Pf.out.res) rfl ⟨rfl,below_setRow Pf.out.below oq _⟩
theorem Au(o:Value)(c:Int)(S:Ent→Prop)(F:Nat→Prop)(TB:Hid (∀i,F i→i<w.heap.size))(HCO:Hid (∀W,Below w.heap.size w W→Cl 68 #[.slice a.cA a.cn a.cc] W fun e w'=>∃g,e=.returned (.pointer (some ⟨g,0,none⟩))∧Below W.heap.size W w'))(HC:Hid (∀W g,Below w.heap.size w W→Cl 67 #[.pointer (some ⟨p,0,none⟩),.int .i64 a.v,.int .u64 (a.n:Int),.pointer (some ⟨g,0,none⟩)] W fun e w'=>e=.returned (.int .i64 c)∧cT S p F W w')):
  Cl 37 #[o,.pointer (some ⟨p,0,none⟩),.agg (acC a)] w fun e w'=>e=.returned (.agg (ap c))∧cT S p F w w':=by
 have HF:Hid (Fr w ((w.alloc (.cells (acC a) 42)).alloc (.cells (rz (.slice none 0 0)) 39)) a (ap 0)):=Oh (Fr.start w a);go_enter func37,ntmps37;go_upto_region 1 with(fail);generalize((w.alloc (.cells (acC a) 42)).alloc (.cells (rz (.slice none 0 0)) 39))=w0 at*;have n1:w0.cell? ⟨w.heap.size,10,none⟩=some (.int .i64 a.v):=by rw[HF.out.cell];rfl
 have n2:w0.cell? ⟨w.heap.size,11,none⟩=some (.int .u64 (a.n:Int)):=by rw[HF.out.cell];rfl
 have n3:w0.cell? ⟨w.heap.size,18,none⟩=some (.slice a.cA a.cn a.cc):=by rw[HF.out.cell];rfl
 refine wp_region_noPanic ?_;refine ag (S:=(fun(V:World)=>V.cell? ⟨w.heap.size,10,none⟩=some (.int .i64 a.v)∧V.cell? ⟨w.heap.size,11,none⟩=some (.int .u64 (a.n:Int))∧V.cell? ⟨w.heap.size,18,none⟩=some (.slice a.cA a.cn a.cc))) (L:=10) ok' ⟨n1,n2,n3⟩ (fun hHeld=>?_);have ZN:Hid (Fr w w0.drew a (ap 0)):=Oh (HF.out.next (Oq _ _).drew);clear HF n1 n2 n3;generalize w0.drew=wd at*;refine tV 0 ?_;refine tV 1 ?_;refine tV 2 ?_;refine tV 3 ?_;refine tV 4 ?_;refine tV 5 ?_;refine tV 6 ?_;refine bO 7 fun K hK=>?_;go_simp;refine(HCO.out _ ZN.out.below).mono ?_;rintro e v1 ⟨g,rfl,b1⟩;have Pf:=Oh (ZN.out.next b1);clear b1 HCO;replace hHeld:=(show(fun(V:World)=>V.cell? ⟨w.heap.size,10,none⟩=some (.int .i64 a.v)∧V.cell? ⟨w.heap.size,11,none⟩=some (.int .u64 (a.n:Int))∧V.cell? ⟨w.heap.size,18,none⟩=some (.slice a.cA a.cn a.cc)) v1 from⟨by rw[Pf.out.act.cell];rfl,by rw[Pf.out.act.cell];rfl,by rw[Pf.out.act.cell];rfl⟩);refine hK.out _ _ hHeld ?_;clear hK K;try go_simp
 refine bO 8 fun K hK=>?_;go_simp;refine(HC.out _ g Pf.out.below).mono ?_;rintro e v2 ⟨rfl,h2⟩;have T3:=Oh (Pf.out.alive h2.only (fun i hi=>.inl (TB.out i hi)));have Pn:=Oh h2;have aS:=Oh Pf.out.below;have uN:Hid (w.heap.size+1<v1.heap.size):=Oh Pf.out.res.lt;clear h2 HC;replace hHeld:=(show(fun(V:World)=>V.cell? ⟨w.heap.size,10,none⟩=some (.int .i64 a.v)∧V.cell? ⟨w.heap.size,11,none⟩=some (.int .u64 (a.n:Int))∧V.cell? ⟨w.heap.size,18,none⟩=some (.slice a.cA a.cn a.cc)) v2 from⟨by rw[T3.out.1.cell];rfl,by rw[T3.out.1.cell];rfl,by rw[T3.out.1.cell];rfl⟩);refine hK.out _ _ hHeld ?_;clear hK K;try go_simp
 refine bO 9 fun K hK=>?_;go_simp;refine(mC _ _).mono ?_;rintro e v3 ⟨rfl,b3⟩;have Oz:=Oh (T3.out.2.below b3 T3.out.2.lt);have Ss:=Oh (T3.out.1.below b3 T3.out.1.lt);have QW:=Oh (Pn.out.post b3);clear b3;replace hHeld:=(show(fun(V:World)=>V.cell? ⟨w.heap.size,10,none⟩=some (.int .i64 a.v)∧V.cell? ⟨w.heap.size,11,none⟩=some (.int .u64 (a.n:Int))∧V.cell? ⟨w.heap.size,18,none⟩=some (.slice a.cA a.cn a.cc)) v3 from⟨by rw[Ss.out.cell];rfl,by rw[Ss.out.cell];rfl,by rw[Ss.out.cell];rfl⟩);refine hK.out _ _ hHeld ?_;clear hK K;try go_simp
 refine iV 10 fun K hK=>?_;refine lm rfl rfl (w.heap.size+1) (ap c) rfl rfl 39 (ap 0) Oz.out aF rfl aP ?_;refine hK.out _ _ ?_;clear hK K;try go_simp
 refine cD ?_;clear hHeld;go_wp2_with fail;have hk:ab (fun i=>i=w.heap.size+1) v3 (v3.setRow (w.heap.size+1) (ap c)):=aY _ _ _;exact eW results37 rfl rfl (setRow_heap _ _ _ _ _ _ Oz.out) rfl ⟨rfl,QW.out.put aS.out hk oq uN.out (fun h=>by have:=TB.out _ h;omega)⟩
end
section
variable {w:World} {x p q:Nat} {a:Ac}
theorem CR(o:Value)(c:Int)(S:Ent→Prop)(F:Nat→Prop)(TB:Hid (∀i,F i→i<w.heap.size))(Rj:Hid (∀W,Below w.heap.size w W→Cl 24 #[o,.int .u32 (a.G:Int)] W (Rs (.tuple #[.pointer (some ⟨q,0,none⟩),.bool true]) W)))(HCO:Hid (∀W,Below w.heap.size w W→Cl 68 #[.slice a.cA a.cn a.cc] W fun e w'=>∃g,e=.returned (.pointer (some ⟨g,0,none⟩))∧Below W.heap.size W w'))(HC:Hid (∀W g,Below w.heap.size w W→Cl 69 #[.pointer (some ⟨p,0,none⟩),.pointer (some ⟨q,0,none⟩),.pointer (some ⟨g,0,none⟩)] W fun e w'=>e=.returned (.int .i64 c)∧cT S p F W w')):
  Cl 38 #[o,.pointer (some ⟨p,0,none⟩),.agg (acC a)] w fun e w'=>e=.returned (.agg (ap c))∧cT S p F w w':=by
 have HF:Hid (Fr w ((w.alloc (.cells (acC a) 42)).alloc (.cells (rz (.slice none 0 0)) 39)) a (ap 0)):=Oh (Fr.start w a);go_enter func38,ntmps38;go_upto_region 1 with(fail);generalize((w.alloc (.cells (acC a) 42)).alloc (.cells (rz (.slice none 0 0)) 39))=w0 at*;have n2:w0.cell? ⟨w.heap.size,2,none⟩=some (.int .u32 (a.G:Int)):=by rw[HF.out.cell];rfl
 have n18:w0.cell? ⟨w.heap.size,18,none⟩=some (.slice a.cA a.cn a.cc):=by rw[HF.out.cell];rfl
 go_wp2_with fail;refine(Rj.out _ HF.out.below).mono ?_;rintro e w1 ⟨rfl,iF⟩;obtain rfl:=iF.symm;go_wp2_with fail;refine(HCO.out _ HF.out.below).mono ?_;rintro e v1 ⟨g,rfl,b1⟩;have Pf:=Oh (HF.out.next b1);clear b1 HCO n2 n18 HF Rj;go_wp2_with fail;refine(HC.out _ g Pf.out.below).mono ?_;rintro e v2 ⟨rfl,h2⟩;have T3:=Oh (Pf.out.alive h2.only (fun i hi=>.inl (TB.out i hi)));have Pn:=Oh h2;have aS:=Oh Pf.out.below;have uN:Hid (w.heap.size+1<v1.heap.size):=Oh Pf.out.res.lt;clear h2 HC;go_wp2_with fail;refine(mC _ _).mono ?_;rintro e v3 ⟨rfl,b3⟩;have Oz:=Oh (T3.out.2.below b3 T3.out.2.lt);have QW:=Oh (Pn.out.post b3);clear b3;go_wp2_with (first|(refine wpList_store_row rfl 39 _ _ rfl (w.heap.size+1) (ap c) rfl rfl 39 (ap 0) Oz.out aF rfl aP ?_)|fail);go_wp2_with fail;have hk:ab (fun i=>i=w.heap.size+1) v3 (v3.setRow (w.heap.size+1) (ap c)):=aY _ _ _;exact eW results38 rfl rfl (setRow_heap _ _ _ _ _ _ Oz.out) rfl ⟨rfl,QW.out.put aS.out hk oq uN.out (fun h=>by have:=TB.out _ h;omega)⟩
theorem Az(o:Value)(l:List UInt8)(HC:Hid (∀W,Below w.heap.size w W→Cl 17 #[.pointer (some ⟨p,0,none⟩),.int .i64 a.ver] W fun e w'=>∃A c,e=.returned (.tuple #[.slice A l.length c,.int .i64 0])∧ak w' W.heap.size A c l∧Below W.heap.size W w')):
  Cl 42 #[o,.pointer (some ⟨p,0,none⟩),.agg (acC a)] w fun e w'=>∃A c,e=.returned (.agg (bC 0 0 false 0 0 0 0 (.slice A l.length c)))∧ak w' w.heap.size A c l∧Below w.heap.size w w':=by
 have HF:Hid (Fr w ((w.alloc (.cells (acC a) 42)).alloc (.cells (rz (.slice none 0 0)) 39)) a (ap 0)):=Oh (Fr.start w a);go_enter func42,ntmps42;go_upto_region 1 with(fail);generalize((w.alloc (.cells (acC a) 42)).alloc (.cells (rz (.slice none 0 0)) 39))=w0 at*;have n16:w0.cell? ⟨w.heap.size,16,none⟩=some (.int .i64 a.ver):=by rw[HF.out.cell];rfl
 go_wp2_with fail;refine(HC.out _ HF.out.below).mono ?_;rintro e v1 ⟨A,c,rfl,o1,b1⟩;have Pf:=Oh (HF.out.next b1);have IF:Hid (ak v1 w.heap.size A c l):=Oh (Own.mono o1 HF.out.below.size);have OG:Hid (∀g,aa A=some g→g≠w.heap.size+1):=Oh (fun g hg e=>by have h1:=(Own.block o1 hg).1;have h2:=HF.out.res.lt;omega);clear b1 o1 n16 HF HC;go_wp2_with (first|(refine wpList_store_row rfl 39 _ _ rfl (w.heap.size+1) (bC 0 0 false 0 0 0 0 (.slice A l.length c)) rfl rfl 39 (ap 0) Pf.out.res aF rfl aP ?_)|fail);go_wp2_with fail;refine eW results42 rfl rfl (setRow_heap _ _ _ _ _ _ Pf.out.res) rfl ⟨A,c,rfl,?_,below_setRow Pf.out.below oq _⟩;exact Own.only IF.out (aY _ _ _) (fun g hg e=>OG.out g hg e)
theorem CJ(o:Value)(v:Int)(vg:Bool)(lg:Nat)(HC:Hid (∀W,Below w.heap.size w W→Cl 70 #[.pointer (some ⟨p,0,none⟩),.int .u64 (a.num:Int),.int .u64 (a.den:Int)] W (Rb (.tuple #[.agg #[.int .i64 v,.bool vg,.int .u64 (lg:Int)],.int .i64 0]) W))):
  Cl 39 #[o,.pointer (some ⟨p,0,none⟩),.agg (acC a)] w (Rb (.agg (bC 0 v vg lg 0 0 0 (.slice none 0 0))) w):=by
 have HF:Hid (Fr w ((w.alloc (.cells (acC a) 42)).alloc (.cells (rz (.slice none 0 0)) 39)) a (ap 0)):=Oh (Fr.start w a);go_enter func39,ntmps39;go_upto_region 1 with(fail);generalize((w.alloc (.cells (acC a) 42)).alloc (.cells (rz (.slice none 0 0)) 39))=w0 at*;have n12:w0.cell? ⟨w.heap.size,12,none⟩=some (.int .u64 (a.num:Int)):=by rw[HF.out.cell];rfl
 have n13:w0.cell? ⟨w.heap.size,13,none⟩=some (.int .u64 (a.den:Int)):=by rw[HF.out.cell];rfl
 go_wp2_with fail;refine(HC.out _ HF.out.below).mono ?_;rintro e v1 ⟨rfl,b1⟩;have Pf:=Oh (HF.out.next b1);clear b1 n12 n13 HF HC;go_upto_region 2 with(fail);have bY:=Oh (Blk.new v1 37 #[.int .i64 v,.bool vg,.int .u64 (lg:Int)]);have T4:=Oh (Pf.out.next ((Oq _ _).alloc (Oi _) (.cells #[.int .i64 v,.bool vg,.int .u64 (lg:Int)] 37)));obtain⟨N,hN⟩:∃N,N=v1.heap.size:=⟨_,rfl⟩;obtain⟨v2,PF⟩:∃v2,v2=v1.alloc (.cells #[.int .i64 v,.bool vg,.int .u64 (lg:Int)] 37):=⟨_,rfl⟩;rw[←PF] at bY T4 ⊢;rw[←hN] at bY ⊢;clear PF hN Pf;have d0:v2.cell? ⟨N,0,none⟩=some (.int .i64 v):=by rw[bY.out.cell];rfl
 have d1:v2.cell? ⟨N,1,none⟩=some (.bool vg):=by rw[bY.out.cell];rfl
 have d2:v2.cell? ⟨N,2,none⟩=some (.int .u64 (lg:Int)):=by rw[bY.out.cell];rfl
 go_wp2_with (first|(refine wpList_store_row rfl 39 _ _ rfl (w.heap.size+1) (bC 0 v vg lg 0 0 0 (.slice none 0 0)) rfl rfl 39 (ap 0) T4.out.res aF rfl aP ?_)|fail);go_wp2_with fail;exact eW results39 rfl rfl (setRow_heap _ _ _ _ _ _ T4.out.res) rfl ⟨rfl,below_setRow T4.out.below oq _⟩
def eH(S:Ent→Prop)(W:World)(e:Ending)(w':World):Prop:=∃f:Ent,e=.returned (.tuple #[.pointer (some ⟨f.p,0,none⟩),.int .i64 0])∧S f∧ar f.I f.F w'∧(∀i,f.F i→W.heap.size≤i)∧Below W.heap.size W w'
def rp(S:Ent→Prop)(x m:Nat)(A:Option Addr)(Q:List (Option Ent))(M:List (Nat×Nat))(H:Nat)(w w':World):Prop:=
 ∃f A' c',S f∧Sui w' x m A' c' (Q++[some f]) (M++[(H,Q.length)])∧aD (SG x m A Q) (SG x m A' (Q++[some f])) w w'
theorem mY{F G:Nat→Prop}{E:Nat→Prop}{w W w':World}(hb:Below w.heap.size w W)(hE:∀i,E i→w.heap.size≤i)(h:aD (fun i=>F i∨E i) G W w'):aD F G w w':=by
 have h1:ab F w W:=ab.of_below hb;refine⟨h1.step h.only (fun i hi=>hi.elim .inl fun h=>.inr (hE i h)),fun i hi=>?_⟩;rcases h.new i hi with(h2|h2)|h2
 ·exact .inl h2
 ·exact .inr (hE i h2)
 ·exact .inr (Oo hb.size h2)
def JS(a:Ac):Array Value:=#[.int .u8 (a.sk:Int),.int .i64 a.lo,.int .i64 a.hi,.int .i64 a.d,.bool a.gr,.int .i64 a.ac,.int .i64 a.sz]
variable {m c:Nat} {A:Option Addr} {Q:List (Option Ent)} {M:List (Nat×Nat)}
theorem AB(h:Sui w x m A c Q M)(hH:a.H<4294967296)(hM:M.lookup a.H=none)(QA:M.length<64)(hl:Q.length≤999)(ha:∀o∈Q,o≠none)(o:Value)(S:Ent→Prop)(HC:Hid (∀W,Below w.heap.size w W→Cl 65 #[.agg (JS a)] W (eH S W))):
  Cl 36 #[.pointer (some ⟨x,0,none⟩),o,.agg (acC a)] w fun e w'=>e=.returned (.agg (ap 0))∧rp S x m A Q M a.H w w':=by
 have X9:=Oh (fun W (h:Sui W x m A c Q M)=>yr h hH hM QA);have HNM:=Oh (fun W (h:Sui W x m A c Q M) (e:Ent) (he:ar e.I e.F W) (hd:∀i,e.F i→¬SG x m A Q i)=>yp h hH hM oq hl ha e he hd);have HH:=Oh h;clear h hH hM QA hl ha;have HF:Hid (Fr w ((w.alloc (.cells (acC a) 42)).alloc (.cells (rz (.slice none 0 0)) 39)) a (ap 0)):=Oh (Fr.start w a);go_enter func36,ntmps36;go_upto_region 1 with(fail);generalize((w.alloc (.cells (acC a) 42)).alloc (.cells (rz (.slice none 0 0)) 39))=w0 at*;have n1:w0.cell? ⟨w.heap.size,1,none⟩=some (.int .u32 (a.H:Int)):=by rw[HF.out.cell];rfl
 have n3:w0.cell? ⟨w.heap.size,3,none⟩=some (.int .u8 (a.sk:Int)):=by rw[HF.out.cell];rfl
 have n4:w0.cell? ⟨w.heap.size,4,none⟩=some (.int .i64 a.lo):=by rw[HF.out.cell];rfl
 have n5:w0.cell? ⟨w.heap.size,5,none⟩=some (.int .i64 a.hi):=by rw[HF.out.cell];rfl
 have n6:w0.cell? ⟨w.heap.size,6,none⟩=some (.int .i64 a.d):=by rw[HF.out.cell];rfl
 have n7:w0.cell? ⟨w.heap.size,7,none⟩=some (.bool a.gr):=by rw[HF.out.cell];rfl
 have n8:w0.cell? ⟨w.heap.size,8,none⟩=some (.int .i64 a.ac):=by rw[HF.out.cell];rfl
 have n9:w0.cell? ⟨w.heap.size,9,none⟩=some (.int .i64 a.sz):=by rw[HF.out.cell];rfl
 have AC:=Oh (HH.out.below HF.out.below);go_wp2_with fail;refine(X9.out _ AC.out).mono ?_;rintro e w1 ⟨rfl,iF⟩;obtain rfl:=iF.symm;go_wp2_with fail;refine(HC.out _ HF.out.below).mono ?_;rintro e v1 ⟨f,rfl,hf,hh,hn,b1⟩;have Pf:=Oh (HF.out.next b1);have By:=Oh (AC.out.below b1);have Wg:=Oh (And.intro hf hh);have OG:Hid (∀i,f.F i→w.heap.size+1<i):=Oh (fun i hi=>by have h1:=hn i hi;have h2:=HF.out.res.lt;omega);have Z6:Hid (∀i,f.F i→¬SG x m A Q i):=Oh (fun i hi h=>by have h1:=HH.out.lt i h;have h2:=OG.out i hi;omega);have n1b:v1.cell? ⟨w.heap.size,1,none⟩=some (.int .u32 (a.H:Int)):=by rw[Pf.out.cell];rfl
 clear hf hh hn b1 HF HC X9 AC n1 n3 n4 n5 n6 n7 n8 n9;go_wp2_with fail;refine(HNM.out _ By.out f Wg.out.2 Z6.out).mono ?_;rintro e v2 ⟨rfl,A2,c2,hs,ht⟩;have hkb:∀i,(SG x m A Q i∨f.F i)→i<w.heap.size∨w.heap.size+1<i:=fun i hi=>hi.elim (fun h=>.inl (HH.out.lt i h)) (fun h=>.inr (OG.out i h));have T3:=Oh (Pf.out.alive ht.only hkb);have OM:Hid (aD (SG x m A Q) (SG x m A2 (Q++[some f])) w v2):=Oh (mY Pf.out.below (fun i hi=>by have:=OG.out i hi;omega) ht)
 have HG2:Hid (∀i,SG x m A2 (Q++[some f]) i→i≠w.heap.size+1):=Oh (fun i hi e=>by
  rcases ht.new i hi with h|h
  ·have:=hkb i h;omega
  ·have:=Pf.out.res.lt;omega)
 have uN:=Oh hs;clear hs ht hkb n1b By;go_wp2_with fail;refine(mC _ _).mono ?_;rintro e V ⟨rfl,b3⟩;have HR:=Oh (T3.out.2.below b3 T3.out.2.lt);have HSX:=Oh (uN.out.below b3);have TP:=Oh (OM.out.post b3);clear b3;go_wp2_with (first|(refine wpList_store_row rfl 39 _ _ rfl (w.heap.size+1) (ap 0) rfl rfl 39 (ap 0) HR.out aF rfl aP ?_)|fail);go_wp2_with fail;have hk:ab (fun i=>i=w.heap.size+1) V (V.setRow (w.heap.size+1) (ap 0)):=aY _ _ _;refine eW results36 rfl rfl (setRow_heap _ _ _ _ _ _ HR.out) rfl ⟨rfl,f,A2,c2,Wg.out.1,HSX.out.only hk (fun i hi=>HG2.out i hi),⟨TP.out.only.step hk (fun i hi=>.inr oq),TP.out.new⟩⟩
theorem GR(h:Sui w x m A c Q M)(hH:a.H<4294967296)(hM:M.lookup a.H=none)(QA:M.length<64)(hl:Q.length≤999)(ha:∀o∈Q,o≠none)(o:Value)(S:Ent→Prop)(HC:Hid (∀W,Below w.heap.size w W→Cl 16 #[.slice a.bA a.bn a.bc,.int .i64 a.lim] W (eH S W))):
  Cl 43 #[.pointer (some ⟨x,0,none⟩),o,.agg (acC a)] w fun e w'=>e=.returned (.agg (ap 0))∧rp S x m A Q M a.H w w':=by
 have X9:=Oh (fun W (h:Sui W x m A c Q M)=>yr h hH hM QA);have HNM:=Oh (fun W (h:Sui W x m A c Q M) (e:Ent) (he:ar e.I e.F W) (hd:∀i,e.F i→¬SG x m A Q i)=>yp h hH hM oq hl ha e he hd);have HH:=Oh h;clear h hH hM QA hl ha;have HF:Hid (Fr w ((w.alloc (.cells (acC a) 42)).alloc (.cells (rz (.slice none 0 0)) 39)) a (ap 0)):=Oh (Fr.start w a);go_enter func43,ntmps43;go_upto_region 1 with(fail);generalize((w.alloc (.cells (acC a) 42)).alloc (.cells (rz (.slice none 0 0)) 39))=w0 at*;have n1:w0.cell? ⟨w.heap.size,1,none⟩=some (.int .u32 (a.H:Int)):=by rw[HF.out.cell];rfl
 have n14:w0.cell? ⟨w.heap.size,14,none⟩=some (.slice a.bA a.bn a.bc):=by rw[HF.out.cell];rfl
 have n17:w0.cell? ⟨w.heap.size,17,none⟩=some (.int .i64 a.lim):=by rw[HF.out.cell];rfl
 have AC:=Oh (HH.out.below HF.out.below);go_wp2_with fail;refine(X9.out _ AC.out).mono ?_;rintro e w1 ⟨rfl,iF⟩;obtain rfl:=iF.symm;go_wp2_with fail;refine(HC.out _ HF.out.below).mono ?_;rintro e v1 ⟨f,rfl,hf,hh,hn,b1⟩;have Pf:=Oh (HF.out.next b1);have By:=Oh (AC.out.below b1);have Wg:=Oh (And.intro hf hh);have OG:Hid (∀i,f.F i→w.heap.size+1<i):=Oh (fun i hi=>by have h1:=hn i hi;have h2:=HF.out.res.lt;omega);have Z6:Hid (∀i,f.F i→¬SG x m A Q i):=Oh (fun i hi h=>by have h1:=HH.out.lt i h;have h2:=OG.out i hi;omega);have n1b:v1.cell? ⟨w.heap.size,1,none⟩=some (.int .u32 (a.H:Int)):=by rw[Pf.out.cell];rfl
 clear hf hh hn b1 HF HC X9 AC n1 n14 n17;go_wp2_with fail;refine(HNM.out _ By.out f Wg.out.2 Z6.out).mono ?_;rintro e v2 ⟨rfl,A2,c2,hs,ht⟩;have hkb:∀i,(SG x m A Q i∨f.F i)→i<w.heap.size∨w.heap.size+1<i:=fun i hi=>hi.elim (fun h=>.inl (HH.out.lt i h)) (fun h=>.inr (OG.out i h));have T3:=Oh (Pf.out.alive ht.only hkb);have OM:Hid (aD (SG x m A Q) (SG x m A2 (Q++[some f])) w v2):=Oh (mY Pf.out.below (fun i hi=>by have:=OG.out i hi;omega) ht)
 have HG2:Hid (∀i,SG x m A2 (Q++[some f]) i→i≠w.heap.size+1):=Oh (fun i hi e=>by
  rcases ht.new i hi with h|h
  ·have:=hkb i h;omega
  ·have:=Pf.out.res.lt;omega)
 have uN:=Oh hs;clear hs ht hkb n1b By;have HR:=Oh T3.out.2;have HSX:=Oh uN.out;have TP:=Oh OM.out;go_wp2_with (first|(refine wpList_store_row rfl 39 _ _ rfl (w.heap.size+1) (ap 0) rfl rfl 39 (ap 0) HR.out aF rfl aP ?_)|fail);go_wp2_with fail;have hk:ab (fun i=>i=w.heap.size+1) v2 (v2.setRow (w.heap.size+1) (ap 0)):=aY _ _ _;refine eW results43 rfl rfl (setRow_heap _ _ _ _ _ _ HR.out) rfl ⟨rfl,f,A2,c2,Wg.out.1,HSX.out.only hk (fun i hi=>HG2.out i hi),⟨TP.out.only.step hk (fun i hi=>.inr oq),TP.out.new⟩⟩
end
def cE:Array Value:=#[.nilFunc,.func (Fn.func 36) #[] #[],.func (Fn.func 37) #[] #[],.func (Fn.func 38) #[] #[],.func (Fn.func 39) #[] #[],.func (Fn.func 40) #[] #[],.func (Fn.func 41) #[] #[],.func (Fn.func 42) #[] #[],.func (Fn.func 43) #[] #[],.func (Fn.func 44) #[] #[],.func (Fn.func 45) #[] #[],.func (Fn.func 46) #[] #[]]
def dI:Array Value:=#[.bool false,.bool true,.bool false,.bool false,.bool false,.bool false,.bool false,.bool false,.bool true,.bool true,.bool false,.bool false]
def hI:Array Value:=#[.nilFunc,.nilFunc,.nilFunc,.nilFunc,.nilFunc,.nilFunc,.nilFunc,.nilFunc,.nilFunc,.nilFunc,.nilFunc,.nilFunc]
def im:Array Value:=#[.bool false,.bool false,.bool false,.bool false,.bool false,.bool false,.bool false,.bool false,.bool false,.bool false,.bool false,.bool false]
theorem gn:(Tryz.prog.info? 82).map (·.size)=some 12:=by kernel_rfl
theorem jO:(Tryz.prog.info? 83).map (·.size)=some 12:=by kernel_rfl
theorem lL:cE.all (·.oneCell')=true:=by kernel_rfl
theorem nF:dI.all (·.oneCell')=true:=by kernel_rfl
theorem mT{P:Program}{fn:Func}{p q:Tmp}{ty tz:TypeId}(h:fn.results=#[.cell p ty,.cell q tz])(tmps:Array Value)(w:World)(g k:Nat)(t u:TypeId)(cs ds:Array Value)(fr fs:Nat×Nat)(d e:TypeDesc)(hp:tmps.getD p undef=.pointer (some ⟨g,0,none⟩))(hg:w.heap[g]?=some (.cells cs t fr))(hq:tmps.getD q undef=.pointer (some ⟨k,0,none⟩))(hk:w.heap[k]?=some (.cells ds u fs))(hu:P.underlying ty=some d)(hd:(match d with| .struct _| .array _ _=>true|_=>false)=true)(hi:(P.info? ty).map (·.size)=some cs.size)(hv:P.underlying tz=some e)(he:(match e with| .struct _| .array _ _=>true|_=>false)=true)(hj:(P.info? tz).map (·.size)=some ds.size):
  (results fn tmps).run P w=.ok (.tuple #[.agg cs,.agg ds]) w:=by
 have e0:(results fn tmps).run P w=((asAddr (tmps.getD p undef)).run P w).andThen fun a w₁=>((loadVar ty a).run P w₁).andThen fun v w₂=>((asAddr (tmps.getD q undef)).run P w₂).andThen fun b w₃=>((loadVar tz b).run P w₃).andThen fun u w₄=>.ok (.tuple #[v,u]) w₄:=by
  simp only[results,h];simp[Sem.run_bind,Result.andThen]
 rw[e0,hp,hq];simp[asAddr,run_loadVar_row w g t ty cs fr d hg hu hd hi,run_loadVar_row w k u tz ds fs e hk hv he hj,Result.andThen]
theorem ME(w:World):Cl 23 #[] w (Rb (.tuple #[.agg cE,.agg dI]) w):=by
 have h0:=Blk.new w 82 hI;have h1:=Blk.new (w.alloc (.cells hI 82)) 83 im;simp only[World.size_alloc] at h1;have h2:=Blk.new ((w.alloc (.cells hI 82)).alloc (.cells im 83)) 82 hI;simp only[World.size_alloc] at h2;have hb:Below w.heap.size w (((w.alloc (.cells hI 82)).alloc (.cells im 83)).alloc (.cells hI 82)):=((Ba).alloc os' _).alloc sq _;have h0:=(h0.alloc (.cells im 83)).alloc (.cells hI 82);have h1:=h1.alloc (.cells hI 82);have HH:=Oh (And.intro h0 (And.intro h1 (And.intro h2 hb)));clear h0 h1 h2 hb;go_enter func23,ntmps23;go_upto_region 2 with(first|(refine wpList_store_row rfl 82 _ _ rfl (w.heap.size+1+1) cE rfl rfl 82 hI HH.out.2.2.1 gn rfl lL ?_)|fail);have B0:Hid (Blk ((((w.alloc (.cells nz 82)).alloc (.cells bz 83)).alloc (.cells nz 82)).setRow (w.heap.size+1+1) cE) w.heap.size 82 hI):=Oh ((setRow_other _ _ _ _ oq).trans HH.out.1);have B1:Hid (Blk ((((w.alloc (.cells nz 82)).alloc (.cells bz 83)).alloc (.cells nz 82)).setRow (w.heap.size+1+1) cE) (w.heap.size+1) 83 im):=Oh ((setRow_other _ _ _ _ oq).trans HH.out.2.1);have B2:Hid (Blk ((((w.alloc (.cells nz 82)).alloc (.cells bz 83)).alloc (.cells nz 82)).setRow (w.heap.size+1+1) cE) (w.heap.size+1+1) 82 cE):=Oh (setRow_heap _ _ _ _ _ _ HH.out.2.2.1);have HW:Hid (Below w.heap.size w ((((w.alloc (.cells nz 82)).alloc (.cells bz 83)).alloc (.cells nz 82)).setRow (w.heap.size+1+1) cE)):=Oh (below_setRow HH.out.2.2.2 oq _);generalize(((w.alloc (.cells nz 82)).alloc (.cells bz 83)).alloc (.cells nz 82)).setRow (w.heap.size+1+1) cE=W3 at*;clear HH;have B1b:Hid (Blk (W3.setRow w.heap.size cE) (w.heap.size+1) 83 im):=Oh ((setRow_other _ _ _ _ oq).trans B1.out)
 go_wp2_with (first
  |(refine wpList_load_row rfl 82 _ rfl (w.heap.size+1+1) rfl 82 cE (0,0) _ B2.out underlying82 (by rfl) gn ?_)
  |(refine wpList_store_row rfl 82 _ _ rfl w.heap.size cE rfl rfl 82 hI B0.out gn rfl lL ?_)
  |(refine wpList_store_row rfl 83 _ _ rfl (w.heap.size+1) dI rfl rfl 83 im B1b.out jO rfl nF ?_)
  |fail)
 go_wp2_with fail;have E0:Blk ((W3.setRow w.heap.size cE).setRow (w.heap.size+1) dI) w.heap.size 82 cE:=(setRow_other _ _ _ _ oq).trans (setRow_heap _ _ _ _ _ _ B0.out);have E1:Blk ((W3.setRow w.heap.size cE).setRow (w.heap.size+1) dI) (w.heap.size+1) 83 dI:=setRow_heap _ _ _ _ _ _ B1b.out;exact bodyPost_ret (v:=.tuple #[.agg cE,.agg dI]) (mT results23 _ _ w.heap.size (w.heap.size+1) _ _ _ _ (0,0) (0,0) _ _ rfl E0 rfl E1 underlying82 (by rfl) gn underlying83 (by rfl) jO) rfl ⟨rfl,below_setRow (below_setRow HW.out (Oi _) _) oq _⟩
end Go.Proofs.YtmbippkpjdoojaaGreat
