/- Parts of a proof, merged. -/
import Derived.Test.YtmbippkpjdoojaaGreatF11
import Derived.Maps.RangeWalk
import Derived.Sort.OwnSorted
import Derived.Test.YtmbippkpjdoojaaGreatLay0
set_option maxRecDepth 100000
set_option maxHeartbeats 1600000
namespace Go.Proofs.YtmbippkpjdoojaaGreat
open Tryz
open Go.RowKit
section
open Go.Maps
open Pl
open Hdr (Mp)
theorem xF:Keyed prog 3:=int_keyed underlying3
theorem JQ(W:World):(zeroValue 35).run prog W=.ok (.int .u64 0) W:=by kernel_rfl
theorem JK{k:Int}(h0: -9223372036854775808≤k)(h1:k≤9223372036854775807):keyOf prog 3 (.int .i64 k)=some (.int .i64 k):=keyOf_int_mk underlying3 (WalkArith.wf_i64 ⟨h0,h1⟩)
def Cnt(w:World)(bm:Nat)(L:List Pr):Prop:=w.ownsMap (H:=Unit) prog 3 (plainElem prog 35) bm L.length (cL L)
structure fl(L:List Pr):Prop where
 srt:Srt L
 pos:Pos L
 keys:∀p∈L,0≤p.1∧p.1≤16777216
 tot:tot L≤4611686018427387904
 len:L.length≤1000000
theorem MW{w:World}{bm n:Nat}{L:List Pr}(h:w.ownsMap (H:=Unit) prog 3 (plainElem prog 35) bm n (cL L)):Cnt w bm L:=by
 obtain⟨es,clock,hb,F,hs,hD⟩:=h;refine⟨es,clock,hb,F,?_,hD⟩;unfold cL at hD;injection hD with hD
 have e:=congrArg List.length hD;rw[length_sorted] at e;simp at e;omega
section
variable {w w':World} {bm:Nat} {L:List Pr} {K:Nat→Prop}
theorem Cnt.ne(h:Cnt w bm L){g:Nat}{t:TypeId}{cs:Array Value}(hb:Blk w g t cs):g≠bm:=fun e=>by
 obtain⟨es,clock,h,_⟩:=h;subst e;rw[hb] at h;cases h
theorem Cnt.lt(h:Cnt w bm L):bm<w.heap.size:=World.ownsMap.lt h
theorem Cnt.only(h:Cnt w bm L)(k:ab K w w')(hd:¬K bm):Cnt w' bm L:=by
 have hlt:=h.lt;obtain⟨es,clock,hb,F,hs,hD⟩:=h;exact⟨es,clock,(k.block bm hlt hd).trans hb,F,hs,hD⟩
theorem Cnt.below(h:Cnt w bm L)(hb:Below w.heap.size w w'):Cnt w' bm L:=h.only (ab.of_below (K:=fun _=>False) hb) id
theorem Cnt.drewN(h:Cnt w bm L)(n:Nat):Cnt (w.drewN n) bm L:=h
theorem Cnt.set(h:Cnt w bm L){g:Nat}{t:TypeId}{cs:Array Value}(hb:Blk w g t cs)(j:Nat)(u:Value):Cnt (w.setCell ⟨g,j,none⟩ u) bm L:=
 h.only (K:=fun i=>i=g) ((ab.refl (fun i=>i=g) w).set (p:=⟨g,j,none⟩) (.inl rfl) u) (fun e=>h.ne hb e.symm)
theorem Cnt.stored{n:Nat}{k:Int}(hs:Srt L)(h:w.ownsMap (H:=Unit) prog 3 (plainElem prog 35) bm (L.length+1) ((cL L).put (.int .i64 k) (.lit (.int .u64 ((cnt L k+n:Nat):Int))))):Cnt w bm (put L k n):=by
 have hc:=h.canon xF;rw[I2 hs hc] at h;exact MW h
end
theorem sU(w:World)(a b:Nat):(w.drewN a).drewN b=w.drewN (a+b):=by
 show({w with drawn:=w.drawn+a+b}:World)= {w with drawn:=w.drawn+(a+b)};rw[Nat.add_assoc]
theorem nD{L:List Pr}{k:Int}:cnt L k≤tot L:=by
 by_cases h:cnt L k=0
 ·omega
 ·exact aW (zt h)
structure Hst(w:World)(p gm bm:Nat)(lo hi d:Int)(u m:Nat)(g:Bool)(b:Nat)(L:List Pr):Prop where
 blk:Blk w p 263 #[.pointer (some ⟨gm,0,none⟩),.bool g,.int .i64 (b:Int),.map (some bm),.int .u64 (tot L:Nat)]
 mp:Mp w gm lo hi d u m
 own:Cnt w bm L
def HK(p bm:Nat)(i:Nat):Prop:=i=p∨i=bm
section
variable {w w':World} {p gm bm b:Nat} {lo hi d:Int} {u m:Nat} {g:Bool} {L:List Pr} {K:Nat→Prop}
theorem Hst.only(h:Hst w p gm bm lo hi d u m g b L)(k:ab K w w')(h0:¬K p)(h1:¬K gm)(h2:¬K bm):Hst w' p gm bm lo hi d u m g b L:=⟨h.blk.only k h0,Blk.only h.mp k h1,h.own.only k h2⟩
theorem Hst.below(h:Hst w p gm bm lo hi d u m g b L)(hb:Below w.heap.size w w'):Hst w' p gm bm lo hi d u m g b L:=h.only (ab.of_below (K:=fun _=>False) hb) id id id
theorem Hst.drewN(h:Hst w p gm bm lo hi d u m g b L)(n:Nat):Hst (w.drewN n) p gm bm lo hi d u m g b L:=⟨h.blk,h.mp,h.own⟩
theorem Hst.c0(h:Hst w p gm bm lo hi d u m g b L):w.cell? ⟨p,0,none⟩=some (.pointer (some ⟨gm,0,none⟩)):=h.blk.ce
theorem Hst.c1(h:Hst w p gm bm lo hi d u m g b L):w.cell? ⟨p,1,none⟩=some (.bool g):=h.blk.ce
theorem Hst.c2(h:Hst w p gm bm lo hi d u m g b L):w.cell? ⟨p,2,none⟩=some (.int .i64 (b:Int)):=h.blk.ce
theorem Hst.c3(h:Hst w p gm bm lo hi d u m g b L):w.cell? ⟨p,3,none⟩=some (.map (some bm)):=h.blk.ce
theorem Hst.c4(h:Hst w p gm bm lo hi d u m g b L):w.cell? ⟨p,4,none⟩=some (.int .u64 (tot L:Nat)):=h.blk.ce
theorem Eg(h:Hst w p gm bm lo hi d u m g b L)(hf:fl L)(gE:1≤m)(hm:m≤18)(lE:u+m≤62)(v n:Nat)(hv:v<2^63)(ht:tot L+n≤4611686018427387904):
  Cl 195 #[.pointer (some ⟨p,0,none⟩),.int .i64 (v:Int),.int .u64 (n:Int)] w fun e w'=>e=.returned (.tuple #[])∧Hst w' p gm bm lo hi d u m g (max b (1+Hdr.Hd.bk u m v)) (put L (Hdr.Hd.idx u m v) n)∧ab (HK p bm) w w':=by
 obtain⟨hb,Pq,ho⟩:=h;have HI:=Oh (fun W (h:Mp W gm lo hi d u m)=>Hdr.rL gm lo hi d u m v W h gE hm lE hv);have Pw:=Oh (fun W (h:Mp W gm lo hi d u m)=>Hdr.gj gm lo hi d u m v (v:Int) W h lE hv oq);have EQ:=Hdr.Hd.pz (u:=u) (m:=m) hv;have Wh:=Hdr.Hd.y9 (u:=u) (m:=m) hv gE hm;generalize Hdr.Hd.bk u m v=B at*;generalize Hdr.Hd.idx u m v=X at*;have iD:=JK (k:=(X:Int)) oq oq;have hcl:=nD (L:=L) (k:=(X:Int));have t1:IntKind.u64.wrap ((cnt L (X:Int):Nat)+(n:Int))=((cnt L (X:Int)+n:Nat):Int):=u6;have t2:IntKind.u64.wrap ((tot L:Nat)+(n:Int))=((tot L+n:Nat):Int):=u6;have t3:max (b:Int) (1+(B:Int))=((max b (1+B):Nat):Int):=oq;have c0:=hb.c0;have HB:=Oh hb;have HM:=Oh Pq;have HO:=Oh ho;have HS:=Oh hf.srt;have Lt:=hf.len;have hwf:plainElem (H:=Unit) prog 35 (.int .u64 ((cnt L (X:Int)+n:Nat):Int))=some (.lit (.int .u64 ((cnt L (X:Int)+n:Nat):Int)),[]):=plainElem_int underlying35 (WalkArith.wf_u64 oq);have HWF:=Oh hwf;have OB:Hid (L.length<maxLen):=Oh (by unfold maxLen;omega);clear hb Pq ho hf gE hm lE hv ht hcl Lt hwf;go_enter func195,ntmps195;go_wp2_with fail;refine(HI.out w HM.out).mono ?_;rintro e w1 ⟨rfl,n1,iF⟩;have aS:Hid (Blk w1 p 263 #[.pointer (some ⟨gm,0,none⟩),.bool g,.int .i64 (b:Int),.map (some bm),.int .u64 (tot L:Nat)]):=Oh (by rw[iF];exact HB.out);have Uo:Hid (Mp w1 gm lo hi d u m):=Oh (by rw[iF];exact HM.out);have IF:Hid (Cnt w1 bm L):=Oh (by rw[iF];exact HO.out);have OG:Hid (ab (HK p bm) w w1):=Oh (by rw[iF];exact(ab.refl _ _).drewN _);have c3:=aS.out.c3;clear c0 iF HB HM HO
 go_wp2_with (first
  |(at_lookup;refine wpList_lookup_own_int _ rfl _ _ 261 rfl 3 35 .u64 xF underlying261 underlying35 (JQ _) bm L.length (cL L) rfl IF.out _ (.int .i64 (X:Int)) rfl iD ?_;intro c hat ZK;obtain rfl:c=((cnt L (X:Int):Nat):Int):=(by rw[yO] at hat;injection hat with hat;injection hat with _ hat;exact hat.symm);clear hat ZK)
  |(at_mapUpdate;refine Hid.out ?_))
 refine wpList_mapUpdate_own _ rfl _ _ _ 261 rfl 3 35 xF underlying261 _ bm L.length (cL L) rfl IF.out OB.out _ _ (.int .i64 (X:Int)) rfl rfl iD (.lit (.int .u64 ((cnt L (X:Int)+n:Nat):Int))) [] HWF.out ?_;intro w2 VD Tf;have hne:=IF.out.ne aS.out;have Uv:=IF.out.ne Uo.out;have nO:=Oh (Cnt.stored HS.out VD);have bY:=Oh (aS.out.grown Tf (fun e=>hne (by injection e)));have PW:Hid (Mp w2 gm lo hi d u m):=Oh (Blk.grown Uo.out Tf (fun e=>Uv (by injection e)));have Tz:Hid (ab (HK p bm) w w2):=Oh (OG.out.trans ((ab.of_grown Tf).mono (fun i e=>.inr (by injection e with e;exact e.symm))));have c4:=bY.out.c4;have f4:=bY.out.free 4;have hpm:p≠gm:=Blk.ne bY.out PW.out od;clear VD Tf hne Uv aS Uo IF OG c3;go_wp2_with fail;obtain⟨TV,hTV⟩:=nm (((tot L:Nat):Int)+(n:Int):Int);rw[←hTV];have dO:=bY.out.put 4 (.int .u64 TV);have Rr:=nO.out.set bY.out 4 (.int .u64 TV);have Wz:Mp (w2.setCell ⟨p,4,none⟩ (.int .u64 TV)) gm lo hi d u m:=Blk.far PW.out (p:=⟨p,4,none⟩) (fun e=>hpm e.symm) _;have hn3:=Tz.out.set (p:=⟨p,4,none⟩) (.inl (.inl rfl)) (.int .u64 TV);clear bY PW nO Tz c4 f4;generalize w2.setCell ⟨p,4,none⟩ (.int .u64 TV)=w3 at*;have fR:=Oh dO;have UG:=Oh Wz;have sO:=Oh Rr;have SW:=Oh hn3;have k0:=fR.out.c0;have k2:=fR.out.c2;have kf:=fR.out.free 2;clear dO Wz Rr hn3;refine wp_region_noPanic ?_;refine aR (S:=(fun W=>W.cell? ⟨p,0,none⟩=some (.pointer (some ⟨gm,0,none⟩))∧W.cell? ⟨p,2,none⟩=some (.int .i64 (b:Int))∧W.frozen? ⟨p,2,none⟩=false∧Mp W gm lo hi d u m∧∃k,W=w3.drewN k)) (L:=14) ok' ⟨k0,k2,kf,UG.out,1,rfl⟩ (fun hHeld=>?_);refine tT 0 ?_;refine tT 1 ?_;refine tT 2 ?_;refine tT 3 ?_;refine tT 4 ?_;refine tT 5 ?_;refine tT 6 ?_;refine tT 7 ?_;refine tT 8 ?_;refine tT 9 ?_;refine dP 10 fun K hK=>?_;go_simp;refine(Pw.out _ (by first|exact hHeld.2.2.2.1|assumption)).mono ?_;rintro e w4 ⟨rfl,n4,Po⟩;have HW4:=Oh Po;clear Po;refine hK.out _ _ ?_ (fun hHeld=>?_)
 ·intro _;obtain⟨h0,h2,h3,h4,k,h5⟩:=hHeld;rw[HW4.out];exact⟨h0,h2,h3,h4,k+n4,by rw[h5];exact(sU _ _ _)⟩
 clear hK K;replace hHeld:=hHeld od
 try go_simp
 refine tT 11 ?_;refine tT 12 ?_;refine tT 13 ?_;refine dP 14 fun K hK=>?_;go_simp;refine hK.out _ _ ?_ (fun hHeld=>?_)
 ·exact fun h=>absurd rfl h
 clear hK K
 try go_simp
 refine me ?_;go_wp2_with fail;go_end0;have Po:=HW4.out;have QT:Blk w4 p 263 #[.pointer (some ⟨gm,0,none⟩),.bool g,.int .i64 (b:Int),.map (some bm),.int .u64 TV]:=by rw[Po];exact fR.out
 have hm4:Mp w4 gm lo hi d u m:=by rw[Po];exact UG.out
 have YZ:Cnt w4 bm (put L (X:Int) n):=by rw[Po];exact sO.out
 have hn4:ab (HK p bm) w w4:=by rw[Po];exact(SW.out.drew).drewN _
 have aaC:TV=((tot (put L (X:Int) n):Nat):Int):=by rw[hTV,eI];rfl
 refine⟨rfl,⟨?_,Blk.far hm4 (p:=⟨p,2,none⟩) (fun e=>hpm e.symm) _,YZ.set QT 2 _⟩,hn4.set (p:=⟨p,2,none⟩) (.inl (.inl rfl)) _⟩;rw[←aaC];exact QT.put 2 _
end
def mq(u m b:Nat):Nat:=if 63≤b-1+u+m then 9223372036854775807 else 2^(b-1+u+m)-1
theorem FM(g:Nat)(lo hi d:Int)(u m b:Nat)(w:World)(h:Mp w g lo hi d u m)(lE:u+m≤62)(h1:1≤b)(h2:b≤64):
  Cl 258 #[.pointer (some ⟨g,0,none⟩),.int .i64 (b:Int)] w (Rq (.int .i64 (mq u m b:Nat)) w):=by
 unfold mq
 by_cases hb:63≤b-1+u+m
 ·rw[if_pos hb];exact Hdr.Gq g lo hi d u m (b-1) b w h lE oq oq hb
 ·rw[if_neg hb];exact Hdr.zY g lo hi d u m (b-1) b w h lE oq oq oq
def pw(n0 neg over g cap:Bool):Nat:=if n0 then 4 else if neg||(over&&!g) then 5 else if cap then 6 else 0
section
variable {w w':World} {p gm bm b:Nat} {lo hi d:Int} {u m:Nat} {g:Bool} {L:List Pr}
theorem gF(h:Hst w p gm bm lo hi d u m g b L):
  Cl 95 #[.pointer (some ⟨p,0,none⟩)] w (Rb (.agg #[.int .i64 lo,.int .i64 hi,.int .i64 d]) w):=by
 have hp:=h.blk.lt;have c0:=h.c0;have HS:=Oh (fun o=>Hdr.rv gm lo hi d u m (w.alloc o) (Blk.alloc h.mp o));clear h;go_enter func95,ntmps95;go_wp2_with fail;refine(HS.out _).mono ?_;rintro e w1 ⟨rfl,b1⟩;have eQ:=(Blk.new w 27 #[.int .i64 0,.int .i64 0,.int .i64 0]).below b1 os';have d0:=eQ.c0;have d1:=eQ.c1;have d2:=eQ.c2;have fr:=eQ.free;have aS:=Oh eQ;have B1:=Oh b1;clear eQ b1;go_wp2_with fail
 have dO:Blk (((w1.setCell ⟨w.heap.size,0,none⟩ (.int .i64 lo)).setCell ⟨w.heap.size,1,none⟩ (.int .i64 hi)).setCell ⟨w.heap.size,2,none⟩ (.int .i64 d)) w.heap.size 27 #[.int .i64 lo,.int .i64 hi,.int .i64 d]:=by
  have h:=((aS.out.put 0 (.int .i64 lo)).put 1 (.int .i64 hi)).put 2 (.int .i64 d);simpa using h
 have aC:Below w.heap.size w w1:=(Ba).trans (B1.out.mono os');exact bodyPost_ret (v:=.agg #[.int .i64 lo,.int .i64 hi,.int .i64 d]) (results_cell_row results95 _ _ w.heap.size 27 _ (0,0) _ rfl dO underlying27 (by rfl) ok') rfl ⟨rfl,((aC.setCell (Oi _) _).setCell (Oi _) _).setCell (Oi _) _⟩
theorem oy(h:Hst w p gm bm lo hi d u m g b L):
  Cl 96 #[.pointer (some ⟨p,0,none⟩)] w (Rt (.bool g) w):=by
 have c1:=h.c1;clear h;go_enter func96,ntmps96;go_wp2_with fail;go_ret;exact⟨rfl,rfl⟩
theorem xp(h:Hst w p gm bm lo hi d u m g b L):
  Cl 163 #[.pointer (some ⟨p,0,none⟩)] w (Rt (.int .i64 (b:Int)) w):=by
 have c2:=h.c2;clear h;go_enter func163,ntmps163;go_wp2_with fail;go_ret;exact⟨rfl,rfl⟩
theorem E8(h:Hst w p gm bm lo hi d u m g b L):
  Cl 149 #[.pointer (some ⟨p,0,none⟩)] w (Rt (.int .u64 (tot L:Nat)) w):=by
 have c4:=h.c4;clear h;go_enter func149,ntmps149;go_wp2_with fail;go_ret;exact⟨rfl,rfl⟩
theorem vR(c0:w.cell? ⟨p,0,none⟩=some (.pointer (some ⟨gm,0,none⟩)))(hp:p<w.heap.size)(Pq:Mp w gm lo hi d u m)(lE:u+m≤62)(hh0:0≤hi)(Xf:hi≤9223372036854775807):
  Cl 235 #[.pointer (some ⟨p,0,none⟩)] w (Rb (.int .i64 ((1+Hdr.Hd.bk u m hi.toNat:Nat):Int)) w):=by
 have HM:=Oh Pq;have HS:=Oh (fun W (hm:Mp W gm lo hi d u m)=>Hdr.rv gm lo hi d u m W hm);have Pw:=Oh (fun W (hm:Mp W gm lo hi d u m)=>Hdr.gj gm lo hi d u m hi.toNat hi W hm lE oq oq);have e0:1+(Hdr.Hd.bk u m hi.toNat:Int)=((1+Hdr.Hd.bk u m hi.toNat:Nat):Int):=oq;rw[e0] at Pw;have aaD:∀W:World,(Instr.field 27 (.agg #[.int .i64 lo,.int .i64 hi,.int .i64 d]) 1).run prog W=.ok (.int .i64 hi) W:=fun W=>by first|rfl|kernel_rfl
 generalize 1+Hdr.Hd.bk u m hi.toNat=F at*;clear Pq lE hh0 Xf e0;go_enter func235,ntmps235;go_wp2_with fail;refine wp_region_noPanic ?_;refine wp_region_held_drew (S:=(fun W=>W.cell? ⟨p,0,none⟩=some (.pointer (some ⟨gm,0,none⟩))∧Mp W gm lo hi d u m∧Below w.heap.size w W)) ok' ⟨c0,HM.out,(Oq _ _).drew⟩ (fun hHeld=>?_);refine tH 0 ?_;refine tH 1 ?_;refine tH 2 ?_;refine tH 3 ?_;refine tH 4 ?_;refine tH 5 ?_;refine tH 6 ?_;refine tH 7 ?_;refine dQ 8 fun K hK=>?_;go_simp;refine(HS.out _ (by first|exact hHeld.2.1|assumption)).mono ?_;rintro e w2 ⟨rfl,b2⟩;have B2:=Oh b2;clear b2;refine hK.out _ _ ?_ (fun hHeld=>?_)
 ·exact⟨(B2.out.cell (p:=⟨p,0,none⟩) (Nat.lt_of_lt_of_le hp hHeld.2.2.size)).trans hHeld.1,Blk.below hHeld.2.1 B2.out (Blk.lt hHeld.2.1),ai hHeld.2.2 B2.out⟩
 clear hK K
 try go_simp
 refine tH 9 ?_;refine dQ 10 fun K hK=>?_;go_simp;refine(Pw.out _ (by first|exact hHeld.2.1|assumption)).mono ?_;rintro e w3 ⟨rfl,n3,OU⟩;have Wy:=Oh OU;clear OU;refine hK.out _ _ ?_ (fun hHeld=>?_)
 ·rw[Wy.out];exact⟨hHeld.1,hHeld.2.1,ae hHeld.2.2 _⟩
 clear hK K
 try go_simp
 refine tH 11 ?_;refine jR ?_;go_wp2_with fail;go_ret;exact⟨rfl,hHeld.2.2⟩
theorem Ed(h:Hst w p gm bm lo hi d u m g b L)(lE:u+m≤62)(hh0:0≤hi)(Xf:hi≤9223372036854775807):
  Cl 235 #[.pointer (some ⟨p,0,none⟩)] w (Rb (.int .i64 ((1+Hdr.Hd.bk u m hi.toNat:Nat):Int)) w):=vR h.c0 h.blk.lt h.mp lE hh0 Xf
def dU(hi:Int)(u m b:Nat):Int:=if b=1+Hdr.Hd.bk u m hi.toNat then hi else(mq u m b:Nat)
theorem Ea(h:Hst w p gm bm lo hi d u m g b L)(lE:u+m≤62)(hh0:0≤hi)(Xf:hi≤9223372036854775807)(h1:1≤b)(h2:b≤64):
  Cl 176 #[.pointer (some ⟨p,0,none⟩)] w (Rb (.int .i64 (dU hi u m b)) w):=by
 have hp:=h.blk.lt;have c2:=h.c2;have HH:=Oh h;have HF:=Oh (fun W (h:Hst W p gm bm lo hi d u m g b L)=>Ed h lE hh0 Xf);have HS:=Oh (fun W (hm:Mp W gm lo hi d u m)=>Hdr.rv gm lo hi d u m W hm);have HT:=Oh (fun W (hm:Mp W gm lo hi d u m)=>FM gm lo hi d u m b W hm lE h1 h2);unfold dU;generalize 1+Hdr.Hd.bk u m hi.toNat=F at*;have aaD:∀W:World,(Instr.field 27 (.agg #[.int .i64 lo,.int .i64 hi,.int .i64 d]) 1).run prog W=.ok (.int .i64 hi) W:=fun W=>by first|rfl|kernel_rfl
 generalize mq u m b=T at*;clear h lE hh0 Xf h1 h2
 by_cases hb:b=F
 ·rw[if_pos hb];subst hb;go_enter func176,ntmps176;go_wp2_with fail;refine wp_region_noPanic ?_;refine wp_region_held_drew (S:=(fun W=>W.cell? ⟨p,2,none⟩=some (.int .i64 (b:Int))∧Hst W p gm bm lo hi d u m g b L∧Below w.heap.size w W)) ok' ⟨c2,HH.out.drewN 1,(Oq _ _).drew⟩ (fun hHeld=>?_);refine tH 0 ?_;refine tH 1 ?_;refine tH 2 ?_;refine tH 3 ?_;refine tH 4 ?_;refine dQ 5 fun K hK=>?_;go_simp;refine(HF.out _ (by first|exact hHeld.2.1|assumption)).mono ?_;rintro e w2 ⟨rfl,b2⟩;have B2:=Oh b2;clear b2;refine hK.out _ _ ?_ (fun hHeld=>?_)
  ·exact uJ
  clear hK K
  try go_simp
  refine tH 6 ?_;refine jR ?_;obtain⟨k2,WA,aT⟩:=hHeld;rename_i w9;have k0:=WA.c0;have H2:=Oh WA;have B9:=Oh aT;clear WA aT c2;go_wp2_with fail;refine(HS.out _ H2.out.mp).mono ?_;rintro e w1 ⟨rfl,b1⟩;have B1:=Oh b1;clear b1;go_wp2_with fail;go_ret;exact⟨rfl,ai B9.out B1.out⟩
 ·rw[if_neg hb];have x1:((b:Int)==(F:Int))=false:=sq;have x2:(b==F)=false:=sq;clear hb;go_enter func176,ntmps176;go_wp2_with fail;refine wp_region_noPanic ?_;refine wp_region_held_drew (S:=(fun W=>W.cell? ⟨p,2,none⟩=some (.int .i64 (b:Int))∧Hst W p gm bm lo hi d u m g b L∧Below w.heap.size w W)) ok' ⟨c2,HH.out.drewN 1,(Oq _ _).drew⟩ (fun hHeld=>?_);refine tH 0 ?_;refine tH 1 ?_;refine tH 2 ?_;refine tH 3 ?_;refine tH 4 ?_;refine dQ 5 fun K hK=>?_;go_simp;refine(HF.out _ (by first|exact hHeld.2.1|assumption)).mono ?_;rintro e w2 ⟨rfl,b2⟩;have B2:=Oh b2;clear b2;refine hK.out _ _ ?_ (fun hHeld=>?_)
  ·exact uJ
  clear hK K
  try go_simp
  refine tH 6 ?_;refine jR ?_;obtain⟨k2,WA,aT⟩:=hHeld;rename_i w9;have k0:=WA.c0;have H2:=Oh WA;have B9:=Oh aT;clear WA aT c2;go_wp2_with fail;go_quiet ((go_at_call 258;exact Calls.quiet_of (HT.out _ H2.out.mp)));go_wp2_with fail;go_ret;exact⟨rfl,ae B9.out _⟩
theorem vT(h:Hst w p gm bm lo hi d u m g b L)(lE:u+m≤62)(h1:1≤b)(h2:b≤64)(v:Int)(n:Nat)(ht:tot L≤4611686018427387904):
  Cl 194 #[.pointer (some ⟨p,0,none⟩),.int .i64 v,.int .u64 (n:Int)] w fun e w'=>e=.returned (.int .i64 (pw (n==0) (decide (v<0)) (decide ((mq u m b:Int)<v)) g (decide (4611686018427387904-tot L<n)):Nat))∧∃k,w'=w.drewN k:=by
 have c0:=h.c0;have c1:=h.c1;have c2:=h.c2;have c4:=h.c4;have HT:=Oh (fun n=>FM gm lo hi d u m b (w.drewN n) h.mp lE h1 h2);generalize mq u m b=T at*;have e6:IntKind.u64.wrap (4611686018427387904-(tot L:Int))=((4611686018427387904-tot L:Nat):Int):=u6;generalize 4611686018427387904-tot L=R at*;generalize tot L=tL at*;clear h lE h1 h2 ht;obtain⟨b0,QC⟩:=nm ((n==0));have ahj:((n:Int)==0)=b0:=by rw[QC,Bool.eq_iff_iff,beq_iff_eq,beq_iff_eq];omega
 obtain⟨b1,eQ⟩:=nm (decide (v<0));obtain⟨b2,aT⟩:=nm (decide ((T:Int)<v));obtain⟨b3,dO⟩:=nm (decide (R<n));have ahk:decide ((R:Int)<(n:Int))=b3:=by rw[dO];exact decide_eq_decide.2 oq
 rw[←QC,←eQ,←aT,←dO];replace QC:=QC.symm;replace eQ:=eQ.symm;replace aT:=aT.symm;replace dO:=dO.symm;cases b0
 ·cases b1
  ·cases b2<;>cases g<;>cases b3
   all_goals
    exact vd
  ·cases b3<;>cases g
   all_goals
    exact vd
 ·go_enter func194,ntmps194;go_wp2_with fail;go_ret;exact⟨rfl,0,rfl⟩
theorem xm(h:Hst w p gm bm lo hi d u m g b L)(lE:u+m≤62)(h1:1≤b)(h2:b≤64)(v:Int)(n:Nat)(ht:tot L≤4611686018427387904)(c:Nat)(hc:pw (n==0) (decide (v<0)) (decide ((mq u m b:Int)<v)) g (decide (4611686018427387904-tot L<n))=c)(hc0:c≠0):
  Cl 134 #[.pointer (some ⟨p,0,none⟩),.int .i64 v,.int .u64 (n:Int)] w fun e w'=>e=.returned (.int .i64 (c:Int))∧∃k,w'=w.drewN k:=by
 have HC:=Oh (vT h lE h1 h2 v n ht);rw[hc] at HC;have x1:((c:Int)==0)=false:=sq;have x2:((c:Int) !=0)=true:=sq;have x3:(c==0)=false:=sq;clear h lE h1 h2 ht hc hc0;go_enter func134,ntmps134;go_wp2_with fail;refine HC.out.mono ?_;rintro e w1 ⟨rfl,n1,rfl⟩;go_wp2_with fail;go_ret;exact⟨rfl,n1,rfl⟩
theorem Br(h:Hst w p gm bm lo hi d u m g b L)(hf:fl L)(gE:1≤m)(hm:m≤18)(lE:u+m≤62)(h1:1≤b)(h2:b≤64)(v n:Nat)(hv:v<2^63)(hn:1≤n)(hg:g=true∨v≤mq u m b)(ht:tot L+n≤4611686018427387904):
  Cl 134 #[.pointer (some ⟨p,0,none⟩),.int .i64 (v:Int),.int .u64 (n:Int)] w fun e w'=>e=.returned (.int .i64 0)∧Hst w' p gm bm lo hi d u m g (max b (1+Hdr.Hd.bk u m v)) (put L (Hdr.Hd.idx u m v) n)∧ab (HK p bm) w w':=by
 have HC:=Oh (vT h lE h1 h2 (v:Int) n oq);have HCT:=Oh (fun k=>Eg (h.drewN k) hf gE hm lE v n hv ht)
 have hc:pw (n==0) (decide ((v:Int)<0)) (decide ((mq u m b:Int)<(v:Int))) g (decide (4611686018427387904-tot L<n))=0:=by
  unfold pw
  rw[if_neg sq,if_neg (by
   rcases hg with hg|hg
   ·simp[hg]
   ·simp;omega),if_neg sq]
 rw[hc] at HC;clear h hf gE hm lE h1 h2 hv hn hg ht hc;go_enter func134,ntmps134;go_wp2_with fail;refine HC.out.mono ?_;rintro e w1 ⟨rfl,n1,rfl⟩;go_wp2_with fail;refine(HCT.out n1).mono ?_;rintro e w2 ⟨rfl,h2,k2⟩;have H2:=Oh h2;have K2:=Oh k2;clear h2 k2;go_wp2_with fail;go_ret;exact⟨rfl,H2.out,((ab.refl _ w).drewN n1).trans K2.out⟩
end
end
section
open Go.Sort Go.Proofs Pl
abbrev mg:Type:= {p:Pr//0≤p.1∧p.1≤16777216}
instance:Inhabited mg:=⟨⟨(0,0),od,od⟩⟩
def mw(x:mg):List Value:=[.int .i64 x.1.1,.int .u64 (x.1.2:Int)]
def cfC(x y:mg):Int:=x.1.1-y.1.1
theorem ltC(x y:mg):ltOf cfC x y=decide (x.1.1<y.1.1):=by
 unfold ltOf cfC
 by_cases h:x.1.1<y.1.1
 ·rw[decide_eq_true h,decide_eq_true oq]
 ·rw[decide_eq_false h,decide_eq_false oq]
theorem NP:SWO (ltOf cfC) where
 irrefl x:=by rw[ltC];simp
 trans x y z h1 h2:=by rw[ltC] at*;simp at*;omega
 ntrans x y z h1 h2:=by rw[ltC] at*;simp at*;omega
theorem vX(d:Array mg)(t:Nat)(h:t<d.size*2):(flatK mw 2 d)[t]?=(pcs (d.toList.map (·.1)))[t]?:=by
 have hq:t/2<d.size:=oq
 have hL:(d.toList.map (·.1))[t/2]?=some d[t/2]!.1:=by
  rw[List.getElem?_map,Array.getElem?_toList,getElem!_pos d _ hq,Array.getElem?_eq_getElem hq];rfl
 obtain⟨k1,k2⟩:=kT hL;have e:(flatK mw 2 d)[t]?=some (mw d[t/2]!)[t%2]!:=by simp[flatK,h]
 rw[e];rcases Nat.mod_two_eq_zero_or_one t with h0|h0
 ·rw[show t/2*2=t by omega] at k1;rw[k1,h0];rfl
 ·rw[show t/2*2+1=t by omega] at k2;rw[k2,h0];rfl
theorem Em(d:Array mg):(flatK mw 2 d).toList=pcs (d.toList.map (·.1)):=by
 apply List.ext_getElem?
 intro t
 by_cases h:t<d.size*2
 ·rw[Array.getElem?_toList,vX d t h]
 ·rw[List.getElem?_eq_none (by rw[Array.length_toList,size_flatK];omega),List.getElem?_eq_none (by rw[aQ,List.length_map,Array.length_toList];omega)]
theorem xo{w:World}{g n:Nat}{os:Array Obj}{cur:Array Value}{e:TypeId}{fr:Nat×Nat}(d:Array mg)(hb:w.heap[g]?=some (.cells cur e fr)):
  (sortWorldK mw 2 w g 0 n d os).heap[g]?=some (.cells (putCells id 0 (flatK mw 2 d) cur) e fr):=by
 have hg:g<w.heap.size:=(Array.getElem?_eq_some_iff.1 hb).1;unfold sortWorldK;rw[heap_grow_old _ _ (by simpa [putRowK,putRow,mapBlock] using hg)];simp[putRowK,putRow,mapBlock,Sort.ahead,Array.getElem?_modify,hb,onCells]
theorem xc{w:World}{g n:Nat}{os:Array Obj}(d:Array mg):ab (fun i=>i=g) w (sortWorldK mw 2 w g 0 n d os):=by
 unfold sortWorldK;refine⟨rfl,rfl,rfl,by simp[putRowK,putRow,mapBlock],fun k hk hne=>?_⟩;rw[heap_grow_old _ _ (by simpa [putRowK,putRow,mapBlock] using hk)];have:g≠k:=fun e=>hne e.symm;simp[putRowK,putRow,mapBlock,Sort.ahead,Array.getElem?_modify,this]
theorem Bc{w:World}{base g cap n:Nat}{os:Array Obj}{L M:List Pr}(d:Array mg)(hd:d.toList.map (·.1)=M)(hl:M.length=L.length)(h:bI w base (some ⟨g,0,none⟩) cap L):
  bI (sortWorldK mw 2 w g 0 n d os) base (some ⟨g,0,none⟩) cap M:=by
 have Is:d.size=M.length:=by rw[←hd,List.length_map,Array.length_toList]
 rcases h.2 with⟨hv,_⟩|⟨g',aaE,cur,hv,oF,hb,h1,h2,h3,h4⟩
 ·injection hv with hA _ _
  cases hA
 ·injection hv with hA _ hc
  injection hA with hA
  injection hA with hA _ _
  subst hA hc;refine⟨aQ M,.inr ⟨g,cap,_,rfl,oF,xo d hb,by rw[hl];exact h1,h2,by simp[putCells,h3],?_⟩⟩;rw[←hd,←Em,List.length_map,Array.length_toList]
  apply List.ext_getElem?
  intro j
  by_cases hj:j<d.size*2
  ·rw[List.getElem?_take_of_lt hj,Array.getElem?_toList,Array.getElem?_toList];have hjc:j<cur.size:=oq;have hjf:j<(flatK mw 2 d).size:=by rw[size_flatK];exact hj
   simp[putCells,hjc,hj]
  ·rw[List.getElem?_take_eq_none oq,List.getElem?_eq_none (by rw[Array.length_toList,size_flatK];omega)]
theorem sN{w:World}{base g cap:Nat}{L:List Pr}(d:Array mg)(hd:d.toList.map (·.1)=L)(h:bI w base (some ⟨g,0,none⟩) cap L):HoldsK mw 2 w g 0 d:=by
 rcases h.2 with⟨hv,_⟩|⟨g',aaE,cur,hv,oF,hb,h1,h2,h3,h4⟩
 ·injection hv with hA _ _
  cases hA
 ·injection hv with hA _ hc
  injection hA with hA
  injection hA with hA _ _
  subst hA hc;intro j hj;rw[size_flatK] at hj;have Is:d.size=L.length:=by rw[←hd,List.length_map,Array.length_toList]
  have hjf:j<(flatK mw 2 d).size:=by rw[size_flatK];exact hj
  refine⟨?_,by simp[World.frozen?,hb]⟩;have e1:(cur.toList.take (L.length*2))[j]?=(pcs L)[j]?:=by rw[h4]
  rw[List.getElem?_take_of_lt oq,Array.getElem?_toList,←hd,←vX d j hj] at e1;rw[cell_of_row w g _ cur _ (0,0) hb,Nat.zero_add,e1,Array.getElem?_eq_getElem hjf,getElem!_pos _ j hjf];rfl
def rT(L:List Pr)(h:∀p∈L,0≤p.1∧p.1≤16777216):Array mg:=(L.attach.map fun p=>(⟨p.1,h p.1 p.2⟩:mg)).toArray
theorem ra(L:List Pr)(h:∀p∈L,0≤p.1∧p.1≤16777216):(rT L h).toList.map (·.1)=L:=by
 unfold rT;rw[List.map_map];exact List.attach_map_subtype_val L
theorem CQ{L M:List Pr}{d d':Array mg}(hs:Srt L)(hM:M.Perm L)(hd:d.toList.map (·.1)=M)(hp:PermIn 0 d.size d d')(ho:SortedIn (ltOf cfC) 0 d.size d'):d'.toList.map (·.1)=L:=by
 have Is:=hp.1
 have QE:d'.toList.Perm d.toList:=by
  have h:=hp.2.2;have e1:d'.extract 0 d.size=d':=by rw[←Is,Array.extract_size]
  have e2:d.extract 0 d.size=d:=Array.extract_size;rw[e1,e2] at h;exact h
 refine Aj hs (((QE.map _).trans (by rw[hd])).trans hM) ?_;rw[List.pairwise_map,List.pairwise_iff_getElem];intro i j hi hj Vn;have hi':i<d'.size:=by rwa [Array.length_toList] at hi
 have hj':j<d'.size:=by rwa [Array.length_toList] at hj
 have h:=ho i j (Nat.zero_le _) Vn oq;rw[ltC,getElem!_pos d' j hj',getElem!_pos d' i hi'] at h;simpa using h
end
section
open Go.Sort Go.Proofs Go.Shelf Go.Lib Pl
theorem Am(A:Option Addr)(c:Nat)(w:World):
  Cl 237 #[.slice A 0 c,.func (.func 238) #[] #[]] w (Rs (.tuple #[]) w):=
 AnyF.slices_SortFunc_none Tryz.sortPr A c _ w
theorem Mu(x y:mg)(W:World):Cl 238 #[.agg #[.int .i64 x.1.1,.int .u64 (x.1.2:Int)],.agg #[.int .i64 y.1.1,.int .u64 (y.1.2:Int)]] W fun e w'=>e=.returned (.int .i64 (cfC x y))∧∃q os',w'=grow (W.drewN q) os':=by
 obtain⟨⟨xk,xn⟩,x0,x1⟩:=x;obtain⟨⟨yk,yn⟩,y0,y1⟩:=y;dsimp only at*;have e1:IntKind.i64.wrap (xk-yk)=xk-yk:=i6;show Cl _ _ W fun e w'=>e=.returned (.int .i64 (xk-yk))∧∃q os',w'=grow (W.drewN q) os';go_enter func238,ntmps238;go_wp2_with fail;go_ret;exact⟨rfl,0,_,by rw[alloc_eq_grow,alloc_eq_grow,grow_grow];rfl⟩
theorem LR(w:World):(isAgg 176).run prog w=.ok true w:=by kernel_rfl
theorem GU(w:World):(Go.sizeOf 176).run prog w=.ok 2 w:=by kernel_rfl
theorem Ak(g c:Nat)(L M:List Pr)(w:World)(hs:Srt L)(hk:∀p∈L,0≤p.1∧p.1≤16777216)(hM:M.Perm L){base:Nat}(h:bI w base (some ⟨g,0,none⟩) c M)(hl:M.length≤1000000000):
  Cl 237 #[.slice (some ⟨g,0,none⟩) M.length c,.func (.func 238) #[] #[]] w fun e w'=>e=.returned (.tuple #[])∧bI w' base (some ⟨g,0,none⟩) c L∧ab (fun i=>i=g) w w':=by
 have hkM:∀p∈M,0≤p.1∧p.1≤16777216:=fun p hp=>hk p (hM.mem_iff.1 hp);have hd:=ra M hkM;generalize rT M hkM=d at hd;have Is:d.size=M.length:=by rw[←hd,List.length_map,Array.length_toList]
 have eg:∀args w,(callFunc 238 args).run prog w=.ok (.enter 238 args) w:=enters_of func238 ok' rfl;have a2O:=AnyQ.slices_SortFunc Tryz.sortPr 2 LR GU mw (fun _=>rfl) (fun x v hv=>by simp[mw] at hv;rcases hv with rfl|rfl<;>rfl) cfC NP 238 #[] g 0 c d w eg (fun _ _ _ _ x y=>Mu x y _) (sN d hd h) (Own.block (show Own w base 176 2 (some ⟨g,0,none⟩) M.length c (pcs M) from h) rfl).2 oq;rw[Is] at a2O
 change Cl 237 _ _ _ at a2O
 refine a2O.mono ?_;rintro e w' ⟨rfl,d',n,os,hp,ho,rfl⟩;have hL:=CQ hs hM hd (by rw[Is];exact hp) (by rw[Is];exact ho);exact⟨rfl,Bc d' hL (hM.length_eq.symm) h,xc d'⟩
end
section
open Go.Maps
open Go.Sort
open Go.Proofs
open Pl
open Hdr (Mp)
theorem kD{w:World}{p gm bm b:Nat}{lo hi d:Int}{u m:Nat}{g:Bool}{L:List Pr}(h:Hst w p gm bm lo hi d u m g b L)(hf:fl L):
  Cl 164 #[.pointer (some ⟨p,0,none⟩)] w (en L w):=by
 have c3:=h.c3;have HO:Hid (w.ownsMap (H:=Unit) prog 3 (plainElem prog 35) bm L.length (cL L)):=Oh h.own;have Ov:bm<w.heap.size:=h.own.lt;have Ze:=Oh hf.srt;have HKY:=Oh hf.keys;have Lt:=hf.len;clear h hf;go_enter func164,ntmps164;go_wp2_with (at_range;refine wpList_range_own _ rfl _ 261 rfl 3 35 xF underlying261 _ bm L.length (cL L) rfl HO.out ?_;intro w0 Yj hg0 hs0);go_frame
 go_loopw [3] (fun z wr=>∃(left:Lit→Bool) (cnt:Nat) (ss:List Pr) (A:Option Addr) (c:Nat),z=.slice A ss.length c∧wr.ranges (H:=Unit) prog 3 (plainElem prog 35) bm w.heap.size L.length (cL L) left cnt∧pQ L left ss∧bI wr w.heap.size A c ss∧Below w.heap.size w wr)
  (fun _ wr=>wr.rangeLeft bm w.heap.size)
 case atStart=>exact⟨_,_,[],none,0,rfl,Yj,pQ.start L,Own.nil _ _ _ _,(Oq _ _).grown hg0 (Oi _) (fun j hj=>by cases hj)⟩
 case round=>
  obtain⟨left,cnt,ss,A,c,rfl,hrg,Qb,hown,aC⟩:=hrel;have hlen:=Qb.len;have HC:=Oh Qb;have HW:=Oh hown;have HB:=Oh aC;clear Qb hown aC Yj hg0 hs0;go_wp2_with (at_next;refine wpList_next_ranges_ii _ rfl _ rfl 3 35 .i64 .u64 xF underlying3 underlying35 bm w.heap.size L.length _ _ _ rfl hrg ?_ ?_)
  ·intro _ UT;have QE:=HC.out.perm Ze.out UT;have hle:=QE.length_eq;have HP:=Oh QE;clear UT QE hrg
   by_cases h0:L.length=0
   ·obtain rfl:L=[]:=List.length_eq_zero_iff.1 h0;obtain rfl:ss=[]:=List.length_eq_zero_iff.1 (by rw[hle];rfl);have HN:=Oh (Am A c wr);clear hle h0 hlen;go_wp2_with fail;refine HN.out.mono ?_;rintro e w1 ⟨rfl,rfl⟩;go_wp2_with fail;go_ret;exact⟨A,c,rfl,HW.out,HB.out⟩
   ·obtain⟨gb,rfl,oF,a0a,_,_,_⟩:=Own.form (show Own wr w.heap.size 176 2 A ss.length c (pcs ss) from HW.out) oq;have HN:=Oh (Ak gb c L ss wr Ze.out HKY.out HP.out HW.out oq);have HL:Hid (ss.length=L.length):=Oh hle;have HG:=Oh oF;clear hle h0 hlen a0a oF;go_wp2_with fail;refine HN.out.mono ?_;rintro e w1 ⟨rfl,ho,hk⟩;have IF:=Oh ho;have Ub:=Oh hk;clear ho hk;go_wp2_with fail;go_ret;exact⟨some ⟨gb,0,none⟩,c,by rw[HL.out];rfl,IF.out,HB.out.trans (Ub.out.below HB.out.size (fun i hi=>by rw[hi];exact HG.out))⟩
  ·intro x v w1 a2P hwx hwv hlx hat Yk hlt Px RS hen;obtain⟨n,rfl,QO,Uf⟩:=HC.out.step Ze.out hlx hat;have Qs:=Uf.len;have Va:=Go.row_ne_iter (show wr.ownsRow w.heap.size 176 2 (.slice A ss.length c) ss.length (pcs ss) from HW.out) hrg;rw[ay] at Va;have hown1:bI w1 w.heap.size A c ss:=Own.kept HW.out Px (.inr (fun e=>Va e.symm));have eQ:=HB.out.grown Px HB.out.size (fun j hj=>by cases hj;exact Oi _);have Tt:=Oh Uf;have TD:=Oh hown1;have aS:=Oh eQ;have PT:ss.length+1≤L.length:=by simpa using Qs
   clear Uf hown1 eQ HC HW HB hwx hwv hlx hat RS Va Px Qs;go_wp2_with (at_builtin;refine Hid.out ?_);have nE:=Own.alloc (show Own w1 w.heap.size 176 2 A ss.length c (pcs ss) from TD.out) (.cells #[.int .i64 x,.int .u64 (n:Int)] 176);refine aj (xs:=pcs ss) (news:=pcs [(x,n)]) rfl rfl cg rfl nE rfl (gz w1 x n) (aI _) (ss.length+1) rfl (pcs (ss++[(x,n)])) (au _ _).symm (by unfold maxLen;omega) oq (by have:=aS.out.size;simp;omega) ?_;intro A2 c2 w2 o2 g2 q2;have Va:=Go.row_ne_iter (show w1.ownsRow w.heap.size 176 2 (.slice A ss.length c) ss.length (pcs ss) from TD.out) Yk;rw[ay] at Va
   have Yl:=(Yk.alloc (.cells #[.int .i64 x,.int .u64 (n:Int)] 176)).kept g2 (fun e=>by
    have:=(Own.block nE e.symm).1;omega) (fun e=>Va e)
   have Qw:Below w.heap.size w w2:=(aS.out.alloc aS.out.size _).grown g2 (by have:=aS.out.size;simp;omega) (fun i hi=>(Own.block nE hi).1);have nO:Hid (bI w2 w.heap.size A2 c2 (ss++[(x,n)])):=Oh (by unfold bI;rw[Ok];exact o2);have bY:=Oh Qw;clear o2 g2 q2 nE Va Qw;go_wp2_with fail;go_roundw
   case rel=>exact⟨_,a2P,ss++[(x,n)],A2,c2,by simp,Yl,Tt.out,nO.out,bY.out⟩
   case measure=>rw[Yl.left_eq,hrg.left_eq];exact hlt
end
section
open Pl
theorem iB:fH prog 408 3 1 8:=cy underlying408 (z:=.int .i64 0) ok' od od
theorem cI{w w':World}{b1 b2 s1 s2 n1 n2 c1 c2:Nat}{e1 e2:TypeId}{A1 A2:Option Addr}{xs ys:List Value}(h:Own w b1 e1 s1 A1 n1 c1 xs)(h':Own w b2 e2 s2 A2 n2 c2 ys)(hne:e1≠e2)(hg:w.grownBy w' (aa A2)):Own w' b1 e1 s1 A1 n1 c1 xs:=by
 refine Own.kept h hg ?_
 cases hB:aa A1 with
 |none=>exact .inl rfl
 |some i=>exact .inr (fun e=>Own.ne_own h h' hne i hB e.symm)
def kcs(L:List Pr):List Value:=L.map fun p=>.int .i64 p.1
def ucs(L:List Pr):List Value:=(List.range L.length).map fun i=>.int .u64 (tot (L.take (i+1)):Nat)
structure Tb(w:World)(base g:Nat)(A:Option Addr)(c:Nat)(B:Option Addr)(d:Nat)(L:List Pr):Prop where
 blk:Blk w g 410 #[.slice A L.length c,.slice B L.length d]
 keys:Own w base 3 1 A L.length c (kcs L)
 upto:Own w base 35 1 B L.length d (ucs L)
theorem DX{L:List Pr}{i:Nat}{p:Pr}(h:L[i]?=some p):kcs (L.take i)++[.int .i64 p.1]=kcs (L.take (i+1)):=by
 unfold kcs;rw[List.take_add_one,h];simp
theorem Cq{L:List Pr}{i:Nat}{p:Pr}(h:L[i]?=some p):ucs (L.take i)++[.int .u64 (tot (L.take (i+1)):Nat)]=ucs (L.take (i+1)):=by
 have hi:i<L.length:=(List.getElem?_eq_some_iff.1 h).1;unfold ucs;rw[List.length_take,List.length_take,Nat.min_eq_left oq,Nat.min_eq_left oq,List.range_succ,List.map_append]
 congr 1
 ·apply List.map_congr_left
  intro j hj;have hj:=List.mem_range.1 hj;rw[List.take_take,List.take_take,Nat.min_eq_left oq,Nat.min_eq_left oq]
 ·simp[List.take_take]
theorem fm{L:List Pr}{i:Nat}{p:Pr}(h:L[i]?=some p):tot (L.take (i+1))=tot (L.take i)+p.2:=by
 rw[List.take_add_one,h,cj];simp[tot]
theorem fY(L:List Pr)(i:Nat):tot (L.take i)≤tot L:=by
 have h:=List.take_append_drop i L;have e:=congrArg tot h;rw[cj] at e;omega
theorem rt{w W:World}{base g k c c2 d d2:Nat}{A A2 B B2:Option Addr}{ks us:List Value}(hb:Blk W g 410 #[.slice A k c,.slice B k d])(hk:Own W base 3 1 A2 (k+1) c2 ks)(hu:Own W base 35 1 B2 (k+1) d2 us)(hl:Below w.heap.size w W)(hg:w.heap.size≤g):
  Blk ((W.setCell ⟨g,0,none⟩ (.slice A2 (k+1) c2)).setCell ⟨g,1,none⟩ (.slice B2 (k+1) d2)) g 410 #[.slice A2 (k+1) c2,.slice B2 (k+1) d2]∧Own ((W.setCell ⟨g,0,none⟩ (.slice A2 (k+1) c2)).setCell ⟨g,1,none⟩ (.slice B2 (k+1) d2)) base 3 1 A2 (k+1) c2 ks∧Own ((W.setCell ⟨g,0,none⟩ (.slice A2 (k+1) c2)).setCell ⟨g,1,none⟩ (.slice B2 (k+1) d2)) base 35 1 B2 (k+1) d2 us∧Below w.heap.size w ((W.setCell ⟨g,0,none⟩ (.slice A2 (k+1) c2)).setCell ⟨g,1,none⟩ (.slice B2 (k+1) d2)):=by
 have n1:aa A2≠some g:=Own.ne_blk hk hb od;have n2:aa B2≠some g:=Own.ne_blk hu hb od;refine⟨?_,Own.setOther (Own.setOther hk (p:=⟨g,0,none⟩) n1 _) (p:=⟨g,1,none⟩) n1 _,Own.setOther (Own.setOther hu (p:=⟨g,0,none⟩) n2 _) (p:=⟨g,1,none⟩) n2 _,(hl.setCell hg _).setCell hg _⟩;have h:=(hb.put 0 (.slice A2 (k+1) c2)).put 1 (.slice B2 (k+1) d2);simpa using h
def JB(L:List Pr)(w:World)(e:Ending)(w':World):Prop:=
 ∃g A c B d,e=.returned (.tuple #[.pointer (some ⟨g,0,none⟩),.int .i64 0])∧w.heap.size≤g∧Tb w' w.heap.size g A c B d L∧Below w.heap.size w w'
set_option maxHeartbeats 3200000 in
theorem Fg(A0:Option Addr)(c0:Nat)(L:List Pr)(w:World)(h:Prs w w.heap.size A0 L)(hs:Srt L)(hp:Pos L)(ht:tot L≤4611686018427387904)(hl:L.length≤1000000)(hk:∀p∈L,-9223372036854775808≤p.1∧p.1≤9223372036854775807):
  Cl 233 #[.slice A0 L.length c0] w (JB L w):=by
 have HP:=Oh h;have HS:=Oh hs;have HPS:=Oh hp;have VX:=Oh hk;have HT:=Oh ht;have Lt:(L.length:Int)≤1000000:=oq;clear h hs hp hk ht;go_enter func233,ntmps233;go_wp2_with fail;go_loopw [5,12] (fun u v wr=>∃(i:Nat) (A:Option Addr) (c:Nat) (B:Option Addr) (d:Nat),i≤L.length∧v=.int .i64 (i:Int)∧u=.int .u64 (tot (L.take i):Nat)∧Tb wr w.heap.size w.heap.size A c B d (L.take i)∧Below w.heap.size w wr) (fun _ v _=>L.length-(intOf v).toNat)
 case atStart=>exact⟨0,none,0,none,0,Nat.zero_le _,rfl,rfl,⟨Blk.new _ _ _,Own.nil _ _ _ _,Own.nil _ _ _ _⟩,(Oq _ _).alloc (Oi _) _⟩
 case round=>
  obtain⟨i,A,c,B,d,hi,rfl,rfl,htb,aC⟩:=hrel;obtain⟨wo,rfl⟩:∃wo:World,wo=wr:=⟨_,rfl⟩;have hle:(L.take i).length=i:=by rw[List.length_take,Nat.min_eq_left hi]
  have HTB:=Oh htb;have HB:=Oh aC
  by_cases hlt:i<L.length
  ·obtain⟨⟨KY,n⟩,Q8⟩:∃p,L[i]?=some p:=⟨_,Oj hlt⟩;obtain⟨b0,o0,rfl,QC,hcell⟩:=Prs.at_ (HP.out.below aC) oq;obtain⟨d0,d1⟩:=hcell i _ Q8;have Sz:0<n:=HPS.out _ (Om Q8);have Ps:=fm Q8;have T5:=fY L (i+1);have OZ:=VX.out _ (Om Q8);obtain⟨T0,Xg⟩:∃T,T=tot (L.take i):=⟨_,rfl⟩;obtain⟨T,hT⟩:∃T,T=tot (L.take (i+1)):=⟨_,rfl⟩;rw[←Xg] at Ps ⊢;rw[←hT] at Ps T5;dsimp only at Ps Sz OZ d0 d1;have Zf:=HT.out;have t1:((n:Int)==0)=false:=sq;have t1b:(n==0)=false:=sq;have t2:IntKind.u64.wrap (4611686018427387904-(T0:Int))=((4611686018427387904-T0:Nat):Int):=by rw[On];omega
   have t3:decide (4611686018427387904-T0<n)=false:=sq;have t4:IntKind.u64.wrap ((T0:Int)+(n:Int))=(T:Int):=by rw[On];omega
   have t5:(i:Int)<(L.length:Int):=oq;have hkc:=DX Q8;have huc:=Cq Q8;rw[←hT] at huc;dsimp only at hkc;obtain⟨kc2,ZO⟩:∃x,x=kcs (L.take (i+1)):=⟨_,rfl⟩;obtain⟨uc2,a2S⟩:∃x,x=ucs (L.take (i+1)):=⟨_,rfl⟩;rw[←ZO] at hkc;rw[←a2S] at huc
   have a0c:Hid (Blk wo w.heap.size 410 #[.slice A i c,.slice B i d]∧Own wo w.heap.size 3 1 A i c (kcs (L.take i))∧Own wo w.heap.size 35 1 B i d (ucs (L.take i))):=by
    obtain⟨h1,h2,h3⟩:=htb;rw[hle] at h1 h2 h3;exact Oh ⟨h1,h2,h3⟩
   have a11:Hid (∀j,i=j+1→∃q:Pr,L[j]?=some q∧q.1<KY):=Oh (fun j hj=>by
    obtain⟨q,hq⟩:∃q,L[j]?=some q:=⟨_,Oj oq⟩;refine⟨q,hq,?_⟩;have h1:=List.getElem?_eq_some_iff.1 hq;have h2:=List.getElem?_eq_some_iff.1 Q8;have h3:=List.pairwise_iff_getElem.1 HS.out j i h1.1 h2.1 oq;rw[h1.2,h2.2] at h3;exact h3)
   have a5Y:=Oh hcell;have HKN:=Oh Q8;have HI:=Oh hlt;have QX:=Oh hT;have HKC:=Oh ZO;have HUC:=Oh a2S;clear hcell htb aC Q8 hlt Sz Ps T5 Zf HTB Xg ZO a2S hT OZ hi;go_upto_region 6 with(fail);obtain⟨N,hN⟩:∃x,x=wo.heap.size:=⟨_,rfl⟩;obtain⟨w1,iF⟩:∃x,x=wo.alloc (.cells #[.int .i64 KY,.int .u64 (n:Int)] 176):=⟨_,rfl⟩;rw[←iF,←hN];clear d0 d1;have OG:Hid (Blk w1 N 176 #[.int .i64 KY,.int .u64 (n:Int)]):=Oh (by rw[iF,hN];exact Blk.new _ _ _);have OM:Hid (Blk w1 w.heap.size 410 #[.slice A i c,.slice B i d]∧Own w1 w.heap.size 3 1 A i c (kcs (L.take i))∧Own w1 w.heap.size 35 1 B i d (ucs (L.take i))∧Below w.heap.size w w1):=Oh (by rw[iF];exact⟨a0c.out.1.alloc _,a0c.out.2.1.alloc _,a0c.out.2.2.alloc _,HB.out.alloc HB.out.size _⟩);have e0:w1.cell? ⟨N,0,none⟩=some (.int .i64 KY):=by rw[OG.out.cell];rfl
   have e1:w1.cell? ⟨N,1,none⟩=some (.int .u64 (n:Int)):=by rw[OG.out.cell];rfl
   have PD:Hid (∀j (q:Pr),L[j]?=some q→w1.cell? ⟨b0,o0+j*2,none⟩=some (.int .i64 q.1)):=Oh (fun j q hq=>by
    obtain⟨b1,o1,hA,_,h2⟩:=Prs.at_ (HP.out.below OM.out.2.2.2) (by have:=HI.out;omega);injection hA with hA
    injection hA with hA1 TI _
    subst hA1 TI;exact(h2 j q hq).1)
   have Pz:(i:Int)<1000000:=by have:=HI.out;omega
   clear a5Y a0c HB iF hN;go_cut [41] (fun v wc=>v=.bool false∧∃k,wc=w1.drewN k)
   case first=>
    by_cases hz:i=0
    ·subst hz;go_quiet (fail);go_wp2_with fail;go_meet
     case rel=>exact⟨rfl,_,rfl⟩
    ·obtain⟨j,rfl⟩:∃j,i=j+1:=⟨i-1,oq⟩;obtain⟨q,hq,hlt⟩:=a11.out j rfl;have f0:=PD.out j q hq;have x1:decide ((0:Int)<((j+1:Nat):Int))=true:=by simp<;>omega
     have x2:decide (KY≤q.1)=false:=sq;have x3:IntKind.i64.wrap (((j+1:Nat):Int)-1)=(j:Int):=by rw[show((j+1:Nat):Int)-1=(j:Int) by omega];exact Ol _ ⟨oq,oq⟩
     have x4:(j:Int)<(L.length:Int):=by have:=HI.out;omega
     have oR:=Oh hlt;have HQ:=Oh hq;clear hlt hq hz;go_quiet (fail);go_wp2_with fail;go_meet
     case rel=>exact⟨rfl,_,rfl⟩
   case rest=>
    obtain⟨rfl,k9,rfl⟩:=hcut;have k0:w1.cell? ⟨w.heap.size,0,none⟩=some (.slice A i c):=by rw[OM.out.1.cell];rfl
    have k1:w1.cell? ⟨w.heap.size,1,none⟩=some (.slice B i d):=by rw[OM.out.1.cell];rfl
    clear t1 t1b t2 t3 a11;go_upto_region 9 with(fail);refine wp_region_noPanic ?_;refine ag (S:=(fun W=>W.cell? ⟨w.heap.size,0,none⟩=some (.slice A i c)∧W.cell? ⟨w.heap.size,1,none⟩=some (.slice B i d)∧W.cell? ⟨N,0,none⟩=some (.int .i64 KY))) (L:=19) (by kernel_rfl) ⟨k0,k1,e0⟩ (fun hHeld=>?_);obtain⟨W,hW⟩:∃x,x=(w1.drewN k9).drew:=⟨_,rfl⟩;rw[←hW] at hHeld ⊢;have T9:Hid (Blk W w.heap.size 410 #[.slice A i c,.slice B i d]):=Oh (by rw[hW];exact OM.out.1);have R5:Hid (Blk W N 176 #[.int .i64 KY,.int .u64 (n:Int)]):=Oh (by rw[hW];exact OG.out);have HKW:Hid (Own W w.heap.size 3 1 A i c (kcs (L.take i))):=Oh (by rw[hW];exact OM.out.2.1);have HUW:Hid (Own W w.heap.size 35 1 B i d (ucs (L.take i))):=Oh (by rw[hW];exact OM.out.2.2.1);have Vu:Hid (Below w.heap.size w W):=Oh (by rw[hW];exact ae OM.out.2.2.2 (k9+1));clear hW;refine tV 0 ?_;refine fV 1 ?_;refine tV 2 ?_;refine tV 3 ?_;refine tV 4 ?_;refine tV 5 ?_;refine tV 6 ?_;refine tV 7 ?_;refine tV 10 ?_;refine tV 11 ?_;refine tV 12 ?_;refine tV 13 ?_;refine tV 14 ?_;refine eN (i:=8) (j:=15) (by kernel_rfl) ?_ ?_
    ·refine rX fun K hK=>?_;go_simp;obtain⟨v1,MK⟩:∃x,x=W.alloc (.cells #[.int .i64 KY] 3):=⟨_,rfl⟩;obtain⟨a1,Ug⟩:∃x,x=W.heap.size:=⟨_,rfl⟩;have Ym:Hid (Blk v1 w.heap.size 410 #[.slice A i c,.slice B i d]):=Oh (by rw[MK];exact T9.out.alloc _);have Ru:Hid (Blk v1 N 176 #[.int .i64 KY,.int .u64 (n:Int)]):=Oh (by rw[MK];exact R5.out.alloc _);have Yn:Hid (Below w.heap.size w v1):=Oh (by rw[MK];exact Vu.out.alloc Vu.out.size _);have WB:=Oh (by have h:=HKW.out.alloc (.cells #[.int .i64 KY] 3);rw[←MK] at h;exact h);have a5Z:=Oh (by have h:=HUW.out.alloc (.cells #[.int .i64 KY] 3);rw[←MK] at h;exact h);have a12:Hid (Blk v1 a1 3 #[.int .i64 KY]):=Oh (by rw[MK,Ug];exact Blk.new _ _ _);rw[←MK,←Ug];clear MK Ug;replace hHeld:=(show(fun W=>W.cell? ⟨w.heap.size,0,none⟩=some (.slice A i c)∧W.cell? ⟨w.heap.size,1,none⟩=some (.slice B i d)∧W.cell? ⟨N,0,none⟩=some (.int .i64 KY)) v1 from⟨by rw[Ym.out.cell];rfl,by rw[Ym.out.cell];rfl,by rw[Ru.out.cell];rfl⟩);refine hK.out _ _ hHeld ?_;clear hK K;try go_simp
     refine eN (i:=9) (j:=15) (by kernel_rfl) ?_ ?_
     ·refine rX fun K hK=>?_;refine bo rfl rfl iB rfl WB.out rfl (am.lit a12.out rfl rfl) (by intro u hu;simp at hu;rw[hu];rfl) (i+1) rfl kc2 hkc (by unfold maxLen;omega) oq (by have:=Yn.out.size;omega) ?_;intro A2 c2 v2 o2 g2 q2;have a2T:=Oh (Ym.out.grown g2 (fun e=>Own.ne_blk WB.out Ym.out (by decide) e.symm));have Tg:=Oh (Ru.out.grown g2 (fun e=>Own.ne_blk WB.out Ru.out (by decide) e.symm));have a60:=Oh (Yn.out.grown g2 Yn.out.size (fun i hi=>(Own.block WB.out hi).1));have aaL:=Oh o2;have aaM:=Oh (cI a5Z.out WB.out (by decide) g2);clear o2 g2 q2;replace hHeld:=(show(fun W=>W.cell? ⟨w.heap.size,0,none⟩=some (.slice A i c)∧W.cell? ⟨w.heap.size,1,none⟩=some (.slice B i d)∧W.cell? ⟨N,0,none⟩=some (.int .i64 KY)) v2 from⟨by rw[a2T.out.cell];rfl,by rw[a2T.out.cell];rfl,by rw[Tg.out.cell];rfl⟩);refine hK.out _ _ hHeld ?_;clear hK K;try go_simp
      refine bO 15 fun K hK=>?_;go_simp;obtain⟨v3,SQ⟩:∃x,x=v2.alloc (.cells #[.int .u64 (T:Int)] 35):=⟨_,rfl⟩;obtain⟨a2,PU⟩:∃x,x=v2.heap.size:=⟨_,rfl⟩;have a0d:Hid (Blk v3 w.heap.size 410 #[.slice A i c,.slice B i d]):=Oh (by rw[SQ];exact a2T.out.alloc _);have Uh:Hid (Blk v3 N 176 #[.int .i64 KY,.int .u64 (n:Int)]):=Oh (by rw[SQ];exact Tg.out.alloc _);have a2U:Hid (Below w.heap.size w v3):=Oh (by rw[SQ];exact a60.out.alloc a60.out.size _);have aaN:=Oh (by have h:=aaL.out.alloc (.cells #[.int .u64 (T:Int)] 35);rw[←SQ] at h;exact h);have Yo:=Oh (by have h:=aaM.out.alloc (.cells #[.int .u64 (T:Int)] 35);rw[←SQ] at h;exact h);have a61:Hid (Blk v3 a2 35 #[.int .u64 (T:Int)]):=Oh (by rw[SQ,PU];exact Blk.new _ _ _);rw[←SQ,←PU];clear SQ PU;replace hHeld:=(show(fun W=>W.cell? ⟨w.heap.size,0,none⟩=some (.slice A i c)∧W.cell? ⟨w.heap.size,1,none⟩=some (.slice B i d)∧W.cell? ⟨N,0,none⟩=some (.int .i64 KY)) v3 from⟨by rw[a0d.out.cell];rfl,by rw[a0d.out.cell];rfl,by rw[Uh.out.cell];rfl⟩);refine hK.out _ _ hHeld ?_;clear hK K;try go_simp
      refine bO 16 fun K hK=>?_;refine bo rfl rfl kH rfl Yo.out rfl (am.lit a61.out rfl rfl) (by intro u hu;simp at hu;rw[hu];rfl) (i+1) rfl uc2 huc (by unfold maxLen;omega) oq (by have:=a2U.out.size;omega) ?_;intro B2 d2 v4 o2 g2 q2;have WC:=Oh (a0d.out.grown g2 (fun e=>Own.ne_blk Yo.out a0d.out (by decide) e.symm));have a62:=Oh (Uh.out.grown g2 (fun e=>Own.ne_blk Yo.out Uh.out (by decide) e.symm));have a63:=Oh (a2U.out.grown g2 a2U.out.size (fun i hi=>(Own.block Yo.out hi).1));have a64:=Oh o2;have a65:=Oh (cI aaN.out Yo.out (by decide) g2);have aaO:=WC.out.free;have aaP:v4.cell? ⟨w.heap.size,1,none⟩=some (.slice B i d):=by rw[WC.out.cell];rfl
      clear o2 g2 q2;replace hHeld:=(show(fun W=>W.cell? ⟨w.heap.size,0,none⟩=some (.slice A i c)∧W.cell? ⟨w.heap.size,1,none⟩=some (.slice B i d)∧W.cell? ⟨N,0,none⟩=some (.int .i64 KY)) v4 from⟨by rw[WC.out.cell];rfl,by rw[WC.out.cell];rfl,by rw[a62.out.cell];rfl⟩);refine hK.out _ _ hHeld ?_;clear hK K;try go_simp
      refine tV 17 ?_;refine tV 18 ?_;refine aL 19 ?_;refine aA 20 ?_;refine aA 21 ?_;refine aA 22 ?_;refine cD ?_;have PJ:=rt WC.out a65.out a64.out a63.out (Oi _);clear WC a65 a64 a63 a62 aaO aaP;exact nV
     ·refine rX fun K hK=>?_;go_simp;obtain⟨v9,Wc⟩:∃x,x=v1.alloc (.cells #[.int .u64 (T:Int)] 35):=⟨_,rfl⟩;obtain⟨a2,PU⟩:∃x,x=v1.heap.size:=⟨_,rfl⟩;have a0e:Hid (Blk v9 w.heap.size 410 #[.slice A i c,.slice B i d]):=Oh (by rw[Wc];exact Ym.out.alloc _);have Ti:Hid (Blk v9 N 176 #[.int .i64 KY,.int .u64 (n:Int)]):=Oh (by rw[Wc];exact Ru.out.alloc _);have a2V:Hid (Below w.heap.size w v9):=Oh (by rw[Wc];exact Yn.out.alloc Yn.out.size _);have WD:=Oh (by have h:=WB.out.alloc (.cells #[.int .u64 (T:Int)] 35);rw[←Wc] at h;exact h);have Yp:=Oh (by have h:=a5Z.out.alloc (.cells #[.int .u64 (T:Int)] 35);rw[←Wc] at h;exact h);have a13:Hid (Blk v9 a2 35 #[.int .u64 (T:Int)]):=Oh (by rw[Wc,PU];exact Blk.new _ _ _);have a66:Hid (Blk v9 a1 _ _):=Oh (by rw[Wc];exact a12.out.alloc _);rw[←Wc,←PU];clear Wc PU;replace hHeld:=(show(fun W=>W.cell? ⟨w.heap.size,0,none⟩=some (.slice A i c)∧W.cell? ⟨w.heap.size,1,none⟩=some (.slice B i d)∧W.cell? ⟨N,0,none⟩=some (.int .i64 KY)) v9 from⟨by rw[a0e.out.cell];rfl,by rw[a0e.out.cell];rfl,by rw[Ti.out.cell];rfl⟩);refine hK.out _ _ hHeld ?_;clear hK K;try go_simp
      refine bO 9 fun K hK=>?_;refine bo rfl rfl iB rfl WD.out rfl (am.lit a66.out rfl rfl) (by intro u hu;simp at hu;rw[hu];rfl) (i+1) rfl kc2 hkc (by unfold maxLen;omega) oq (by have:=a2V.out.size;omega) ?_;intro A2 c2 v10 o2 g2 q2;have VE:=Oh (a0e.out.grown g2 (fun e=>Own.ne_blk WD.out a0e.out (by decide) e.symm));have Rv:=Oh (Ti.out.grown g2 (fun e=>Own.ne_blk WD.out Ti.out (by decide) e.symm));have Yq:=Oh (a2V.out.grown g2 a2V.out.size (fun i hi=>(Own.block WD.out hi).1));have a67:=Oh o2;have Rw:=Oh (cI Yp.out WD.out (by decide) g2);have a2W:=Oh (a13.out.grown g2 (fun e=>Own.ne_blk WD.out a13.out (by decide) e.symm));clear o2 g2 q2;replace hHeld:=(show(fun W=>W.cell? ⟨w.heap.size,0,none⟩=some (.slice A i c)∧W.cell? ⟨w.heap.size,1,none⟩=some (.slice B i d)∧W.cell? ⟨N,0,none⟩=some (.int .i64 KY)) v10 from⟨by rw[VE.out.cell];rfl,by rw[VE.out.cell];rfl,by rw[Rv.out.cell];rfl⟩);refine hK.out _ _ hHeld ?_;clear hK K;try go_simp
      refine bO 16 fun K hK=>?_;refine bo rfl rfl kH rfl Rw.out rfl (am.lit a2W.out rfl rfl) (by intro u hu;simp at hu;rw[hu];rfl) (i+1) rfl uc2 huc (by unfold maxLen;omega) oq (by have:=Yq.out.size;omega) ?_;intro B2 d2 v11 o2 g2 q2;have SE:=Oh (VE.out.grown g2 (fun e=>Own.ne_blk Rw.out VE.out (by decide) e.symm));have a14:=Oh (Rv.out.grown g2 (fun e=>Own.ne_blk Rw.out Rv.out (by decide) e.symm));have a15:=Oh (Yq.out.grown g2 Yq.out.size (fun i hi=>(Own.block Rw.out hi).1));have a16:=Oh o2;have a17:=Oh (cI a67.out Rw.out (by decide) g2);have a68:=SE.out.free;have a69:v11.cell? ⟨w.heap.size,1,none⟩=some (.slice B i d):=by rw[SE.out.cell];rfl
      clear o2 g2 q2;replace hHeld:=(show(fun W=>W.cell? ⟨w.heap.size,0,none⟩=some (.slice A i c)∧W.cell? ⟨w.heap.size,1,none⟩=some (.slice B i d)∧W.cell? ⟨N,0,none⟩=some (.int .i64 KY)) v11 from⟨by rw[SE.out.cell];rfl,by rw[SE.out.cell];rfl,by rw[a14.out.cell];rfl⟩);refine hK.out _ _ hHeld ?_;clear hK K;try go_simp
      refine tV 17 ?_;refine tV 18 ?_;refine aL 19 ?_;refine aA 20 ?_;refine aA 21 ?_;refine aA 22 ?_;refine cD ?_;have PJ:=rt SE.out a17.out a16.out a15.out (Oi _);clear SE a17 a16 a15 a14 a68 a69;exact nV
    ·refine rX fun K hK=>?_;go_simp;obtain⟨v16,Rx⟩:∃x,x=W.alloc (.cells #[.int .u64 (T:Int)] 35):=⟨_,rfl⟩;obtain⟨a2,PU⟩:∃x,x=W.heap.size:=⟨_,rfl⟩;have Yr:Hid (Blk v16 w.heap.size 410 #[.slice A i c,.slice B i d]):=Oh (by rw[Rx];exact T9.out.alloc _);have a18:Hid (Blk v16 N 176 #[.int .i64 KY,.int .u64 (n:Int)]):=Oh (by rw[Rx];exact R5.out.alloc _);have a19:Hid (Below w.heap.size w v16):=Oh (by rw[Rx];exact Vu.out.alloc Vu.out.size _);have a6a:=Oh (by have h:=HKW.out.alloc (.cells #[.int .u64 (T:Int)] 35);rw[←Rx] at h;exact h);have a6b:=Oh (by have h:=HUW.out.alloc (.cells #[.int .u64 (T:Int)] 35);rw[←Rx] at h;exact h);have a2X:Hid (Blk v16 a2 35 #[.int .u64 (T:Int)]):=Oh (by rw[Rx,PU];exact Blk.new _ _ _);rw[←Rx,←PU];clear Rx PU;replace hHeld:=(show(fun W=>W.cell? ⟨w.heap.size,0,none⟩=some (.slice A i c)∧W.cell? ⟨w.heap.size,1,none⟩=some (.slice B i d)∧W.cell? ⟨N,0,none⟩=some (.int .i64 KY)) v16 from⟨by rw[Yr.out.cell];rfl,by rw[Yr.out.cell];rfl,by rw[a18.out.cell];rfl⟩);refine hK.out _ _ hHeld ?_;clear hK K;try go_simp
     refine bO 8 fun K hK=>?_;go_simp;obtain⟨v17,Tj⟩:∃x,x=v16.alloc (.cells #[.int .i64 KY] 3):=⟨_,rfl⟩;obtain⟨a1,Ug⟩:∃x,x=v16.heap.size:=⟨_,rfl⟩;have VF:Hid (Blk v17 w.heap.size 410 #[.slice A i c,.slice B i d]):=Oh (by rw[Tj];exact Yr.out.alloc _);have Ys:Hid (Blk v17 N 176 #[.int .i64 KY,.int .u64 (n:Int)]):=Oh (by rw[Tj];exact a18.out.alloc _);have Yt:Hid (Below w.heap.size w v17):=Oh (by rw[Tj];exact a19.out.alloc a19.out.size _);have SH:=Oh (by have h:=a6a.out.alloc (.cells #[.int .i64 KY] 3);rw[←Tj] at h;exact h);have a6c:=Oh (by have h:=a6b.out.alloc (.cells #[.int .i64 KY] 3);rw[←Tj] at h;exact h);have a2Y:Hid (Blk v17 a1 3 #[.int .i64 KY]):=Oh (by rw[Tj,Ug];exact Blk.new _ _ _);have Yu:Hid (Blk v17 a2 _ _):=Oh (by rw[Tj];exact a2X.out.alloc _);rw[←Tj,←Ug];clear Tj Ug;replace hHeld:=(show(fun W=>W.cell? ⟨w.heap.size,0,none⟩=some (.slice A i c)∧W.cell? ⟨w.heap.size,1,none⟩=some (.slice B i d)∧W.cell? ⟨N,0,none⟩=some (.int .i64 KY)) v17 from⟨by rw[VF.out.cell];rfl,by rw[VF.out.cell];rfl,by rw[Ys.out.cell];rfl⟩);refine hK.out _ _ hHeld ?_;clear hK K;try go_simp
     refine bO 9 fun K hK=>?_;refine bo rfl rfl iB rfl SH.out rfl (am.lit a2Y.out rfl rfl) (by intro u hu;simp at hu;rw[hu];rfl) (i+1) rfl kc2 hkc (by unfold maxLen;omega) oq (by have:=Yt.out.size;omega) ?_;intro A2 c2 v18 o2 g2 q2;have VG:=Oh (VF.out.grown g2 (fun e=>Own.ne_blk SH.out VF.out (by decide) e.symm));have Yv:=Oh (Ys.out.grown g2 (fun e=>Own.ne_blk SH.out Ys.out (by decide) e.symm));have Yw:=Oh (Yt.out.grown g2 Yt.out.size (fun i hi=>(Own.block SH.out hi).1));have a6d:=Oh o2;have Ui:=Oh (cI a6c.out SH.out (by decide) g2);have a2Z:=Oh (Yu.out.grown g2 (fun e=>Own.ne_blk SH.out Yu.out (by decide) e.symm));clear o2 g2 q2;replace hHeld:=(show(fun W=>W.cell? ⟨w.heap.size,0,none⟩=some (.slice A i c)∧W.cell? ⟨w.heap.size,1,none⟩=some (.slice B i d)∧W.cell? ⟨N,0,none⟩=some (.int .i64 KY)) v18 from⟨by rw[VG.out.cell];rfl,by rw[VG.out.cell];rfl,by rw[Yv.out.cell];rfl⟩);refine hK.out _ _ hHeld ?_;clear hK K;try go_simp
     refine bO 16 fun K hK=>?_;refine bo rfl rfl kH rfl Ui.out rfl (am.lit a2Z.out rfl rfl) (by intro u hu;simp at hu;rw[hu];rfl) (i+1) rfl uc2 huc (by unfold maxLen;omega) oq (by have:=Yw.out.size;omega) ?_;intro B2 d2 v19 o2 g2 q2;have SI:=Oh (VG.out.grown g2 (fun e=>Own.ne_blk Ui.out VG.out (by decide) e.symm));have a1a:=Oh (Yv.out.grown g2 (fun e=>Own.ne_blk Ui.out Yv.out (by decide) e.symm));have a1b:=Oh (Yw.out.grown g2 Yw.out.size (fun i hi=>(Own.block Ui.out hi).1));have a1c:=Oh o2;have a1d:=Oh (cI a6d.out Ui.out (by decide) g2);have a6f:=SI.out.free;have a6g:v19.cell? ⟨w.heap.size,1,none⟩=some (.slice B i d):=by rw[SI.out.cell];rfl
     clear o2 g2 q2;replace hHeld:=(show(fun W=>W.cell? ⟨w.heap.size,0,none⟩=some (.slice A i c)∧W.cell? ⟨w.heap.size,1,none⟩=some (.slice B i d)∧W.cell? ⟨N,0,none⟩=some (.int .i64 KY)) v19 from⟨by rw[SI.out.cell];rfl,by rw[SI.out.cell];rfl,by rw[a1a.out.cell];rfl⟩);refine hK.out _ _ hHeld ?_;clear hK K;try go_simp
     refine tV 17 ?_;refine tV 18 ?_;refine aL 19 ?_;refine aA 20 ?_;refine aA 21 ?_;refine aA 22 ?_;refine cD ?_;have PJ:=rt SI.out a1d.out a1c.out a1b.out (Oi _);clear SI a1d a1c a1b a1a a6f a6g;exact nV
  ·obtain rfl:i=L.length:=oq;have t5:¬(L.length:Int)<(L.length:Int):=oq;rw[List.take_length] at htb;have HTB:=Oh htb;clear htb hlt;go_wp2_with fail;go_ret2;exact⟨w.heap.size,A,c,B,d,rfl,Oi _,HTB.out,HB.out⟩
end
theorem tD(n q:Nat)(fn:FuncId)(pa pb:Value)(f:Nat→Bool)(w:World)(eg:∀args w,(callFunc fn args).run prog w=.ok (.enter fn args) w)(Sg:n≤1000000)(hq:q≤n)(hf:∀i,i<n→f i=decide (q≤i))(hk:∀i,i<n→∀k,Cl fn #[.int .i64 (i:Int),pa,pb] (w.drewN k) fun e w'=>e=.returned (.bool (f i))∧∃m,w'=(w.drewN k).drewN m):
  Cl 216 #[.int .i64 (n:Int),.func (Fn.func fn) #[] #[pa,pb]] w fun e w'=>e=.returned (.int .i64 (q:Int))∧∃m,w'=w.drewN m:=by
 have HIX:=Oh hf;have HK:=Oh hk;have Qy:=Oh hq;have ahp:(n:Int)≤1000000:=oq;clear hf hk hq;go_enter func216,ntmps216;go_wp2_with fail;go_loopw [5,6] (fun u x wr=>∃i j k:Nat,u=.int .i64 (i:Int)∧x=.int .i64 (j:Int)∧i≤q∧q≤j∧j≤n∧wr=w.drewN k) (fun u x _=>(intOf x).toNat-(intOf u).toNat)
 case atStart=>exact⟨0,n,0,rfl,rfl,Nat.zero_le _,Qy.out,Oi _,rfl⟩
 case round=>
  obtain⟨i,j,k,rfl,rfl,hi,hj,Qi,rfl⟩:=hrel
  by_cases hlt:i<j
  ·obtain⟨m,hm⟩:=nm ((i+j)/2);have hmi:((i:Int)+(j:Int))/2=(m:Int):=oq;have Vn:(i:Int)<(j:Int):=oq;have ZJ:decide (i<j)=true:=sq;have hjj:(j:Int)≤1000000:=oq;have gE:i≤m:=oq;have QL:m<j:=oq;have hx:=HIX.out m oq;have HC:=Oh (HK.out m oq k);have HI:=Oh (And.intro hi (And.intro hj (And.intro Qi (And.intro gE QL))));have ZI:=Oh (show(m:Int)≤1000000 by omega);obtain⟨wo,Q7⟩:=nm (w.drewN k);rw[←Q7] at HC ⊢;have Uz:=Oh Q7
   by_cases Ou:q≤m
   ·have hB:f m=true:=by rw[hx];simpa using Ou
    rw[hB] at HC;have HX:=Oh Ou;clear hx hi hj Qi hm gE QL Q7 Ou hB;go_wp2_with fail;refine HC.out.mono ?_;rintro e w1 ⟨rfl,n1,rfl⟩;go_wp2_with fail;go_roundw
    case rel=>exact⟨i,m,k+n1,rfl,rfl,HI.out.1,HX.out,by have:=HI.out;omega,by rw[Uz.out,World.drewN_drewN]⟩
    case measure=>exact ms HI
   ·have hB:f m=false:=by rw[hx];simpa using Ou
    rw[hB] at HC;have HX:=Oh (show m<q by omega);clear hx hi hj Qi hm gE QL Q7 Ou hB;go_wp2_with fail;refine HC.out.mono ?_;rintro e w1 ⟨rfl,n1,rfl⟩;go_wp2_with fail;go_roundw
    case rel=>exact⟨m+1,j,k+n1,by go_num,rfl,HX.out,HI.out.2.1,HI.out.2.2.1,by rw[Uz.out,World.drewN_drewN]⟩
    case measure=>exact ms HI
  ·exact tQ
theorem Kt(hi lo d:Nat)(w:World)(HD:Hid (∀W:World,Cl 366 #[.int .u64 ((hi%d:Nat):Int),.int .u64 (lo:Int),.int .u64 (d:Int)] W (Rq (.tuple #[.int .u64 (((hi%d*18446744073709551616+lo)/d:Nat):Int),.int .u64 (((hi%d*18446744073709551616+lo)%d:Nat):Int)]) W)))(SD:hi<18446744073709551616)(OH:1≤d)(uP:d<18446744073709551616):
  Cl 306 #[.agg #[.int .u64 (hi:Int),.int .u64 (lo:Int)],.int .u64 (d:Int)] w (Rb (.tuple #[.agg #[.int .u64 ((hi/d:Nat):Int),.int .u64 (((hi%d*18446744073709551616+lo)/d:Nat):Int)],.int .u64 (((hi%d*18446744073709551616+lo)%d:Nat):Int),.int .i64 0]) w):=by
 have z1:((d:Int)==0)=false:=sq;have z4:¬(d:Int)=0:=oq;have z2c:decide (d=0)=false:=sq;have Re:(d:Int)<18446744073709551616:=oq;have ZX:(1:Int)≤(d:Int):=oq;obtain⟨q,hq⟩:=nm (hi/d);obtain⟨r,hr⟩:=nm (hi%d);have e1:(hi:Int)/(d:Int)=(q:Int):=by rw[hq];rfl
 have e2:(hi:Int)%(d:Int)=(r:Int):=by rw[hr];rfl
 have e3:(hi:Int).tdiv (d:Int)=(q:Int):=by rw[Int.tdiv_eq_ediv_of_nonneg oq,e1]
 have e4:(hi:Int).tmod (d:Int)=(r:Int):=by rw[Int.tmod_eq_emod_of_nonneg oq,e2]
 have Vx:q≤hi:=by rw[hq];exact Nat.div_le_self _ _
 have hrl:r<d:=by rw[hr];exact Nat.mod_lt _ oq
 have e5:IntKind.u64.wrap (q:Int)=(q:Int):=u6;have e6:IntKind.u64.wrap (r:Int)=(r:Int):=u6;rw[←hq,←hr];rw[←hr] at HD;generalize(r*18446744073709551616+lo)/d=Q at*;generalize(r*18446744073709551616+lo)%d=R at*;clear hq hr Vx hrl OH uP SD;exact uo
theorem Kr(lo d:Nat)(w:World)(P4:lo<18446744073709551616)(OH:1≤d)(uP:d<16384):
  Cl 306 #[.agg #[.int .u64 0,.int .u64 (lo:Int)],.int .u64 (d:Int)] w (Rb (.tuple #[.agg #[.int .u64 0,.int .u64 ((lo/d:Nat):Int)],.int .u64 ((lo%d:Nat):Int),.int .i64 0]) w):=by
 have hz:0%d=0:=Nat.zero_mod d;have h:=Kt 0 lo d w (Oh (fun W=>by rw[hz,Nat.zero_mul,Nat.zero_add];exact zj lo d W P4 OH uP)) od OH oq;rw[hz,Nat.zero_mul,Nat.zero_add,Nat.zero_div] at h;exact h
theorem ol(a b d:Nat)(ha:a<18446744073709551616)(hb:b<18446744073709551616)(Pd:a*b<18446744073709551616)(w:World)(OH:1≤d)(uP:d<16384):
  Cl 218 #[.int .u64 (a:Int),.int .u64 (b:Int),.int .u64 (d:Int)] w (Rb (.tuple #[.int .u64 ((a*b/d:Nat):Int),.int .u64 ((a*b%d:Nat):Int),.int .i64 0]) w):=by
 have SX:∀(fn:Fn) (first cap:Array Value) (w:World),(Instr.makeFunc fn first cap).run prog w=.ok (.func fn first cap) w:=fun _ _ _ _=>rfl;have HM:=Oh (fun W=>Fh a b ha hb W);have HD:=Oh (fun W=>Kr (a*b) d W Pd OH uP);rw[Nat.div_eq_of_lt Pd,Nat.mod_eq_of_lt Pd] at HM;generalize a*b/d=Q at*;generalize a*b%d=R at*;generalize a*b=M at*;clear ha hb Pd OH uP;exact nU
def df(P d:Nat):Nat:=if P%d=0 then P/d else P/d+1
theorem Mv(a b d:Nat)(ha:a<18446744073709551616)(hb:b<18446744073709551616)(Pd:a*b<18446744073709551615)(w:World)(OH:1≤d)(uP:d<16384):
  Cl 358 #[.int .u64 (a:Int),.int .u64 (b:Int),.int .u64 (d:Int)] w (Rb (.tuple #[.int .u64 (df (a*b) d:Nat),.int .i64 0]) w):=by
 have HM:=Oh (fun W=>ol a b d ha hb oq W OH uP);have hq:a*b/d≤a*b:=Nat.div_le_self _ _;unfold df;generalize a*b%d=R at*;generalize a*b/d=Q at*;have q1:((Q:Int)==18446744073709551615)=false:=sq;have q2:((Q:Int) !=18446744073709551615)=true:=sq;have q3:(Q==18446744073709551615)=false:=sq;have q4:IntKind.u64.wrap ((Q:Int)+1)=((Q+1:Nat):Int):=u6
 by_cases hR:R=0
 ·subst hR;rw[if_pos rfl];clear ha hb Pd OH uP hq;go_enter func358,ntmps358;exact kj
 ·rw[if_neg hR];have r1:((R:Int)==0)=false:=sq;have r2:((R:Int) !=0)=true:=sq;have r3:(R==0)=false:=sq;clear ha hb Pd OH uP hq hR;go_enter func358,ntmps358;exact kj
theorem wA(num den:Nat)(w:World)(h0:1≤den)(h1:num≤den):
  Cl 357 #[.int .u64 (num:Int),.int .u64 (den:Int)] w (Rt (.int .i64 0) w):=by
 have d1:((den:Int)==0)=false:=sq;have d2:(den==0)=false:=sq;have d3:decide (den<num)=false:=sq;clear h0 h1;go_enter func357,ntmps357;go_wp2_with fail;go_ret;exact⟨rfl,rfl⟩
theorem xT(num den n:Nat)(w:World)(h0:1≤den)(h1:num≤den)(uP:den<16384)(hn:1≤n)(Ud:n<18446744073709551616)(Pd:num*n<18446744073709551615):
  Cl 290 #[.int .u64 (num:Int),.int .u64 (den:Int),.int .u64 (n:Int)] w (Rb (.tuple #[.int .u64 (max 1 (df (num*n) den):Nat),.int .i64 0]) w):=by
 have HC:=Oh (wA num den w h0 h1);have HCE:=Oh (fun W=>Mv num n den oq Ud Pd W h0 uP);generalize df (num*n) den=C at*;have n1:((n:Int)==0)=false:=sq;have n2:(n==0)=false:=sq;have m1:(max 1 (C:Int))=((max 1 C:Nat):Int):=oq;clear h0 h1 uP hn Ud Pd;go_enter func290,ntmps290;go_wp2_with fail;refine HC.out.mono ?_;rintro e w1 ⟨rfl,rfl⟩;go_wp2_with fail;refine(HCE.out _).mono ?_;rintro e w1 ⟨rfl,eQ⟩;have aS:=Oh eQ;clear eQ;go_wp2_with fail;go_ret2;exact⟨by simp,aS.out⟩
end Go.Proofs.YtmbippkpjdoojaaGreat
