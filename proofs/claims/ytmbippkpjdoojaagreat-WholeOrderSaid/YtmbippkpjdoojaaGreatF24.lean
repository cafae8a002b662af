/- Parts of a proof, merged. -/
import Derived.Test.YtmbippkpjdoojaaGreatF23
set_option maxRecDepth 100000
set_option maxHeartbeats 1600000
namespace Go.Proofs.YtmbippkpjdoojaaGreat
open Tryz
open Go.RowKit
namespace De
open Go.RowKit
open Bit Bt Mt Df Hu
theorem bu:fH prog 24 5 1 1:=Bit.bu
def Cb(s:Nat):List UInt8:=[UInt8.ofNat (s/16777216),UInt8.ofNat (s/65536),UInt8.ofNat (s/256),UInt8.ofNat s]
def adN(l:List UInt8):Nat:=(Ad.m7 1 l).toNat
theorem lK:(Tryz.prog.info? 194).map (·.size)=some 4:=by kernel_rfl
theorem sS:∀args w,(callFunc 115 args).run prog w=.ok (.enter 115 args) w:=enters_of func115 ok' rfl
theorem Kk(A:Option Addr)(c:Nat)(l:List UInt8)(w:World)(hb:Bts w w.heap.size A l)(hm:l.length<65535):
  Cl 114 #[.slice A l.length c,.func (Fn.func 115) #[] #[]] w (Rb (.agg (bvs (Cb (adN l))).toArray) w):=by
 have eg:=sS;obtain⟨r1,r2⟩:=Ad.xe 1 l;obtain⟨s,hs⟩:∃s:Nat,Ad.m7 1 l=(s:Int):=⟨(Ad.m7 1 l).toNat,oq⟩;have UD:adN l=s:=by unfold adN;rw[hs];rfl
 have HA:=Oh (fun W (h:Below w.heap.size w W)=>Adl.MA A c l W (by unfold maxLen;omega) (hb.at_below h));rw[hs] at HA r2;rw[UD];have h4:s<4294967296:=oq;have e1:(s:Int)/16777216=((s/16777216:Nat):Int):=oq;have e2:(s:Int)/65536=((s/65536:Nat):Int):=oq;have e3:(s:Int)/256=((s/256:Nat):Int):=oq;have HE:=Oh (And.intro e1 (And.intro e2 e3));clear hb hm r1 r2 hs UD e1 e2 e3;go_enter func114,ntmps114;go_wp2_with fail;refine(HA.out _ (Ba)).mono ?_;rintro e w2 ⟨rfl,b2⟩;have HB:=Oh ((Blk.new w 194 #[.int .u8 0,.int .u8 0,.int .u8 0,.int .u8 0]).below b2 os');have HW:Hid (Below w.heap.size w w2):=Oh (ai (Ba) b2);clear b2 HA;go_wp2_with (first|(refine wpList_store_row rfl 194 _ _ rfl w.heap.size #[.int .u8 ((s:Int)/16777216),.int .u8 ((s:Int)/65536%256),.int .u8 ((s:Int)/256%256),.int .u8 ((s:Int)%256)] rfl rfl 194 _ HB.out lK rfl (by simp[Value.oneCell']) ?_)|fail);go_wp2_with fail
 have hv:(bvs (Cb s)).toArray=#[.int .u8 ((s:Int)/16777216),.int .u8 ((s:Int)/65536%256),.int .u8 ((s:Int)/256%256),.int .u8 ((s:Int)%256)]:=by
  unfold Cb bvs bv;simp only[List.map_cons,List.map_nil,UInt8.toNat_ofNat',Nat.reducePow];rw[show((s/16777216%256:Nat):Int)=(s:Int)/16777216 by omega,show((s/65536%256:Nat):Int)=(s:Int)/65536%256 by omega,show((s/256%256:Nat):Int)=(s:Int)/256%256 by omega,show((s%256:Nat):Int)=(s:Int)%256 by omega]
 rw[hv];exact bodyPost_ret (v:=.agg #[.int .u8 ((s:Int)/16777216),.int .u8 ((s:Int)/65536%256),.int .u8 ((s:Int)/256%256),.int .u8 ((s:Int)%256)]) (results_cell_row results114 _ _ w.heap.size 194 _ (0,0) _ rfl (setRow_heap _ _ _ _ _ _ HB.out) underlying194 (by rfl) lK) rfl ⟨rfl,below_setRow HW.out (Oi _) _⟩
def pu(l:List UInt8):List UInt8:=[120,1]++pA l++Cb (adN l)
theorem KZ(A:Option Addr)(c:Nat)(l:List UInt8)(w:World)(hb:Bts w w.heap.size A l)(hm:l.length<65535)(hcl:l.length≤c)(Ov:(pA l).length≤10000000):
  Cl 58 #[.slice A l.length c] w (cY w (pu l)):=by
 have HSM:=Oh (Kk A c l w hb hm);have Mk:=Oh (fun W (h:Below w.heap.size w W)=>Jg A c l W (hb.at_below h) hm hcl);obtain⟨Z,hZ⟩:=nm (Cb (adN l));obtain⟨B,hB⟩:=nm (pA l);have HX:Hid (pu l=[120,1]++B++Z):=Oh (by rw[hB,hZ];rfl);have HZ:Hid (Z.length=4):=Oh (by rw[hZ];rfl);rw[←hZ] at HSM;rw[←hB] at Mk Ov;have HL:=Oh Ov;clear hb hm hcl Ov hZ hB;go_enter func58,ntmps58;go_wp2_with fail;refine HSM.out.mono ?_;rintro e w1 ⟨rfl,b1⟩;have aS:=Oh b1;clear b1 HSM
 obtain⟨z0,z1,z2,z3,rfl⟩:∃a b c d,Z=[a,b,c,d]:=by
  have h:=HZ.out
  match Z,h with
  | [a,b,c,d],_=>exact⟨a,b,c,d,rfl⟩
 go_upto_region 2 with(first|(refine wpList_store_row rfl 194 _ _ rfl w1.heap.size (bvs [z0,z1,z2,z3]).toArray rfl rfl 194 _ (Blk.new w1 _ _) lK rfl (by simp[bvs,bv,Value.oneCell']) ?_)|fail);have HSB:Hid (Blk ((w1.alloc (.cells #[.int .u8 0,.int .u8 0,.int .u8 0,.int .u8 0] 194)).setRow w1.heap.size (bvs [z0,z1,z2,z3]).toArray) w1.heap.size 194 (bvs [z0,z1,z2,z3]).toArray):=Oh (setRow_heap _ _ _ _ _ _ (Blk.new w1 _ _));have Qq:Hid (Below w.heap.size w ((w1.alloc (.cells #[.int .u8 0,.int .u8 0,.int .u8 0,.int .u8 0] 194)).setRow w1.heap.size (bvs [z0,z1,z2,z3]).toArray)):=Oh (below_setRow (aS.out.alloc aS.out.size _) aS.out.size _);generalize(w1.alloc (.cells #[.int .u8 0,.int .u8 0,.int .u8 0,.int .u8 0] 194)).setRow w1.heap.size (bvs [z0,z1,z2,z3]).toArray=W1 at*;generalize hs:w1.heap.size=s at*;clear hs aS;generalize([z0,z1,z2,z3]:List UInt8)=Z at*;refine wp_region_noPanic ?_;refine ag (S:=(fun(_:World)=>True)) (L:=3) ok' trivial (fun hHeld=>?_);have AC:Hid (Blk W1.drew s 194 (bvs Z).toArray):=Oh HSB.out.drew;have oK:Hid (Below w.heap.size w W1.drew):=Oh Qq.out.drew;clear HSB Qq;generalize W1.drew=Wd at*;refine tV 1 ?_;refine fV 4 ?_;refine eN (i:=0) (j:=2) ok' ?_ ?_
 ·refine rX fun K hK=>?_;go_simp;have RL:Hid (ak (Wd.alloc (.cells #[.int .u8 120,.int .u8 1] 5)) w.heap.size (some ⟨Wd.heap.size,0,none⟩) 2 [120,1]):=Oh (Own.made Wd _ _ _ #[.int .u8 120,.int .u8 1] 2 oK.out.size (by unfold maxLen;omega) rfl);have By:=Oh (AC.out.alloc (.cells #[.int .u8 120,.int .u8 1] 5));have aS:=Oh (oK.out.alloc oK.out.size (.cells #[.int .u8 120,.int .u8 1] 5));obtain⟨N,hN⟩:=nm (Wd.heap.size);rw[←hN] at RL ⊢;clear hN;generalize Wd.alloc (.cells #[.int .u8 120,.int .u8 1] 5)=v1 at*;replace hHeld:=trivial;refine hK.out _ _ hHeld ?_;clear hK K;try go_simp
  refine bO 2 fun K hK=>?_;go_simp;refine(Mk.out _ aS.out).mono ?_;rintro e v2 ⟨A2,c2,rfl,o2,b2⟩;have nO:Hid (ak v2 w.heap.size A2 c2 B):=Oh (Own.mono (show Own v2 _ 5 1 A2 B.length c2 (bvs B) from o2) aS.out.size);have uN:=Oh (By.out.below b2 By.out.lt);have bY:=Oh (aS.out.trans (b2.mono aS.out.size));have Qz:Hid (ak v2 w.heap.size (some ⟨N,0,none⟩) 2 [120,1]):=Oh (Own.below (show Own v1 w.heap.size 5 1 (some ⟨N,0,none⟩) 2 2 (bvs [120,1]) from RL.out) b2);clear o2 b2;replace hHeld:=trivial;refine hK.out _ _ hHeld ?_;clear hK K;try go_simp
  refine iV 3 fun K hK=>?_;refine bo (xs:=bvs [120,1]) rfl rfl bu (by simp[Act.eval]<;>rfl) (show Own v2 w.heap.size 5 1 (some ⟨N,0,none⟩) 2 2 (bvs [120,1]) from Qz.out) (by simp[Act.eval]<;>rfl) (ak.reads nO.out) (aO _) (2+B.length) rfl (bvs ([120,1]++B)) (aE _ _).symm (by have:=HL.out;unfold maxLen;omega) (by have:=HL.out;omega) bY.out.size ?_;intro A3 c3 v3 o3 g3 q3;have sO:Hid (Own v3 w.heap.size 5 1 A3 (2+B.length) c3 (bvs ([120,1]++B))):=Oh o3;have fR:Hid (Below w.heap.size w v3):=Oh (bY.out.grown g3 bY.out.size (fun i hi=>(Own.block (show Own v2 w.heap.size 5 1 (some ⟨N,0,none⟩) 2 2 (bvs [120,1]) from Qz.out) hi).1));have Pp:Hid (Blk v3 s 194 (bvs Z).toArray):=Oh (uN.out.grown g3 (fun e=>Own.ne_blk (show Own v2 w.heap.size 5 1 (some ⟨N,0,none⟩) 2 2 (bvs [120,1]) from Qz.out) uN.out od e.symm));clear o3 g3 q3;refine hK.out _ _ ?_;clear hK K;try go_simp
  refine Gc 5 fun K hK=>?_;refine bo (xs:=bvs ([120,1]++B)) rfl rfl bu (by simp[Act.eval]<;>rfl) sO.out (by simp[Act.eval]<;>rfl) (show am v3 v3.heap.size 1 (some ⟨s,0,none⟩) 4 (bvs Z) from am.lit Pp.out rfl (by rw[bj,HZ.out])) (aO _) (2+B.length+4) rfl (bvs ([120,1]++B++Z)) (aE _ _).symm (by have:=HL.out;unfold maxLen;omega) (by have:=HL.out;omega) fR.out.size ?_;intro A5 c5 v5 o5 g5 q5;have RZ:Hid (Own v5 w.heap.size 5 1 A5 (2+B.length+4) c5 (bvs ([120,1]++B++Z))):=Oh o5;have OE:Hid (Below w.heap.size w v5):=Oh (fR.out.grown g5 fR.out.size (fun i hi=>(Own.block sO.out hi).1));clear o5 g5 q5;refine hK.out _ _ ?_;clear hK K;try go_simp
  refine aA 6 ?_;refine cD ?_;go_wp2_with fail;go_ret;have el:([120,1]++B++Z).length=2+B.length+4:=by rw[Ok,Ok,HZ.out];simp<;>omega
  exact⟨A5,c5,by rw[HX.out,el];rfl,by rw[HX.out];unfold ak;rw[el];exact RZ.out,OE.out⟩
 ·refine rX fun K hK=>?_;go_simp;refine(Mk.out _ oK.out).mono ?_;rintro e v1 ⟨A2,c2,rfl,o2,b2⟩;have IF:Hid (ak v1 w.heap.size A2 c2 B):=Oh (Own.mono (show Own v1 _ 5 1 A2 B.length c2 (bvs B) from o2) oK.out.size);have By:=Oh (AC.out.below b2 AC.out.lt);have aS:=Oh (oK.out.trans (b2.mono oK.out.size));clear o2 b2;replace hHeld:=trivial;refine hK.out _ _ hHeld ?_;clear hK K;try go_simp
  refine bO 0 fun K hK=>?_;go_simp;have Qz:Hid (ak (v1.alloc (.cells #[.int .u8 120,.int .u8 1] 5)) w.heap.size (some ⟨v1.heap.size,0,none⟩) 2 [120,1]):=Oh (Own.made v1 _ _ _ #[.int .u8 120,.int .u8 1] 2 aS.out.size (by unfold maxLen;omega) rfl);have uN:=Oh (By.out.alloc (.cells #[.int .u8 120,.int .u8 1] 5));have bY:=Oh (aS.out.alloc aS.out.size (.cells #[.int .u8 120,.int .u8 1] 5));have nO:Hid (ak (v1.alloc (.cells #[.int .u8 120,.int .u8 1] 5)) w.heap.size A2 c2 B):=Oh (Own.alloc (show Own v1 w.heap.size 5 1 A2 B.length c2 (bvs B) from IF.out) _);obtain⟨N,hN⟩:=nm (v1.heap.size);rw[←hN] at Qz ⊢;clear hN;generalize v1.alloc (.cells #[.int .u8 120,.int .u8 1] 5)=v2 at*;replace hHeld:=trivial;refine hK.out _ _ hHeld ?_;clear hK K;try go_simp
  refine iV 3 fun K hK=>?_;refine bo (xs:=bvs [120,1]) rfl rfl bu (by simp[Act.eval]<;>rfl) (show Own v2 w.heap.size 5 1 (some ⟨N,0,none⟩) 2 2 (bvs [120,1]) from Qz.out) (by simp[Act.eval]<;>rfl) (ak.reads nO.out) (aO _) (2+B.length) rfl (bvs ([120,1]++B)) (aE _ _).symm (by have:=HL.out;unfold maxLen;omega) (by have:=HL.out;omega) bY.out.size ?_;intro A3 c3 v3 o3 g3 q3;have sO:Hid (Own v3 w.heap.size 5 1 A3 (2+B.length) c3 (bvs ([120,1]++B))):=Oh o3;have fR:Hid (Below w.heap.size w v3):=Oh (bY.out.grown g3 bY.out.size (fun i hi=>(Own.block (show Own v2 w.heap.size 5 1 (some ⟨N,0,none⟩) 2 2 (bvs [120,1]) from Qz.out) hi).1));have Pp:Hid (Blk v3 s 194 (bvs Z).toArray):=Oh (uN.out.grown g3 (fun e=>Own.ne_blk (show Own v2 w.heap.size 5 1 (some ⟨N,0,none⟩) 2 2 (bvs [120,1]) from Qz.out) uN.out od e.symm));clear o3 g3 q3;refine hK.out _ _ ?_;clear hK K;try go_simp
  refine Gc 5 fun K hK=>?_;refine bo (xs:=bvs ([120,1]++B)) rfl rfl bu (by simp[Act.eval]<;>rfl) sO.out (by simp[Act.eval]<;>rfl) (show am v3 v3.heap.size 1 (some ⟨s,0,none⟩) 4 (bvs Z) from am.lit Pp.out rfl (by rw[bj,HZ.out])) (aO _) (2+B.length+4) rfl (bvs ([120,1]++B++Z)) (aE _ _).symm (by have:=HL.out;unfold maxLen;omega) (by have:=HL.out;omega) fR.out.size ?_;intro A5 c5 v5 o5 g5 q5;have RZ:Hid (Own v5 w.heap.size 5 1 A5 (2+B.length+4) c5 (bvs ([120,1]++B++Z))):=Oh o5;have OE:Hid (Below w.heap.size w v5):=Oh (fR.out.grown g5 fR.out.size (fun i hi=>(Own.block sO.out hi).1));clear o5 g5 q5;refine hK.out _ _ ?_;clear hK K;try go_simp
  refine aA 6 ?_;refine cD ?_;go_wp2_with fail;go_ret;have el:([120,1]++B++Z).length=2+B.length+4:=by rw[Ok,Ok,HZ.out];simp<;>omega
  exact⟨A5,c5,by rw[HX.out,el];rfl,by rw[HX.out];unfold ak;rw[el];exact RZ.out,OE.out⟩
end De
section
open Pl Wi
theorem F2(l:List UInt8)(h:l.length≤65535):(Df.pA l).length≤l.length+5:=by
 have h1:(Df.dp l).length≤l.length+5:=by
  unfold Df.dp;rw[Bt.aU,show Df.kQ 17 [] l=Df.oX [] 1 l by unfold Df.kQ;rw[if_pos h]];unfold Df.oX;simp only[Ok,Bt.cG,Bt.ao,Bt.dM,List.length_nil];omega
 unfold Df.pA;split
 ·exact h1
 ·omega
def JH(v k:Nat)(t:List UInt8):List UInt8:=if v=1 then MP k t else if v=2 then ip k t else MO k t.length (De.pu t)
section
variable {w:World} {p:Nat}
theorem gp{cs:Array Value}(hb:Blk w p 103 cs)(k:Nat)(hk:cs[0]?=some (.int .u8 (k:Int)))(QM:1≤k)(Xj:k≤4)(t:List UInt8)(ht:t.length<65535)(v:Nat)(hv:v=1∨v=2∨v=3)(HT:Hid (∀V,Below w.heap.size w V→Cl 29 #[.pointer (some ⟨p,0,none⟩)] V fun e w'=>∃A c,e=.returned (.slice A t.length c)∧ak w' V.heap.size A c t∧Below V.heap.size V w')):
  Cl 17 #[.pointer (some ⟨p,0,none⟩),.int .i64 (v:Int)] w fun e w'=>∃A c,e=.returned (.tuple #[.slice A (JH v k t).length c,.int .i64 0])∧ak w' w.heap.size A c (JH v k t)∧Below w.heap.size w w':=by
 have Ov:=F2 t oq
 have hz:(De.pu t).length≤60000000:=by
  unfold De.pu De.Cb;simp only[Ok,List.length_cons,List.length_nil];omega
 rcases hv with rfl|rfl|rfl
 ·exact Lq hb k hk t (MP k t) HT (Oh fun V A c hB _=>Nc k A c t V QM Xj hB oq)
 ·exact Lp hb k hk t (ip k t) HT (Oh fun V A c hB _=>FB k A c t V QM Xj hB oq)
 ·exact Lo hb k hk t (MO k t.length (De.pu t)) HT (Oh fun V A c hB hc=>L9 k A c t (De.pu t) V QM Xj hB oq hz (Oh fun W hW=>De.KZ A c t W hW ht hc oq))
end
section
variable {w:World} {b b2:Nat} {lo hi d:Int} {u m:Nat} {g:Bool} {L L2:List Pr} {e e2:Ent}
theorem Ee(he:jE lo hi d u m g b L e)(hh:ar e.I e.F w)(RU:jE lo hi d u m g b2 L2 e2)(Zd:ar e2.I e2.F w)(Vt:∀i,e.F i→¬e2.F i)(hf:fl L)(OT:fl L2)(hl:L.length+L2.length≤1000000)(ht:tot L+tot L2≤4611686018427387904)(co:Value):
  Cl 69 #[.pointer (some ⟨e.p,0,none⟩),.pointer (some ⟨e2.p,0,none⟩),co] w fun o w'=>o=.returned (.int .i64 0)∧cT (jE lo hi d u m g (max b b2) (az L L2)) e.p e.F w w':=by
 have By:=Oh (fun V (hv:Below w.heap.size w V)=>oA RU (Zd.below hv));have uN:=Oh (fun V (hv:Below w.heap.size w V)=>oA he (hh.below hv));obtain⟨p,q,gm,bm,rfl,Pa⟩:=he;obtain⟨p2,q2,Zg,Xh,rfl,acp⟩:=RU;obtain⟨hb,hx⟩:=hh.it;obtain⟨aT,hx2⟩:=Zd.it;have hqq:q≠q2:=fun h=>Vt q (.inr (.inl rfl)) (.inr (.inl h));have OO:bm≠Xh:=fun h=>Vt bm (.inr (.inr (.inr rfl))) (.inr (.inr (.inr h)));refine(Lx hb aT lo hi d g 0 0 co 0 (fun V w'=>Hst w' q gm bm lo hi d u m g (max b b2) (az L L2)∧ab (HK q bm) V w') By uN (Oh fun V hv=>IE (hx.below hv) (hx2.below hv) hf OT hqq OO hl ht)).mono ?_;rintro o w' ⟨rfl,V,hv,hs,k⟩;exact⟨rfl,cT.pre (jr (hb.below hv hb.lt) Pa hs.held (nl k) ⟨p,q,gm,bm,rfl,Pa⟩) hv⟩
theorem LV(he:jE lo hi d u m g b L e)(hh:ar e.I e.F w)(hf:fl L)(gE:1≤m)(hm:m≤18)(lE:u+m≤62)(num den:Nat)(q:Pr)(k:Nat)(h0:1≤den)(h1:num≤den)(uP:den<16384)(hn:1≤tot L)(Pd:num*tot L<18446744073709551615)(hr:max 1 (df (num*tot L) den)≤tot L)(hp:L[rix L (max 1 (df (num*tot L) den))]?=some q)(hk:q.1=(k:Int))(hv:Hdr.db u m k<2^63):
  Cl 70 #[.pointer (some ⟨e.p,0,none⟩),.int .u64 (num:Int),.int .u64 (den:Int)] w fun o w'=>o=.returned (.tuple #[.agg #[.int .i64 (JN u m k:Nat),.bool false,.int .u64 ((0:Nat):Int)],.int .i64 0])∧Below w.heap.size w w':=by
 obtain⟨p,q1,gm,bm,rfl,Pa⟩:=he;obtain⟨hb,hx⟩:=hh.it;exact jAt num den _ false 0 (Oh fun W hw=>Ob (hb.below hw hb.lt) num den _ (Oh fun V PF=>Nm ((hx.below hw).below PF) hf gE hm lE num den q k h0 h1 uP hn Pd hr hp hk hv))
end
section
variable {w:World} {lo D hi b R:Nat} {L:List Pr} {e:Ent}
theorem fo(lo hi D:Nat)(g:Bool)(R:Nat)(L:List Pr)(h1:lo≤9223372036854775807)(h2:hi≤9223372036854775807)(h3:D≤5):(hwF D lo R (an L)).length≤18*L.length+49∧(bD lo hi D g (hwF D lo R (an L))).length≤18*L.length+80:=by
 have hcl:=iK L;have l1:=af (show lo<18446744073709551616 by omega);have l2:=af (show hi<18446744073709551616 by omega);have l3:=af (show D<18446744073709551616 by omega);have hw:(hwF D lo R (an L)).length=40+(an L).length:=by unfold hwF;rw[Ok,eP]
 unfold bD;simp only[Ok,aJ];omega
structure Kj(lo hi D b R:Nat)(L:List Pr):Prop where
 fin:fl L
 d1:1≤D
 d5:D≤5
 lo1:1≤lo
 hi2:2*lo≤hi
 R2:2*lo≤R
 hiM:hi≤9223372036854775807
 RM:R≤9223372036854775807
 um:Hdr.uOf lo+Hdr.mOf D≤62
 b1:1≤b
 b64:b≤64
 reach:dU (hi:Int) (Hdr.uOf lo) (Hdr.mOf D) b=(R:Int)
 bR:b=1+Hdr.Hd.bk (Hdr.uOf lo) (Hdr.mOf D) R
 bR2:b=iu (Hdr.uOf lo) (Hdr.mOf D) b L
 bhi:b=iu (Hdr.uOf lo) (Hdr.mOf D) (1+Hdr.Hd.bk (Hdr.uOf lo) (Hdr.mOf D) hi) L
 km:∀p∈L,p.1<(((b+1)*Hdr.Hd.ax (Hdr.mOf D):Nat):Int)
 v:∀p∈L,Hdr.dS (Hdr.uOf lo) (Hdr.mOf D) p.1.toNat=false∧Hdr.db (Hdr.uOf lo) (Hdr.mOf D) p.1.toNat<2^63
 len:L.length≤1000
theorem Ef(h:Kj lo hi D b R L)(A:Option Addr)(c:Nat)(w:World)(ht:Bts w w.heap.size A (bD lo hi D true (hwF D lo R (an L)))):
  Cl 27 #[.int .u8 1,.slice A (bD lo hi D true (hwF D lo R (an L))).length c] w (eH (jE (lo:Int) (hi:Int) (D:Int) (Hdr.uOf lo) (Hdr.mOf D) true b L) w):=by
 have P4:lo≤9223372036854775807:=by have:=h.hi2;have:=h.hiM;omega
 obtain⟨l1,l2⟩:=fo lo hi D true R L P4 h.hiM h.d5;have hlen:=h.len;refine LH A c _ w _ ht oq (Oh fun W p A' c' hw hblk hp ho=>?_) (Oh fun W f hf hh=>oz true hf hh h.fin h.um h.hiM h.b1 h.b64 h.d5 P4 R h.reach h.RM oq);refine(Bq hblk A' c' lo hi D b (Hdr.uOf lo) (Hdr.mOf D) (R:Int) _ L (ak.reads (show ak W w.heap.size A' c' _ from ho)) (kx ho) P4 h.hiM h.d5 oq h.fin (Oh fun V A1 c1 hB hc=>?_) (Oh fun V A1 c1 hB=>?_)).mono ?_
 ·refine(E7 A1 c1 lo D R L V hB hc h.fin h.d1 h.d5 h.lo1 h.R2 h.RM h.um (by have:=h.km;rw[h.bR] at this;exact this) h.v (by have:=h.bR2;rw[h.bR] at this;exact this)).mono ?_;rintro e w' ⟨q,gm,bm,rfl,_,_,_,hs,hb⟩;exact⟨q,gm,bm,rfl,by rw[h.bR];exact hs,hb⟩
 ·exact yX lo D hi true A1 c1 L b V hB h.fin h.d1 h.d5 h.lo1 (by have:=h.hi2;omega) (by have:=h.hiM;omega) h.um h.v (by rw[Int.toNat_natCast];exact h.bhi) (.inl rfl)
 ·rintro e w' ⟨rfl,q,gm,bm,V,⟨hs,a1,a2,a3⟩,hV,rfl⟩
  have hF:∀i,HF q gm bm i→W.heap.size≤i:=by
   rintro i (rfl|rfl|rfl)<;>assumption
  exact⟨rfl,p7 p q gm bm lo hi D _ _ true b L,rfl,⟨p,q,gm,bm,rfl,jh hblk hF⟩,fI hblk hV hs.held hF rfl⟩
end
theorem zK(S:Ent→Prop)(k:Nat)(t:List UInt8)(A:Option Addr)(c lim:Nat)(w:World)(h1:1≤k)(h2:k≤4)(hb:Bts w w.heap.size A (ip k t))(hc:(ip k t).length≤c)(hl:t.length≤100000)(a0n:t.length≤lim)(VM:lim≤1048576)(HR:Hid (∀W A' c',Bts W W.heap.size A' t→Cl 27 #[.int .u8 (k:Int),.slice A' t.length c'] W (eH S W))):
  Cl 16 #[.slice A (ip k t).length c,.int .i64 (lim:Int)] w (eH S w):=
 It A _ c lim k t w S (Oh (BD k t A c lim w h1 h2 hb hc hl a0n VM)) (Oh fun W A' c' _ ho=>HR.out W A' c' (ak.reads ho))
end
section
open Pl Sc Wi
theorem gA(pre rest:List UInt8){lo hi n:Nat}(h1:lo≤n)(h2:n≤hi)(h3:n<18446744073709551616):eE lo hi (pre++(leb n++rest)) pre.length=some (n,(pre++leb n).length):=by
 have hd:=gi 9 0 0 n rfl oq (by unfold room;omega) oq rest;unfold eE;rw[List.drop_left,hd];dsimp only;rw[if_pos ⟨rfl,oq,oq⟩,Ok];simp
theorem N5{k:Int}(h0: -1048576≤k)(h1:k≤1048576):sg (zk k)=k:=by unfold sg zk;split<;>omega
theorem pI(pre rest:List UInt8){k:Int}(h0: -1048576≤k)(h1:k≤1048576):m8 none (pre++(fO none k++rest)) pre.length=some (k,(pre++fO none k).length):=by
 have hz:=cu k;have hs:=bK hz;have hd:=gi 9 0 0 (bG (zk k)) rfl oq (by unfold room;omega) oq rest;rw[Nat.zero_add,Nat.zero_add,Nat.pow_zero,Nat.mul_one] at hd;unfold m8;dsimp only;rw[List.drop_left];unfold fO jC;rw[hd];dsimp only;rw[iC hz,N5 h0 h1,if_pos ⟨rfl,h0,h1⟩,Ok]
theorem pH(pre rest:List UInt8){q k:Int}(hq: -1048576≤q)(h0:q<k)(h1:k≤1048576):m8 (some q) (pre++(fO (some q) k++rest)) pre.length=some (k,(pre++fO (some q) k).length):=by
 unfold m8 fO;dsimp only;rw[gA pre rest (Nat.zero_le _) oq oq];dsimp only;rw[show q+1+(((k-q-1).toNat:Nat):Int)=k by omega]
theorem AZ(pre rest:List UInt8){pv:Option Int}{x:Pr}(hq:∀q,pv=some q→ -1048576≤q∧q<x.1)(h0: -1048576≤x.1)(h1:x.1≤1048576)(h2:0<x.2)(h3:x.2≤4611686018427387904):ex pv (pre++(fO pv x.1++(leb x.2++rest))) pre.length=some (x,(pre++(fO pv x.1++leb x.2)).length):=by
 have hk:m8 pv (pre++(fO pv x.1++(leb x.2++rest))) pre.length=some (x.1,(pre++fO pv x.1).length):=by
  cases pv with
  |none=>exact pI pre _ h0 h1
  |some q=>exact pH pre _ (hq q rfl).1 (hq q rfl).2 h1
 unfold ex;rw[hk];dsimp only;rw[←List.append_assoc,gA (pre++fO pv x.1) rest oq h3 oq];dsimp only;rw[List.append_assoc]
theorem nc:∀(L:List Pr) (pv:Option Int) (pre rest:List UInt8),Srt L→Pos L→eD L→(∀p∈L,p.2≤4611686018427387904)→(∀q,pv=some q→ -1048576≤q∧∀x∈L,q<x.1)→cH L.length pv (pre++(eo pv L++rest)) pre.length=some (L,(pre++eo pv L).length)
 | [],pv,pre,rest,_,_,_,_,_=>by
  unfold cH eo;simp
 |x::L,pv,pre,rest,hs,hp,hk,hn,hq=>by
  obtain⟨s1,s2⟩:=List.pairwise_cons.1 hs;have hx:=hk x os';have hpx:=(aH.1 hp).1;have Le:=hn x os'
  have e1:eo pv (x::L)=fO pv x.1++(leb x.2++eo (some x.1) L):=by
   rw[show eo pv (x::L)=fO pv x.1++leb x.2++eo (some x.1) L from rfl,List.append_assoc]
  rw[e1,List.length_cons,iG,List.append_assoc,List.append_assoc,AZ pre (eo (some x.1) L++rest) (fun q h=>⟨(hq q h).1,(hq q h).2 x os'⟩) hx.1 hx.2 hpx Le];dsimp only;have e2:pre++(fO pv x.1++(leb x.2++(eo (some x.1) L++rest)))=(pre++(fO pv x.1++leb x.2))++(eo (some x.1) L++rest):=by simp only[List.append_assoc]
  rw[e2,nc L (some x.1) (pre++(fO pv x.1++leb x.2)) rest s2 (aH.1 hp).2 (fun q h=>hk q (by simp[h])) (fun q h=>hn q (by simp[h])) (fun q h=>by injection h with h;subst h;exact⟨hx.1,fun y hy=>s1 y hy⟩)];simp only[List.append_assoc]
theorem FH{L:List Pr}{p:Pr}(h:p∈L):p.2≤tot L:=by
 induction L with
 |nil=>cases h
 |cons x L ih=>
  rw[aK];rcases List.mem_cons.1 h with rfl|h
  ·omega
  ·have:=ih h;omega
theorem wX{a m f:Nat}{L:List Pr}(hk:ey a m L f)(hs:Srt L)(hp:Pos L)(hl:L.length≤m)(Gt:100≤a)(ha:a≤5000)(oS:2≤m)(gE:m≤4096):fU (iX a m L f)=some (a,m,L,f):=by
 have hF:f≤4611686018427387904:=by
  rcases hk.fold with h0|⟨_,x,R,hx,h2⟩
  ·omega
  ·have:=hk.tot;rw[hx,aK] at this;omega
 have hD:iX a m L f=leb a++(leb m++(leb L.length++(leb f++eo none L))):=by
  unfold iX mm;simp only[List.append_assoc]
 have St:=bV a;have YR:eD L:=fun q hq=>by have:=hk.keys q hq;omega
 obtain⟨D,hDD⟩:=nm (iX a m L f);rw[←hDD] at hD ⊢
 have n1:eE 100 5000 D 0=some (a,(leb a).length):=by
  have:=gA [] (leb m++(leb L.length++(leb f++eo none L))) (lo:=100) (hi:=5000) Gt ha oq;rw[hD];simpa using this
 have n2:eE 2 4096 D (leb a).length=some (m,(leb a++leb m).length):=by
  have:=gA (leb a) (leb L.length++(leb f++eo none L)) (lo:=2) (hi:=4096) oS gE oq;rw[hD];exact this
 have n3:eE 0 m D (leb a++leb m).length=some (L.length,(leb a++leb m++leb L.length).length):=by
  have:=gA (leb a++leb m) (leb f++eo none L) (lo:=0) (hi:=m) (n:=L.length) oq hl oq;rw[hD,←this];simp only[List.append_assoc]
 have n4:eE 0 4611686018427387904 D (leb a++leb m++leb L.length).length=some (f,(leb a++leb m++leb L.length++leb f).length):=by
  have:=gA (leb a++leb m++leb L.length) (eo none L) (lo:=0) (hi:=4611686018427387904) (n:=f) oq hF oq;rw[hD,←this];simp only[List.append_assoc]
 have n5:cH L.length none D (leb a++leb m++leb L.length++leb f).length=some (L,D.length):=by
  have:=nc L none (leb a++leb m++leb L.length++leb f) [] hs hp YR (fun p h=>Oo (FH h) hk.tot) (fun q h=>by cases h);rw[List.append_nil] at this;rw[hD];simp only[List.append_assoc] at this ⊢;exact this
 unfold fU;rw[n1];dsimp only;rw[n2];dsimp only;rw[n3];dsimp only;rw[n4];dsimp only;rw[n5];dsimp only;rw[if_pos ⟨rfl,hk,hDD.symm⟩]
theorem nk{a m f:Nat}{L:List Pr}(hk:ey a m L f):f≤4611686018427387904:=by
 rcases hk.fold with h0|⟨_,x,R,hx,h2⟩
 ·omega
 ·have:=hk.tot;rw[hx,aK] at this;omega
theorem xi{a m f:Nat}{L:List Pr}(hk:ey a m L f)(hs:Srt L)(hp:Pos L)(gE:m≤4096)(hl:L.length≤m):aV L:=
 ⟨hs,hp,fun q hq=>by have:=hk.keys q hq;have:=bV a;omega,hk.tot,oq⟩
end
section
open Sc
def jQ(a:Nat)(v:Int):Int:=if v=0 then 0 else if v<0 then-((1+ix (aB a) (-v).toNat:Nat):Int) else((1+ix (aB a) v.toNat:Nat):Int)
end
section
open Pl Sc
theorem Aq(g:Nat)(w:World):
  Cl 196 #[.pointer (some ⟨g,0,none⟩),.int .i64 0] w (Rb (.tuple #[.int .i64 0,.int .i64 0]) w):=by
 go_enter func196,ntmps196;go_wp2_with fail;go_ret2;exact⟨rfl,(Ba).alloc os' _⟩
theorem CU(g:Nat)(w:World):
  Cl 196 #[.pointer (some ⟨g,0,none⟩),.int .i64 (-9223372036854775808)] w (Rb (.tuple #[.int .i64 0,.int .i64 5]) w):=by
 go_enter func196,ntmps196;go_wp2_with fail;go_ret2;exact⟨rfl,(Ba).alloc os' _⟩
theorem CT(g c a:Nat)(A:Option Addr)(T:List cK)(v:Nat)(w:World)(h:Scl w g A c a T)(hT:T.length≤100000)(hs:ph T)(Pc:1≤v)(MK:v≤9223372036854775807)(u:Int)(hu:u= -(v:Int)):
  Cl 196 #[.pointer (some ⟨g,0,none⟩),.int .i64 u] w (Rb (.tuple #[.int .i64 (-((1+ix T v:Nat):Int)),.int .i64 0]) w):=by
 have HK:=Oh (fun W (h:Scl W g A c a T)=>Fq g c a A T v W h hT hs Pc MK);have HH:=Oh h;have hle:=G8 T v;obtain⟨q,hq⟩:=nm (1+ix T v);rw[←hq] at HK ⊢;have hqb:(q:Int)≤100001:=oq;have x1:(u== -9223372036854775808)=false:=sq;have x2:(u==0)=false:=sq;have x3:decide (u<0)=true:=sq;have x4: -u=(v:Int):=oq;have x5:wrap64 (v:Int)=(v:Int):=by unfold wrap64;omega
 clear h hT hs hle hq Pc MK hu;go_enter func196,ntmps196;go_wp2_with fail;have aT:Below w.heap.size w ((w.alloc (.cells #[.pointer (some ⟨g,0,none⟩)] 266)).alloc (.cells #[.int .i64 u] 2)):=(Ba).alloc os' _;refine(HK.out _ (HH.out.below aT)).mono ?_;rintro e w2 ⟨rfl,b2⟩;have HB:=Oh (aT.trans (b2.mono aT.size));clear aT b2;go_wp2_with fail;go_ret2;exact⟨rfl,HB.out⟩
theorem KJ(g c a:Nat)(A:Option Addr)(v:Int)(w:World)(h:Scl w g A c a (aB a))(Gt:100≤a)(ha:a≤5000)(Pc: -9223372036854775807≤v)(MK:v≤9223372036854775807):
  Cl 196 #[.pointer (some ⟨g,0,none⟩),.int .i64 v] w (Rb (.tuple #[.int .i64 (jQ a v),.int .i64 0]) w):=by
 have hl:=bV a;unfold jQ;rcases Int.lt_trichotomy v 0 with h0|h0|h0
 ·rw[if_neg oq,if_pos h0];exact CT g c a A (aB a) (-v).toNat w h oq (gM Gt ha) oq oq v oq
 ·subst h0;rw[if_pos rfl];exact Aq g w
 ·rw[if_neg oq,if_neg oq];have:=Fq g c a A (aB a) v.toNat w h oq (gM Gt ha) oq oq
  rwa [Int.toNat_of_nonneg oq] at this
section
variable {p q cs a g gl c:Nat} {As A:Option Addr} {m:Int} {all:List Pr} {w:World} (h:Skt w p q As cs a g gl A c m all)
include h
theorem Jh(v:Int)(n:Nat)(Gt:100≤a)(ha:a≤5000)(hf:aV all)(hl:all.length<100000)(oS:2≤m)(gE:m≤4097)(Pc: -9223372036854775807≤v)(MK:v≤9223372036854775807)(hn:1≤n):
  Cl 135 #[.pointer (some ⟨p,0,none⟩),.int .i64 v,.int .u64 (n:Int)] w fun e w'=>e=.returned (.int .i64 (cq all (jQ a v) n 0).2)∧∃A' c',Skt w' p q As cs a g gl A' c' m (cq all (jQ a v) n 0).1∧eB g gl A m (cq all (jQ a v) n 0).1 w w' A' c':=by
 have c0:=h.c0;have c1:=h.c1;have HK:=Oh (KJ q cs a As v w h.scl Gt ha Pc MK);have Y1:=Oh (fun W (h:Sto W g gl A c m all)=>KN g gl A c m all (jQ a v) n W h hf hl oS gE);have HH:=Oh h;have hp:=h.blk.lt;have x1:((n:Int)==0)=false:=sq;have x2:(n==0)=false:=sq;clear h hf hl oS gE Pc MK hn Gt ha;generalize cq all (jQ a v) n 0=R at*;generalize jQ a v=K at*;obtain⟨R1,R2⟩:=R;dsimp only at*;go_enter func135,ntmps135;go_wp2_with fail;refine HK.out.mono ?_;rintro e w1 ⟨rfl,b1⟩;have H1:=Oh (HH.out.below b1);have B1:=Oh b1;have d1:=H1.out.c1;clear b1 c0 c1;go_wp2_with fail;refine(Y1.out w1 H1.out.sto).mono ?_;rintro e w2 ⟨rfl,A',c',k⟩;have OC:=Oh k;clear k;go_wp2_with fail;go_ret;have R4:eB g gl A m R1 w w2 A' c':=⟨OC.out.sto,(ab.of_below B1.out).trans (OC.out.only.step (ab.refl _ _) (fun i hi=>.inl hi)),fun x hx=>(OC.out.new x hx).imp id (fun h=>Oo B1.out.size h)⟩;exact⟨rfl,A',c',HH.out.stored R4,R4⟩
theorem BV(n:Nat)(hn:1≤n):
  Cl 135 #[.pointer (some ⟨p,0,none⟩),.int .i64 (-9223372036854775808),.int .u64 (n:Int)] w (Rb (.int .i64 5) w):=by
 have c0:=h.c0;have c1:=h.c1;have HK:=Oh (CU q w);have x1:((n:Int)==0)=false:=sq;have x2:(n==0)=false:=sq;clear h hn;go_enter func135,ntmps135;go_wp2_with fail;refine HK.out.mono ?_;rintro e w1 ⟨rfl,b1⟩;have B1:=Oh b1;clear b1 c0 c1;go_wp2_with fail;go_ret;exact⟨rfl,B1.out⟩
end
structure Few(all:List Pr)(i:Nat)(a:Nat):Prop where
 fine:aV all
 len:all.length≤i
 tot:tot all≤1099511627776000*i
 keys:∀p∈all,-((aB a).length:Int)≤p.1∧p.1≤((aB a).length:Int)
theorem Few.start(a:Nat):Few [] 0 a:=⟨aV.nil,Oi _,Oi _,fun p hp=>by cases hp⟩
theorem Ka{a v:Nat}(Gt:100≤a)(ha:a≤5000)(hv:v≤9223372036854775807):ix (aB a) v<(aB a).length:=by
 have hne:∃T low f,At a T low f∧(aX a low).2.2=9223372036854775807:=by
  have hgo:∀f T low,At a T low f→∃T low f,At a T low f∧(aX a low).2.2=9223372036854775807:=by
   intro f
   induction f with
   |zero=>intro T low h;exact absurd h.pos oq
   |succ f ih=>
    intro T low h
    by_cases he:(aX a low).2.2=9223372036854775807
    ·exact⟨T,low,f+1,h,he⟩
    ·exact ih _ _ ((h.step Gt ha).2 he)
  exact hgo _ _ _ (At.start a)
 obtain⟨T,low,f,hat,he⟩:=hne;have hs:=(hat.step Gt ha).1 he;have hi:(aB a)[T.length]?=some (aX a low):=by rw[hs];simp
 have h1:=FL (v:=v) (gM Gt ha) hi;rw[he] at h1;have h2:T.length<(aB a).length:=(List.getElem?_eq_some_iff.1 hi).1;rcases Nat.lt_or_ge (ix (aB a) v) (aB a).length with h|h
 ·exact h
 ·exact absurd (h1.2 oq) oq
theorem xg{a:Nat}{v:Int}(Gt:100≤a)(ha:a≤5000)(Pc: -9223372036854775807≤v)(MK:v≤9223372036854775807): -((aB a).length:Int)≤jQ a v∧jQ a v≤((aB a).length:Int):=by
 have h1:=Ka (v:=v.toNat) Gt ha oq;have h2:=Ka (v:=(-v).toNat) Gt ha oq;unfold jQ;split
 ·omega
 ·split<;>omega
theorem Few.put{all:List Pr}{i a:Nat}(h:Few all i a){k:Int}{n:Nat}(VZ: -((aB a).length:Int)≤k)(QM:k≤((aB a).length:Int))(hn:1≤n)(Sz:n≤1099511627776000)(hi:i≤100):Few (put all k n) (i+1) a∧cq all k n 0=(put all k n,0):=by
 have hl:=bV a;have ht:=h.tot;have Lt:=h.len;have htp:Pl.tot (Pl.put all k n)=Pl.tot all+n:=eI;refine⟨⟨vu h.fine oq oq oq oq oq,Oo kS oq,by rw[htp];omega,fun p hp=>?_⟩,?_⟩
 ·have hm:=gy (l:=all) (k:=k) (n:=n) p hp;rcases hm with h1|⟨q,hq,h1⟩
  ·rw[h1];exact⟨VZ,QM⟩
  ·rw[←h1];exact h.keys q hq
 ·rw[ml,if_neg oq,if_neg oq,if_neg oq]
end
section
open Pl Sc Wi
theorem xh{L:List Pr}(hp:Pos L){m:Nat}(hm:1≤m):(ah L (m:Int)).2=0∨((ah L (m:Int)).1.length:Int)=(m:Int)∧∃p R,(ah L (m:Int)).1=p::R∧(ah L (m:Int)).2<p.2:=by
 have e:dj (m:Int)=m:=by unfold dj;omega
 unfold ah;rw[e];split
 ·exact .inl rfl
 ·rename_i h;obtain⟨p,R,e1,e2,e3⟩:=jM (L:=L) (i:=L.length-m) oq;have:=hp p (Om e3);exact .inr ⟨by simp only[gJ];omega,_,R,e2,by simp only;omega⟩
theorem lG{L:List Pr}{i:Nat}:∀q∈fk L i,∃p∈L,p.1=q.1:=by
 intro q hq;unfold fk at hq
 cases hd:L.drop i with
 |nil=>rw[hd] at hq;cases hq
 |cons x R=>
  rw[hd] at hq;have hm:∀y∈x::R,y∈L:=fun y hy=>List.mem_of_mem_drop (i:=i) (by rw[hd];exact hy);rcases List.mem_cons.1 hq with rfl|hq
  ·exact⟨x,hm x os',rfl⟩
  ·exact⟨q,hm q (by simp[hq]),rfl⟩
theorem BW{L:List Pr}{m:Int}:∀q∈(ah L m).1,∃p∈L,p.1=q.1:=by
 intro q hq;unfold ah at hq;split at hq
 ·exact⟨q,hq,rfl⟩
 ·exact lG q hq
theorem ly{all:List Pr}{i a m:Nat}(h:Few all i a)(hm:2≤m):ey a m (ah all (m:Int)).1 (ah all (m:Int)).2∧Srt (ah all (m:Int)).1∧Pos (ah all (m:Int)).1∧(ah all (m:Int)).1.length≤m:=by
 have hf:=(eM h.fine (m:Int)).1;refine⟨⟨fun q hq=>?_,hf.tot,?_⟩,hf.srt,hf.pos,EP oq⟩
 ·obtain⟨p,hp,e⟩:=BW q hq;rw[←e];exact h.keys p hp
 ·rcases xh h.fine.pos (m:=m) oq with h1|⟨h1,p,R,h2,h3⟩
  ·exact .inl h1
  ·exact .inr ⟨oq,p,R,h2,h3⟩
theorem vw:∀(L:List Pr) (pv:Option Int),eD L→(∀p∈L,p.2≤4611686018427387904)→(∀q,pv=some q→ -1048576≤q)→(eo pv L).length≤20*L.length
 | [],pv,_,_,_=>Nat.zero_le _
 |p::L,pv,hk,hn,hq=>by
  have hp:=hk p os';have h1:=wi pv p.1 hp.1 hp.2 hq;have h2:=af (show p.2<18446744073709551616 by have:=hn p os';omega);have h3:=vw L (some p.1) (fun q h=>hk q (by simp[h])) (fun q h=>hn q (by simp[h])) (fun q h=>by injection h with h;omega);rw[show eo pv (p::L)=fO pv p.1++leb p.2++eo (some p.1) L from rfl,Ok,Ok,List.length_cons];omega
theorem zR{w:World}{p q cs a g gl c m:Nat}{As A:Option Addr}{all:List Pr}(h:Skt w p q As cs a g gl A c (m:Int) all)(ha:a≤5000)(oS:2≤m)(gE:m≤4096){i:Nat}(hf:Few all i a):
  Cl 55 #[.pointer (some ⟨p,0,none⟩)] w (zQ w (iX a m (ah all (m:Int)).1 (ah all (m:Int)).2)):=by
 obtain⟨k1,k2,k3,k4⟩:=ly hf oS (m:=m);exact yg p a m _ _ w (xi k1 k2 k3 gE k4) oq ha gE (nk k1) (we h hf.fine) (fun W hb=>pd (h.below hb)) (fun W hb=>lD (h.below hb)) (fun W hb=>qF (h.below hb))
section
variable {p q cs a g gl c p2 q2 cs2 g2 QB c2':Nat} {As A As2 A2:Option Addr} {m m2:Int} {all gO:List Pr} {w:World}
theorem J3(h:Skt w p q As cs a g gl A c m all)(h2:Skt w p2 q2 As2 cs2 a g2 QB A2 c2' m gO)(hf:aV all)(OT:aV gO)(hl:all.length+gO.length≤100000)(oS:2≤m)(gE:m≤4097):
  Cl 140 #[.pointer (some ⟨p,0,none⟩),.pointer (some ⟨p2,0,none⟩)] w fun e w'=>e=.returned (.int .i64 (bE all gO 0).2)∧∃A' c',Skt w' p q As cs a g gl A' c' m (bE all gO 0).1∧eB g gl A m (bE all gO 0).1 w w' A' c':=by
 have c1:=h.c1;have c2:=h2.c1;have HT:=Oh (fun W (h:Sto W g gl A c m all) (h2:Sto W g2 QB A2 c2' m gO)=>GK g gl g2 QB A A2 c c2' m all gO W h h2 hf OT hl oS gE);have HA1:=Oh (pd h);have T3:=Oh (pd h2);have HH:=Oh h;have HD:=Oh (show Skt w.drew p q As cs a g gl A c m all from h.below (Oq _ _).drew);have Pn:=Oh (show Skt w.drew p2 q2 As2 cs2 a g2 QB A2 c2' m gO from h2.below (Oq _ _).drew);clear h h2 hf OT hl oS gE;generalize bE all gO 0=R at*;obtain⟨R1,R2⟩:=R;dsimp only at*;go_enter func140,ntmps140;go_wp2_with fail;refine T3.out.mono ?_;rintro e w1 ⟨rfl,rfl⟩;go_wp2_with fail;refine HA1.out.mono ?_;rintro e w1 ⟨rfl,rfl⟩;go_wp2_with fail;refine wp_region_noPanic ?_;refine wp_region_held_drew (S:=(fun W=>W.cell? ⟨p,1,none⟩=some (.pointer (some ⟨g,0,none⟩))∧W.cell? ⟨p2,1,none⟩=some (.pointer (some ⟨g2,0,none⟩)))) ok' ⟨c1,c2⟩ (fun hHeld=>?_);refine tH 0 ?_;refine tH 1 ?_;refine tH 2 ?_;refine tH 3 ?_;refine tH 4 ?_;refine tH 5 ?_;refine tH 6 ?_;refine tH 7 ?_;refine dQ 8 fun K hK=>?_;go_simp;refine(HT.out w.drew HD.out.sto Pn.out.sto).mono ?_;rintro e w2 ⟨rfl,A',c',k2⟩;have uN:=Oh (HD.out.stored k2);have OC:=Oh k2;have d1:=uN.out.c1;have d2:=(Pn.out.blk.only k2.only (gQ HD.out.sto Pn.out.blk (by decide) (by decide) (by decide))).c1;clear k2;refine hK.out _ _ ?_ (fun hHeld=>?_)
 ·exact⟨d1,d2⟩
 clear hK K
 try go_simp
 refine tH 9 ?_;refine jR ?_;go_wp2_with fail;go_ret;have hk:eB g gl A m R1 w w2 A' c':=⟨OC.out.sto,(ab.of_below (Oq w.heap.size w).drew).trans OC.out.only,OC.out.new⟩;exact⟨rfl,A',c',uN.out,hk⟩
end
end
section
open Pl Sc
section
variable {p q cs a g gl c:Nat} {As A:Option Addr} {m:Int} {all:List Pr} {w:World}
theorem Ji(p:Nat)(v:Int)(w:World):
  Cl 135 #[.pointer (some ⟨p,0,none⟩),.int .i64 v,.int .u64 0] w (Rs (.int .i64 4) w):=by
 go_enter func135,ntmps135;go_wp2_with fail;go_ret;exact⟨rfl,rfl⟩
theorem Nw(h:Skt w p q As cs a g gl A c m all)(hf:aV all)(num den i:Nat)(s:cK)(h0:1≤den)(h1:num≤den)(uP:den<16384)(hn:1≤tot all)(Pd:num*tot all<18446744073709551615)(hr:max 1 (df (num*tot all) den)≤tot all)(hK:mu (ah all m).1 (max 1 (df (num*tot all) den))=(i:Int)+1)(hs:(aB a)[i]?=some s):
  Cl 206 #[.pointer (some ⟨p,0,none⟩),.int .u64 (num:Int),.int .u64 (den:Int)] w (Rb (.tuple #[.int .i64 (s.2.1:Int),.bool (lU all m (max 1 (df (num*tot all) den))),.int .i64 0]) w):=by
 have HT:=Oh (wa h hf);have HR:=Oh (fun W=>xT num den (tot all) W h0 h1 uP hn (by have:=hf.tot;omega) Pd);have HK:=Oh (fun W (hh:Skt W p q As cs a g gl A c m all)=>GS g gl A c m all W hh.sto (max 1 (df (num*tot all) den)) hf oq hr);have HM:=Oh (fun W (hh:Skt W p q As cs a g gl A c m all)=>yN q cs a As (aB a) i s W hh.scl (by have:=bV a;omega) hs ((i:Int)+1) rfl);have c1:=h.c1;have HH:=Oh h;rw[hK] at HK;generalize lU all m (max 1 (df (num*tot all) den))=V at*;generalize max 1 (df (num*tot all) den)=R at*;generalize((i:Int)+1)=K at*;generalize tot all=TT at*;clear h hf h0 h1 uP hn Pd hr hK hs;go_enter func206,ntmps206;go_wp2_with fail;refine HT.out.mono ?_;rintro e w1 ⟨rfl,rfl⟩;go_wp2_with fail;refine(HR.out _).mono ?_;rintro e w1 ⟨rfl,b1⟩;have B1:=Oh b1;have H1:=Oh (HH.out.below b1);have d1:=H1.out.c1;clear b1 c1;go_wp2_with fail;refine(HK.out _ H1.out).mono ?_;rintro e w2 ⟨rfl,b2⟩;have B2:=Oh (ai B1.out b2);have H2:=Oh (H1.out.below b2);have d0:=H2.out.c0;clear b2 d1;go_wp2_with fail;refine(HM.out _ H2.out).mono ?_;rintro e w3 ⟨rfl,b3⟩;have B3:=Oh (ai B2.out b3);clear b3 d0;go_wp2_with fail;go_ret3;exact⟨rfl,B3.out⟩
end
end
section
open Pl Sc Wi
def DKF(p q:Nat)(As:Option Addr)(g gl:Nat)(A:Option Addr)(i:Nat):Prop:=i=p∨i=q∨aa As=some i∨SK g gl A i
def rl(p x q:Nat)(As:Option Addr)(cs a g gl:Nat)(A:Option Addr)(c:Nat)(m:Nat)(all:List Pr):Ent:=mkE p (xL x) (fun w=>Skt w x q As cs a g gl A c (m:Int) all) (DKF x q As g gl A)
def DdE(a m:Nat)(all:List Pr)(e:Ent):Prop:=∃p x q As cs g gl A c,e=rl p x q As cs a g gl A c m all∧¬DKF x q As g gl A p
section
variable {w:World} {x q cs a g gl c m:Nat} {As A:Option Addr} {all gO:List Pr} {e e2:Ent}
theorem Skt.own(h:Skt w x q As cs a g gl A c m all):Own w q 386 3 As (aB a).length cs (scs (aB a)):=h.scl.own
theorem Skt.row(h:Skt w x q As cs a g gl A c m all):Own w gl 176 2 A (ah all m).1.length c (pcs (ah all m).1):=h.sto.lst.2
theorem Skt.held(h:Skt w x q As cs a g gl A c m all):ar (fun w=>Skt w x q As cs a g gl A c m all) (DKF x q As g gl A) w:=
 ⟨h,fun i hi=>by
  rcases hi with rfl|rfl|hi|rfl|rfl|hi
  ·exact h.blk.lt
  ·exact h.scl.blk.lt
  ·exact(Own.block h.own hi).2
  ·exact h.sto.blk.lt
  ·exact h.sto.lst.1.lt
  ·exact(Own.block h.row hi).2,fun K w' k hd=>⟨h.blk.only k (hd _ (.inl rfl)),⟨h.scl.blk.only k (hd _ (.inr (.inl rfl))),Own.only h.own k fun i hi=>hd i (.inr (.inr (.inl hi)))⟩,⟨h.sto.blk.only k (hd _ (.inr (.inr (.inr (.inl rfl))))),h.sto.lst.1.only k (hd _ (.inr (.inr (.inr (.inr (.inl rfl)))))),Own.only h.row k fun i hi=>hd i (.inr (.inr (.inr (.inr (.inr hi)))))⟩⟩⟩
theorem jd{w':World}{m:Int}{A':Option Addr}{c':Nat}(k:eB g gl A m all w w' A' c'):aD (DKF x q As g gl A) (DKF x q As g gl A') w w':=
 ⟨k.only.mono fun _ hi=>.inr (.inr (.inr hi)),fun i hi=>by
  rcases hi with h|h|h|h|h|h
  ·exact .inl (.inl h)
  ·exact .inl (.inr (.inl h))
  ·exact .inl (.inr (.inr (.inl h)))
  ·exact .inl (.inr (.inr (.inr (.inl h))))
  ·exact .inl (.inr (.inr (.inr (.inr (.inl h)))))
  ·exact(k.new i h).imp (fun h=>.inr (.inr (.inr (.inr (.inr h))))) id⟩
theorem Skt.news{V:World}(h:Skt V x q As cs a g gl A c m all)(h1:w.heap.size≤x)(h2:w.heap.size≤q)(h3:w.heap.size≤g)(h4:w.heap.size≤gl):∀i,DKF x q As g gl A i→w.heap.size≤i:=by
 rintro i (rfl|rfl|hi|rfl|rfl|hi)
 ·exact h1
 ·exact h2
 ·exact Oo h2 (Own.block h.own hi).1
 ·exact h3
 ·exact h4
 ·exact Oo h4 (Own.block h.row hi).1
theorem rR(he:DdE a m all e)(hh:ar e.I e.F w):
  Cl 74 #[.pointer (some ⟨e.p,0,none⟩)] w fun o w'=>o=.returned (.agg (spC 2 0 0 0 false a m))∧Below w.heap.size w w':=by
 obtain⟨p,x,q,As,cs,g,gl,A,c,rfl,hn⟩:=he;obtain⟨hb,hx⟩:=hh.it;refine LB hb a m (Oh fun W hw=>(pd (hx.below hw)).mono ?_) (Oh fun W hw=>lD (hx.below hw));rintro o w' ⟨rfl,rfl⟩;exact⟨rfl,Oq _ _⟩
theorem zp(a m:Nat)(w:World)(Gt:100≤a)(ha:a≤5000)(oS:2≤m)(gE:m≤4096):
  Cl 65 #[.agg (spC 2 0 0 0 false a m)] w (eH (DdE a m []) w):=by
 refine LL 0 0 0 false a m w _ (Oh fun W p hb hblk hp=>?_) (Oh fun W f hf hh=>rR hf hh);refine(NZ hblk 0 0 0 false a m (fun x w'=>∃q As cs g gl,Skt w' x q As cs a g gl none 0 m []∧W.heap.size≤x∧W.heap.size≤q∧W.heap.size≤g∧W.heap.size≤gl) (Oh fun V hv=>(FQ a m V Gt ha oS gE).mono ?_)).mono ?_
 ·rintro e w' ⟨x,q,As,cs,g,gl,rfl,⟨a1,a2⟩,a3,a4,hs,aT⟩;have:=hv.size;exact⟨x,rfl,⟨q,As,cs,g,gl,hs,oq,oq,oq,oq⟩,aT⟩
 ·rintro e w' ⟨rfl,x,V,⟨q,As,cs,g,gl,hs,a1,a2,a3,a4⟩,hV,rfl⟩;have hF:=hs.news a1 a2 a3 a4;exact⟨rfl,rl p x q As cs a g gl none 0 m [],rfl,⟨p,x,q,As,cs,g,gl,none,0,rfl,jh hblk hF⟩,fI hblk hV hs.held hF rfl⟩
theorem FSq(he:DdE a m all e)(hh:ar e.I e.F w)(v:Int)(n:Nat)(Gt:100≤a)(ha:a≤5000)(hf:aV all)(hl:all.length<100000)(oS:2≤m)(gE:m≤4097)(Pc: -9223372036854775807≤v)(MK:v≤9223372036854775807)(hn:1≤n)(co:Value):
  Cl 67 #[.pointer (some ⟨e.p,0,none⟩),.int .i64 v,.int .u64 (n:Int),co] w fun o w'=>o=.returned (.int .i64 (cq all (jQ a v) n 0).2)∧cT (DdE a m (cq all (jQ a v) n 0).1) e.p e.F w w':=by
 obtain⟨p,x,q,As,cs,g,gl,A,c,rfl,Pa⟩:=he;obtain⟨hb,hx⟩:=hh.it;refine G7 hb v n co _ (fun w'=>cT (DdE a m (cq all (jQ a v) n 0).1) p (rl p x q As cs a g gl A c m all).F w w') ((Jh hx v n Gt ha hf hl oq oq Pc MK hn).mono ?_);rintro o w' ⟨rfl,A',c',hs,k⟩;exact⟨rfl,jr hb Pa hs.held (jd k) ⟨p,x,q,As,cs,g,gl,A',c',rfl,mJ hb Pa (jd k)⟩⟩
theorem Mn(he:DdE a m all e)(hh:ar e.I e.F w)(v:Int)(co:Value):
  Cl 67 #[.pointer (some ⟨e.p,0,none⟩),.int .i64 v,.int .u64 ((0:Nat):Int),co] w fun o w'=>o=.returned (.int .i64 4)∧cT (DdE a m all) e.p e.F w w':=by
 obtain⟨p,x,q,As,cs,g,gl,A,c,rfl,Pa⟩:=he;obtain⟨hb,hx⟩:=hh.it;refine G7 hb v 0 co 4 (fun w'=>cT (DdE a m all) p (rl p x q As cs a g gl A c m all).F w w') ((Ji x v w).mono ?_);rintro o w' ⟨rfl,rfl⟩;exact⟨rfl,om hb hx.held (Oq _ _) ⟨p,x,q,As,cs,g,gl,A,c,rfl,Pa⟩⟩
theorem EK(he:DdE a m all e)(hh:ar e.I e.F w)(n:Nat)(hn:1≤n)(co:Value):
  Cl 67 #[.pointer (some ⟨e.p,0,none⟩),.int .i64 (-9223372036854775808),.int .u64 (n:Int),co] w fun o w'=>o=.returned (.int .i64 5)∧cT (DdE a m all) e.p e.F w w':=by
 obtain⟨p,x,q,As,cs,g,gl,A,c,rfl,Pa⟩:=he;obtain⟨hb,hx⟩:=hh.it;refine G7 hb _ n co 5 (fun w'=>cT (DdE a m all) p (rl p x q As cs a g gl A c m all).F w w') ((BV hx n hn).mono ?_);rintro o w' ⟨rfl,hw⟩;exact⟨rfl,om hb hx.held hw ⟨p,x,q,As,cs,g,gl,A,c,rfl,Pa⟩⟩
theorem EJ(he:DdE a m all e)(hh:ar e.I e.F w)(hf:aV all):
  Cl 72 #[.pointer (some ⟨e.p,0,none⟩)] w fun o w'=>o=.returned (.int .u64 (tot all:Nat))∧Below w.heap.size w w':=by
 obtain⟨p,x,q,As,cs,g,gl,A,c,rfl,Pa⟩:=he;obtain⟨hb,hx⟩:=hh.it;refine Iq hb (tot all) (fun w'=>Below w.heap.size w w') ((wa hx hf).mono ?_);rintro o w' ⟨rfl,rfl⟩;exact⟨rfl,Oq _ _⟩
def dW(a m:Nat)(all:List Pr):List UInt8:=iX a m (ah all (m:Int)).1 (ah all (m:Int)).2
theorem rQ(he:DdE a m all e)(hh:ar e.I e.F w)(ha:a≤5000)(oS:2≤m)(gE:m≤4096){i:Nat}(hf:Few all i a):
  Cl 29 #[.pointer (some ⟨e.p,0,none⟩)] w fun o w'=>∃A c,o=.returned (.slice A (dW a m all).length c)∧ak w' w.heap.size A c (dW a m all)∧Below w.heap.size w w':=by
 obtain⟨p,x,q,As,cs,g,gl,A,c,rfl,Pa⟩:=he;obtain⟨hb,hx⟩:=hh.it;exact Lu hb _ (zR hx ha oS gE hf)
theorem xw(ha:a≤5000)(oS:2≤m)(gE:m≤4096){i:Nat}(hf:Few all i a):(dW a m all).length≤20*m+40:=by
 obtain⟨hk,hs,hp,hl⟩:=ly hf oS;have hF:(ah all (m:Int)).2≤4611686018427387904:=nk hk;have St:=bV a;have h1:=vw (ah all (m:Int)).1 none (fun q hq=>by have:=hk.keys q hq;omega) (fun p h=>Oo (FH h) hk.tot) (fun q h=>by cases h);have h2:=qt (a:=a) (m:=m) (n:=(ah all (m:Int)).1.length) (f:=(ah all (m:Int)).2) oq oq oq oq;unfold dW iX;rw[Ok];omega
theorem Je(he:DdE a m all e)(hh:ar e.I e.F w)(RU:DdE a m gO e2)(Zd:ar e2.I e2.F w)(hf:aV all)(OT:aV gO)(hl:all.length+gO.length≤100000)(oS:2≤m)(gE:m≤4097)(co:Value):
  Cl 69 #[.pointer (some ⟨e.p,0,none⟩),.pointer (some ⟨e2.p,0,none⟩),co] w fun o w'=>o=.returned (.int .i64 (bE all gO 0).2)∧cT (DdE a m (bE all gO 0).1) e.p e.F w w':=by
 have By:=Oh (fun V (hv:Below w.heap.size w V)=>rR RU (Zd.below hv));have uN:=Oh (fun V (hv:Below w.heap.size w V)=>rR he (hh.below hv));obtain⟨p,x,q,As,cs,g,gl,A,c,rfl,Pa⟩:=he;obtain⟨p2,x2,q2,As2,cs2,g2,QB,A2,c2,rfl,acp⟩:=RU;obtain⟨hb,hx⟩:=hh.it;obtain⟨aT,hx2⟩:=Zd.it;refine(Lw hb aT 0 0 0 false a m co _ (fun V w'=>∃A' c',Skt w' x q As cs a g gl A' c' m (bE all gO 0).1∧eB g gl A m (bE all gO 0).1 V w' A' c') By uN (Oh fun V hv=>J3 (hx.below hv) (hx2.below hv) hf OT hl oq oq)).mono ?_;rintro o w' ⟨rfl,V,hv,A',c',hs,k⟩;have Zl:=hb.below hv hb.lt;exact⟨rfl,cT.pre (jr Zl Pa hs.held (jd k) ⟨p,x,q,As,cs,g,gl,A',c',rfl,mJ Zl Pa (jd k)⟩) hv⟩
theorem Nv(he:DdE a m all e)(hh:ar e.I e.F w)(hf:aV all)(num den i:Nat)(s:cK)(h0:1≤den)(h1:num≤den)(uP:den<16384)(hn:1≤tot all)(Pd:num*tot all<18446744073709551615)(hr:max 1 (df (num*tot all) den)≤tot all)(hK:mu (ah all (m:Int)).1 (max 1 (df (num*tot all) den))=(i:Int)+1)(hs:(aB a)[i]?=some s):
  Cl 70 #[.pointer (some ⟨e.p,0,none⟩),.int .u64 (num:Int),.int .u64 (den:Int)] w fun o w'=>o=.returned (.tuple #[.agg #[.int .i64 (s.2.1:Int),.bool (lU all (m:Int) (max 1 (df (num*tot all) den))),.int .u64 ((0:Nat):Int)],.int .i64 0])∧Below w.heap.size w w':=by
 obtain⟨p,x,q,As,cs,g,gl,A,c,rfl,Pa⟩:=he;obtain⟨hb,hx⟩:=hh.it;exact jAt num den _ _ 0 (Oh fun W hw=>Oa (hb.below hw hb.lt) num den _ _ (Oh fun V PF=>Nw ((hx.below hw).below PF) hf num den i s h0 h1 uP hn Pd hr hK hs))
theorem Jf(t:List UInt8)(L:List Pr)(f i:Nat)(hr:fU t=some (a,m,L,f))(hd:dW a m (gZ L f)=t)(hf:Few (gZ L f) i a)(hl:t.length≤100000)(ha:a≤5000)(oS:2≤m)(gE:m≤4096)(A:Option Addr)(c:Nat)(w:World)(ht:Bts w w.heap.size A t):
  Cl 27 #[.int .u8 2,.slice A t.length c] w (eH (DdE a m (gZ L f)) w):=by
 refine LG A c t w _ ht oq (Oh fun W p A' c' hw hblk hp ho=>?_) (Oh fun W f OT hh=>by have:=rQ OT hh ha oS gE hf;rw[hd] at this;exact this);refine(NW hblk A' t.length c' (fun x w'=>∃q As cs g gl A1 c1,Skt w' x q As cs a g gl A1 c1 m (gZ L f)∧W.heap.size≤x∧W.heap.size≤q∧W.heap.size≤g∧W.heap.size≤gl) (Oh ((KU A' c' t W (ak.reads (show ak W w.heap.size A' c' t from ho)) oq).mono ?_))).mono ?_
 ·intro e w' h;rw[hr] at h;obtain⟨x,q,As,cs,g,gl,A1,c1,rfl,hs,aT,a3,a4,a1,a2⟩:=h;exact⟨x,rfl,⟨q,As,cs,g,gl,A1,c1,hs,a1,a2,a3,a4⟩,aT⟩
 ·rintro e w' ⟨rfl,x,V,⟨q,As,cs,g,gl,A1,c1,hs,a1,a2,a3,a4⟩,hV,rfl⟩;have hF:=hs.news a1 a2 a3 a4;exact⟨rfl,rl p x q As cs a g gl A1 c1 m (gZ L f),rfl,⟨p,x,q,As,cs,g,gl,A1,c1,rfl,jh hblk hF⟩,fI hblk hV hs.held hF rfl⟩
end
end
section
open Pl Wi
abbrev s8(w:World)(base:Nat)(A:Option Addr)(c:Nat)(L:List Pr):Prop:=Own w base 308 2 A L.length c (pcs L)
theorem zi:fH prog 304 308 2 16:=cy underlying304 (z:=.agg #[.int .i64 0,.int .u64 0]) ok' od od
theorem Fv(w:World)(k:Int)(n:Nat):am (w.alloc (.cells #[.int .i64 k,.int .u64 (n:Int)] 308)) (w.alloc (.cells #[.int .i64 k,.int .u64 (n:Int)] 308)).heap.size 2 (some ⟨w.heap.size,0,none⟩) 1 (pcs [(k,n)]):=
 am.lit (bQ _ _) rfl rfl
def Kh(w:World)(L:List Pr)(e:Ending)(w':World):Prop:=∃A c,e=.returned (.slice A L.length c)∧Prs w' w'.heap.size A L∧Below w.heap.size w w'
def fW:Nat→List Pr→List Pr
 |_,[]=>[]
 |d,p::l=>(p.1,2*d+p.2)::fW (d+p.2) l
def mH(s:DgS)(E:List Pr):List Pr:=(s.lo,0)::fW 0 E++[(s.hi,2*s.n)]
theorem lx:∀(E:List Pr) (d:Nat),(fW d E).length=E.length
 | [],_=>rfl
 |_::E,d=>by simp[fW,lx E]
theorem nf:∀(E:List Pr) (d i:Nat) (p:Pr),E[i]?=some p→fW d (E.take (i+1))=fW d (E.take i)++[(p.1,2*(d+Pl.tot (E.take i))+p.2)]
 | [],_,_,_,h=>by simp at h
 |x::E,d,0,p,h=>by simp at h;subst h;simp[fW,Pl.tot]
 |x::E,d,i+1,p,h=>by
  have ih:=nf E (d+x.2) i p (by simpa using h);rw[List.take_succ_cons,List.take_succ_cons];simp only[fW,ih,List.cons_append]
  congr 3
  show(p.1,_)=(p.1,_)
  congr 1
  show 2*(d+x.2+Pl.tot (E.take i))+p.2=2*(d+Pl.tot (x::E.take i))+p.2;have:Pl.tot (x::E.take i)=x.2+Pl.tot (E.take i):=by simp[Pl.tot]
  omega
theorem xu{w:World}{x:Nat}{W:DgW}{s:DgS}(h:Dig w x W s)(C D E:List Pr)(hC:C=s.l++s.wt)(hCl:C.length≤1000000)(hEl:E.length≤1000000)(hEt:Pl.tot E≤281474976710656)(UD:s.n≤281474976710656)(HS:Hid (∀A c V,Prs V V.heap.size A C→Cl 280 #[.slice A C.length c,.func (Fn.func 281) #[] #[]] V (Kh V D)))(HP:Hid (∀A c V,Prs V V.heap.size A D→Cl 279 #[.int .i64 (s.d:Int),.int .u64 (s.n:Int),.slice A D.length c] V (f5 V E.length (pcs E)))):
  Cl 215 #[.pointer (some ⟨x,0,none⟩)] w fun e w'=>∃A c,e=.returned (.slice A (mH s E).length c)∧s8 w' w.heap.size A c (mH s E)∧Below w.heap.size w w':=by
 have VL:=Oh (fun S cS hs V (h:fX V V.heap.size 2 S hs) (hl:hs.length≤100000000) (hn:aw hs≤100000000)=>qH S cS hs V h hl hn);have HH:=Oh h;have RY:Hid (C=s.l++s.wt∧C.length≤1000000∧E.length≤1000000∧Pl.tot E≤281474976710656∧s.n≤281474976710656):=Oh ⟨hC,hCl,hEl,hEt,UD⟩;have c3:=h.c3;clear h hC hCl hEl hEt UD;go_enter func215,ntmps215;go_upto_region 3 with(fail);have RL:Hid (s8 (w.alloc (.cells #[.int .i64 s.lo,.int .u64 0] 308)) w.heap.size (some ⟨w.heap.size,0,none⟩) 1 [(s.lo,0)]):=Oh (Own.made w _ _ _ _ 1 (Oi _) (by unfold maxLen;omega) rfl);have aS:Hid (Below w.heap.size w (w.alloc (.cells #[.int .i64 s.lo,.int .u64 0] 308))):=Oh ((Oq _ _).alloc (Oi _) _);have QG:=Oh (HH.out.below aS.out);clear c3;obtain⟨P0,hP0⟩:∃P0,P0=w.heap.size:=⟨_,rfl⟩;obtain⟨w1,iF⟩:∃w1,w1=w.alloc (.cells #[.int .i64 s.lo,.int .u64 0] 308):=⟨_,rfl⟩;rw[←iF] at RL aS QG ⊢;rw[←hP0] at RL ⊢;clear iF;have OY:=Oh hP0;clear hP0;have c0:=QG.out.c0;have c1:=QG.out.c1;have c2:=QG.out.c2;have c5:=QG.out.c5;refine wp_region_noPanic ?_;refine ag (S:=(fun(V:World)=>V.cell? ⟨x,0,none⟩=some (.int .i64 (s.d:Int))∧V.cell? ⟨x,5,none⟩=some (.int .u64 (s.n:Int))∧V.cell? ⟨x,1,none⟩=some (.slice W.Al s.l.length W.cl)∧V.cell? ⟨x,2,none⟩=some (.slice W.Aw s.wt.length W.cw))) (L:=20) (by kernel_rfl) ⟨c0,c5,c1,c2⟩ (fun hHeld=>?_);have HDd:Hid (Dig w1.drew x W s):=Oh (QG.out.drewN 1);have TN:Hid (s8 w1.drew P0 (some ⟨P0,0,none⟩) 1 [(s.lo,0)]):=Oh (Own.drew RL.out);have OL:Hid (Below w.heap.size w w1.drew):=Oh aS.out.drew;clear c0 c1 c2 c5 QG RL aS;generalize w1.drew=wd at*;refine tV 0 ?_;refine tV 1 ?_;refine tV 2 ?_;refine tV 3 ?_;refine tV 4 ?_;refine tV 5 ?_;refine tV 6 ?_;refine tV 7 ?_;refine tV 8 ?_;refine tV 9 ?_;refine tV 10 ?_;refine tV 11 ?_;refine tV 12 ?_;refine tV 13 ?_;refine tV 14 ?_;refine tV 15 ?_;refine fV 21 ?_;refine bO 16 fun K hK=>?_;go_simp;obtain⟨v16,Rx⟩:∃v,v=wd.alloc (.cells #[.slice W.Al s.l.length W.cl,.slice W.Aw s.wt.length W.cw] 184):=⟨_,rfl⟩;have hh:=qs W.Al W.Aw s.l.length W.cl s.wt.length W.cw (pcs s.l) (pcs s.wt) (Own.reads HDd.out.l) (Own.reads HDd.out.wt) (aI _) (aI _) 184
 have b16:Below wd.heap.size wd (wd.alloc (.cells #[.slice W.Al s.l.length W.cl,.slice W.Aw s.wt.length W.cw] 184)):=(Oq _ _).alloc (Oi _) _;rw[←Rx] at hh b16 ⊢;have a7g:=Oh hh;have WR:=Oh (HDd.out.below b16);have a7h:=Oh (Own.below TN.out b16);have a7i:=Oh (ai OL.out b16);clear Rx hh b16;replace hHeld:=(show(fun(V:World)=>V.cell? ⟨x,0,none⟩=some (.int .i64 (s.d:Int))∧V.cell? ⟨x,5,none⟩=some (.int .u64 (s.n:Int))∧V.cell? ⟨x,1,none⟩=some (.slice W.Al s.l.length W.cl)∧V.cell? ⟨x,2,none⟩=some (.slice W.Aw s.wt.length W.cw)) v16 from⟨WR.out.c0,WR.out.c5,WR.out.c1,WR.out.c2⟩);refine hK.out _ _ hHeld ?_;clear hK K;try go_simp
 refine bO 17 fun K hK=>?_;go_simp;refine(VL.out _ _ _ _ a7g.out (by simp) (by have:=RY.out.2.1;rw[RY.out.1,Ok] at this;simp only[aw];omega)).mono ?_;rintro e v17 ⟨A17,c17,rfl,o17,b17⟩;have Rl:aw [⟨W.Al,s.l.length,W.cl,pcs s.l⟩,⟨W.Aw,s.wt.length,W.cw,pcs s.wt⟩]=C.length:=by rw[RY.out.1];simp[aw]
 have YB:bZ [⟨W.Al,s.l.length,W.cl,pcs s.l⟩,⟨W.Aw,s.wt.length,W.cw,pcs s.wt⟩]=pcs C:=by rw[RY.out.1];simp[bZ,au]
 rw[Rl] at o17 ⊢;rw[YB] at o17;have a7j:Hid (Prs v17 v17.heap.size A17 C):=Oh (Own.reads o17);have WS:=Oh (WR.out.below b17);have a7k:=Oh (Own.below a7h.out b17);have a7l:=Oh (ai a7i.out b17);clear Rl YB o17 b17;replace hHeld:=(show(fun(V:World)=>V.cell? ⟨x,0,none⟩=some (.int .i64 (s.d:Int))∧V.cell? ⟨x,5,none⟩=some (.int .u64 (s.n:Int))∧V.cell? ⟨x,1,none⟩=some (.slice W.Al s.l.length W.cl)∧V.cell? ⟨x,2,none⟩=some (.slice W.Aw s.wt.length W.cw)) v17 from⟨WS.out.c0,WS.out.c5,WS.out.c1,WS.out.c2⟩);refine hK.out _ _ hHeld ?_;clear hK K;try go_simp
 refine bO 18 fun K hK=>?_;go_simp;refine(HS.out _ _ _ a7j.out).mono ?_;rintro e v18 ⟨A18,c18,rfl,o18,b18⟩;have a7m:=Oh o18;have WT:=Oh (WS.out.below b18);have a7n:=Oh (Own.below a7k.out b18);have a7o:=Oh (ai a7l.out b18);clear o18 b18;replace hHeld:=(show(fun(V:World)=>V.cell? ⟨x,0,none⟩=some (.int .i64 (s.d:Int))∧V.cell? ⟨x,5,none⟩=some (.int .u64 (s.n:Int))∧V.cell? ⟨x,1,none⟩=some (.slice W.Al s.l.length W.cl)∧V.cell? ⟨x,2,none⟩=some (.slice W.Aw s.wt.length W.cw)) v18 from⟨WT.out.c0,WT.out.c5,WT.out.c1,WT.out.c2⟩);refine hK.out _ _ hHeld ?_;clear hK K;try go_simp
 refine bO 19 fun K hK=>?_;go_simp;refine(HP.out _ _ _ a7m.out).mono ?_;rintro e v19 ⟨A19,c19,rfl,o19,b19⟩;have a7p:=Oh o19;have YK:=Oh (WT.out.below b19);have a7q:=Oh (Own.below a7n.out b19);have a7r:=Oh (ai a7o.out b19);clear o19 b19;replace hHeld:=(show(fun(V:World)=>V.cell? ⟨x,0,none⟩=some (.int .i64 (s.d:Int))∧V.cell? ⟨x,5,none⟩=some (.int .u64 (s.n:Int))∧V.cell? ⟨x,1,none⟩=some (.slice W.Al s.l.length W.cl)∧V.cell? ⟨x,2,none⟩=some (.slice W.Aw s.wt.length W.cw)) v19 from⟨YK.out.c0,YK.out.c5,YK.out.c1,YK.out.c2⟩);refine hK.out _ _ hHeld ?_;clear hK K;try go_simp
 refine aL 20 ?_;refine cD ?_;clear hHeld;go_wp2_with fail;have HOE:Hid (dk v19 0 A19 c19 E):=Oh (Own.mono a7p.out (Nat.zero_le _));have hEl:(E.length:Int)≤1000000:=by have:=RY.out.2.2.1;omega
 clear YK WT WS WR HDd a7n a7k a7h TN a7o a7l a7i OL a7p a7m a7j a7g HS HP VL;go_loopw [3,4,34] (fun u v z wr=>∃(i:Nat) (A:Option Addr) (c:Nat),i≤E.length∧u=.slice A ((s.lo,0)::fW 0 (E.take i)).length c∧v=.int .u64 (Pl.tot (E.take i):Nat)∧z=.int .i64 (i:Int)∧s8 wr P0 A c ((s.lo,0)::fW 0 (E.take i))∧dk wr 0 A19 c19 E∧Below w.heap.size w wr) (fun _ _ z _=>E.length-(intOf z).toNat)
 case atStart=>exact⟨0,some ⟨P0,0,none⟩,1,Nat.zero_le _,rfl,rfl,rfl,a7q.out,HOE.out,a7r.out⟩
 case round=>
  obtain⟨i,A,c,hi,rfl,rfl,rfl,ho,he,hb⟩:=hrel;have HO:=Oh ho;have HE:=Oh he;have HB:=Oh hb;clear ho he hb a7q HOE a7r
  by_cases hlt:i<E.length
  ·obtain⟨⟨v,n⟩,hp⟩:∃p,E[i]?=some p:=⟨_,Oj hlt⟩;obtain⟨b,o,hA,Te,hcell⟩:=Prs.at_ (show Prs wr wr.heap.size A19 E from Own.reads HE.out) oq;obtain⟨d0,d1⟩:=hcell i _ hp;dsimp only at d0 d1;have hmd:=nf E 0 i _ hp;have Ps:=fm hp;have T5:=fY E (i+1);have Zf:=RY.out.2.2.2.1;dsimp only at hmd Ps;rw[Nat.zero_add] at hmd;obtain⟨T0,Xg⟩:∃T,T=Pl.tot (E.take i):=⟨_,rfl⟩;rw[←Xg] at hmd Ps ⊢;obtain⟨Q,hQ⟩:∃Q,Q=(s.lo,0)::fW 0 (E.take i):=⟨_,rfl⟩;have hQ2:(s.lo,0)::fW 0 (E.take (i+1))=Q++[(v,2*T0+n)]:=by rw[hmd,hQ];rfl
   have hQl:Q.length=i+1:=by rw[hQ,List.length_cons,lx,List.length_take];omega
   rw[←hQ] at HO ⊢;have t1:(i:Int)<(E.length:Int):=oq;have y1:IntKind.u64.wrap (2*(T0:Int))=((2*T0:Nat):Int):=by rw[On];omega
   have y2:IntKind.u64.wrap (((2*T0:Nat):Int)+(n:Int))=((2*T0+n:Nat):Int):=by rw[On];omega
   have y3:IntKind.u64.wrap ((T0:Int)+(n:Int))=((T0+n:Nat):Int):=by rw[On];omega
   have y1b:IntKind.u64.wrap (2*(T0:Int))=2*(T0:Int):=by rw[On];omega
   have y2b:IntKind.u64.wrap (2*(T0:Int)+(n:Int))=2*(T0:Int)+(n:Int):=by rw[On];omega
   have HQ:=Oh (And.intro hQ2 hQl);have HTN:=Oh (show Pl.tot (E.take (i+1))=T0+n from Ps);have oR:=Oh hlt;subst hA;clear hcell hmd Ps T5 Zf Xg hQ hQ2 hQl hp hlt hi Te;go_wp2_with (at_builtin;refine Hid.out ?_);obtain⟨w1,iF⟩:∃w1,w1=wr.alloc (.cells #[.int .i64 v,.int .u64 (n:Int)] 186):=⟨_,rfl⟩;have b1:Below wr.heap.size wr (wr.alloc (.cells #[.int .i64 v,.int .u64 (n:Int)] 186)):=(Oq _ _).alloc (Oi _) _;have HM:=Oh (Blk.new wr 186 #[.int .i64 v,.int .u64 (n:Int)]);obtain⟨N,hN⟩:∃N,N=wr.heap.size:=⟨_,rfl⟩;rw[←iF] at b1 HM ⊢;rw[←hN] at HM ⊢;have RX:=Fv w1 v (2*T0+n);rw[show((2*T0+n:Nat):Int)=2*(T0:Int)+(n:Int) by omega,show w1.heap.size=N+1 by rw[iF,hN,World.size_alloc]] at RX;have b2:Below w1.heap.size w1 (w1.alloc (.cells #[.int .i64 v,.int .u64 (2*(T0:Int)+(n:Int))] 308)):=(Oq _ _).alloc (Oi _) _;have nE:Own (w1.alloc (.cells #[.int .i64 v,.int .u64 (2*(T0:Int)+(n:Int))] 308)) P0 308 2 A Q.length c (pcs Q):=Own.below (Own.below HO.out b1) b2;have Qw:=ai (ai HB.out b1) b2;have hE2:=Own.below (Own.below HE.out b1) b2;refine aj (xs:=pcs Q) (news:=pcs [(v,2*T0+n)]) rfl rfl zi rfl nE rfl RX (aI _) (Q.length+1) rfl (pcs (Q++[(v,2*T0+n)])) (au _ _).symm (by have:=HQ.out.2;unfold maxLen;omega) (by have:=HQ.out.2;omega) (by rw[OY.out];exact Qw.size) ?_;intro A3 c3 w3 o3 g3 q3;have sO:Hid (s8 w3 P0 A3 c3 (Q++[(v,2*T0+n)])):=Oh (by unfold s8;rw[Ok];exact o3);have HE3:Hid (dk w3 0 (some ⟨b,o,none⟩) c19 E):=Oh (cI hE2 nE (by decide) g3);have fR:Hid (Below w.heap.size w w3):=Oh (Qw.grown g3 Qw.size (fun i hi=>by rw[←OY.out];exact(Own.block nE hi).1))
   have m1:w3.cell? ⟨N,1,none⟩=some (.int .u64 (n:Int)):=by
    have hm:=(HM.out.below b2 HM.out.lt);rw[(hm.grown g3 (fun e=>Own.ne_blk nE hm (by decide) e.symm)).cell];rfl
   clear iF hN b1 b2 RX nE Qw hE2 o3 g3 q3 d0 d1 y1 y2 y1b y2b HO HE HB HM;go_wp2_with fail;go_roundw
   case rel=>exact⟨i+1,A3,c3,oR.out,by rw[HQ.out.1];simp,by rw[HTN.out];rfl,by go_num,by rw[HQ.out.1];exact sO.out,HE3.out,fR.out⟩
   case measure=>have:=oR.out;simp[intOf];omega
  ·obtain rfl:i=E.length:=oq;have t1:¬(E.length:Int)<(E.length:Int):=oq;have hD:=HH.out.below HB.out;have HD:=Oh hD;have c4:=hD.c4;have c5:=hD.c5;rw[List.take_length] at HO ⊢;have y1:IntKind.u64.wrap (2*(s.n:Int))=2*(s.n:Int):=by have:=RY.out.2.2.2.2;rw[On];omega
   have HE2:=Oh (show mH s E=((s.lo,0)::fW 0 E)++[(s.hi,2*s.n)] from rfl);obtain⟨Q,hQ⟩:∃Q,Q=(s.lo,0)::fW 0 E:=⟨_,rfl⟩;have hQl:Hid (Q.length=E.length+1):=Oh (by rw[hQ,List.length_cons,lx]);rw[←hQ] at HO HE2 ⊢;clear hi hlt hQ hD HE;go_upto_region 9 with(fail);refine wp_region_noPanic ?_;refine ag (S:=(fun(V:World)=>V.cell? ⟨x,4,none⟩=some (.int .i64 s.hi)∧V.cell? ⟨x,5,none⟩=some (.int .u64 (s.n:Int)))) (L:=13) (by kernel_rfl) ⟨c4,c5⟩ (fun hHeld=>?_);have HDd:Hid (Dig wr.drew x W s):=Oh (HD.out.drewN 1);have HOd:Hid (s8 wr.drew P0 A c Q):=Oh (Own.drew HO.out);have OL:Hid (Below w.heap.size w wr.drew):=Oh HB.out.drew;clear c4 c5 HD HO HB;generalize wr.drew=wd at*;refine tV 0 ?_;refine tV 1 ?_;refine tV 2 ?_;refine tV 3 ?_;refine tV 4 ?_;refine tV 5 ?_;refine tV 6 ?_;refine tV 7 ?_;refine tV 8 ?_;refine tV 9 ?_;refine tV 10 ?_;refine bO 11 fun K hK=>?_;go_simp;obtain⟨v11,Se⟩:∃v,v=wd.alloc (.cells #[.int .i64 s.hi,.int .u64 (2*(s.n:Int))] 308):=⟨_,rfl⟩;have RX:=Fv wd s.hi (2*s.n);rw[show((2*s.n:Nat):Int)=2*(s.n:Int) by omega] at RX;have VT:Below wd.heap.size wd (wd.alloc (.cells #[.int .i64 s.hi,.int .u64 (2*(s.n:Int))] 308)):=(Oq _ _).alloc (Oi _) _;obtain⟨N,hN⟩:∃N,N=wd.heap.size:=⟨_,rfl⟩;rw[←Se] at RX VT ⊢;rw[←hN] at RX ⊢;have UC:=Oh RX;have UR:=Oh (HDd.out.below VT);have YL:=Oh (Own.below HOd.out VT);have Qt:=Oh (ai OL.out VT);clear Se hN VT RX;replace hHeld:=(show(fun(V:World)=>V.cell? ⟨x,4,none⟩=some (.int .i64 s.hi)∧V.cell? ⟨x,5,none⟩=some (.int .u64 (s.n:Int))) v11 from⟨UR.out.c4,UR.out.c5⟩);refine hK.out _ _ hHeld ?_;clear hK K;try go_simp
   refine bO 12 fun K hK=>?_;refine bo rfl rfl zi rfl (show Own v11 P0 308 2 A Q.length c (pcs Q) from YL.out) rfl UC.out (aI _) (Q.length+1) rfl (pcs (Q++[(s.hi,2*s.n)])) (au _ _).symm (by have:=hQl.out;unfold maxLen;omega) (by have:=hQl.out;omega) (by rw[OY.out];exact Qt.out.size) ?_;intro A2 c2 v12 o2 g2 q2;have Xo:Hid (s8 v12 w.heap.size A2 c2 (Q++[(s.hi,2*s.n)])):=Oh (by unfold s8;rw[Ok,←OY.out];exact o2);have QF:Hid (Below w.heap.size w v12):=Oh (Qt.out.grown g2 Qt.out.size (fun i hi=>by rw[←OY.out];exact(Own.block YL.out hi).1));clear o2 g2 q2;replace hHeld:=(show(fun(V:World)=>V.cell? ⟨x,4,none⟩=some (.int .i64 s.hi)∧V.cell? ⟨x,5,none⟩=some (.int .u64 (s.n:Int))) v12 from by have h:=HH.out.below QF.out;exact⟨h.c4,h.c5⟩);refine hK.out _ _ hHeld ?_;clear hK K;try go_simp
   refine aL 13 ?_;refine cD ?_;clear hHeld;go_wp2_with fail;go_ret;exact⟨A2,c2,by rw[HE2.out,Ok];rfl,by rw[HE2.out];exact Xo.out,QF.out⟩
end
end Go.Proofs.YtmbippkpjdoojaaGreat
