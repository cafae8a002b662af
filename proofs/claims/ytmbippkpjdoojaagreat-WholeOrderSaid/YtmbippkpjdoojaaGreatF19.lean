/- Parts of a proof, merged. -/
import Derived.Test.YtmbippkpjdoojaaGreatF18
set_option maxRecDepth 100000
set_option maxHeartbeats 1600000
namespace Go.Proofs.YtmbippkpjdoojaaGreat
open Tryz
open Go.RowKit
section
open Pl
open Wi
open Hdr (Mp)
theorem IA(p q:Addr)(w:World):
  CallsD prog 229 #[.pointer (some p),.pointer (some q)] .returning w fun e u' w'=>e=.returned (.tuple #[])∧u'=.returning∧w'=w:=by
 refine callsD_of_wpS func229 rfl fun c₀ cs hu=>?_
 apply wpS_seq
 apply wpS_region
 simp[wpOpsS,go_sem,recoverD,hu,ntmps229,Exit.thenS];refine wpS_of_wp ?_;rw[show(#[Value.pointer (some p),Value.pointer (some q)]++(Array.replicate 15 undef).setIfInBounds 5 (Value.nilIface))=#[.pointer (some p),.pointer (some q),undef,undef,undef,undef,undef,Value.nilIface,undef,undef,undef,undef,undef,undef,undef,undef,undef] from rfl];go_wp2_with fail;cases c₀
 simp_all [bodyPostS,results,results229]
structure HwS(w W:World)(v:Value)(z:Int):Prop where
 s:Blk W w.heap.size 98 #[v]
 e:Blk W (w.heap.size+1) 34 #[.int .i64 z]
 below:Below w.heap.size w W
theorem HwS.next{w W W':World}{v:Value}{z:Int}(h:HwS w W v z)(k:Below W.heap.size W W'):HwS w W' v z:=
 ⟨h.s.below k h.s.lt,h.e.below k h.e.lt,h.below.trans (k.mono h.below.size)⟩
theorem HwS.drewN{w W:World}{v:Value}{z:Int}(h:HwS w W v z)(n:Nat):HwS w (W.drewN n) v z:=⟨h.s,h.e,ae h.below n⟩
theorem HwS.c2{w W:World}{v:Value}{z:Int}(h:HwS w W v z):W.cell? ⟨w.heap.size,0,none⟩=some v:=h.s.ce
theorem HwS.c3{w W:World}{v:Value}{z:Int}(h:HwS w W v z):W.cell? ⟨w.heap.size+1,0,none⟩=some (.int .i64 z):=h.e.ce
theorem HwS.setE{w W:World}{v:Value}{z:Int}(h:HwS w W v z)(y:Int):HwS w (W.setCell ⟨w.heap.size+1,0,none⟩ (.int .i64 y)) v y:=
 ⟨h.s.far (p:=⟨w.heap.size+1,0,none⟩) os' _,h.e.put 0 _,h.below.setCell os' _⟩
theorem HwS.setS{w W:World}{v:Value}{z:Int}(h:HwS w W v z)(y:Value):HwS w (W.setCell ⟨w.heap.size,0,none⟩ y) y z:=
 ⟨h.s.put 0 _,h.e.far (p:=⟨w.heap.size,0,none⟩) os' _,h.below.setCell (Oi _) _⟩
def hwD(n:Nat):List Deferred:=[{target:=.fn (Fn.func 229) #[],args:=#[.pointer (some ⟨n,0,none⟩),.pointer (some ⟨n+1,0,none⟩)]}]
theorem IB{w W:World}{p:Option Addr}(h:HwS w W (.pointer p) 0)(tmps:Array Value)(h2:tmps.getD 2 undef=.pointer (some ⟨w.heap.size,0,none⟩))(h3:tmps.getD 3 undef=.pointer (some ⟨w.heap.size+1,0,none⟩))(R:Ending→World→Prop)(hR:R (.returned (.tuple #[.pointer p,.int .i64 0])) W):Leaves prog Tryz.f161 tmps R (hwD w.heap.size) .returning W:=by
 unfold hwD;refine leaves_cons (f:=229) (args:=#[.pointer (some ⟨w.heap.size,0,none⟩),.pointer (some ⟨w.heap.size+1,0,none⟩)]) os' (by simp[go_sem]) ?_;refine(IA _ _ W).mono ?_;rintro e u' w' ⟨rfl,rfl,rfl⟩;have cs:=h.c2;have ce:=h.c3;simp only[Array.getD_eq_getD_getElem?] at h2 h3;refine⟨_,?_,hR⟩;simp only[results,results161];simp[go_sem,h2,h3,cs,ce]
theorem lP(A:Option Addr)(n c i:Nat)(h1:i≤n)(W:World):
  (Instr.slice 24 (.slice A n c) (some (.int .i64 (i:Int))) none none).run prog W=.ok (.slice (il A c i) (n-i) (c-i)) W:=by
 have hu:prog.underlying 24=some (.slice (prog.elem 24)):=by rw[fL];exact underlying24
 rw[run_slice_l (w:=W) 24 A n c hu .i64 (i:Int) oq oq,fL,mB];simp[Result.andThen,sliced,il]
theorem Ek(D lo R:Nat)(X:List UInt8)(hD:D≤5)(P4:lo<18446744073709551616)(hR:R<18446744073709551616)(hX:X.length<4294967296):
  s7 [87,87,87,87,81,81,81] (hwF D lo R X)=(0,[478450451,X.length,0,D,lo,R,4607182418800017408],40):=by
 have h1:=qi X.length D lo R hX oq;unfold dh at h1;rw[if_pos ⟨od,rfl⟩] at h1
 obtain⟨B,hB,hg,_⟩:=xU [87,87,87,87,81,81,81] [478450451,X.length,0,D,lo,R,4607182418800017408] [] (ji X.length D lo R) od rfl (by
  intro n hn;simp at hn;rcases hn with rfl|rfl|rfl|rfl|rfl|rfl|rfl<;>omega) h1
 rw[List.nil_append] at hB;subst hB;unfold s7 hwF;rw[if_pos od,hg X [] 0,eP];rfl
theorem wY(R:Int)(u m:Nat):dU R u m (1+Hdr.Hd.bk u m R.toNat)=R:=by unfold dU;rw[if_pos rfl]
set_option maxHeartbeats 6400000 in
theorem E7(A0:Option Addr)(c0 lo D R:Nat)(L:List Pr)(w:World)(hA:Bts w w.heap.size A0 (hwF D lo R (an L)))(OA:(hwF D lo R (an L)).length≤c0)(hf:fl L)(h1:1≤D)(h5:D≤5)(hL:1≤lo)(SD:2*lo≤R)(FR:R≤9223372036854775807)(lE:Hdr.uOf lo+Hdr.mOf D≤62)(hkm:∀p∈L,p.1<(((1+Hdr.Hd.bk (Hdr.uOf lo) (Hdr.mOf D) R+1)*Hdr.Hd.ax (Hdr.mOf D):Nat):Int))(hv:∀p∈L,Hdr.dS (Hdr.uOf lo) (Hdr.mOf D) p.1.toNat=false∧Hdr.db (Hdr.uOf lo) (Hdr.mOf D) p.1.toNat<2^63)(a1n:1+Hdr.Hd.bk (Hdr.uOf lo) (Hdr.mOf D) R=iu (Hdr.uOf lo) (Hdr.mOf D) (1+Hdr.Hd.bk (Hdr.uOf lo) (Hdr.mOf D) R) L):
  Cl 161 #[.slice A0 (hwF D lo R (an L)).length c0] w fun e w'=>∃p gm bm,e=.returned (.tuple #[.pointer (some ⟨p,0,none⟩),.int .i64 0])∧w.heap.size≤p∧w.heap.size≤gm∧w.heap.size≤bm∧Hst w' p gm bm (lo:Int) (R:Int) (D:Int) (Hdr.uOf lo) (Hdr.mOf D) false (1+Hdr.Hd.bk (Hdr.uOf lo) (Hdr.mOf D) R) L∧Below w.heap.size w w':=by
 have hcl:=iK L;have Rl:=hf.len;have hmr:=Hdr.eL h1 h5;have Sx:((R:Int)).toNat=R:=Int.toNat_natCast R;have eQ:=FX (u:=Hdr.uOf lo) (m:=Hdr.mOf D) (hi:=(R:Int)) oq oq;rw[Sx] at eQ;have a1o:=Hdr.Hd.fJ hmr.2;have hhp:=Hdr.Hd.gG (Hdr.mOf D);have hMl:(1+Hdr.Hd.bk (Hdr.uOf lo) (Hdr.mOf D) R+1)*Hdr.Hd.ax (Hdr.mOf D)≤65*131072:=Nat.mul_le_mul oq a1o;have hMp:0<(1+Hdr.Hd.bk (Hdr.uOf lo) (Hdr.mOf D) R+1)*Hdr.Hd.ax (Hdr.mOf D):=Nat.mul_pos oq hhp;have Ov:(hwF D lo R (an L)).length=40+(an L).length:=by unfold hwF;rw[Ok,eP]
 have U1:=Oh (fun W (hb:Bts W W.heap.size A0 (hwF D lo R (an L)))=>Kb ⟨#[87,87,87,87,81,81,81]⟩ A0 c0 (hwF D lo R (an L)) W hb oq);have e0:s7 (⟨#[87,87,87,87,81,81,81]⟩:ByteArray).data.toList (hwF D lo R (an L))=_:=Ek D lo R (an L) h5 oq oq oq;rw[e0] at U1;have R5:=Oh (fun W=>Hdr.ir lo D (R:Int) W h1 h5 hL oq oq lE);have HBU:=Oh (fun gm W (h:Mp W gm (lo:Int) (R:Int) (D:Int) (Hdr.uOf lo) (Hdr.mOf D))=>Hdr.gj gm lo R D (Hdr.uOf lo) (Hdr.mOf D) R (R:Int) W h lE oq oq);have a6Q:=Oh (fun gm W (h:Mp W gm (lo:Int) (R:Int) (D:Int) (Hdr.uOf lo) (Hdr.mOf D))=>Hdr.rS gm lo R D (Hdr.uOf lo) (Hdr.mOf D) (1+Hdr.Hd.bk (Hdr.uOf lo) (Hdr.mOf D) R) ((1+Hdr.Hd.bk (Hdr.uOf lo) (Hdr.mOf D) R:Nat):Int) W h oq hmr.2 eQ.2 oq);have iN:=Ds hf hkm oq oq;have TF:an L=aM (zA L):=sX (fun p hp=>Oo (aW hp) hf.tot);have hra:=iN.1.at_
 have a6R:=Oh (fun A c W (hb:Bts W W.heap.size A (an L))=>by
  have h:=rS A c (zA L) (((1+Hdr.Hd.bk (Hdr.uOf lo) (Hdr.mOf D) R+1)*Hdr.Hd.ax (Hdr.mOf D):Nat):Int) W (by rw[←TF];exact hb) (by rw[←TF];omega) oq oq hra.1 hra.2;rw[←TF,iN.2] at h;exact h)
 have HLO:=Oh (fun A c W (hb:Prs W W.heap.size A L)=>yX lo D (R:Int) false A c L (1+Hdr.Hd.bk (Hdr.uOf lo) (Hdr.mOf D) R) W hb hf h1 h5 hL oq oq lE hv (by rw[Sx];exact a1n) (.inr (by rw[Sx];exact Oi _)));have Uw:=Oh (fun p gm bm W (h:Hst W p gm bm (lo:Int) (R:Int) (D:Int) (Hdr.uOf lo) (Hdr.mOf D) false (1+Hdr.Hd.bk (Hdr.uOf lo) (Hdr.mOf D) R) L)=>lz h hf lE oq oq eQ.1 eQ.2 h5 oq R (by have:=wY (R:Int) (Hdr.uOf lo) (Hdr.mOf D);rw[Sx] at this;exact this) FR)
 have RA:((hwF D lo R (an L)).drop 40).take ((hwF D lo R (an L)).length-40)=an L:=by
  have e:(hwF D lo R (an L)).drop 40=an L:=by unfold hwF;rw[←eP (an L).length D lo R,List.drop_left]
  rw[e,List.take_of_length_le oq]
 have a3x:=Oh (lp hA c0 40 (hwF D lo R (an L)).length (Oi _) OA);rw[RA] at a3x;have TY:=Oh (fun A c W (hb:Bts W W.heap.size A (hwF D lo R (an L))) (ha:Bts W W.heap.size A0 (hwF D lo R (an L)))=>ju A A0 c c0 (hwF D lo R (an L)) (hwF D lo R (an L)) W hb ha oq);rw[show(hwF D lo R (an L)==hwF D lo R (an L))=true by simp] at TY;have St:=fun W=>lP A0 (hwF D lo R (an L)).length c0 40 oq W;rw[show(hwF D lo R (an L)).length-40=(an L).length by omega] at St;rw[show(((40:Nat):Int))=(40:Int) from rfl] at St;have hXl:((an L).length:Int)≤18000009:=oq;obtain⟨BL,hBL⟩:=nm (hwF D lo R (an L));rw[←hBL] at U1 Uw TY St Ov hA ⊢;have abG:(BL.length:Int)=40+((an L).length:Int):=oq;generalize an L=X at*;have e1:IntKind.i64.wrap ((BL.length:Int)-40)=(X.length:Int):=by rw[show(BL.length:Int)-40=(X.length:Int) by omega];exact i6
 have e2:IntKind.u64.wrap (X.length:Int)=(X.length:Int):=u6;have e3:IntKind.i64.wrap (lo:Int)=(lo:Int):=i6;have e4:IntKind.i64.wrap (R:Int)=(R:Int):=i6;have e5:IntKind.i64.wrap (D:Int)=(D:Int):=i6;have e6:decide ((D:Int)≤5)=true:=decide_eq_true oq;have e7:decide ((lo:Int)<9223372036854775808)=true:=decide_eq_true oq;have e8:decide ((R:Int)<9223372036854775808)=true:=decide_eq_true oq;have e9:1+(Hdr.Hd.bk (Hdr.uOf lo) (Hdr.mOf D) R:Int)=((1+Hdr.Hd.bk (Hdr.uOf lo) (Hdr.mOf D) R:Nat):Int):=oq;rw[e9] at HBU;generalize(1+Hdr.Hd.bk (Hdr.uOf lo) (Hdr.mOf D) R+1)*Hdr.Hd.ax (Hdr.mOf D)=MM at*;generalize 1+Hdr.Hd.bk (Hdr.uOf lo) (Hdr.mOf D) R=F at*;generalize Hdr.uOf lo=u at*;generalize Hdr.mOf D=m at*;have HA:=Oh hA;have ZE:=Oh vQ;clear abG hcl Rl hmr Sx eQ a1o hhp hMl hMp e0 iN TF hra RA hA OA hf h1 h5 hL SD FR lE hkm hv a1n hBL e9 Ov;go_enter_defers func161,ntmps161;go_wp2_with fail
 have s0:HwS w ((w.alloc (.cells #[.pointer none] 98)).alloc (.cells #[.int .i64 0] 34)) (.pointer none) 0:=by
  have h1:=Blk.new w 98 #[.pointer none];have h2:=Blk.new (w.alloc (.cells #[.pointer none] 98)) 34 #[.int .i64 0];simp only[World.size_alloc] at h2;exact⟨h1.alloc _,h2,(Ba).alloc os' _⟩
 refine(U1.out _ (HA.out.at_below s0.below)).mono ?_;rintro e w2 ⟨AU,cU,rfl,oU,bU⟩;have uN:=Oh (s0.next bU);have HU2:=Oh oU;clear s0 bU oU;dsimp only;have t3:=uN.out.c3;have Ul:=uN.out.e.free 0;obtain⟨gU,rfl,_,hgU,_,Xr,_⟩:=Own.form HU2.out os';have u0:w2.cell? ⟨gU,0,none⟩=some (.int .u64 478450451):=Xr 0 _ rfl;have u1:w2.cell? ⟨gU,1,none⟩=some (.int .u64 (X.length:Int)):=Xr 1 _ rfl;have u3:w2.cell? ⟨gU,3,none⟩=some (.int .u64 (D:Int)):=Xr 3 _ rfl;have u4:w2.cell? ⟨gU,4,none⟩=some (.int .u64 (lo:Int)):=Xr 4 _ rfl;have u5:w2.cell? ⟨gU,5,none⟩=some (.int .u64 (R:Int)):=Xr 5 _ rfl;have a3A:¬gU=w.heap.size+1:=fun e=>Own.ne_blk HU2.out uN.out.e od (by rw[e];rfl);clear Xr HU2;go_wp2_with fail;refine(ZE.out _).mono ?_;rintro e w3 ⟨rfl,OU⟩;have Pp:Hid (HwS w w3 (.pointer none) 0):=Oh (by rw[OU];exact uN.out.setE 0);have Sq:gU<w3.heap.size:=by rw[OU];simpa using hgU
 have v3:w3.cell? ⟨gU,3,none⟩=some (.int .u64 (D:Int)):=by rw[OU,World.cell?_setCell_far _ _ _ _ (fun e=>a3A e.symm)];exact u3
 have v4:w3.cell? ⟨gU,4,none⟩=some (.int .u64 (lo:Int)):=by rw[OU,World.cell?_setCell_far _ _ _ _ (fun e=>a3A e.symm)];exact u4
 have v5:w3.cell? ⟨gU,5,none⟩=some (.int .u64 (R:Int)):=by rw[OU,World.cell?_setCell_far _ _ _ _ (fun e=>a3A e.symm)];exact u5
 clear OU u0 u1 u3 u4 u5 t3 Ul hgU uN;go_wp2_with fail;refine(ZE.out _).mono ?_;rintro e w4 ⟨rfl,Po⟩;obtain rfl:=Po.symm;dsimp only;go_upto_region 5 with(fail);refine wp_region_noPanic ?_;refine wp_region_held_drew (S:=(fun W=>W.cell? ⟨gU,3,none⟩=some (.int .u64 (D:Int))∧W.cell? ⟨gU,4,none⟩=some (.int .u64 (lo:Int))∧W.cell? ⟨gU,5,none⟩=some (.int .u64 (R:Int)))) ok' ⟨v3,v4,v5⟩ (fun hHeld=>?_);refine tH 0 ?_;refine tH 1 ?_;refine tH 2 ?_;refine tH 3 ?_;refine tH 4 ?_;refine tH 5 ?_;refine tH 6 ?_;refine tH 7 ?_;refine tH 8 ?_;refine tH 9 ?_;refine tH 10 ?_;refine tH 11 ?_;refine tH 12 ?_;have Vg:=hHeld;refine dQ 13 fun K hK=>?_;go_simp;refine hK.out _ _ ?_ (fun hHeld=>?_)
 ·exact⟨((Ba).cell (p:=⟨gU,3,none⟩) Sq).trans hHeld.1,((Ba).cell (p:=⟨gU,4,none⟩) Sq).trans hHeld.2.1,((Ba).cell (p:=⟨gU,5,none⟩) Sq).trans hHeld.2.2⟩
 clear hK K
 try go_simp
 refine dQ 14 fun K hK=>?_;go_simp;refine hK.out _ _ ?_ (fun hHeld=>?_)
 ·exact⟨((Ba).cell (p:=⟨gU,3,none⟩) Sq).trans Vg.1,((Ba).cell (p:=⟨gU,4,none⟩) Sq).trans Vg.2.1,((Ba).cell (p:=⟨gU,5,none⟩) Sq).trans Vg.2.2⟩
 clear hK K
 try go_simp
 refine jR ?_;have QS:=Oh (Blk.new w3 27 (i3' lo R D)).drew;have RJ:Hid (HwS w (w3.alloc (.cells (i3' lo R D) 27)).drew (.pointer none) 0):=Oh ((Pp.out.next (Ba)).drewN 1);generalize(w3.alloc (.cells (i3' lo R D) 27)).drew=w5 at*;clear v3 v4 v5 Pp Sq;generalize w3.heap.size=N at*;have n0:=QS.out.c0;have n1:=QS.out.c1;have n2:=QS.out.c2;go_wp2_with fail;refine(R5.out _).mono ?_;rintro e w6 ⟨gm,rfl,Px,PK,hm,b6⟩;have WG:=Oh (QS.out.below b6 QS.out.lt);have HM6:=Oh hm;have QU:=Oh (RJ.out.next b6);have t3:=QU.out.c3;have Ul:=QU.out.e.free 0;clear n0 n1 n2 Px PK hm b6 QS RJ;dsimp only;go_wp2_with fail;refine(ZE.out _).mono ?_;rintro e w6a ⟨rfl,VI⟩;have HSa:Hid (HwS w w6a (.pointer none) 0):=Oh (by rw[VI];exact QU.out.setE 0);have HNa:Hid (Blk w6a N 27 (i3' lo R D)):=Oh (by rw[VI];exact WG.out.far (p:=⟨w.heap.size+1,0,none⟩) (WG.out.ne QU.out.e od) _);have HMa:Hid (Mp w6a gm (lo:Int) (R:Int) (D:Int) u m):=Oh (by rw[VI];exact Blk.far HM6.out (p:=⟨w.heap.size+1,0,none⟩) (Blk.ne HM6.out QU.out.e od) _);clear VI WG HM6 QU t3 Ul;have n1:=HNa.out.c1;dsimp only;go_wp2_with fail;refine(HBU.out _ _ HMa.out).mono ?_;rintro e w7 ⟨rfl,q0,Xi⟩;have Xn:Hid (HwS w w7 (.pointer none) 0):=Oh (by rw[Xi];exact HSa.out.drewN _);have HN7:Hid (Blk w7 N 27 (i3' lo R D)):=Oh (by rw[Xi];exact HNa.out.drewN _);have HM7:Hid (Mp w7 gm (lo:Int) (R:Int) (D:Int) u m):=Oh (by rw[Xi];exact Blk.drewN HMa.out _);clear Xi HSa HNa HMa n1;have n0:=HN7.out.c0;have n1:=HN7.out.c1;have n2:=HN7.out.c2;have HCE:=Oh (a6Q.out gm);have RY:=Oh (a6R.out (il A0 c0 40) (c0-40));have HAB:=a3x;clear a6Q a6R a3x R5 HBU;go_upto_region 9 with(fail);refine wp_region_noPanic ?_;refine ag (S:=(fun W=>W.cell? ⟨N,0,none⟩=some (.int .i64 (lo:Int))∧W.cell? ⟨N,1,none⟩=some (.int .i64 (R:Int))∧W.cell? ⟨N,2,none⟩=some (.int .i64 (D:Int))∧Mp W gm (lo:Int) (R:Int) (D:Int) u m∧HwS w W (.pointer none) 0∧Blk W N 27 (i3' lo R D))) (L:=12) ok' ⟨n0,n1,n2,HM7.out,Xn.out.drewN 1,HN7.out⟩ (fun hHeld=>?_);refine tV 0 ?_;refine tV 1 ?_;refine tV 2 ?_
 refine tV 3 ?_;refine tV 4 ?_;refine tV 5 ?_;refine bO 6 fun K hK=>?_;go_simp;refine(HCE.out _ hHeld.2.2.2.1).mono ?_;rintro e v1 ⟨rfl,q1,MK⟩;have Ru:Hid (Blk v1 N 27 (i3' lo R D)):=Oh (by rw[MK];exact hHeld.2.2.2.2.2);have a3B:Hid (Mp v1 gm (lo:Int) (R:Int) (D:Int) u m):=Oh (by rw[MK];exact hHeld.2.2.2.1);have a3C:Hid (HwS w v1 (.pointer none) 0):=Oh (by rw[MK];exact hHeld.2.2.2.2.1.drewN _);clear MK;replace hHeld:=(show(fun W=>W.cell? ⟨N,0,none⟩=some (.int .i64 (lo:Int))∧W.cell? ⟨N,1,none⟩=some (.int .i64 (R:Int))∧W.cell? ⟨N,2,none⟩=some (.int .i64 (D:Int))∧Mp W gm (lo:Int) (R:Int) (D:Int) u m∧HwS w W (.pointer none) 0∧Blk W N 27 (i3' lo R D)) v1 from⟨Ru.out.ce,Ru.out.ce,Ru.out.ce,a3B.out,a3C.out,Ru.out⟩);refine hK.out _ _ hHeld ?_;clear hK K;try go_simp
 refine bO 7 fun K hK=>?_;go_simp;refine(RY.out _ (HAB.out.at_below a3C.out.below)).mono ?_;rintro e v2 ⟨AP,cP,rfl,oP,bP⟩;have Tg:=Oh (Ru.out.below bP Ru.out.lt);have a3D:Hid (Mp v2 gm (lo:Int) (R:Int) (D:Int) u m):=Oh (Blk.below a3B.out bP (Blk.lt a3B.out));have a3E:=Oh (a3C.out.next bP);have HOP:=Oh (bI.reads oP);clear bP oP;replace hHeld:=(show(fun W=>W.cell? ⟨N,0,none⟩=some (.int .i64 (lo:Int))∧W.cell? ⟨N,1,none⟩=some (.int .i64 (R:Int))∧W.cell? ⟨N,2,none⟩=some (.int .i64 (D:Int))∧Mp W gm (lo:Int) (R:Int) (D:Int) u m∧HwS w W (.pointer none) 0∧Blk W N 27 (i3' lo R D)) v2 from⟨Tg.out.ce,Tg.out.ce,Tg.out.ce,a3D.out,a3E.out,Tg.out⟩);refine hK.out _ _ hHeld ?_;clear hK K;try go_simp
 refine bO 8 fun K hK=>?_;go_simp;refine(HLO.out _ _ _ HOP.out).mono ?_;rintro e v3 ⟨px,gmx,bmx,rfl,hpx,hgx,hbx,a6U,bX⟩;have Uh:=Oh (Tg.out.below bX Tg.out.lt);have abL:Hid (Mp v3 gm (lo:Int) (R:Int) (D:Int) u m):=Oh (Blk.below a3D.out bX (Blk.lt a3D.out));have Vh:=Oh (a3E.out.next bX);have HHX:=Oh a6U;have HPX:Hid (w.heap.size+1<px∧w.heap.size+1<gmx∧w.heap.size+1<bmx):=Oh (by have:=a3E.out.e.lt;omega);have t2:=Vh.out.c2;have t3:=Vh.out.c3;have t2f:=Vh.out.s.free 0;have Ul:=Vh.out.e.free 0;clear bX a6U hpx hgx hbx;replace hHeld:=(show(fun W=>W.cell? ⟨N,0,none⟩=some (.int .i64 (lo:Int))∧W.cell? ⟨N,1,none⟩=some (.int .i64 (R:Int))∧W.cell? ⟨N,2,none⟩=some (.int .i64 (D:Int))∧Mp W gm (lo:Int) (R:Int) (D:Int) u m∧HwS w W (.pointer none) 0∧Blk W N 27 (i3' lo R D)) v3 from⟨Uh.out.ce,Uh.out.ce,Uh.out.ce,abL.out,Vh.out,Uh.out⟩);refine hK.out _ _ hHeld ?_;clear hK K;try go_simp
 refine tV 9 ?_;refine tV 10 ?_;refine fV 11 ?_;refine aL 12 ?_;refine aA 13 ?_;refine cD ?_;have Tl:Hid (HwS w ((v3.setCell ⟨w.heap.size,0,none⟩ (.pointer (some ⟨px,0,none⟩))).setCell ⟨w.heap.size+1,0,none⟩ (.int .i64 0)) (.pointer (some ⟨px,0,none⟩)) 0):=Oh ((Vh.out.setS _).setE 0)
 have SR:Hid (Hst ((v3.setCell ⟨w.heap.size,0,none⟩ (.pointer (some ⟨px,0,none⟩))).setCell ⟨w.heap.size+1,0,none⟩ (.int .i64 0)) px gmx bmx (lo:Int) (R:Int) (D:Int) u m false F L):=Oh (by
  have hp:=HPX.out;exact HHX.out.only (K:=fun i=>i=w.heap.size∨i=w.heap.size+1) (((ab.refl (fun i=>i=w.heap.size∨i=w.heap.size+1) _).set (p:=⟨w.heap.size,0,none⟩) (.inl (.inl rfl)) _).set (p:=⟨w.heap.size+1,0,none⟩) (.inl (.inr rfl)) _) oq oq oq)
 generalize((v3.setCell ⟨w.heap.size,0,none⟩ (.pointer (some ⟨px,0,none⟩))).setCell ⟨w.heap.size+1,0,none⟩ (.int .i64 0))=w9 at*;clear Vh HHX t2 t3 t2f Ul n0 n1 n2 HCE RY HLO HAB;have t2:=Tl.out.c2;have t3:=Tl.out.c3;have Ul:=Tl.out.e.free 0
 (try dsimp only)
 go_wp2_with fail;refine(ZE.out _).mono ?_;rintro e w9a ⟨rfl,UI⟩;obtain rfl:=UI.symm
 (try dsimp only)
 go_wp2_with fail;refine(Uw.out _ _ _ _ SR.out).mono ?_;rintro e Qr ⟨A,c,rfl,oB,bB⟩;have QQ:=Oh (Tl.out.next bB);have a6V:=Oh (SR.out.below bB);have RB:Hid (Bts (Qr.setCell ⟨w.heap.size+1,0,none⟩ (.int .i64 0)) (Qr.setCell ⟨w.heap.size+1,0,none⟩ (.int .i64 0)).heap.size A BL):=Oh (Own.setOther oB (p:=⟨w.heap.size+1,0,none⟩) (fun e=>by have h1:=(Own.block oB e).1;have h2:=Tl.out.e.lt;dsimp only at h1;omega) _).reads;clear oB bB t2 t3 Ul Tl SR;have t3:=QQ.out.c3;have Ul:=QQ.out.e.free 0
 (try dsimp only)
 go_wp2_with fail;have OI:=Oh (QQ.out.setE 0)
 have Xy:Hid (Hst (Qr.setCell ⟨w.heap.size+1,0,none⟩ (.int .i64 0)) px gmx bmx (lo:Int) (R:Int) (D:Int) u m false F L):=Oh (by
  have hp:=HPX.out;exact a6V.out.only (K:=fun i=>i=w.heap.size+1) ((ab.refl (fun i=>i=w.heap.size+1) _).set (p:=⟨w.heap.size+1,0,none⟩) (.inl rfl) _) oq oq oq)
 generalize Qr.setCell ⟨w.heap.size+1,0,none⟩ (.int .i64 0)=Qe at*;refine(TY.out _ _ _ RB.out (HA.out.at_below OI.out.below)).mono ?_;rintro e Tn ⟨rfl,q12,RC⟩;have QR:Hid (HwS w Tn (.pointer (some ⟨px,0,none⟩)) 0):=Oh (by rw[RC];exact OI.out.drewN _);have abN:Hid (Hst Tn px gmx bmx (lo:Int) (R:Int) (D:Int) u m false F L):=Oh (by rw[RC];exact Xy.out.drewN _);clear RC OI Xy QQ a6V RB t3 Ul
 (try dsimp only)
 go_wp2_with fail;refine(ZE.out _).mono ?_;rintro e aia ⟨rfl,RC⟩;obtain rfl:=RC.symm;have t2:=QR.out.c2;have t2f:=QR.out.s.free 0;have t3:=QR.out.c3;have Ul:=QR.out.e.free 0
 (try dsimp only)
 go_wp2_with fail;have WJ:HwS w ((Tn.setCell ⟨w.heap.size,0,none⟩ (.pointer (some ⟨px,0,none⟩))).setCell ⟨w.heap.size+1,0,none⟩ (.int .i64 0)) (.pointer (some ⟨px,0,none⟩)) 0:=(QR.out.setS _).setE 0;have hp:=HPX.out;have abO:=abN.out.only (K:=fun i=>i=w.heap.size∨i=w.heap.size+1) (((ab.refl (fun i=>i=w.heap.size∨i=w.heap.size+1) _).set (p:=⟨w.heap.size,0,none⟩) (.inl (.inl rfl)) (.pointer (some ⟨px,0,none⟩))).set (p:=⟨w.heap.size+1,0,none⟩) (.inl (.inr rfl)) (.int .i64 0)) oq oq oq;exact IB WJ _ rfl rfl _ ⟨px,rfl,oq,gmx,oq,bmx,oq,abO,WJ.below⟩
end
section
open Pl Sc Wi
def eE(lo hi:Nat)(l:List UInt8)(p:Nat):Option (Nat×Nat):=
 if(ci 0 0 (l.drop p)).1=0∧lo≤(ci 0 0 (l.drop p)).2.1∧(ci 0 0 (l.drop p)).2.1≤hi then some ((ci 0 0 (l.drop p)).2.1,p+(ci 0 0 (l.drop p)).2.2) else none
theorem dv{lo hi n p':Nat}{l:List UInt8}{p:Nat}(h:eE lo hi l p=some (n,p'))(hp:p≤l.length):lo≤n∧n≤hi∧p<p'∧p'≤l.length:=by
 unfold eE at h;split at h
 ·rename_i hc;obtain⟨h0,h1,h2⟩:=hc;injection h with h
  injection h with h3 h4
  have hu:=ga (l.drop p) 0 0 h0;rw[List.length_drop] at hu;omega
 ·cases h
def JD(base g:Nat)(A:Option Addr)(c:Nat)(l:List UInt8)(w:World)(r:Option (Nat×Nat))(e:Ending)(w':World):Prop:=match r with
 |some (n,p')=>e=.returned (.int .u64 (n:Nat))∧Rdr w' base g A c l p'∧ab (RK g) w w'
 |none=>e=.panicked s6∧ab (RK g) w w'
theorem JX(base g:Nat)(A:Option Addr)(c:Nat)(l:List UInt8)(p lo hi:Nat)(w:World)(h:Rdr w base g A c l p)(hp:p≤l.length)(hl:l.length≤100000000):
  Cl 243 #[.agg #[eU g],.int .u8 118,.int .u64 (lo:Int),.int .u64 (hi:Int)] w (JD base g A c l w (eE lo hi l p)):=by
 unfold eE;split
 ·rename_i hc;exact L3 base g A c l p lo hi _ _ w h hp hl (Prod.ext hc.1 (Prod.ext rfl rfl)) hc.2.1 hc.2.2
 ·rename_i hc
  exact L4 base g A c l p lo hi _ w h hp hl rfl (by
   by_cases h0:(ci 0 0 (l.drop p)).1=0
   ·right
    by_cases h1:(ci 0 0 (l.drop p)).2.1<lo
    ·exact .inl h1
    ·exact .inr (by
      by_cases h2:hi<(ci 0 0 (l.drop p)).2.1
      ·exact h2
      ·exact absurd ⟨h0,oq,oq⟩ hc)
   ·exact .inl h0)
def m8(pv:Option Int)(l:List UInt8)(p:Nat):Option (Int×Nat):=match pv with
 |none=>if(jC (l.drop p)).1=0∧ -1048576≤sg (jC (l.drop p)).2.1∧sg (jC (l.drop p)).2.1≤1048576 then some (sg (jC (l.drop p)).2.1,p+(jC (l.drop p)).2.2) else none
 |some q=>match eE 0 2097152 l p with
  |some (d,p1)=>some (q+1+(d:Int),p1)
  |none=>none
def ex(pv:Option Int)(l:List UInt8)(p:Nat):Option (Pr×Nat):=match m8 pv l p with
 |some (k,p1)=>(match eE 1 4611686018427387904 l p1 with
  |some (n,p2)=>some ((k,n),p2)
  |none=>none)
 |none=>none
def cH:Nat→Option Int→List UInt8→Nat→Option (List Pr×Nat)
 |0,_,_,p=>some ([],p)
 |n+1,pv,l,p=>match ex pv l p with
  |some (x,p1)=>(match cH n (some x.1) l p1 with
   |some (L,p2)=>some (x::L,p2)
   |none=>none)
  |none=>none
theorem Bo{pv:Option Int}{l:List UInt8}{p:Nat}{k:Int}{p1:Nat}(h:m8 pv l p=some (k,p1))(hp:p≤l.length):p1≤l.length∧(pv=none→ -1048576≤k∧k≤1048576)∧∀q,pv=some q→q<k∧k≤q+2097153:=by
 unfold m8 at h
 cases pv with
 |none=>
  dsimp only at h;split at h
  ·rename_i hc;injection h with h
   injection h with h1 h2
   have hu:(jC (l.drop p)).2.2≤0+(l.drop p).length:=(ga (l.drop p) 0 0 hc.1).1;rw[List.length_drop] at hu;exact⟨oq,fun _=>by omega,fun q hq=>by cases hq⟩
  ·cases h
 |some q=>
  dsimp only at h
  cases hn:eE 0 2097152 l p with
  |none=>rw[hn] at h;cases h
  |some r=>
   obtain⟨d,p2⟩:=r;rw[hn] at h;injection h with h
   injection h with h1 h2
   have:=dv hn hp;exact⟨oq,fun e=>(by cases e),fun q' hq=>by injection hq with hq;omega⟩
theorem iG(n:Nat)(pv:Option Int)(l:List UInt8)(p:Nat):cH (n+1) pv l p=match ex pv l p with
  |some (x,p1)=>(match cH n (some x.1) l p1 with
   |some (L,p2)=>some (x::L,p2)
   |none=>none)
  |none=>none:=rfl
theorem sJ{n i:Nat}(hi:i<n){S:List Pr}(hS:S.length=i){l:List UInt8}{p:Nat}(pv:Option Int):(cH (n-i) pv l p).map (fun r=>(S++r.1,r.2))=match ex pv l p with
  |some (x,p1)=>(cH (n-(i+1)) (eT (S++[x]) (i+1)) l p1).map (fun r=>((S++[x])++r.1,r.2))
  |none=>none:=by
 obtain⟨m,hm⟩:∃m,n-i=m+1:=⟨n-i-1,oq⟩;rw[hm,show n-(i+1)=m by omega];rw[iG]
 cases ex pv l p with
 |none=>rfl
 |some r=>
  obtain⟨x,p1⟩:=r;dsimp only;rw[eO (l:=S++[x]) (j:=i) (q:=x) (by rw[←hS,List.getElem?_append_right (Oi _),Nat.sub_self];rfl)]
  cases cH m (some x.1) l p1 with
  |none=>rfl
  |some r2=>obtain⟨L,p2⟩:=r2;simp
def Ca(base g:Nat)(A:Option Addr)(c:Nat)(l:List UInt8)(w:World)(r:Option (List Pr×Nat))(e:Ending)(w':World):Prop:=match r with
 |some (L,p')=>∃A' c',e=.returned (.slice A' L.length c')∧bI w' w.heap.size A' c' L∧Rdr w' base g A c l p'∧ab (RK g) w w'
 |none=>e=.panicked s6∧ab (RK g) w w'
theorem LS{n:Nat}(h:n<18446744073709551616):IntKind.i64.wrap (n:Int)=sg n:=by
 rw[IntKind.wrap_i64];unfold sg;split<;>omega
structure po(w W:World)(base g:Nat)(A:Option Addr)(c:Nat)(l:List UInt8)(p:Nat)(Ap:Option Addr)(cp:Nat)(S:List Pr)(m:Nat)(xs:Array Value):Prop where
 bk:Blk W m 176 xs
 nb:Blk W w.heap.size 337 #[eU g]
 row:bI W w.heap.size Ap cp S
 rd:Rdr W base g A c l p
 only:ab (RK g) w W
 low:w.heap.size<m
 far:∀x,aa Ap=some x→x<m
section
variable {w W W':World} {base g c cp m:Nat} {A Ap:Option Addr} {l:List UInt8} {p p':Nat} {S:List Pr} {xs:Array Value}
theorem po.num(h:po w W base g A c l p Ap cp S m xs)(hr:Rdr W' base g A c l p')(k:ab (RK g) W W'):po w W' base g A c l p' Ap cp S m xs:=
 ⟨h.bk.only k (fun e=>Blk.ne h.bk h.rd.1 od e),h.nb.only k (fun e=>Blk.ne h.nb h.rd.1 od e),Own.only (show Own W _ 176 2 Ap S.length cp (pcs S) from h.row) k (fun i hi e=>Own.ne_blk (show Own W _ 176 2 Ap S.length cp (pcs S) from h.row) h.rd.1 od (by rw[hi];exact congrArg some e)),hr,h.only.trans k,h.low,h.far⟩
theorem po.store(h:po w W base g A c l p Ap cp S m xs)(i:Nat)(u:Value):po w (W.setCell ⟨m,i,none⟩ u) base g A c l p Ap cp S m (xs.setIfInBounds i u):=
 ⟨h.bk.put i u,h.nb.far (p:=⟨m,i,none⟩) (by have:=h.low;dsimp only;omega) u,Own.setOther (show Own W _ 176 2 Ap S.length cp (pcs S) from h.row) (p:=⟨m,i,none⟩) (fun e=>by have:=h.far m e;omega) u,
  ⟨h.rd.1.far (p:=⟨m,i,none⟩) (fun e=>Blk.ne h.rd.1 h.bk od e) u,Own.setOther h.rd.2 (p:=⟨m,i,none⟩) (Own.ne_blk h.rd.2 h.bk od) u⟩,h.only.set (.inr (Nat.le_of_lt h.low)) u,h.low,h.far⟩
theorem po.drewM(h:po w W base g A c l p Ap cp S m xs):po w W.drew base g A c l p Ap cp S m xs:=⟨h.bk,h.nb,h.row,h.rd,h.only.drew,h.low,h.far⟩
theorem po.z(h:po w W base g A c l p Ap cp S m xs):W.cell? ⟨w.heap.size,0,none⟩=some (.func (Fn.func 223) #[.pointer (some ⟨g,0,none⟩)] #[]):=h.nb.ce
end
set_option maxHeartbeats 3200000 in
theorem Dj(base g:Nat)(A:Option Addr)(c:Nat)(l:List UInt8)(p0 n:Nat)(w:World)(h:Rdr w base g A c l p0)(hp:p0≤l.length)(hl:l.length≤100000000)(hn:n≤4096):
  Cl 244 #[.agg #[eU g],.int .i64 (n:Int)] w (Ca base g A c l w (cH n none l p0)):=by
 have Xm:=Oh (fun W p (h:Rdr W base g A c l p) (hp:p≤l.length)=>jg base g A c l p 122 W h hp hl zL);have HZD:∀l,ij (122,0,329,330) l=jC l:=fun _=>rfl;simp only[HZD] at Xm;have UO:=Oh (fun lo hi W p (h:Rdr W base g A c l p) (hp:p≤l.length)=>JX base g A c l p lo hi W h hp hl);have OB:=Oh hl;have HR:=Oh h;have OY:=Oh hp;have hn':(n:Int)≤4096:=oq;obtain⟨R,hR⟩:=nm (cH n none l p0);rw[←hR];have HRR:=Oh hR;clear h hp hl hn hR HZD;unfold eU;go_enter func244,ntmps244;go_wp2_with fail;have QC:Below w.heap.size w (w.alloc (.cells #[eU g] 337)):=Ba;have oK:=Oh QC;have HN0:=Oh (Blk.new w 337 #[eU g]);clear QC;go_loopw [12,5] (fun v u wr=>∃(i:Nat) (S:List Pr) (Ap:Option Addr) (cp p:Nat),v=.int .i64 (i:Int)∧u=.slice Ap S.length cp∧i≤n∧S.length=i∧p≤l.length∧R=(cH (n-i) (eT S i) l p).map (fun r=>(S++r.1,r.2))∧bI wr w.heap.size Ap cp S∧Rdr wr base g A c l p∧ab (RK g) w wr∧Blk wr w.heap.size 337 #[eU g]∧(∀q,eT S i=some q→ -1048576≤q∧q≤1048576+2097153*(i:Int))) (fun v _ _=>n-(intOf v).toNat)
 case atStart=>exact⟨0,[],none,0,p0,rfl,rfl,Nat.zero_le _,rfl,OY.out,by rw[HRR.out,Nat.sub_zero,wZ];cases cH n none l p0<;>rfl,Own.nil _ _ _ _,HR.out.below oK.out,ab.of_below oK.out,HN0.out,fun q hq=>by cases hq⟩
 case round=>
  obtain⟨i,S,Ap,cp,p,rfl,rfl,hi,Z5,hp,Sx,ho,hr,hk,SZ,hq⟩:=hrel;obtain⟨wo,rfl⟩:=nm (wr:World);have HO:=Oh ho;have Ty:=Oh hr;have HK:=Oh hk;have Sd:=Oh SZ;have HQ:=Oh hq;have Uu:=Oh Z5;have HP:=Oh hp;have Sy:=Oh Sx;clear ho hr hk SZ hq Z5 hp Sx
  by_cases hlt:i<n
  ·have Ri:(i:Int)<(n:Int):=oq;have Qd:(0:Int)≤(i:Int):=oq;have HI:=Oh hlt;have QJ:=Oh (Sy.out.trans (sJ hlt Uu.out (eT S i)));have eQ:Below wo.heap.size wo (wo.alloc (.cells #[.int .i64 0,.int .u64 0] 176)):=Ba;have WM:Hid (po w (wo.alloc (.cells #[.int .i64 0,.int .u64 0] 176)) base g A c l p Ap cp S wo.heap.size #[.int .i64 0,.int .u64 0]):=Oh ⟨Blk.new _ _ _,Sd.out.below eQ Sd.out.lt,Own.below (show Own wo _ 176 2 Ap S.length cp (pcs S) from HO.out) eQ,Ty.out.below eQ,HK.out.alloc _,Sd.out.lt,fun x hx=>(Own.block (show Own wo _ 176 2 Ap S.length cp (pcs S) from HO.out) hx).2⟩;have z1:=WM.out.z;obtain⟨N1,Zy⟩:=nm (wo.heap.size);rw[←Zy] at WM;have PX:=Oh Zy;clear eQ hi Zy
   by_cases hz:i=0
   ·have RT:((i:Int)==0)=true:=sq;have a3o:(i==0)=true:=sq;have RN:eT S i=none:=by rw[hz];rfl
    rw[RN] at QJ;clear hz RN hlt;obtain⟨D,hD⟩:=nm (jC (l.drop p));have a6W:D.2.1<18446744073709551616:=by rw[hD];exact jX (122,0,329,330) (l.drop p) od
    have hsg:=LS a6W;have HZ:=Oh (fun W (h:Rdr W base g A c l p)=>Xm.out W p h HP.out);rw[←hD] at HZ;have iD:m8 none l p=if D.1=0∧ -1048576≤sg D.2.1∧sg D.2.1≤1048576 then some (sg D.2.1,p+D.2.2) else none:=by rw[hD];rfl
    have hu:D.1=0→p+D.2.2≤l.length:=fun h0=>by
     have h1:=(ga (l.drop p) 0 0 (show(ci 0 0 (l.drop p)).1=0 by rw[hD] at h0;exact h0)).1;have h2:=HP.out;rw[List.length_drop] at h1;rw[hD];show p+(ci 0 0 (l.drop p)).2.2≤l.length;omega
    clear hD a6W;obtain⟨er,val,us⟩:=D;dsimp only at HZ iD hsg hu;generalize sg val=k at*
    by_cases hc:er=0∧ -1048576≤k∧k≤1048576
    ·rw[if_pos hc] at iD;obtain⟨rfl,VZ,QM⟩:=hc;have HKB:Hid (-1048576≤k∧k≤1048576+2097153*((i+1:Nat):Int)):=Oh ⟨VZ,oq⟩;have RL:=Oh (hu rfl);clear hu;have e1:decide (k< -1048576)=false:=by simpa using VZ
     have e2:decide (1048576<k)=false:=by simpa using QM
     clear VZ QM;obtain⟨p1,UV⟩:=nm (p+us);rw[←UV] at iD RL;have HPE:=Oh UV;clear UV
     have Pu:ex none l p=match eE 1 4611686018427387904 l p1 with
      |some (n,p2)=>some ((k,n),p2)
      |none=>none:=by unfold ex;rw[iD]
     rw[Pu] at QJ;clear iD Pu;go_wp2_with fail;rw[←PX.out];refine(HZ.out _ WM.out.rd).mono ?_;rintro e w2 ⟨rfl,r2,k2⟩;dsimp only at r2;rw[←HPE.out] at r2;have ms2:=WM.out.num r2 k2;have y2:=ms2.bk.c0;have f2:=ms2.bk.free 0;have MS3:=Oh (ms2.store 0 (.int .i64 k));have z3:=MS3.out.z;clear r2 k2 ms2;dsimp only;exact vj
    ·rw[if_neg hc] at iD;have Pu:ex none l p=none:=by unfold ex;rw[iD]
     rw[Pu] at QJ;have OQ:=QJ.out;dsimp only at OQ
     have XY:((er:Int)==0)=false∧(er==0)=false∨er=0∧decide (k< -1048576)=true∨er=0∧decide (k< -1048576)=false∧decide (1048576<k)=true:=by
      by_cases e0:er=0
      ·by_cases e1:k< -1048576
       ·exact .inr (.inl ⟨e0,by simpa using e1⟩)
       ·exact .inr (.inr ⟨e0,by simpa using e1,by simp;omega⟩)
      ·exact .inl ⟨by simp;omega,by simp;omega⟩
     subst OQ;clear hc iD Pu hu QJ Sy HRR;rcases XY with⟨x1,x2⟩|⟨rfl,x1⟩|⟨rfl,x1,x2⟩
     all_goals
      go_wp2_with fail;rw[←PX.out];refine(HZ.out _ WM.out.rd).mono ?_;rintro e w2 ⟨rfl,r2,k2⟩;have K2:=Oh (WM.out.only.trans k2);clear r2 k2;dsimp only;go_wp2_with fail
      all_goals first
       |exact(show([]:List _)=[]∧Ending.panicked s6=Ending.panicked s6∧ab (RK g) w w2 from⟨rfl,rfl,K2.out⟩)
       |(exfalso;simp_all;done)
   ·obtain⟨j,hj⟩:∃j,i=j+1:=⟨i-1,oq⟩;have hw:IntKind.i64.wrap ((i:Int)-1)=(j:Int):=by have:=OB.out;rw[i6];omega
    have Yc:(0:Int)≤(j:Int):=oq;have Z5:=Uu.out;have TC:(j:Int)<(S.length:Int):=oq;have Yy:(S.length:Int)≤4096:=oq;have hwj:IntKind.i64.wrap (j:Int)=(j:Int):=i6;have RT:((i:Int)==0)=false:=sq;have a3o:(i==0)=false:=sq;obtain⟨y,hy⟩:=gs S j;have RN:eT S i=some y.1:=by rw[hj];exact eO hy
    have hqb:=HQ.out y.1 RN;rw[RN] at QJ;obtain⟨bp,op,rfl,hbp,hcp⟩:=(bI.reads HO.out).at_ oq;have dq0:=(hcp j y hy).1;have Wu:=WM.out.far bp rfl;have dq1:(wo.alloc (.cells #[.int .i64 0,.int .u64 0] 176)).cell? ⟨bp,op+j*2,none⟩=some (.int .i64 y.1):=(World.cell?_alloc_lt wo _ _ hbp).trans dq0;have abS:=Oh Wu;have HBP:=Oh hbp;have HJ:=Oh hj;obtain⟨y,ny⟩:=y;dsimp only at dq1 hqb QJ;obtain⟨r5,VN⟩:=nm (eE 0 2097152 l p);have QS:=Oh (fun W (h:Rdr W base g A c l p)=>UO.out 0 2097152 W p h HP.out);rw[←VN] at QS;clear hz hlt Z5 hy RN hcp dq0 Wu hbp
    cases r5 with
    |none=>
     have iD:m8 (some y) l p=none:=by unfold m8;rw[←VN]
     have Pu:ex (some y) l p=none:=by unfold ex;rw[iD]
     rw[Pu] at QJ;have OQ:=QJ.out;dsimp only at OQ;subst OQ;clear VN iD Pu QJ Sy HRR hqb;go_wp2_with fail;rw[←PX.out];refine wp_region_held_drew (S:=(fun W=>W.cell? ⟨bp,op+j*2,none⟩=some (.int .i64 y)∧W.cell? ⟨w.heap.size,0,none⟩=some (.func (Fn.func 223) #[.pointer (some ⟨g,0,none⟩)] #[]))) ok' ⟨dq1,z1⟩ (fun hHeld=>?_);refine tH 0 ?_;refine tH 1 ?_;refine tH 2 ?_;refine tH 3 ?_;refine tH 4 ?_;refine tH 5 ?_;refine tH 6 ?_;refine tH 7 ?_;refine dQ 8 fun K hK=>?_;go_simp;refine(QS.out _ WM.out.drewM.rd).mono ?_;rintro e w3 ⟨rfl,k3⟩;exact⟨rfl,rfl,WM.out.drewM.only.trans k3⟩
    |some r5=>
     obtain⟨d,p1⟩:=r5;have Ww:=dv VN.symm HP.out;obtain⟨k,hk⟩:=nm (y+1+(d:Int));have iD:m8 (some y) l p=some (k,p1):=by unfold m8;rw[←VN,hk]
     have uP:IntKind.i64.wrap (y+1)=y+1:=i6;have Rk:IntKind.i64.wrap (d:Int)=(d:Int):=i6;have Zj:IntKind.i64.wrap (y+1+(d:Int))=k:=by rw[i6,hk]
     have HKB:Hid (-1048576≤k∧k≤1048576+2097153*((i+1:Nat):Int)):=Oh ⟨oq,oq⟩;have RL:Hid (p1≤l.length):=Oh Ww.2.2.2
     have Pu:ex (some y) l p=match eE 1 4611686018427387904 l p1 with
      |some (n,p2)=>some ((k,n),p2)
      |none=>none:=by unfold ex;rw[iD]
     rw[Pu] at QJ;have HBG:Hid (bp≠g):=Oh (fun e=>Own.ne_blk (show Own _ w.heap.size 176 2 (some ⟨bp,op,none⟩) S.length cp (pcs S) from WM.out.row) WM.out.rd.1 od (congrArg some e));clear VN iD Pu Ww hqb hk;go_wp2_with fail;rw[←PX.out];refine wp_region_held_drew (S:=(fun W=>W.cell? ⟨bp,op+j*2,none⟩=some (.int .i64 y)∧W.cell? ⟨w.heap.size,0,none⟩=some (.func (Fn.func 223) #[.pointer (some ⟨g,0,none⟩)] #[]))) ok' ⟨dq1,z1⟩ (fun hHeld=>?_);refine tH 0 ?_;refine tH 1 ?_;refine tH 2 ?_;refine tH 3 ?_;refine tH 4 ?_;refine tH 5 ?_;refine tH 6 ?_;refine tH 7 ?_;refine dQ 8 fun K hK=>?_;go_simp;refine(QS.out _ WM.out.drewM.rd).mono ?_;rintro e w3 ⟨rfl,r3,k3⟩;have ms3:=WM.out.drewM.num r3 k3;refine hK.out _ _ ?_ (fun hHeld=>?_)
     ·exact⟨(World.cell?_of_block (k3.block bp (by have:=HBP.out;show bp<(wo.alloc _).heap.size;rw[World.size_alloc];omega) (fun e=>HBG.out e))).trans hHeld.1,ms3.z⟩
     clear hK K
     try go_simp
     refine tH 9 ?_;refine tH 10 ?_;refine tH 11 ?_;refine dQ 12 fun K hK=>?_;have y2:=ms3.bk.c0;have f2:=ms3.bk.free 0;go_simp;refine hK.out _ _ ?_ (fun hHeld=>?_)
     ·exact⟨(World.cell?_of_block (Below.heap_setCell _ _ _ _ (by have:=abS.out;dsimp only;omega))).trans hHeld.1,(ms3.store 0 _).z⟩
     clear hK K y2 f2
     try go_simp
     refine wpAnyH_done ok' ?_ _;clear hHeld;have MS3:=Oh (ms3.store 0 (.int .i64 k));have z3:=MS3.out.z;clear ms3 r3 k3 dq1;exact vj
  ·have hge:¬(i:Int)<(n:Int):=oq;have QO:n-i=0:=oq;have OQ:R=some (S,p):=by rw[Sy.out,QO];unfold cH;simp
   have PY:=Oh OQ;clear hi hlt QO OQ;go_wp2_with fail;go_ret;rw[PY.out];exact⟨Ap,cp,rfl,HO.out,Ty.out,HK.out⟩
structure RdS(w W:World)(v:Value)(z:Int):Prop where
 s:Blk W w.heap.size 99 #[v]
 e:Blk W (w.heap.size+1) 34 #[.int .i64 z]
 below:Below w.heap.size w W
theorem RdS.step{w W W':World}{v:Value}{z:Int}{base g:Nat}{A:Option Addr}{c:Nat}{l:List UInt8}{p:Nat}(h:RdS w W v z)(hr:Rdr W base g A c l p)(hg:w.heap.size≤g)(k:ab (RK g) W W'):RdS w W' v z:=
 ⟨h.s.only k (fun e=>Blk.ne h.s hr.1 od e),h.e.only k (fun e=>Blk.ne h.e hr.1 od e),h.below.trans (k.below h.below.size (fun i hi=>by unfold RK at hi;omega))⟩
theorem RdS.next{w W W':World}{v:Value}{z:Int}(h:RdS w W v z)(k:Below W.heap.size W W'):RdS w W' v z:=
 ⟨h.s.below k h.s.lt,h.e.below k h.e.lt,h.below.trans (k.mono h.below.size)⟩
def rdD(n:Nat):List Deferred:=[{target:=.fn (Fn.func 242) #[],args:=#[.pointer (some ⟨n+1,0,none⟩)]},
 {target:=.fn (Fn.func 241) #[.pointer (some ⟨n+1,0,none⟩),.pointer (some ⟨n,0,none⟩)],args:=#[]}]
theorem xS{w W:World}{p:Option Addr}{z:Int}(h:RdS w W (.pointer p) z)(tmps:Array Value)(h2:tmps.getD 2 undef=.pointer (some ⟨w.heap.size,0,none⟩))(h3:tmps.getD 3 undef=.pointer (some ⟨w.heap.size+1,0,none⟩))(R:Ending→World→Prop)(hR:R (.returned (.tuple #[.pointer p,.int .i64 z])) W):Leaves prog Tryz.f166 tmps R [] .returning W:=by
 have cs:=h.s.c0;have ce:=h.e.c0;simp only[Array.getD_eq_getD_getElem?] at h2 h3;refine⟨_,?_,hR⟩;simp only[results,results166];simp[go_sem,h2,h3,cs,ce]
theorem kR{w W:World}{v:Value}(h:RdS w W v 0)(tmps:Array Value)(h2:tmps.getD 2 undef=.pointer (some ⟨w.heap.size,0,none⟩))(h3:tmps.getD 3 undef=.pointer (some ⟨w.heap.size+1,0,none⟩))(R:Ending→World→Prop)(hR:∀W',Below w.heap.size w W'→R (.returned (.tuple #[.pointer none,.int .i64 9])) W'):Leaves prog Tryz.f166 tmps R (rdD w.heap.size) (.panicking s6) W:=by
 unfold rdD;refine leaves_cons (f:=242) (args:=#[.pointer (some ⟨w.heap.size+1,0,none⟩)]) os' (by simp[go_sem]) ?_;refine(sZ _ 0 W h.e).mono ?_;rintro e u' w' ⟨rfl,rfl,rfl⟩;refine leaves_cons (f:=241) (args:=#[.pointer (some ⟨w.heap.size+1,0,none⟩),.pointer (some ⟨w.heap.size,0,none⟩)]) (by simp[settle]) (by simp[go_sem]) ?_;have h5:=h.next ((Oq W.heap.size W).alloc (Oi _) (.cells #[] 427));have he:=h5.e.put 0 (.int .i64 9);have hs:=h5.s.far (p:=⟨w.heap.size+1,0,none⟩) os' (.int .i64 9);refine(tJ (w.heap.size+1) w.heap.size 9 v _ he od hs oq).mono ?_;rintro e u' w' ⟨rfl,rfl,rfl⟩;have OO:=h5.below;refine xS (p:=none) (z:=9) ⟨?_,?_,?_⟩ tmps h2 h3 R (hR _ ?_)
 ·exact(hs.put 0 (.pointer none)).far (p:=⟨w.heap.size+1,0,none⟩) os' _
 ·exact(he.far (p:=⟨w.heap.size,0,none⟩) os' _).put 0 (.int .i64 9)
 ·exact((OO.setCell os' _).setCell os' _).setCell os' _
 ·exact((OO.setCell os' _).setCell os' _).setCell os' _
theorem Hb{w W:World}{p:Option Addr}(h:RdS w W (.pointer p) 0)(tmps:Array Value)(h2:tmps.getD 2 undef=.pointer (some ⟨w.heap.size,0,none⟩))(h3:tmps.getD 3 undef=.pointer (some ⟨w.heap.size+1,0,none⟩))(R:Ending→World→Prop)(hR:R (.returned (.tuple #[.pointer p,.int .i64 0])) W):Leaves prog Tryz.f166 tmps R (rdD w.heap.size) .returning W:=by
 unfold rdD;refine leaves_cons (f:=242) (args:=#[.pointer (some ⟨w.heap.size+1,0,none⟩)]) os' (by simp[go_sem]) ?_;refine(lS _ W).mono ?_;rintro e u' w' ⟨rfl,rfl,rfl⟩;refine leaves_cons (f:=241) (args:=#[.pointer (some ⟨w.heap.size+1,0,none⟩),.pointer (some ⟨w.heap.size,0,none⟩)]) (by simp[settle]) (by simp[go_sem]) ?_;refine(D7 _ _ w' h.e).mono ?_;rintro e u' Wb ⟨rfl,rfl,rfl⟩;exact xS h tmps h2 h3 R hR
theorem G4{w W:World}{v:Value}{z:Int}(h:RdS w W v z)(hz:z≠0)(tmps:Array Value)(h2:tmps.getD 2 undef=.pointer (some ⟨w.heap.size,0,none⟩))(h3:tmps.getD 3 undef=.pointer (some ⟨w.heap.size+1,0,none⟩))(R:Ending→World→Prop)(hR:∀W',Below w.heap.size w W'→R (.returned (.tuple #[.pointer none,.int .i64 9])) W'):Leaves prog Tryz.f166 tmps R (rdD w.heap.size) .returning W:=by
 unfold rdD;refine leaves_cons (f:=242) (args:=#[.pointer (some ⟨w.heap.size+1,0,none⟩)]) os' (by simp[go_sem]) ?_;refine(lS _ W).mono ?_;rintro e u' w' ⟨rfl,rfl,rfl⟩;refine leaves_cons (f:=241) (args:=#[.pointer (some ⟨w.heap.size+1,0,none⟩),.pointer (some ⟨w.heap.size,0,none⟩)]) (by simp[settle]) (by simp[go_sem]) ?_;refine(tJ (w.heap.size+1) w.heap.size z v w' h.e hz h.s oq).mono ?_;rintro e u' Wb ⟨rfl,rfl,rfl⟩;refine xS (p:=none) (z:=9) ⟨?_,?_,?_⟩ tmps h2 h3 R (hR _ ?_)
 ·exact(h.s.put 0 (.pointer none)).far (p:=⟨w.heap.size+1,0,none⟩) os' _
 ·exact(h.e.far (p:=⟨w.heap.size,0,none⟩) os' _).put 0 (.int .i64 9)
 ·exact(h.below.setCell os' _).setCell os' _
 ·exact(h.below.setCell os' _).setCell os' _
open Classical in
noncomputable def fU(b:List UInt8):Option (Nat×Nat×List Pr×Nat):=match eE 100 5000 b 0 with
 |none=>none
 |some (a,p1)=>match eE 2 4096 b p1 with
  |none=>none
  |some (m,p2)=>match eE 0 m b p2 with
   |none=>none
   |some (n,p3)=>match eE 0 4611686018427387904 b p3 with
    |none=>none
    |some (f,p4)=>match cH n none b p4 with
     |none=>none
     |some (L,p5)=>if p5=b.length∧ey a m L f∧iX a m L f=b then some (a,m,L,f) else none
theorem xa{pv:Option Int}{l:List UInt8}{p:Nat}{x:Pr}{p1:Nat}(h:ex pv l p=some (x,p1))(hp:p≤l.length):p1≤l.length∧0<x.2∧∀q,pv=some q→q<x.1:=by
 unfold ex at h
 cases hk:m8 pv l p with
 |none=>rw[hk] at h;cases h
 |some r=>
  obtain⟨k,p2⟩:=r;rw[hk] at h;dsimp only at h;obtain⟨h1,_,h3⟩:=Bo hk hp
  cases hn:eE 1 4611686018427387904 l p2 with
  |none=>rw[hn] at h;cases h
  |some s=>
   obtain⟨n,p3⟩:=s;rw[hn] at h;injection h with h
   injection h with h4 h5
   have h6:=dv hn h1;subst h4;exact⟨oq,by dsimp only;omega,fun q hq=>(h3 q hq).1⟩
theorem jY:∀(n:Nat) (pv:Option Int) (l:List UInt8) (p:Nat) (L:List Pr) (p5:Nat),cH n pv l p=some (L,p5)→p≤l.length→p5≤l.length∧L.length=n∧Srt L∧Pos L∧∀q,pv=some q→∀x∈L,q<x.1
 |0,pv,l,p,L,p5,h,hp=>by
  unfold cH at h;injection h with h
  injection h with h1 h2
  subst h1;exact⟨oq,rfl,Srt.nil,Pos.nil,fun q _ x hx=>by cases hx⟩
 |n+1,pv,l,p,L,p5,h,hp=>by
  rw[iG] at h
  cases hx:ex pv l p with
  |none=>rw[hx] at h;cases h
  |some r=>
   obtain⟨x,p1⟩:=r;rw[hx] at h;dsimp only at h;obtain⟨h1,h2,h3⟩:=xa hx hp
   cases hs:cH n (some x.1) l p1 with
   |none=>rw[hs] at h;cases h
   |some r=>
    obtain⟨M,p2⟩:=r;rw[hs] at h;injection h with h
    injection h with h4 h5
    obtain⟨k1,k2,k3,k4,k5⟩:=jY n _ l p1 M p2 hs h1;subst h4;refine⟨oq,by rw[List.length_cons,k2],List.pairwise_cons.2 ⟨fun y hy=>k5 x.1 rfl y hy,k3⟩,fun y hy=>?_,fun q hq y hy=>?_⟩
    ·rcases List.mem_cons.1 hy with rfl|hy
     ·exact h2
     ·exact k4 y hy
    ·rcases List.mem_cons.1 hy with rfl|hy
     ·exact h3 q hq
     ·exact Int.lt_trans (h3 q hq) (k5 x.1 rfl y hy)
end
section
open Pl Sc
theorem Skt.set{w:World}{p q cs a g gl c:Nat}{As A:Option Addr}{m:Int}{all:List Pr}(h:Skt w p q As cs a g gl A c m all){i:Nat}{t:TypeId}{xs:Array Value}(hb:Blk w i t xs)(h0:t≠269)(h1:t≠363)(h2:t≠386)(h3:t≠360)(h4:t≠426)(h5:t≠176)(j:Nat)(u:Value):Skt (w.setCell ⟨i,j,none⟩ u) p q As cs a g gl A c m all:=by
 have k:ab (fun x=>x=i) w (w.setCell ⟨i,j,none⟩ u):=ab.set (p:=⟨i,j,none⟩) (ab.refl (fun x=>x=i) w) (.inl rfl) u;refine⟨h.blk.only k (fun e=>Blk.ne hb h.blk h0 e.symm),tE h.scl k (fun x t' ys hx ht e=>?_),⟨h.sto.blk.only k (fun e=>Blk.ne hb h.sto.blk h3 e.symm),h.sto.lst.only k (fun e=>Blk.ne hb h.sto.lst.1 h4 e.symm) (fun x hx e=>?_)⟩⟩
 ·rcases ht with rfl|rfl
  ·exact Blk.ne hb hx h1 e.symm
  ·exact Blk.ne hb hx h2 e.symm
 ·exact Own.ne_blk (show Own w gl 176 2 A (ah all m).1.length c (pcs (ah all m).1) from h.sto.lst.2) hb (fun e=>h5 e.symm) (by rw[hx];exact congrArg some e)
theorem Cn{w:World}{p q cs a g gl c m:Nat}{As A:Option Addr}{L:List Pr}{f:Nat}(h:Skt w p q As cs a g gl A c (m:Int) (gZ L f))(ha:a≤5000)(oS:2≤m)(gE:m≤4096)(hk:ey a m L f)(hs:Srt L)(hp:Pos L)(hl:L.length≤m):
  Cl 55 #[.pointer (some ⟨p,0,none⟩)] w (zQ w (iX a m L f)):=by
 have hc:=qL hk oS hl;have hf:=xB hk hs hp oq;have hK:aV L:=⟨hs,hp,fun q hq=>by have:=hk.keys q hq;have:=bV a;omega,hk.tot,oq⟩
 have hF:f≤4611686018427387904:=by
  rcases hk.fold with h0|⟨_,x,R,hx,h2⟩
  ·omega
  ·have:=hk.tot;rw[hx,aK] at this;omega
 refine yg p a m L f w hK oq ha gE hF ?_ (fun W hb=>pd (h.below hb)) (fun W hb=>lD (h.below hb)) (fun W hb=>?_)
 ·have h1:=we h hf;rw[hc] at h1;exact h1
 ·have h1:=qF (h.below hb);rw[hc] at h1;exact h1
end
end Go.Proofs.YtmbippkpjdoojaaGreat
