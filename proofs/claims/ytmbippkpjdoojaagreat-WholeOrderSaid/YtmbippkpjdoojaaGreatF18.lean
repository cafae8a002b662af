/- Parts of a proof, merged. -/
import Derived.Test.YtmbippkpjdoojaaGreatF17
set_option maxRecDepth 100000
set_option maxHeartbeats 1600000
namespace Go.Proofs.YtmbippkpjdoojaaGreat
open Tryz
open Go.RowKit
section
open Wi
section
variable {w w':World} {x base g c p:Nat} {A:Option Addr} {l:List UInt8} {ver:Int} {pk:Bool} {tx:Value}
theorem I4(h:Ltr w x base g A c l p ver 0 pk tx)(htx:∃A n c,tx=.slice A n c)(k:Nat)(t s:List UInt8)(hk:k<256)(hd:l.drop p=low 1 k++(low 1 0++(leb t.length++(t++s))))(hs:s.length=4)(lim:Nat)(h1:t.length≤lim)(h2:lim≤1048576)(hl:l.length≤100000000):
  Cl 81 #[.pointer (some ⟨x,0,none⟩),.int .i64 (lim:Int)] w fun e w'=>e=.returned (.tuple #[])∧∃A' c' p',Ltr w' x base g A c l p' ver k pk (.slice A' t.length c')∧ak w' w.heap.size A' c' t∧ab (fun i=>i=g∨i=x) w w':=by
 obtain⟨tA,tn,tc,rfl⟩:=htx;have uP:=bL hd;have Rk:=bL uP;have Zj:=bL Rk;have Xq:=dn Rk (bT _);have OG:=Oh (yQ h k hk hd hl);have Tz:=Oh (fun W (h:Ltr W x base g A c l (p+(low 1 k).length) ver k pk (.slice tA tn tc))=>yQ h 0 oq uP hl);have SW:=Oh (fun W (h:Ltr W x base g A c l (p+(low 1 k).length+(low 1 0).length) ver k pk (.slice tA tn tc))=>I3 h t.length oq Rk hl);have HRS:=Oh (fun W (h:Ltr W x base g A c l (p+(low 1 k).length+(low 1 0).length+(leb t.length).length) ver k pk (.slice tA tn tc))=>DD h t s Zj hs Xq hl);have x1:IntKind.u8.wrap (k:Int)=(k:Int):=by rw[IntKind.wrap_u8];omega
 have x2:IntKind.u64.wrap (lim:Int)=(lim:Int):=u6;have x3:decide ((t.length:Int)≤(lim:Int))=true:=sq;have x3b:decide (t.length≤lim)=true:=sq;have HH:=Oh h;clear h hk hd hs h1 h2 hl uP Rk Zj Xq;generalize p+(low 1 k).length+(low 1 0).length+(leb t.length).length=P3 at*;generalize p+(low 1 k).length+(low 1 0).length=P2 at*;generalize p+(low 1 k).length=P1 at*;go_enter func81,ntmps81;go_wp2_with fail;refine OG.out.mono ?_;rintro e w1 ⟨rfl,r1,k1⟩;have H1:=Oh r1;have K1:=Oh k1;have d2:=r1.blk.c2;have fr:=r1.blk.free;clear r1 k1 OG;go_upto_region 1 with(fail);have H2:Hid (Ltr (w1.setCell ⟨x,2,none⟩ (.int .u8 (k:Int))) x base g A c l P1 ver k pk (.slice tA tn tc)):=Oh (H1.out.put 2 _ _ _ _ _ rfl);have K2:Hid (ab (fun i=>i=g∨i=x) w (w1.setCell ⟨x,2,none⟩ (.int .u8 (k:Int)))):=Oh ((K1.out.mono fun i hi=>.inl hi).set (p:=⟨x,2,none⟩) (.inl (.inr rfl)) _);generalize w1.setCell ⟨x,2,none⟩ (.int .u8 (k:Int))=w2 at*;clear d2 fr H1 K1;go_wp2_with fail;refine(Tz.out _ H2.out).mono ?_;rintro e w3 ⟨rfl,r3,k3⟩;have H3:=Oh r3;have K3:Hid (ab (fun i=>i=g∨i=x) w w3):=Oh (K2.out.trans (k3.mono fun i hi=>.inl hi));clear r3 k3 H2 K2 Tz;go_wp2_with fail;refine(SW.out _ H3.out).mono ?_;rintro e w4 ⟨rfl,r4,k4⟩;have H4:=Oh r4;have K4:Hid (ab (fun i=>i=g∨i=x) w w4):=Oh (K3.out.trans (k4.mono fun i hi=>.inl hi));clear r4 k4 H3 K3 SW;go_wp2_with fail;refine(jV _).mono ?_;rintro e w5 ⟨rfl,R7⟩;obtain rfl:=R7.symm;go_wp2_with fail;refine(HRS.out _ H4.out).mono ?_;rintro e w6 ⟨A6,c6,rfl,o6,r6,k6⟩;have H6:=Oh r6;have Ow:Hid (ak w6 w.heap.size A6 c6 t):=Oh (Own.mono (show Own w6 _ 5 1 A6 t.length c6 (bvs t) from o6) K4.out.size);have K6:Hid (ab (fun i=>i=g∨i=x) w w6):=Oh (K4.out.trans (k6.mono fun i hi=>.inl hi));have d4:=r6.blk.c4;have fr:=r6.blk.free;clear o6 r6 k6 H4 K4 HRS;go_wp2_with fail;refine bodyPost_ret (v:=.tuple #[]) (results_none results81 _ _ _) rfl ?_;refine⟨rfl,A6,c6,_,H6.out.put 4 _ _ _ _ _ rfl,?_,?_⟩
 ·exact Own.setOther (show Own w6 _ 5 1 A6 t.length c6 (bvs t) from Ow.out) (p:=⟨x,4,none⟩) (Own.ne_blk (show Own w6 _ 5 1 A6 t.length c6 (bvs t) from Ow.out) H6.out.blk od) _
 ·exact K6.out.set (p:=⟨x,4,none⟩) (.inl (.inr rfl)) _
end
theorem F5{w:World}{x g k:Nat}{pk:Bool}{A1:Option Addr}{c1:Nat}{t b:List UInt8}(hx:Blk w x 120 (xE g 2 k pk (.slice A1 t.length c1)))(ht:Bts w w.heap.size A1 t)(HN:Hid (∀W,Bts W W.heap.size A1 t→Cl 30 #[.int .u8 (k:Int),.slice A1 t.length c1,.bool pk] W (eJ b W))):
  Cl 83 #[.pointer (some ⟨x,0,none⟩)] w (eJ b w):=by
 have c1':=hx.c1;have c2:=hx.c2;have c3:=hx.c3;have c4:=hx.c4;have HX:=Oh hx;have HT:=Oh ht;clear hx ht;go_enter func83,ntmps83;go_upto_region 3 with(fail);refine wp_region_noPanic ?_;refine ag (S:=(fun(V:World)=>V.cell? ⟨x,2,none⟩=some (.int .u8 (k:Int))∧V.cell? ⟨x,4,none⟩=some (.slice A1 t.length c1)∧V.cell? ⟨x,3,none⟩=some (.bool pk))) (L:=15) ok' ⟨c2,c4,c3⟩ (fun hHeld=>?_);have OL:Hid (Below w.heap.size w w.drew):=Oh (Oq _ _).drew;have HXd:=Oh HX.out.drew;clear HX;refine tV 0 ?_;refine tV 1 ?_;refine tV 2 ?_;refine tV 3 ?_;refine tV 4 ?_;refine tV 5 ?_;refine tV 6 ?_;refine tV 7 ?_;refine tV 8 ?_;refine tV 9 ?_;refine tV 10 ?_;refine tV 11 ?_;refine bO 12 fun K hK=>?_;go_simp;refine(HN.out _ (HT.out.at_below OL.out)).mono ?_;rintro e v2 ⟨A2,c2,rfl,o2,b2⟩;have nO:Hid (ak v2 w.heap.size A2 c2 b):=Oh (Own.mono (show Own v2 _ 5 1 A2 b.length c2 (bvs b) from o2) OL.out.size);have bY:=Oh (ai OL.out b2);have P9:=Oh (HXd.out.below b2 HXd.out.lt);clear o2 b2;replace hHeld:=(show(fun(V:World)=>V.cell? ⟨x,2,none⟩=some (.int .u8 (k:Int))∧V.cell? ⟨x,4,none⟩=some (.slice A1 t.length c1)∧V.cell? ⟨x,3,none⟩=some (.bool pk)) v2 from⟨P9.out.ce,P9.out.ce,P9.out.ce⟩);refine hK.out _ _ hHeld ?_;clear hK K;try go_simp
 refine fV 13 ?_;refine fV 14 ?_;refine aL 15 ?_;refine Gc 16 fun K hK=>?_;exact ug
theorem IX(p q:Addr)(w:World):
  CallsD prog 75 #[.pointer (some p),.pointer (some q)] .returning w fun e u' w'=>e=.returned (.tuple #[])∧u'=.returning∧w'=w:=by
 refine callsD_of_wpS func75 rfl fun c₀ cs hu=>?_
 apply wpS_seq
 apply wpS_region
 simp[wpOpsS,go_sem,recoverD,hu,ntmps75,Exit.thenS];refine wpS_of_wp ?_;rw[show(#[Value.pointer (some p),Value.pointer (some q)]++(Array.replicate 9 undef).setIfInBounds 3 (Value.nilIface))=#[.pointer (some p),.pointer (some q),undef,undef,undef,Value.nilIface,undef,undef,undef,undef,undef] from rfl];go_wp2_with fail;cases c₀
 simp_all [bodyPostS,results,results75]
def eoD(n:Nat):List Deferred:=[{target:=.fn (Fn.func 75) #[.pointer (some ⟨n,0,none⟩),.pointer (some ⟨n+1,0,none⟩)],args:=#[]}]
theorem IY{w W:World}{p:Option Addr}(h:RsG 115 w W (.pointer p) 0)(tmps:Array Value)(h2:tmps.getD 4 undef=.pointer (some ⟨w.heap.size,0,none⟩))(h3:tmps.getD 5 undef=.pointer (some ⟨w.heap.size+1,0,none⟩))(R:Ending→World→Prop)(hR:R (.returned (.tuple #[.pointer p,.int .i64 0])) W):Leaves prog Tryz.f47 tmps R (eoD w.heap.size) .returning W:=by
 unfold eoD;refine leaves_cons (f:=75) (args:=#[.pointer (some ⟨w.heap.size,0,none⟩),.pointer (some ⟨w.heap.size+1,0,none⟩)]) os' (by simp[go_sem]) ?_;refine(IX _ _ W).mono ?_;rintro e u' w' ⟨rfl,rfl,rfl⟩;have cs:=h.c2;have ce:=h.c3;simp only[Array.getD_eq_getD_getElem?] at h2 h3;refine⟨_,?_,hR⟩;simp only[results,results47];simp[go_sem,h2,h3,cs,ce]
def zH:Array Value:=#[.func (Fn.func 80) #[] #[],.func (Fn.func 81) #[] #[]]
structure FZ(w W:World)(x vn k:Nat)(pk:Bool)(t:List UInt8):Prop where
 it:∃A c,w.heap.size≤x∧(∃g,Blk W x 120 (xE g (vn:Int) k pk (.slice A t.length c)))∧ak W w.heap.size A c t
 below:Below w.heap.size w W
set_option maxHeartbeats 3200000 in
theorem IW(A:Option Addr)(c lim vn k:Nat)(pk:Bool)(fn:FuncId)(b t R:List UInt8)(w:World)(hb:Bts w w.heap.size A b)(hc:b.length≤c)(hl:b.length≤1000000)(a0n:lim≤1048576)(h1:1≤vn)(h2:vn≤2)(hbR:b=[81,83,UInt8.ofNat vn]++R)(PL:Crc.lf b=true)(hfn:zH[vn-1]?=some (.func (Fn.func fn) #[] #[]))(eg:∀args w,(callFunc fn args).run prog w=.ok (.enter fn args) w)(HVC:Hid (∀W x base g A0 c0,Ltr W x base g A0 c0 b 3 (vn:Int) 0 false (.slice none 0 0)→Cl fn #[.pointer (some ⟨x,0,none⟩),.int .i64 (lim:Int)] W fun e w'=>e=.returned (.tuple #[])∧∃A' c' p',Ltr w' x base g A0 c0 b p' (vn:Int) k pk (.slice A' t.length c')∧ak w' W.heap.size A' c' t∧ab (fun i=>i=g∨i=x) W w'))(HAG:Hid (∀W x g A' c',Blk W x 120 (xE g (vn:Int) k pk (.slice A' t.length c'))→Bts W W.heap.size A' t→Cl 83 #[.pointer (some ⟨x,0,none⟩)] W (eJ b W))):
  Cl 47 #[.slice A b.length c,.int .i64 (lim:Int)] w fun e w'=>∃x,e=.returned (.tuple #[.pointer (some ⟨x,0,none⟩),.int .i64 0])∧FZ w w' x vn k pk t:=by
 have HB:=Oh hb;have HL:=Oh (And.intro hl hc);have hlen:3≤b.length:=by rw[hbR,Ok];simp
 have WE:(b.drop 0).take 3=[81,83,UInt8.ofNat vn]:=by rw[hbR];simp
 have HCN:=Oh (fun W=>Crc.ir W);have HCF:=Oh (fun W g (hk:Blk W g 227 Crc.tab) (hr:Bts W W.heap.size A b)=>Crc.Eo g A b.length c b W rfl hl hc hk hr);rw[PL] at HCF;have R5:=Oh (fun W (hr:Bts W W.heap.size A b)=>ir A c b W hr oq);have TP:=Oh (fun base g A0 c0 W (h:Rdr W base g A0 c0 b 0)=>sd base g A0 c0 b 0 3 W h oq oq);rw[WE] at TP;have TY:=Oh (fun A1 c1 W (h1:Bts W W.heap.size A1 b) (h2:Bts W W.heap.size A b)=>ju A1 A c1 c b b W h1 h2 oq);rw[show(b==b)=true by simp] at TY;have hmn:∀(W:World) (ts:Array TypeId) (t:TypeId),(Builtin.min_ ts t #[.int .i64 (lim:Int),.int .i64 1048576]).run prog W=.ok (.int .i64 (lim:Int)) W:=fun W ts t=>by rw[run_min_int2,if_neg oq]
 have hvn:(UInt8.ofNat vn).toNat=vn:=by rw[UInt8.toNat_ofNat'];omega
 have x1:decide ((1:Int)≤(vn:Int))=true:=decide_eq_true oq;have x2:decide ((vn:Int)≤2)=true:=decide_eq_true oq;have x1b:decide (1≤vn)=true:=decide_eq_true h1;have x2b:decide (vn≤2)=true:=decide_eq_true h2;have x3:IntKind.i64.wrap (vn:Int)=(vn:Int):=i6;have x4:IntKind.i64.wrap ((vn:Int)-1)=((vn-1:Nat):Int):=by rw[show(vn:Int)-1=((vn-1:Nat):Int) by omega];exact i6
 have HV:=Oh (And.intro h1 h2);have HFN:=Oh hfn;have hvv:=hvn;clear hb hl hc WE PL hlen hfn hbR h1 h2;go_enter_defers func47,ntmps47;go_wp2_with fail;have s0:=RsG.start (t:=115) (v:=.pointer none) w;have S0:=Oh s0;clear s0;generalize(w.alloc (.cells #[.pointer none] 115)).alloc (.cells #[.int .i64 0] 34)=w0 at*;refine(HCN.out _).mono ?_;rintro e w1 ⟨gc,rfl,_,hgc,b1⟩;have S1:=Oh (S0.out.next b1);have HGC:=Oh hgc;clear b1 hgc S0;go_wp2_with fail;refine(HCF.out _ _ HGC.out (HB.out.at_below S1.out.below)).mono ?_;rintro e w2 ⟨rfl,Ox⟩;obtain rfl:=Ox.symm;clear HGC;go_wp2_with fail;refine(jV _).mono ?_;rintro e w2 ⟨rfl,Ox⟩;obtain rfl:=Ox.symm;have t2:=S1.out.c2;have t2f:=S1.out.s.free 0;go_wp2_with fail;refine(R5.out _ (HB.out.at_below S1.out.below)).mono ?_;rintro e w3 ⟨g,A0,c0,rfl,hg,QD,b3⟩;have S3:=Oh (S1.out.next b3);obtain⟨base,QD⟩:∃base,Rdr w3 base g A0 c0 b 0:=⟨_,QD⟩;have Oz:=Oh QD;have SC:Hid (w.heap.size+1<g):=Oh (by have:=S1.out.e.lt;omega);have t3:=S3.out.c2;have Ul:=S3.out.s.free 0;clear b3 QD hg t2 t2f S1;have hP:w.heap.size<w3.heap.size:=S3.out.s.lt;have k1:∀o,(w3.alloc o).cell? ⟨w.heap.size,0,none⟩=some (.pointer none):=fun o=>(World.cell?_alloc_lt w3 o _ hP).trans t3;have k2:∀o,(w3.alloc o).frozen? ⟨w.heap.size,0,none⟩=false:=fun o=>(S3.out.s.alloc o).free 0
 have k3:∀v o1 o2,(((w3.setCell ⟨w.heap.size,0,none⟩ v).alloc o1).alloc o2).cell? ⟨w.heap.size,0,none⟩=some v:=fun v o1 o2=>by
  rw[(((S3.out.s.put 0 v).alloc o1).alloc o2).cell];rfl
 clear t3 Ul;go_wp2_with fail;have QU:Hid (RsG 115 w (((w3.setCell ⟨w.heap.size,0,none⟩ (.pointer (some ⟨w3.heap.size,0,none⟩))).alloc (.cells #[.pointer (some ⟨g,0,none⟩),.int .i64 0,.int .u8 0,.bool false,.slice none 0 0] 120)).alloc (.cells #[.func (Fn.func 80) #[] #[],.func (Fn.func 81) #[] #[]] 164)) (.pointer (some ⟨w3.heap.size,0,none⟩)) 0):=Oh ((S3.out.setS _).next ((Ba).alloc os' _))
 have HV6:Hid (Blk (((w3.setCell ⟨w.heap.size,0,none⟩ (.pointer (some ⟨w3.heap.size,0,none⟩))).alloc (.cells #[.pointer (some ⟨g,0,none⟩),.int .i64 0,.int .u8 0,.bool false,.slice none 0 0] 120)).alloc (.cells #[.func (Fn.func 80) #[] #[],.func (Fn.func 81) #[] #[]] 164)) (w3.heap.size+1) 164 zH):=Oh (by
  have h:=Blk.new ((w3.setCell ⟨w.heap.size,0,none⟩ (.pointer (some ⟨w3.heap.size,0,none⟩))).alloc (.cells #[.pointer (some ⟨g,0,none⟩),.int .i64 0,.int .u8 0,.bool false,.slice none 0 0] 120)) 164 zH;rw[show((w3.setCell ⟨w.heap.size,0,none⟩ (.pointer (some ⟨w3.heap.size,0,none⟩))).alloc (.cells #[.pointer (some ⟨g,0,none⟩),.int .i64 0,.int .u8 0,.bool false,.slice none 0 0] 120)).heap.size=w3.heap.size+1 by simp] at h;exact h)
 have VJ:Hid (Ltr (((w3.setCell ⟨w.heap.size,0,none⟩ (.pointer (some ⟨w3.heap.size,0,none⟩))).alloc (.cells #[.pointer (some ⟨g,0,none⟩),.int .i64 0,.int .u8 0,.bool false,.slice none 0 0] 120)).alloc (.cells #[.func (Fn.func 80) #[] #[],.func (Fn.func 81) #[] #[]] 164)) w3.heap.size base g A0 c0 b 0 0 0 false (.slice none 0 0)):=Oh (by
  have hk:ab (fun i=>i=w.heap.size) w3 (((w3.setCell ⟨w.heap.size,0,none⟩ (.pointer (some ⟨w3.heap.size,0,none⟩))).alloc (.cells #[.pointer (some ⟨g,0,none⟩),.int .i64 0,.int .u8 0,.bool false,.slice none 0 0] 120)).alloc (.cells #[.func (Fn.func 80) #[] #[],.func (Fn.func 81) #[] #[]] 164)):=(((ab.refl (fun i=>i=w.heap.size) w3).set (p:=⟨w.heap.size,0,none⟩) (.inl rfl) _).alloc _).alloc _;refine⟨?_,Oz.out.1.only hk (by have:=SC.out;omega),Own.only (show Own w3 base 5 1 A0 b.length c0 (bvs b) from Oz.out.2) hk (fun gb he hi=>Own.ne_blk (show Own w3 base 5 1 A0 b.length c0 (bvs b) from Oz.out.2) S3.out.s od (by rw[he,hi]))⟩;have h:=Blk.new (w3.setCell ⟨w.heap.size,0,none⟩ (.pointer (some ⟨w3.heap.size,0,none⟩))) 120 (xE g 0 0 false (.slice none 0 0));rw[show(w3.setCell ⟨w.heap.size,0,none⟩ (.pointer (some ⟨w3.heap.size,0,none⟩))).heap.size=w3.heap.size by simp] at h;exact h.alloc _)
 have XI:Hid (w.heap.size+1<w3.heap.size):=Oh S3.out.e.lt;clear k1 k2 k3 S3 Oz hP;generalize((w3.setCell ⟨w.heap.size,0,none⟩ (.pointer (some ⟨w3.heap.size,0,none⟩))).alloc (.cells #[.pointer (some ⟨g,0,none⟩),.int .i64 0,.int .u8 0,.bool false,.slice none 0 0] 120)).alloc (.cells #[.func (Fn.func 80) #[] #[],.func (Fn.func 81) #[] #[]] 164)=w6 at*;obtain⟨x,hx⟩:=nm (w3.heap.size);obtain⟨gv,hgv⟩:=nm (w3.heap.size+1);rw[←hgv] at HV6 ⊢;rw[←hx] at QU VJ XI ⊢;clear hx hgv;refine(TP.out _ _ _ _ _ VJ.out.rd).mono ?_;rintro e w7 ⟨Ah,ch,rfl,o7,r7,k7⟩;have Xn:=Oh (QU.out.step k7 (fun i hi=>by rw[show i=g from hi];exact SC.out));have HL7:Hid (Ltr w7 x base g A0 c0 b 3 0 0 false (.slice none 0 0)):=Oh ⟨VJ.out.blk.only k7 VJ.out.ne,r7⟩;have HV7:=Oh (HV6.out.only k7 (fun h=>Blk.ne VJ.out.rd.1 HV6.out od (show gv=g from h).symm));obtain⟨gh,rfl,_,_,_,hch,_⟩:=Own.form (show Own w7 _ 5 1 Ah 3 ch (bvs [81,83,UInt8.ofNat vn]) from o7) oq;have m0:w7.cell? ⟨gh,0,none⟩=some (.int .u8 81):=hch 0 _ rfl;have m1:w7.cell? ⟨gh,1,none⟩=some (.int .u8 83):=hch 1 _ rfl;have m2:w7.cell? ⟨gh,2,none⟩=some (.int .u8 (vn:Int)):=by have:=hch 2 (bv (UInt8.ofNat vn)) rfl;rw[this];unfold bv;rw[hvn]
 have HGH:Hid (gh≠x):=Oh (fun e=>Own.ne_blk (show Own w7 _ 5 1 (some ⟨gh,0,none⟩) 3 ch (bvs [81,83,UInt8.ofNat vn]) from o7) HL7.out.blk od (by rw[e];rfl));clear o7 r7 k7 hch QU VJ HV6 hvn hvv;go_wp2_with fail;refine(jV _).mono ?_;rintro e w8 ⟨rfl,hw8⟩;obtain rfl:=hw8.symm;have d0:=Xn.out.c2;have e1:=HL7.out.blk.c1;have fr:=HL7.out.blk.free;clear m0 m1;go_upto_region 8 with(fail);refine wp_region_noPanic ?_;refine ag (S:=(fun(V:World)=>V.cell? ⟨w.heap.size,0,none⟩=some (.pointer (some ⟨x,0,none⟩))∧V.cell? ⟨gh,2,none⟩=some (.int .u8 (vn:Int)))) (L:=7) ok' ⟨d0,m2⟩ (fun hHeld=>?_);refine tV 0 ?_;refine tV 1 ?_;refine tV 2 ?_;refine tV 3 ?_;refine tV 4 ?_;refine tV 5 ?_;refine tV 6 ?_;refine aL 7 ?_;refine cD ?_;have H8:Hid (Ltr (w7.setCell ⟨x,1,none⟩ (.int .i64 (vn:Int))).drew x base g A0 c0 b 3 (vn:Int) 0 false (.slice none 0 0)∧RsG 115 w (w7.setCell ⟨x,1,none⟩ (.int .i64 (vn:Int))).drew (.pointer (some ⟨x,0,none⟩)) 0):=Oh ⟨(HL7.out.put 1 _ _ _ _ _ rfl).below (Oq _ _).drew,(Xn.out.step ((ab.refl (fun i=>i=x) w7).set (p:=⟨x,1,none⟩) (.inl rfl) _) (fun i hi=>by rw[hi];exact XI.out)).drewN 1⟩;have HV8:Hid (Blk (w7.setCell ⟨x,1,none⟩ (.int .i64 (vn:Int))).drew gv 164 zH):=Oh (HV7.out.far (p:=⟨x,1,none⟩) (fun e=>Blk.ne HV7.out HL7.out.blk od e) _).drew;clear Xn HL7 HV7 d0 e1 fr m2;generalize(w7.setCell ⟨x,1,none⟩ (.int .i64 (vn:Int))).drew=w8 at*;have d0:=H8.out.2.c2;have d1:=H8.out.1.blk.c1;have d2:w8.cell? ⟨gv,vn-1,none⟩=some (.func (Fn.func fn) #[] #[]):=by rw[HV8.out.cell];exact HFN.out
 have MK:((vn-1:Nat):Int)<2:=by have:=HV.out;omega
 clear HV8;go_upto_region 9 with(fail);refine wp_region_noPanic ?_;refine ag (S:=(fun(V:World)=>V.cell? ⟨w.heap.size,0,none⟩=some (.pointer (some ⟨x,0,none⟩))∧V.cell? ⟨x,1,none⟩=some (.int .i64 (vn:Int))∧V.cell? ⟨gv,vn-1,none⟩=some (.func (Fn.func fn) #[] #[]))) (L:=9) ok' ⟨d0,d1,d2⟩ (fun hHeld=>?_);have H8d:Hid (Ltr w8.drew x base g A0 c0 b 3 (vn:Int) 0 false (.slice none 0 0)∧RsG 115 w w8.drew (.pointer (some ⟨x,0,none⟩)) 0):=Oh ⟨H8.out.1.below (Oq _ _).drew,H8.out.2.drewN 1⟩;clear H8;refine tV 0 ?_;refine tV 1 ?_;refine tV 2 ?_;refine tV 3 ?_;refine tV 4 ?_;refine tV 5 ?_;refine tV 6 ?_;refine tV 7 ?_;refine fV 8 ?_;refine iV 9 fun K hK=>?_;go_simp;refine(HVC.out _ x base g A0 c0 H8d.out.1).mono ?_;rintro e v9 ⟨rfl,A9,c9,p9,h9,o9,k9⟩;have H9:=Oh (And.intro h9 (And.intro o9 k9));clear h9 o9 k9;refine hK.out _ _ ?_;clear hK K;try go_simp
 refine cD ?_;have S9:=Oh (H8d.out.2.step H9.out.2.2 (fun i hi=>by rcases hi with rfl|rfl;exact SC.out;exact XI.out));have H9b:=Oh (And.intro H9.out.1 H9.out.2.1);have HN9:Hid (w.heap.size≤w8.heap.size):=Oh H8d.out.2.below.size;clear H9 H8d hHeld d0 d1 d2;have d0:=S9.out.c2;go_wp2_with fail;refine(HAG.out _ _ _ _ _ H9b.out.1.blk (ak.reads H9b.out.2)).mono ?_;rintro e Qr ⟨A10,c10,rfl,o10,Vf⟩;have S10:=Oh (S9.out.next Vf);have H10:=Oh (And.intro (H9b.out.1.blk.below Vf H9b.out.1.blk.lt) (Own.below (show Own v9 w8.heap.size 5 1 A9 t.length c9 (bvs t) from Own.mono (show Own v9 _ 5 1 A9 t.length c9 (bvs t) from H9b.out.2) (Oi _)) Vf));have RB:Hid (Bts Qr Qr.heap.size A10 b):=Oh (ak.reads o10);clear o10 Vf d0 S9 H9b;go_wp2_with fail;refine(TY.out _ _ _ RB.out (HB.out.at_below S10.out.below)).mono ?_;rintro e Qe ⟨rfl,q11,a3t⟩;have S11:Hid (RsG 115 w Qe (.pointer (some ⟨x,0,none⟩)) 0):=Oh (by rw[a3t];exact S10.out.drewN _);have Zo:Hid (Blk Qe x 120 (xE g (vn:Int) k pk (.slice A9 t.length c9))∧Own Qe w8.heap.size 5 1 A9 t.length c9 (bvs t)):=Oh (by rw[a3t];exact H10.out);clear a3t S10 H10 RB;go_wp2_with fail;refine(jV _).mono ?_;rintro e Tn ⟨rfl,RC⟩;obtain rfl:=RC.symm;have t2:=S11.out.c2;have t2f:=S11.out.s.free 0;have t3:=S11.out.c3;have Ul:=S11.out.e.free 0;go_wp2_with fail;have S13:RsG 115 w ((Qe.setCell ⟨w.heap.size,0,none⟩ (.pointer (some ⟨x,0,none⟩))).setCell ⟨w.heap.size+1,0,none⟩ (.int .i64 0)) (.pointer (some ⟨x,0,none⟩)) 0:=(S11.out.setS _).setE 0;have hk:ab (fun i=>i=w.heap.size∨i=w.heap.size+1) Qe ((Qe.setCell ⟨w.heap.size,0,none⟩ (.pointer (some ⟨x,0,none⟩))).setCell ⟨w.heap.size+1,0,none⟩ (.int .i64 0)):=(((ab.refl (fun i=>i=w.heap.size∨i=w.heap.size+1) _).set (p:=⟨w.heap.size,0,none⟩) (.inl (.inl rfl)) _).set (p:=⟨w.heap.size+1,0,none⟩) (.inl (.inr rfl)) _);refine IY S13 _ rfl rfl _ ⟨x,rfl,⟨A9,c9,by have:=XI.out;omega,⟨g,Zo.out.1.only hk (by have:=XI.out;omega)⟩,?_⟩,S13.below⟩;refine Own.mono (Own.only Zo.out.2 hk (fun gb e hi=>?_)) HN9.out;rcases hi with hi|hi
 ·exact Own.ne_blk Zo.out.2 S11.out.s od (by rw[e,hi])
 ·exact Own.ne_blk Zo.out.2 S11.out.e od (by rw[e,hi])
def oV(w:World)(k:Nat)(t:List UInt8)(e:Ending)(w':World):Prop:=∃A c,e=.returned (.tuple #[.int .u8 (k:Int),.slice A t.length c,.int .i64 0])∧ak w' w.heap.size A c t∧Below w.heap.size w w'
theorem BC(A:Option Addr)(c n lim vn k:Nat)(pk:Bool)(t:List UInt8)(w:World)(HO:Hid (Cl 47 #[.slice A n c,.int .i64 (lim:Int)] w fun e w'=>∃x,e=.returned (.tuple #[.pointer (some ⟨x,0,none⟩),.int .i64 0])∧FZ w w' x vn k pk t)):
  Cl 26 #[.slice A n c,.int .i64 (lim:Int)] w (oV w k t):=by
 go_enter func26,ntmps26;go_wp2_with fail;refine HO.out.mono ?_;rintro e w2 ⟨x,rfl,⟨A1,c1,hx,⟨g,hb⟩,ho⟩,Ov⟩;have d2:=hb.c2;have d4:=hb.c4;have HH:=Oh (And.intro ho Ov);clear hb ho Ov hx HO;go_upto_region 4 with(fail);refine wp_region_noPanic ?_;refine ag (S:=(fun(V:World)=>V.cell? ⟨x,2,none⟩=some (.int .u8 (k:Int))∧V.cell? ⟨x,4,none⟩=some (.slice A1 t.length c1))) (L:=10) ok' ⟨d2,d4⟩ (fun hHeld=>?_);refine tV 0 ?_;refine tV 1 ?_;refine tV 2 ?_;refine tV 3 ?_;refine tV 4 ?_;refine tV 5 ?_;refine tV 6 ?_;refine tV 7 ?_;refine fV 8 ?_;refine fV 9 ?_;refine aL 10 ?_;refine cD ?_;clear hHeld;go_wp2_with fail;go_ret3;exact⟨A1,c1,rfl,Own.drew (show Own w2 w.heap.size 5 1 A1 t.length c1 (bvs t) from HH.out.1),HH.out.2.drew⟩
theorem Lh(c:Cr.W32):Cr.le c=low 4 c.toNat:=by
 unfold Cr.le;generalize c.toNat=n;simp only[low];rw[show n/65536=n/256/256 by omega,show n/16777216=n/256/256/256 by omega]
 have h:∀a:Nat,UInt8.ofNat a=by8 (a%256):=fun a=>by
  apply UInt8.toNat_inj.1
  simp[by8]
 rw[←h,←h,←h,←h]
theorem Ep(k:Nat)(t:List UInt8):(ip k t).length=3+2+(leb t.length).length+t.length+4:=by
 unfold ip jT lc;simp only[Ok,aJ,List.length_cons,List.length_nil];omega
theorem BE(k:Nat)(t:List UInt8):Crc.lf (ip k t)=true:=by
 unfold ip jT lc;rw[←Lh];exact Crc.xr _
theorem BD(k:Nat)(t:List UInt8)(A:Option Addr)(c lim:Nat)(w:World)(h1:1≤k)(h2:k≤4)(hb:Bts w w.heap.size A (ip k t))(hc:(ip k t).length≤c)(hl:t.length≤100000)(a0n:t.length≤lim)(VM:lim≤1048576):
  Cl 26 #[.slice A (ip k t).length c,.int .i64 (lim:Int)] w (oV w k t):=by
 have hle:=Ep k t;have Lt:=af (show t.length<18446744073709551616 by omega);refine BC A c _ lim 2 k false t w (Oh ?_);refine IW A c lim 2 k false 81 (ip k t) t (low 1 k++low 1 0++leb t.length++t++low 4 (Cr.sum ([81,83,2]++(low 1 k++low 1 0++leb t.length)++t)).toNat) w hb hc oq VM oq oq ?_ (BE k t) rfl ?_ (Oh ?_) (Oh ?_)
 ·unfold ip jT lc;simp only[List.append_assoc,List.cons_append,List.nil_append];rfl
 ·exact enters_of func81 ok' rfl
 ·intro W x base g A0 c0 h;refine I4 h ⟨none,0,0,rfl⟩ k t (low 4 (Cr.sum ([81,83,2]++(low 1 k++low 1 0++leb t.length)++t)).toNat) oq ?_ (aJ _ _) lim a0n VM oq;unfold ip jT lc;simp only[List.append_assoc,List.cons_append,List.nil_append,List.drop_succ_cons,List.drop_zero]
 ·intro W x g A' c' hx ht;exact F5 hx ht (Oh fun V hv=>FB k A' c' t V h1 h2 hv oq)
theorem LH(A:Option Addr)(c:Nat)(t:List UInt8)(w:World)(S:Ent→Prop)(ht:Bts w w.heap.size A t)(hl:t.length≤10000000)(HR:Hid (∀W p A' c',Below w.heap.size w W→Blk W p 103 xJ→w.heap.size≤p→ak W w.heap.size A' c' t→Cl 85 #[.pointer (some ⟨p,0,none⟩),.slice A' t.length c'] W fun e w'=>e=.returned (.int .i64 0)∧∃f:Ent,f.p=p∧S f∧ar f.I f.F w'∧(∀i,f.F i→i=p∨W.heap.size≤i)∧ab (fun i=>i=p) W w'))(HS:Hid (∀W (f:Ent),S f→ar f.I f.F W→Cl 29 #[.pointer (some ⟨f.p,0,none⟩)] W fun e w'=>∃A c,e=.returned (.slice A t.length c)∧ak w' W.heap.size A c t∧Below W.heap.size W w')):
  Cl 27 #[.int .u8 1,.slice A t.length c] w (eH S w):=by
 have HI:=Oh (fun W=>ee 1 oq oq W);have Wh:∀W,(Instr.index 126 (.agg dr) (.int .u8 (IntKind.u8.wrap 0))).run prog W=.ok (.agg #[.func (Fn.func 84) #[] #[],.func (Fn.func 85) #[] #[]]) W:=fun W=>by kernel_rfl
 have hfd:∀W,(Instr.field 125 (.agg #[.func (Fn.func 84) #[] #[],.func (Fn.func 85) #[] #[]]) 1).run prog W=.ok (.func (Fn.func 85) #[] #[]) W:=fun W=>by kernel_rfl
 have TP:=Oh ht;have Qf:=Oh hl;clear ht hl;go_enter func27,ntmps27;go_wp2_with fail;refine(HI.out _).mono ?_;rintro e w1 ⟨rfl,iF⟩;obtain rfl:=iF.symm;go_upto_region 4 with(fail);have OY:Hid (Blk (w.alloc (.cells #[.int .u8 1,.pointer none,.pointer none,.pointer none,.pointer none] 103)) w.heap.size 103 xJ):=Oh (Blk.new w _ _);have oK:Hid (Below w.heap.size w (w.alloc (.cells #[.int .u8 1,.pointer none,.pointer none,.pointer none,.pointer none] 103))):=Oh (Ba);have PD:Hid (w.heap.size≤w.heap.size):=Oh (Oi _);obtain⟨w0,Rd⟩:=nm (w.alloc (.cells #[.int .u8 1,.pointer none,.pointer none,.pointer none,.pointer none] 103));rw[←Rd] at OY oK ⊢;obtain⟨p,hp⟩:=nm (w.heap.size);have PD:Hid (w.heap.size≤p):=Oh oq;rw[show(⟨w.heap.size,0,none⟩:Addr)=⟨p,0,none⟩ by rw[hp]];rw[show Blk w0 w.heap.size 103 xJ=Blk w0 p 103 xJ by rw[hp]] at OY;exact kn
theorem LG(A:Option Addr)(c:Nat)(t:List UInt8)(w:World)(S:Ent→Prop)(ht:Bts w w.heap.size A t)(hl:t.length≤10000000)(HR:Hid (∀W p A' c',Below w.heap.size w W→Blk W p 103 xI→w.heap.size≤p→ak W w.heap.size A' c' t→Cl 87 #[.pointer (some ⟨p,0,none⟩),.slice A' t.length c'] W fun e w'=>e=.returned (.int .i64 0)∧∃f:Ent,f.p=p∧S f∧ar f.I f.F w'∧(∀i,f.F i→i=p∨W.heap.size≤i)∧ab (fun i=>i=p) W w'))(HS:Hid (∀W (f:Ent),S f→ar f.I f.F W→Cl 29 #[.pointer (some ⟨f.p,0,none⟩)] W fun e w'=>∃A c,e=.returned (.slice A t.length c)∧ak w' W.heap.size A c t∧Below W.heap.size W w')):
  Cl 27 #[.int .u8 2,.slice A t.length c] w (eH S w):=by
 have HI:=Oh (fun W=>ee 2 oq oq W);have Wh:∀W,(Instr.index 126 (.agg dr) (.int .u8 (IntKind.u8.wrap 1))).run prog W=.ok (.agg #[.func (Fn.func 86) #[] #[],.func (Fn.func 87) #[] #[]]) W:=fun W=>by kernel_rfl
 have hfd:∀W,(Instr.field 125 (.agg #[.func (Fn.func 86) #[] #[],.func (Fn.func 87) #[] #[]]) 1).run prog W=.ok (.func (Fn.func 87) #[] #[]) W:=fun W=>by kernel_rfl
 have TP:=Oh ht;have Qf:=Oh hl;clear ht hl;go_enter func27,ntmps27;go_wp2_with fail;refine(HI.out _).mono ?_;rintro e w1 ⟨rfl,iF⟩;obtain rfl:=iF.symm;go_upto_region 4 with(fail);have OY:Hid (Blk (w.alloc (.cells #[.int .u8 2,.pointer none,.pointer none,.pointer none,.pointer none] 103)) w.heap.size 103 xI):=Oh (Blk.new w _ _);have oK:Hid (Below w.heap.size w (w.alloc (.cells #[.int .u8 2,.pointer none,.pointer none,.pointer none,.pointer none] 103))):=Oh (Ba);have PD:Hid (w.heap.size≤w.heap.size):=Oh (Oi _);obtain⟨w0,Rd⟩:=nm (w.alloc (.cells #[.int .u8 2,.pointer none,.pointer none,.pointer none,.pointer none] 103));rw[←Rd] at OY oK ⊢;obtain⟨p,hp⟩:=nm (w.heap.size);have PD:Hid (w.heap.size≤p):=Oh oq;rw[show(⟨w.heap.size,0,none⟩:Addr)=⟨p,0,none⟩ by rw[hp]];rw[show Blk w0 w.heap.size 103 xI=Blk w0 p 103 xI by rw[hp]] at OY;exact kn
theorem LF(A:Option Addr)(c:Nat)(t:List UInt8)(w:World)(S:Ent→Prop)(ht:Bts w w.heap.size A t)(hl:t.length≤10000000)(HR:Hid (∀W p A' c',Below w.heap.size w W→Blk W p 103 xH→w.heap.size≤p→ak W w.heap.size A' c' t→Cl 89 #[.pointer (some ⟨p,0,none⟩),.slice A' t.length c'] W fun e w'=>e=.returned (.int .i64 0)∧∃f:Ent,f.p=p∧S f∧ar f.I f.F w'∧(∀i,f.F i→i=p∨W.heap.size≤i)∧ab (fun i=>i=p) W w'))(HS:Hid (∀W (f:Ent),S f→ar f.I f.F W→Cl 29 #[.pointer (some ⟨f.p,0,none⟩)] W fun e w'=>∃A c,e=.returned (.slice A t.length c)∧ak w' W.heap.size A c t∧Below W.heap.size W w')):
  Cl 27 #[.int .u8 3,.slice A t.length c] w (eH S w):=by
 have HI:=Oh (fun W=>ee 3 oq oq W);have Wh:∀W,(Instr.index 126 (.agg dr) (.int .u8 (IntKind.u8.wrap 2))).run prog W=.ok (.agg #[.func (Fn.func 88) #[] #[],.func (Fn.func 89) #[] #[]]) W:=fun W=>by kernel_rfl
 have hfd:∀W,(Instr.field 125 (.agg #[.func (Fn.func 88) #[] #[],.func (Fn.func 89) #[] #[]]) 1).run prog W=.ok (.func (Fn.func 89) #[] #[]) W:=fun W=>by kernel_rfl
 have TP:=Oh ht;have Qf:=Oh hl;clear ht hl;go_enter func27,ntmps27;go_wp2_with fail;refine(HI.out _).mono ?_;rintro e w1 ⟨rfl,iF⟩;obtain rfl:=iF.symm;go_upto_region 4 with(fail);have OY:Hid (Blk (w.alloc (.cells #[.int .u8 3,.pointer none,.pointer none,.pointer none,.pointer none] 103)) w.heap.size 103 xH):=Oh (Blk.new w _ _);have oK:Hid (Below w.heap.size w (w.alloc (.cells #[.int .u8 3,.pointer none,.pointer none,.pointer none,.pointer none] 103))):=Oh (Ba);have PD:Hid (w.heap.size≤w.heap.size):=Oh (Oi _);obtain⟨w0,Rd⟩:=nm (w.alloc (.cells #[.int .u8 3,.pointer none,.pointer none,.pointer none,.pointer none] 103));rw[←Rd] at OY oK ⊢;obtain⟨p,hp⟩:=nm (w.heap.size);have PD:Hid (w.heap.size≤p):=Oh oq;rw[show(⟨w.heap.size,0,none⟩:Addr)=⟨p,0,none⟩ by rw[hp]];rw[show Blk w0 w.heap.size 103 xH=Blk w0 p 103 xH by rw[hp]] at OY;exact kn
theorem LD(A:Option Addr)(c:Nat)(t:List UInt8)(w:World)(S:Ent→Prop)(ht:Bts w w.heap.size A t)(hl:t.length≤10000000)(HR:Hid (∀W p A' c',Below w.heap.size w W→Blk W p 103 xG→w.heap.size≤p→ak W w.heap.size A' c' t→Cl 91 #[.pointer (some ⟨p,0,none⟩),.slice A' t.length c'] W fun e w'=>e=.returned (.int .i64 0)∧∃f:Ent,f.p=p∧S f∧ar f.I f.F w'∧(∀i,f.F i→i=p∨W.heap.size≤i)∧ab (fun i=>i=p) W w'))(HS:Hid (∀W (f:Ent),S f→ar f.I f.F W→Cl 29 #[.pointer (some ⟨f.p,0,none⟩)] W fun e w'=>∃A c,e=.returned (.slice A t.length c)∧ak w' W.heap.size A c t∧Below W.heap.size W w')):
  Cl 27 #[.int .u8 4,.slice A t.length c] w (eH S w):=by
 have HI:=Oh (fun W=>ee 4 oq oq W);have Wh:∀W,(Instr.index 126 (.agg dr) (.int .u8 (IntKind.u8.wrap 3))).run prog W=.ok (.agg #[.func (Fn.func 90) #[] #[],.func (Fn.func 91) #[] #[]]) W:=fun W=>by kernel_rfl
 have hfd:∀W,(Instr.field 125 (.agg #[.func (Fn.func 90) #[] #[],.func (Fn.func 91) #[] #[]]) 1).run prog W=.ok (.func (Fn.func 91) #[] #[]) W:=fun W=>by kernel_rfl
 have TP:=Oh ht;have Qf:=Oh hl;clear ht hl;go_enter func27,ntmps27;go_wp2_with fail;refine(HI.out _).mono ?_;rintro e w1 ⟨rfl,iF⟩;obtain rfl:=iF.symm;go_upto_region 4 with(fail);have OY:Hid (Blk (w.alloc (.cells #[.int .u8 4,.pointer none,.pointer none,.pointer none,.pointer none] 103)) w.heap.size 103 xG):=Oh (Blk.new w _ _);have oK:Hid (Below w.heap.size w (w.alloc (.cells #[.int .u8 4,.pointer none,.pointer none,.pointer none,.pointer none] 103))):=Oh (Ba);have PD:Hid (w.heap.size≤w.heap.size):=Oh (Oi _);obtain⟨w0,Rd⟩:=nm (w.alloc (.cells #[.int .u8 4,.pointer none,.pointer none,.pointer none,.pointer none] 103));rw[←Rd] at OY oK ⊢;obtain⟨p,hp⟩:=nm (w.heap.size);have PD:Hid (w.heap.size≤p):=Oh oq;rw[show(⟨w.heap.size,0,none⟩:Addr)=⟨p,0,none⟩ by rw[hp]];rw[show Blk w0 w.heap.size 103 xG=Blk w0 p 103 xG by rw[hp]] at OY;exact kn
theorem It(A:Option Addr)(n c lim k:Nat)(t:List UInt8)(w:World)(S:Ent→Prop)(HO:Hid (Cl 26 #[.slice A n c,.int .i64 (lim:Int)] w (oV w k t)))(HR:Hid (∀W A' c',Below w.heap.size w W→ak W w.heap.size A' c' t→Cl 27 #[.int .u8 (k:Int),.slice A' t.length c'] W (eH S W))):
  Cl 16 #[.slice A n c,.int .i64 (lim:Int)] w (eH S w):=by
 go_enter func16,ntmps16;go_wp2_with fail;refine HO.out.mono ?_;rintro e w2 ⟨A1,c1,rfl,o1,b1⟩;have H1:=Oh (And.intro o1 b1);clear o1 b1 HO;dsimp only;go_wp2_with fail;refine(HR.out _ _ _ H1.out.2 H1.out.1).mono ?_;rintro e w3 ⟨f,rfl,hf,hh,hn,hb⟩;have H3:=Oh (And.intro hf (And.intro hh (And.intro hn hb)));clear hf hh hn hb HR;go_wp2_with fail;go_ret2;exact⟨f,rfl,H3.out.1,H3.out.2.1,fun i hi=>Oo H1.out.2.size (H3.out.2.2.1 i hi),ai H1.out.2 H3.out.2.2.2⟩
end
section
open Pl Wi
theorem vQ(w:World):Cl 230 #[.bool true] w (Rs (.tuple #[]) w):=by
 go_enter func230,ntmps230;go_wp2_with fail;go_end0;exact⟨rfl,rfl⟩
def mf(n:Int):List UInt8:=nB (zk n)
def aM(ns:List Int):List UInt8:=ns.flatMap mf
def cC(s:Int×List Pr)(n:Int):Int×List Pr:=if n<0 then(s.1-n,s.2) else if 0<n then(s.1+1,s.2++[(s.1,n.toNat)]) else(s.1+1,s.2)
def ek(ns:List Int):Int×List Pr:=ns.foldl cC (0,[])
def okN(most s n:Int):Prop:= -4611686018427387904≤n∧n≤4611686018427387904∧(n<0→s-n≤most)∧(0≤n→s<most)
theorem xz{ns:List Int}{j:Nat}{n:Int}(h:ns[j]?=some n):ek (ns.take (j+1))=cC (ek (ns.take j)) n:=by
 unfold ek;rw[List.take_add_one,h];simp
theorem t8{ns:List Int}{j:Nat}{n:Int}(h:ns[j]?=some n):aM (ns.take (j+1))=aM (ns.take j)++mf n:=by
 unfold aM;rw[List.take_add_one,h];simp
theorem t9{ns:List Int}{j:Nat}{n:Int}(h:ns[j]?=some n):(aM ns).drop (aM (ns.take j)).length=mf n++aM (ns.drop (j+1)):=by
 have hj:j<ns.length:=(List.getElem?_eq_some_iff.1 h).1
 have e:aM ns=aM (ns.take j)++(mf n++aM (ns.drop (j+1))):=by
  have h2:ns=ns.take j++(n::ns.drop (j+1)):=by
   have h3:=(List.getElem?_eq_some_iff.1 h).2;rw[←h3,List.getElem_cons_drop,List.take_append_drop]
  calc aM ns=aM (ns.take j++(n::ns.drop (j+1))):=by rw[←h2]
   _=_:=by unfold aM;rw[List.flatMap_append,List.flatMap_cons]
 rw[e,List.drop_left]
theorem Er(n:Int):0<(mf n).length:=by
 unfold mf nB;rw[eF];split<;>simp
theorem Nu(m:Nat)(hm:m<18446744073709551616)(rest:List UInt8):ij (110,0,331,332) (nB m++rest)=(0,m,(nB m).length):=
 vB.back m hm (by unfold bW;simp) rest
theorem Gh{n:Int}(h0: -4611686018427387904≤n)(h1:n≤4611686018427387904):IntKind.i64.wrap (zk n:Int)=n:=by
 unfold zk;rw[IntKind.wrap_i64];omega
set_option maxHeartbeats 3200000 in
theorem rS(A0:Option Addr)(c0:Nat)(ns:List Int)(most:Int)(w:World)(hA:Bts w w.heap.size A0 (aM ns))(hl:(aM ns).length≤40000000)(oS:0≤most)(gE:most≤4611686018427387904)(hok:∀j n,ns[j]?=some n→okN most (ek (ns.take j)).1 n)(hs:∀j,j≤ns.length→0≤(ek (ns.take j)).1∧(ek (ns.take j)).1≤most∧(ek (ns.take j)).2.length≤1000000):
  Cl 231 #[.slice A0 (aM ns).length c0,.int .i64 most] w (en (ek ns).2 w):=by
 have R5:=Oh (ir A0 c0 (aM ns) w hA oq);have Xp:=Oh (fun base g A c p k W h hk=>fj base g A c (aM ns) p k W h hk oq);have PE:=Oh (fun base g A c p W h hp=>jg base g A c (aM ns) p 110 W h hp oq Kc);have ZE:=Oh vQ;have Td:=Oh hok;have HS:=Oh hs;have HL:=Oh hl;clear hA hl hok hs;obtain⟨B,hB⟩:=nm (aM ns);have HB:=Oh hB;rw[←hB] at R5 Xp PE HL ⊢;clear hB;go_enter func231,ntmps231;go_wp2_with fail;refine R5.out.mono ?_;rintro e w1 ⟨gr,Ar,cr,rfl,Uc,U3,b1⟩;have T7:=Oh U3;have aS:=Oh b1;have Zz:=Oh Uc;clear U3 b1 Uc R5;go_wp2_with fail;go_loopw [6,7] (fun u v wr=>∃(j:Nat) (A:Option Addr) (c:Nat),j≤ns.length∧u=.slice A (ek (ns.take j)).2.length c∧v=.int .i64 (ek (ns.take j)).1∧Rdr wr w.heap.size gr Ar cr B (aM (ns.take j)).length∧bI wr w.heap.size A c (ek (ns.take j)).2∧Below w.heap.size w wr) (fun _ v _=>most.toNat-(intOf v).toNat)
 case atStart=>exact⟨0,none,0,Nat.zero_le _,rfl,rfl,T7.out,Own.nil _ _ _ _,aS.out⟩
 case round=>
  obtain⟨j,A,c,hj,rfl,rfl,QD,hown,aC⟩:=hrel;obtain⟨wo,rfl⟩:=nm (wr:World);have hsj:=HS.out j hj
  by_cases hlt:j<ns.length
  ·obtain⟨n,hn⟩:=gs ns j hlt;have RA:=t9 hn;rw[←HB.out] at RA;obtain⟨P,hP⟩:=nm ((aM (ns.take j)).length);have TF:=congrArg List.length (t8 hn);rw[Ok,←hP] at TF;rw[←hP] at RA QD;have hep:=Er n;have Re:=congrArg List.length RA;rw[List.length_drop,Ok] at Re;have hok:=Td.out j n hn;have Le:=xz hn;have RS:=HS.out (j+1) hlt;obtain⟨AT,hAT⟩:=nm ((ek (ns.take j)).1);obtain⟨T,hT⟩:=nm ((ek (ns.take j)).2);unfold cC at Le;rw[←hAT,←hT] at Le;rw[←hAT,←hT] at hsj;rw[←hT] at hown;rw[←hAT] at hok;rw[←hT,←hAT];have Rz:ij (110,0,331,332) (B.drop P)=(0,zk n,(mf n).length):=by rw[RA];exact Nu (zk n) (cu n) _
   have ST:=Oh (Xp.out _ _ _ _ P (B.length-P) wo QD oq);have YG:=Oh (fun q=>PE.out _ _ _ _ P (wo.drewN q) (show Rdr (wo.drewN q) w.heap.size gr Ar cr B P from QD) oq);rw[Rz] at YG;have hzb:=Gh hok.1 hok.2.1;have x0:(0:Int)<((B.length-P:Nat):Int):=oq;have x0b:0<B.length-P:=oq;have a6P:=Oh hok;have HSJ:=Oh hsj;have By:=Oh RS;have a3w:=Oh Le;have Sd:=Oh TF;have HI:=Oh hlt;have TR:=Oh hown;have Mk:=Oh aC;have ab0:0≤AT:=hsj.1;have ab1:AT≤most:=hsj.2.1;have T5:T.length≤1000000:=hsj.2.2;have SZ: -4611686018427387904≤n:=hok.1;have Sz:n≤4611686018427387904:=hok.2.1;obtain⟨E,hE⟩:=nm ((mf n).length);rw[←hE] at YG Sd;obtain⟨Z,hZ⟩:=nm (zk n);rw[←hZ] at YG hzb;have HZZ:=Oh hZ;have HRO:Hid (Rdr wo w.heap.size gr Ar cr B P):=Oh QD;clear RA TF hep Re Le RS hAT hT hok hsj Rz QD hown aC hE hZ hP hj hlt hn;go_wp2_with fail;refine ST.out.mono ?_;rintro e w2 ⟨rfl,q2,rfl⟩;go_wp2_with fail;refine(YG.out q2).mono ?_;rintro e w3 ⟨rfl,SL,Rr⟩;have abD:Blk w3 gr _ _:=SL.1;have Oz:=Oh SL
   have a4I:Hid (bI w3 w.heap.size A c T):=Oh (Own.only (show Own (wo.drewN q2) w.heap.size 176 2 A T.length c (pcs T) from TR.out) Rr (fun i hi e=>by
    obtain⟨cs,hcs⟩:=Own.blk (show Own (wo.drewN q2) w.heap.size 176 2 A T.length c (pcs T) from TR.out) hi;have hE:i=gr:=e;subst hE;exact Blk.ne (hcs.only (K:=fun _=>False) ⟨rfl,rfl,rfl,Oi _,fun _ _ _=>rfl⟩ id) HRO.out.1 od rfl))
   have XO:Hid (Below w.heap.size w w3):=Oh ((ae Mk.out q2).trans (Rr.below Mk.out.size (fun i hi=>by rw[show i=gr from hi];exact Zz.out)));clear SL Rr abD TR Mk ST YG;go_wp2_with fail;refine(ZE.out _).mono ?_;rintro e w4 ⟨rfl,rfl⟩
   by_cases Ou:n<0
   ·have Le:ek (ns.take (j+1))=(AT-n,T):=by rw[a3w.out,if_pos Ou]
    have QH:AT-n≤most:=a6P.out.2.2.1 Ou;have y1:decide (n<0)=true:=decide_eq_true Ou;have y2:IntKind.i64.wrap (-n)= -n:=i6;have y3:decide ((0:Int)< -n)=true:=decide_eq_true oq;have y4:IntKind.i64.wrap (most-AT)=most-AT:=i6;have y5:decide (-n≤most-AT)=true:=decide_eq_true oq;have y6:IntKind.i64.wrap (AT+ -n)=AT-n:=by rw[show AT+ -n=AT-n by omega];exact i6
    have HX:=Oh Le;have HY:=Oh (And.intro Ou QH);clear Le QH Ou;exact uR
   ·have y1:decide (n<0)=false:=decide_eq_false Ou;have QH:AT<most:=a6P.out.2.2.2 oq;have y2:decide (AT<most)=true:=decide_eq_true QH;have y6:IntKind.i64.wrap (AT+1)=AT+1:=i6
    by_cases WL:0<n
    ·have y3:decide (0<n)=true:=decide_eq_true WL;have Le:ek (ns.take (j+1))=(AT+1,T++[(AT,n.toNat)]):=by rw[a3w.out,if_neg Ou,if_pos WL]
     have hZn:(Z:Int)=((n.toNat:Nat):Int):=by rw[HZZ.out];unfold zk;omega
     have HX:=Oh Le;have HY:=Oh QH;obtain⟨M,hM⟩:=nm (n.toNat);rw[←hM] at HX hZn;have hZM:Z=M:=oq;subst hZM;clear Le QH Ou WL hZn hM;go_wp2_with fail;refine(ZE.out _).mono ?_;rintro e w5 ⟨rfl,rfl⟩;go_wp2_with (at_builtin;refine Hid.out ?_);have nE:=Own.alloc (show Own _ w.heap.size 176 2 A T.length c (pcs T) from a4I.out) (.cells #[.int .i64 AT,.int .u64 (Z:Int)] 176);refine aj (xs:=pcs T) (news:=pcs [(AT,Z)]) rfl rfl cg rfl nE rfl (gz _ AT Z) (aI _) (T.length+1) rfl (pcs (T++[(AT,Z)])) (au _ _).symm (by unfold maxLen;omega) oq (by have:=XO.out.size;simp;omega) ?_;intro A6 c6 w6 o6 g6 q6;have Ow:Hid (bI w6 w.heap.size A6 c6 (T++[(AT,Z)])):=Oh (by unfold bI;rw[Ok];exact o6);have hg:=Oz.out.1.alloc (.cells #[.int .i64 AT,.int .u64 (Z:Int)] 176);have TS:Hid (Rdr w6 w.heap.size gr Ar cr B (P+E)):=Oh ⟨hg.grown g6 (fun e=>Own.ne_blk nE hg od e.symm),cI (Own.alloc Oz.out.2 _) nE od g6⟩;have PS:Hid (Below w.heap.size w w6):=Oh ((XO.out.alloc XO.out.size _).grown g6 (by have:=XO.out.size;simp;omega) (fun i hi=>(Own.block nE hi).1));clear o6 g6 q6 nE hg;go_wp2_with fail;go_roundw
     case rel=>exact⟨j+1,A6,c6,HI.out,by rw[HX.out];simp,by rw[HX.out],by rw[Sd.out];exact TS.out,by rw[HX.out];exact Ow.out,PS.out⟩
     case measure=>exact ms HY
    ·have y3:decide (0<n)=false:=decide_eq_false WL;have Le:ek (ns.take (j+1))=(AT+1,T):=by rw[a3w.out,if_neg Ou,if_neg WL]
     have HX:=Oh Le;have HY:=Oh QH;clear Le QH Ou WL;exact uR
  ·obtain rfl:j=ns.length:=oq;rw[List.take_length] at hown QD;rw[←HB.out] at QD;have ST:=Oh (Xp.out _ _ _ _ B.length 0 wo QD oq);have TR:=Oh hown;have Mk:=Oh aC;rw[List.take_length];clear hown aC QD hlt hj hsj;go_wp2_with fail;refine ST.out.mono ?_;rintro e w2 ⟨rfl,q2,rfl⟩;go_wp2_with fail;go_ret;exact⟨A,c,rfl,TR.out,ae Mk.out _⟩
def rh(n:Int):List Int:=if n=1 then[0] else if 1<n then[-n] else[]
def ld:Int→List Pr→List Int
 |_,[]=>[]
 |a,p::l=>rh (p.1-a)++((p.2:Int)::ld (p.1+1) l)
def zA(L:List Pr):List Int:=if L.length=0 then[0] else ld 0 L
theorem Kl{n:Nat}(h:n<18446744073709551616):zk (n:Int)=n:=by unfold zk;omega
theorem fp(n:Int)(ns:List Int):aM (n::ns)=mf n++aM ns:=by unfold aM;rw[List.flatMap_cons]
theorem pK(a b:List Int):aM (a++b)=aM a++aM b:=by unfold aM;rw[List.flatMap_append]
theorem Gi(n:Int):zB n=aM (rh n):=by
 unfold zB rh;split
 ·rw[fp];simp[aM,mf,zk]
 ·split
  ·rw[fp];simp[aM,mf]
  ·rfl
theorem ww:∀(L:List Pr) (S:List UInt8) (a:Int),(∀p∈L,p.2≤4611686018427387904)→(L.foldl cst (S,a)).1=S++aM (ld a L)
 | [],S,a,_=>by simp[ld,aM]
 |p::l,S,a,h=>by
  rw[List.foldl_cons,ld,pK,fp];have e:cst (S,a) p=(S++zB (p.1-a)++nB p.2,p.1+1):=rfl;rw[e,ww l _ _ (fun q hq=>h q (List.mem_cons_of_mem _ hq)),Gi];have hz:mf (p.2:Int)=nB p.2:=by unfold mf;rw[Kl (by have:=h p List.mem_cons_self;omega)]
  rw[hz];simp[List.append_assoc]
theorem sX{L:List Pr}(h:∀p∈L,p.2≤4611686018427387904):an L=aM (zA L):=by
 unfold an zA;split
 ·rw[fp];simp[aM,mf,zk]
 ·unfold jS;rw[ww L [] 0 h,List.nil_append]
def InR(most:Int)(s:Int×List Pr):Prop:=0≤s.1∧s.1≤most∧s.2.length≤1000000
def pj(most:Int):Int×List Pr→List Int→Prop
 |s,[]=>InR most s
 |s,n::r=>InR most s∧okN most s.1 n∧pj most (cC s n) r
theorem pj.at_{most:Int}:∀{ns:List Int} {s:Int×List Pr},pj most s ns→(∀j n,ns[j]?=some n→okN most ((ns.take j).foldl cC s).1 n)∧∀j,j≤ns.length→InR most ((ns.take j).foldl cC s)
 | [],s,h=>⟨fun j n hn=>by simp at hn,fun j _=>by have h2:InR most s:=h;simpa using h2⟩
 |m::r,s,h=>by
  obtain⟨h1,h2,h3⟩:=h;obtain⟨a,b⟩:=pj.at_ h3;refine⟨fun j n hn=>?_,fun j hj=>?_⟩
  ·cases j with
   |zero=>
    simp at hn;subst hn;exact h2
   |succ j=>exact a j n (by simpa using hn)
  ·cases j with
   |zero=>exact h1
   |succ j=>exact b j (by simpa using hj)
theorem pj.append{most:Int}:∀{a:List Int} {s:Int×List Pr} {b:List Int},pj most s a→pj most (a.foldl cC s) b→pj most s (a++b)
 | [],_,_,_,h=>h
 |_::_,_,_,⟨h1,h2,h3⟩,h=>⟨h1,h2,pj.append h3 h⟩
theorem NQ{most:Int}(s:Int×List Pr)(g:Int)(hs:InR most s)(h0:0≤g)(h1:g≤4611686018427387904)(h2:s.1+g≤most):pj most s (rh g)∧(rh g).foldl cC s=(s.1+g,s.2):=by
 obtain⟨a,b,c⟩:=hs;unfold rh;split
 ·rename_i e;subst e;refine⟨⟨⟨a,b,c⟩,⟨oq,oq,oq,oq⟩,?_⟩,rfl⟩;exact⟨by show 0≤s.1+1;omega,by show s.1+1≤most;omega,c⟩
 ·split
  ·have e:cC s (-g)=(s.1+g,s.2):=by unfold cC;rw[if_pos oq];congr 1;omega
   refine⟨⟨⟨a,b,c⟩,⟨oq,oq,oq,oq⟩,?_⟩,?_⟩
   ·rw[e];exact⟨by show 0≤s.1+g;omega,h2,c⟩
   ·rw[List.foldl_cons,e];rfl
  ·obtain rfl:g=0:=oq;exact⟨⟨a,b,c⟩,by simp⟩
theorem NG{most:Int}:∀(L:List Pr) (a:Int) (T:List Pr),Srt L→(∀p∈L,a≤p.1∧p.1<most∧0<p.2∧p.2≤4611686018427387904)→0≤a→a≤most→most≤4611686018427387904→T.length+L.length≤1000000→
  pj most (a,T) (ld a L)∧((ld a L).foldl cC (a,T)).2=T++L
 | [],a,T,_,_,h0,h1,_,hl=>⟨⟨h0,h1,by simpa using hl⟩,by simp[ld]⟩
 |p::l,a,T,hs,h,h0,h1,hm,hl=>by
  obtain⟨hp0,UV,Ts,Xq⟩:=h p List.mem_cons_self;have SB:=aq.1 hs;simp only[List.length_cons] at hl;obtain⟨z1,z2⟩:=NQ (most:=most) (a,T) (p.1-a) ⟨h0,h1,by show T.length≤1000000;omega⟩ oq oq (by show a+(p.1-a)≤most;omega);have e1:((a,T):Int×List Pr).1+(p.1-a)=p.1:=by show a+(p.1-a)=p.1;omega
  rw[e1] at z2
  have e2:cC (p.1,T) (p.2:Int)=(p.1+1,T++[p]):=by
   unfold cC;rw[if_neg oq,if_pos oq];rfl
  obtain⟨g1,g2⟩:=NG l (p.1+1) (T++[p]) SB.2 (fun q hq=>by
   have:=h q (List.mem_cons_of_mem _ hq);have:=SB.1 q hq;omega) oq oq hm (by rw[Ok];simp only[List.length_cons,List.length_nil];omega)
  rw[ld];refine⟨z1.append ?_,?_⟩
  ·rw[z2];exact⟨⟨by show 0≤p.1;omega,by show p.1≤most;omega,by show T.length≤1000000;omega⟩,⟨oq,oq,oq,fun _=>UV⟩,by rw[e2];exact g1⟩
  ·rw[List.foldl_append,z2,List.foldl_cons,e2,g2,List.append_assoc];rfl
theorem Ds{L:List Pr}(hf:fl L){most:Int}(hm:∀p∈L,p.1<most)(h0:0<most)(h1:most≤4611686018427387904):pj most (0,[]) (zA L)∧(ek (zA L)).2=L:=by
 unfold zA;split
 ·rename_i hz;obtain rfl:L=[]:=List.length_eq_zero_iff.1 hz;refine⟨⟨⟨Int.le_refl _,by show 0≤most;omega,od⟩,⟨od,od,oq,fun _=>h0⟩,?_⟩,rfl⟩;exact⟨od,by show(0:Int)+1≤most;omega,od⟩
 ·have h:=NG L 0 [] hf.srt (fun p hp=>⟨(hf.keys p hp).1,hm p hp,hf.pos p hp,Oo (aW hp) hf.tot⟩) (Int.le_refl _) oq h1 (by simpa using hf.len);refine⟨h.1,?_⟩;unfold ek;rw[h.2,List.nil_append]
end
end Go.Proofs.YtmbippkpjdoojaaGreat
