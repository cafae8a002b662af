/- Parts of a proof, merged. -/
import Derived.Test.YtmbippkpjdoojaaGreatF24
set_option maxRecDepth 100000
set_option maxHeartbeats 1600000
namespace Go.Proofs.YtmbippkpjdoojaaGreat
open Tryz
open Go.RowKit
section
open Pl Wi
theorem CO(A:Option Addr)(c:Nat)(L:List Pr)(hL:L.length<2)(w:World)(h:Prs w w.heap.size A L):
  Cl 280 #[.slice A L.length c,.func (Fn.func 281) #[] #[]] w (Kh w L):=by
 have x1:decide ((L.length:Int)<2)=true:=sq;have HH:=Oh h;clear h hL;go_enter func280,ntmps280;go_wp2_with fail;go_ret;exact⟨A,c,rfl,HH.out,Oq _ _⟩
theorem Ao(b o c:Nat):∃A',∀W:World,(Instr.slice 184 (.slice (some ⟨b,o,none⟩) 1 c) (some (.int .i64 1)) none none).run prog W=.ok (.slice A' 0 (c-1)) W:=by
 have he:prog.elem 184=186:=by kernel_rfl
 have hs:∀W,(sizeOf 186).run prog W=.ok 2 W:=fun W=>by kernel_rfl
 have hu:prog.underlying 184=some (.slice (prog.elem 184)):=by rw[he];exact underlying184
 have h:=fun W:World=>run_slice_l (w:=W) 184 (some ⟨b,o,none⟩) 1 c hu .i64 1 oq oq;simp only[he,hs,Result.andThen] at h;unfold sliced at h;split at h
 ·exact⟨_,fun W=>h W⟩
 ·exact⟨_,fun W=>h W⟩
theorem AY(d n:Int)(A:Option Addr)(c:Nat)(p:Pr)(w:World)(h:Prs w w.heap.size A [p]):
  Cl 279 #[.int .i64 d,.int .u64 n,.slice A 1 c] w (f5 w 1 (pcs [p])):=by
 obtain⟨b,o,rfl,hb,hc⟩:=Prs.at_ h os';obtain⟨v,m⟩:=p;obtain⟨d0,d1⟩:=hc 0 (v,m) rfl;dsimp only[Nat.zero_mul,Nat.add_zero] at d0 d1;rw[Nat.zero_mul,Nat.add_zero] at d0 d1;obtain⟨A',St⟩:=Ao b o c;clear h hc;go_enter func279,ntmps279;go_wp2_with fail;go_loopw [7,18] (fun s u wr=>s=.slice none 0 0∧u=.int .i64 0∧wr=w.alloc (.cells #[.int .i64 v,.int .u64 (m:Int)] 186)) (fun _ _ _=>0)
 case atStart=>exact⟨rfl,rfl,rfl⟩
 case round=>
  obtain⟨rfl,rfl,hw⟩:=hrel;have aS:Hid (Below w.heap.size w wr):=Oh (by rw[hw];exact Ba);have HM:Hid (Blk wr w.heap.size 186 #[.int .i64 v,.int .u64 (m:Int)]):=Oh (by rw[hw];exact Blk.new _ _ _);clear hw d0 d1;have m0:=HM.out.c0;have m1:=HM.out.c1;go_wp2_with (at_builtin;refine Hid.out ?_);have nE:Own (wr.alloc (.cells #[.int .i64 v,.int .u64 (m:Int)] 186)) w.heap.size 186 2 none 0 0 []:=Own.nil _ _ _ _;have Qw:Below w.heap.size w (wr.alloc (.cells #[.int .i64 v,.int .u64 (m:Int)] 186)):=aS.out.alloc aS.out.size _;refine aj (xs:=[]) (news:=pcs [(v,m)]) rfl rfl fK rfl nE rfl (kz wr v m) (aI _) 1 rfl (pcs [(v,m)]) rfl (by unfold maxLen;omega) oq Qw.size ?_;intro A3 c3 w3 o3 g3 q3;have sO:=Oh o3;have fR:=Oh (Qw.grown g3 Qw.size (fun i hi=>by cases hi));clear nE Qw o3 g3 q3;go_wp2_with fail;go_ret;exact⟨A3,c3,rfl,sO.out,fR.out⟩
theorem KH(num den n:Nat)(w:World)(h0:1≤den)(h1:num≤den)(uP:den<16384)(hn:1≤n)(Ud:n≤4611686018427387904)(Pd:2*n*num<18446744073709551616):
  Cl 293 #[.int .u64 (num:Int),.int .u64 (den:Int),.int .u64 (n:Int)] w (Rb (.tuple #[.int .u64 (2*n*num/den:Nat),.int .i64 0]) w):=by
 have HC:=Oh (wA num den w h0 h1);have HM:=Oh (fun W=>ol (2*n) num den oq oq Pd W h0 uP);have n1:((n:Int)==0)=false:=by rw[beq_eq_false_iff_ne];omega
 have n2:(n==0)=false:=by rw[beq_eq_false_iff_ne];omega
 have n3:decide ((4611686018427387904:Int)<(n:Int))=false:=sq;have n4:IntKind.u64.wrap (2*(n:Int))=((2*n:Nat):Int):=u6;generalize 2*n*num%den=R at*;generalize 2*n*num/den=C at*;generalize 2*n=N2 at*;clear h0 h1 uP hn Ud Pd;go_enter func293,ntmps293;go_wp2_with fail;refine HC.out.mono ?_;rintro e w1 ⟨rfl,rfl⟩;exact kj
theorem Lg(a b:Int)(D at_ of Q:Nat)(w:World)(ha:InI a)(hb:InI b)(hD:b=a+(D:Int))(hat:at_≤of)(h0:1≤of)(h1:of<16384)(Pd:D*at_<18446744073709551616)(hQ:Q=D*at_/of):
  Cl 295 #[.int .i64 a,.int .i64 b,.int .u64 (at_:Int),.int .u64 (of:Int)] w (Rb (.tuple #[.int .i64 (a+(Q:Int)),.int .i64 0]) w):=by
 have hDl:D<18446744073709551616:=by unfold InI at*;omega
 have HM:=Oh (fun W=>ol D at_ of hDl oq Pd W h0 h1);rw[←hQ] at HM
 have hQD:Q≤D:=by
  rw[hQ]
  calc D*at_/of≤D*of/of:=Nat.div_le_div_right (Nat.mul_le_mul_left _ hat)
   _=D:=Nat.mul_div_cancel _ oq
 have x1:decide (b<a)=false:=sq;have x2:decide (of<at_)=false:=sq;have x3:((of:Int)==0)=false:=by rw[beq_eq_false_iff_ne];omega
 have x3b:(of==0)=false:=by rw[beq_eq_false_iff_ne];omega
 have x4:=da a;have x5:=da b;have x6:IntKind.u64.wrap ((zk b:Int)-(zk a:Int))=(D:Int):=by rw[On];unfold zk;omega
 have x7:IntKind.i64.wrap (IntKind.u64.wrap ((zk a:Int)+(Q:Int)))=a+(Q:Int):=by rw[On,IntKind.wrap_i64];unfold zk InI at*;omega
 generalize D*at_%of=R at*;generalize zk a=ZA at*;generalize zk b=ZB at*;clear ha hb hD hat h0 h1 Pd hQ hDl hQD;go_enter func295,ntmps295;exact kj
theorem J8{w:World}{B j:Nat}{A:Option Addr}{L:List Pr}(h:Prs w B A L)(c pa pb S:Nat)(hj:j<L.length)(hl:L.length≤1000000)(k1:w.cell? ⟨pa,0,none⟩=some (.slice A L.length c))(k2:w.cell? ⟨pb,0,none⟩=some (.int .u64 (S:Int))):
  Cl 294 #[.int .i64 (j:Int),.pointer (some ⟨pa,0,none⟩),.pointer (some ⟨pb,0,none⟩)] w fun e w'=>e=.returned (.bool (decide (S<(L[j]?.map (·.2)).getD 0)))∧∃m,w'=w.drewN m:=by
 obtain⟨b,o,rfl,hb,hc⟩:=Prs.at_ h oq;obtain⟨p,hp⟩:=gs L j hj;have d1:=(hc j p hp).2;rw[hp];dsimp only[Option.map,Option.getD];have x1:(j:Int)<(L.length:Int):=oq;have x2:(L.length:Int)≤1000000:=oq;clear h hc hp hj hl;go_enter func294,ntmps294;go_wp2_with fail;go_quiet (fail);go_wp2_with fail;go_ret;exact⟨by simp,_,rfl⟩
theorem Mh{w:World}{x:Nat}{W:DgW}{s:DgS}(h:Dig w x W s)(num den S i:Nat)(L:List Pr)(a b:Pr)(V:Int)(hl:L.length≤1000000)(UC:Hid (∀w1,Dig w1 x W s→Cl 215 #[.pointer (some ⟨x,0,none⟩)] w1 fun e w'=>∃A c,e=.returned (.slice A L.length c)∧s8 w' w1.heap.size A c L∧Below w1.heap.size w1 w'))(HSP:Hid (∀w1,Cl 293 #[.int .u64 (num:Int),.int .u64 (den:Int),.int .u64 (s.n:Int)] w1 (Rb (.tuple #[.int .u64 (S:Int),.int .i64 0]) w1)))(Qy:Hid (∀w1,Cl 295 #[.int .i64 a.1,.int .i64 b.1,.int .u64 ((S-a.2:Nat):Int),.int .u64 ((b.2-a.2:Nat):Int)] w1 (Rb (.tuple #[.int .i64 V,.int .i64 0]) w1)))(RT:1≤i)(hi2:i<L.length)(ha:L[i-1]?=some a)(hb:L[i]?=some b)(QV:a.2≤S)(Sp:a.2≤b.2)(VK:S<18446744073709551616)(Yy:b.2<18446744073709551616)(hf:∀j,j<L.length→decide (S<(L[j]?.map (·.2)).getD 0)=decide (i≤j)):
  Cl 207 #[.pointer (some ⟨x,0,none⟩),.int .u64 (num:Int),.int .u64 (den:Int)] w (Rb (.tuple #[.int .i64 V,.int .i64 0]) w):=by
 have SX:∀(fn:Fn) (first cap:Array Value) (w:World),(Instr.makeFunc fn first cap).run prog w=.ok (.func fn first cap) w:=fun _ _ _ _=>rfl
 have Xe:=Oh (fun(V:World) (B:Nat) (A:Option Addr) (c pa pb:Nat) (hr:Prs V B A L) (k1:V.cell? ⟨pa,0,none⟩=some (.slice A L.length c)) (k2:V.cell? ⟨pb,0,none⟩=some (.int .u64 (S:Int)))=>tD L.length i 294 (.pointer (some ⟨pa,0,none⟩)) (.pointer (some ⟨pb,0,none⟩)) (fun j=>decide (S<(L[j]?.map (·.2)).getD 0)) V
  (enters_of func294 ok' rfl) hl oq hf (fun j hj k=>J8 (w:=V.drewN k) (B:=B) (A:=A) (L:=L) hr c pa pb S hj hl k1 k2))
 have HH:=Oh h;have c5:=h.c5;have x1:((i:Int)==(L.length:Int))=false:=by rw[beq_eq_false_iff_ne];omega
 have x1b:(i==L.length)=false:=by rw[beq_eq_false_iff_ne];omega
 have x2:IntKind.i64.wrap ((i:Int)-1)=((i-1:Nat):Int):=by rw[show(i:Int)-1=((i-1:Nat):Int) by omega];exact i6
 have x3:((i-1:Nat):Int)<(L.length:Int):=oq;have x4:(i:Int)<(L.length:Int):=oq;have x5:(L.length:Int)≤1000000:=oq;have x6:IntKind.u64.wrap ((S:Int)-(a.2:Int))=((S-a.2:Nat):Int):=u6;have x7:IntKind.u64.wrap ((b.2:Int)-(a.2:Int))=((b.2-a.2:Nat):Int):=u6;have HAB:=Oh (And.intro ha hb);clear h hl hf RT hi2 ha hb QV Sp VK Yy;generalize S-a.2=D1 at*;generalize b.2-a.2=D2 at*;generalize i-1=i1 at*;go_enter func207,ntmps207;go_wp2_with fail;refine(HSP.out _).mono ?_;rintro e w1 ⟨rfl,b1⟩;have aS:=Oh b1;clear b1 c5;go_wp2_with fail;have b2:Below w1.heap.size w1 (w1.alloc (.cells #[.int .u64 (S:Int)] 35)):=Ba;have bY:=Oh (ai aS.out b2);have uN:=Oh (Blk.new w1 35 #[.int .u64 (S:Int)]);refine(UC.out _ (HH.out.below bY.out)).mono ?_;rintro e w3 ⟨A,c,rfl,o3,b3⟩;have fR:=Oh (ai bY.out b3);have Pp:=Oh (uN.out.below b3 uN.out.lt);have sO:=Oh o3;clear b2 o3 b3 uN bY;generalize w1.heap.size=NS at*;go_wp2_with fail;have b4:Below w3.heap.size w3 (w3.alloc (.cells #[.slice A L.length c] 304)):=Ba;have oN:=Oh (ai fR.out b4);have OX:=Oh (Pp.out.below b4 Pp.out.lt);have Pk:Hid (Prs (w3.alloc (.cells #[.slice A L.length c] 304)) w3.heap.size A L):=Oh (Prs.below (Own.reads sO.out) b4);have Uj:=Oh (Blk.new w3 304 #[.slice A L.length c]);have k1:=Uj.out.c0;have k2:=OX.out.c0;have Ze:=Oh (Xe.out _ _ _ _ _ _ Pk.out k1 k2);refine Ze.out.mono ?_;rintro e w5 ⟨rfl,m5,R7⟩;have OE:Hid (Below w.heap.size w w5):=Oh (by rw[R7];exact ae oN.out _);have RJ:Hid (Blk w5 NS 35 #[.int .u64 (S:Int)]):=Oh (by rw[R7];exact OX.out.drewN _);have Xb:Hid (Blk w5 w3.heap.size 304 #[.slice A L.length c]):=Oh (by rw[R7];exact Uj.out.drewN _);have RZ:Hid (Prs w5 w3.heap.size A L):=Oh (by rw[R7];exact Pk.out);generalize w3.heap.size=NL at*;clear R7 oN OX Uj Pk Ze b4 k1 k2 fR Pp sO Xe UC HSP aS;obtain⟨bb,o,hA,OO,hcell⟩:=Prs.at_ RZ.out oq;subst hA;obtain⟨a0,a1⟩:=hcell _ _ HAB.out.1;obtain⟨b0,b1⟩:=hcell _ _ HAB.out.2;have k1:=Xb.out.c0;have Qq:Hid (bb<w5.heap.size∧NL<w5.heap.size):=Oh (by have:=Xb.out.lt;omega);clear hcell HAB OO
 go_upto_region 8 with(fail);refine wp_region_noPanic ?_;refine ag (S:=(fun(V:World)=>V.cell? ⟨NL,0,none⟩=some (.slice (some ⟨bb,o,none⟩) L.length c)∧V.cell? ⟨bb,o+i1*2,none⟩=some (.int .i64 a.1)∧V.cell? ⟨bb,o+i1*2+1,none⟩=some (.int .u64 (a.2:Int))∧V.cell? ⟨bb,o+i*2,none⟩=some (.int .i64 b.1)∧V.cell? ⟨bb,o+i*2+1,none⟩=some (.int .u64 (b.2:Int)))) (L:=12) ok' ⟨k1,a0,a1,b0,b1⟩ (fun hHeld=>?_);refine tV 0 ?_;refine tV 1 ?_;refine tV 2 ?_;refine tV 3 ?_;refine tV 4 ?_;refine tV 5 ?_;refine tV 6 ?_;refine tV 7 ?_;refine tV 8 ?_;refine eN (i:=9) (j:=10) ok' ?_ ?_
 ·refine rX fun K hK=>?_;go_simp;obtain⟨v1,MK⟩:=nm ((w5.alloc (.cells #[.int .i64 0,.int .u64 0] 308)).drew);obtain⟨Na,hNa⟩:=nm (w5.heap.size);have B1:Hid (Below w5.heap.size w5 v1):=Oh (by rw[MK];exact(Ba).drew);have a7u:Hid (Blk v1 Na 308 #[.int .i64 0,.int .u64 0]):=Oh (by rw[MK,hNa];exact(Blk.new w5 _ _).drew);have a1C:Hid (w5.heap.size≤Na):=Oh oq;rw[←MK,←hNa];clear MK hNa;replace hHeld:=(show(fun(V:World)=>V.cell? ⟨NL,0,none⟩=some (.slice (some ⟨bb,o,none⟩) L.length c)∧V.cell? ⟨bb,o+i1*2,none⟩=some (.int .i64 a.1)∧V.cell? ⟨bb,o+i1*2+1,none⟩=some (.int .u64 (a.2:Int))∧V.cell? ⟨bb,o+i*2,none⟩=some (.int .i64 b.1)∧V.cell? ⟨bb,o+i*2+1,none⟩=some (.int .u64 (b.2:Int))) v1 from⟨(B1.out.cell (p:=⟨NL,0,none⟩) Qq.out.2).trans k1,(B1.out.cell (p:=⟨bb,o+i1*2,none⟩) Qq.out.1).trans a0,(B1.out.cell (p:=⟨bb,o+i1*2+1,none⟩) Qq.out.1).trans a1,(B1.out.cell (p:=⟨bb,o+i*2,none⟩) Qq.out.1).trans b0,(B1.out.cell (p:=⟨bb,o+i*2+1,none⟩) Qq.out.1).trans b1⟩);refine hK.out _ _ hHeld ?_;clear hK K;try go_simp
  refine bO 10 fun K hK=>?_;go_simp;obtain⟨v2,PF⟩:=nm (v1.alloc (.cells #[.int .i64 0,.int .u64 0] 308));obtain⟨Nb,hNb⟩:=nm (v1.heap.size);have B2:Hid (Below w5.heap.size w5 v2):=Oh (by rw[PF];exact B1.out.alloc B1.out.size _);have XF:Hid (Blk v2 Nb 308 #[.int .i64 0,.int .u64 0]):=Oh (by rw[PF,hNb];exact Blk.new v1 _ _);have XE:Hid (Blk v2 Na 308 #[.int .i64 0,.int .u64 0]):=Oh (by rw[PF];exact a7u.out.alloc _);have a1D:Hid (w5.heap.size≤Nb):=Oh (by rw[hNb];exact B1.out.size);have PX:Hid (Na≠Nb):=Oh (by have:=a7u.out.lt;omega);rw[←PF,←hNb];clear PF hNb;exact ur
 ·refine rX fun K hK=>?_;go_simp;obtain⟨v1,MK⟩:=nm ((w5.alloc (.cells #[.int .i64 0,.int .u64 0] 308)).drew);obtain⟨Nb,hNb⟩:=nm (w5.heap.size);have B1:Hid (Below w5.heap.size w5 v1):=Oh (by rw[MK];exact(Ba).drew);have a7v:Hid (Blk v1 Nb 308 #[.int .i64 0,.int .u64 0]):=Oh (by rw[MK,hNb];exact(Blk.new w5 _ _).drew);have a1D:Hid (w5.heap.size≤Nb):=Oh oq;rw[←MK,←hNb];clear MK hNb;replace hHeld:=(show(fun(V:World)=>V.cell? ⟨NL,0,none⟩=some (.slice (some ⟨bb,o,none⟩) L.length c)∧V.cell? ⟨bb,o+i1*2,none⟩=some (.int .i64 a.1)∧V.cell? ⟨bb,o+i1*2+1,none⟩=some (.int .u64 (a.2:Int))∧V.cell? ⟨bb,o+i*2,none⟩=some (.int .i64 b.1)∧V.cell? ⟨bb,o+i*2+1,none⟩=some (.int .u64 (b.2:Int))) v1 from⟨(B1.out.cell (p:=⟨NL,0,none⟩) Qq.out.2).trans k1,(B1.out.cell (p:=⟨bb,o+i1*2,none⟩) Qq.out.1).trans a0,(B1.out.cell (p:=⟨bb,o+i1*2+1,none⟩) Qq.out.1).trans a1,(B1.out.cell (p:=⟨bb,o+i*2,none⟩) Qq.out.1).trans b0,(B1.out.cell (p:=⟨bb,o+i*2+1,none⟩) Qq.out.1).trans b1⟩);refine hK.out _ _ hHeld ?_;clear hK K;try go_simp
  refine bO 9 fun K hK=>?_;go_simp;obtain⟨v2,PF⟩:=nm (v1.alloc (.cells #[.int .i64 0,.int .u64 0] 308));obtain⟨Na,hNa⟩:=nm (v1.heap.size);have B2:Hid (Below w5.heap.size w5 v2):=Oh (by rw[PF];exact B1.out.alloc B1.out.size _);have XE:Hid (Blk v2 Na 308 #[.int .i64 0,.int .u64 0]):=Oh (by rw[PF,hNa];exact Blk.new v1 _ _);have XF:Hid (Blk v2 Nb 308 #[.int .i64 0,.int .u64 0]):=Oh (by rw[PF];exact a7v.out.alloc _);have a1C:Hid (w5.heap.size≤Na):=Oh (by rw[hNa];exact B1.out.size);have PX:Hid (Na≠Nb):=Oh (by have:=a7v.out.lt;omega);rw[←PF,←hNa];clear PF hNa;exact ur
def dg7:DgS:=⟨20,[],[(7,3)],7,7,3⟩
theorem Mi{w:World}{x:Nat}{W:DgW}(h:Dig w x W dg7):
  Cl 207 #[.pointer (some ⟨x,0,none⟩),.int .u64 1,.int .u64 2] w (Rb (.tuple #[.int .i64 7,.int .i64 0]) w):=by
 refine Mh h 1 2 3 2 (mH dg7 [(7,3)]) (7,3) (7,6) 7 od (Oh fun w1 h1=>?_) (Oh fun w1=>?_) (Oh fun w1=>?_) od od rfl rfl od od od od ?_
 ·exact xu h1 [(7,3)] [(7,3)] [(7,3)] rfl od od od od (Oh fun A c V hp=>CO A c [(7,3)] od V hp) (Oh fun A c V hp=>AY _ _ A c (7,3) V hp)
 ·exact KH 1 2 3 w1 od od od od od od
 ·exact Lg 7 7 0 0 3 0 w1 (by unfold InI;omega) (by unfold InI;omega) rfl od od od od rfl
 ·intro j hj;have hj3:j<3:=hj;rcases(show j=0∨j=1∨j=2 by omega) with rfl|rfl|rfl<;>rfl
end
section
open Wi
def KRd(w:World)(nr g:Nat):Prop:=Blk w nr 431 #[.pointer (some ⟨g,0,none⟩)]
theorem K8(x:Nat)(f:Frm)(hf:di[fi x]?=some f)(X R l:List UInt8)(n most:Nat)(base nr g:Nat)(A:Option Addr)(c p:Nat)(w:World)(h:Rdr w base g A c l p)(hr:KRd w nr g)(hd:l.drop p=X++R)(hX:0<X.length)(Rz:ij f (X++R)=(0,n,X.length))(hl:l.length≤100000000)(hm:n≤most):
  Cl 321 #[.pointer (some ⟨nr,0,none⟩),.int .u8 (x:Int),.int .u64 (most:Int)] w (lZ base g A c l (p+X.length) n w):=by
 have hp:=rO hd hX;have HN:=Oh (jg base g A c l p x w h hp hl hf);rw[hd,Rz] at HN;have c0:w.cell? ⟨nr,0,none⟩=some (.pointer (some ⟨g,0,none⟩)):=by rw[Blk.cell hr];rfl
 have x1:decide (most<n)=false:=sq;clear h hf hd hX Rz hl hp hr hm;go_enter func321,ntmps321;go_wp2_with fail;refine HN.out.mono ?_;rintro e w2 ⟨rfl,h2,k2⟩;have H2:=Oh (And.intro h2 k2);clear h2 k2;go_wp2_with fail;go_ret;exact⟨rfl,H2.out.1,H2.out.2⟩
section
variable {base nr g:Nat} {A:Option Addr} {c p:Nat} {l R:List UInt8} {w:World}
theorem wE(n most:Nat)(hn:n<18446744073709551616)(h:Rdr w base g A c l p)(hr:KRd w nr g)(hd:l.drop p=leb n++R)(hl:l.length≤100000000)(hm:n≤most):
  Cl 321 #[.pointer (some ⟨nr,0,none⟩),.int .u8 118,.int .u64 (most:Int)] w (lZ base g A c l (p+(leb n).length) n w):=
 K8 118 _ rj (leb n) R l n most base nr g A c p w h hr hd (bT n) (mI.back n hn (by unfold bW;simp) R) hl hm
theorem Ng(n most:Nat)(hn:n<18446744073709551616)(h:Rdr w base g A c l p)(hr:KRd w nr g)(hd:l.drop p=leb (bG n)++R)(hl:l.length≤100000000)(hm:n≤most):
  Cl 321 #[.pointer (some ⟨nr,0,none⟩),.int .u8 122,.int .u64 (most:Int)] w (lZ base g A c l (p+(leb (bG n)).length) n w):=
 K8 122 _ zL (leb (bG n)) R l n most base nr g A c p w h hr hd (bT _) (rD.back n hn (by unfold bW;simp) R) hl hm
theorem qp{L:List Int}{i:Nat}{v:Int}(h:L[i]?=some v)(pv:Option Int):dA pv (L.drop i)=kvB pv v++dA (some v) (L.drop (i+1)):=by
 obtain⟨h1,h2⟩:=List.getElem?_eq_some_iff.1 h;rw[List.drop_eq_getElem_cons h1,h2];rfl
def MH(base g:Nat)(A:Option Addr)(c:Nat)(l R:List UInt8)(L:List Int)(w:World)(e:Ending)(w':World):Prop:=
 ∃p' A' c',e=.returned (.slice A' L.length c')∧Rdr w' base g A c l p'∧l.drop p'=R∧p'≤l.length∧Own w' w.heap.size 2 1 A' L.length c' (ivs L)∧ab (RK g) w w'
theorem sL(L:List Int)(hL:L.length≤4096)(hn:∀v∈L,InI v)(hsr:L.Pairwise (fun p q=>p≤q))(h:Rdr w base g A c l p)(hr:KRd w nr g)(hng:nr≠g)(hd:l.drop p=leb L.length++(dA none L++R))(hl:l.length≤100000000):
  Cl 320 #[.pointer (some ⟨nr,0,none⟩)] w (MH base g A c l R L w):=by
 have HMA:=Oh (wE L.length 4096 oq h hr hd hl hL);have Xm:=Oh (fun n hn W p R (h:Rdr W base g A c l p) (hr:KRd W nr g) hd=>Ng (A:=A) (base:=base) (nr:=nr) (g:=g) (c:=c) (p:=p) (l:=l) (R:=R) (w:=W) n 18446744073709551615 hn h hr hd hl oq);have Xl:=Oh (fun n hn W p R (h:Rdr W base g A c l p) (hr:KRd W nr g) hd=>wE (A:=A) (base:=base) (nr:=nr) (g:=g) (c:=c) (p:=p) (l:=l) (R:=R) (w:=W) n 18446744073709551615 hn h hr hd hl oq);have HD0:Hid (l.drop (p+(leb L.length).length)=dA none L++R):=Oh (bL hd);have Uk:Hid (p+(leb L.length).length≤l.length):=Oh (dn hd (bT _));have Za:=Oh (And.intro hr hng);have HG:=Oh h.1.lt;have HN:=Oh hn;have Ze:=Oh hsr;have hLl:(L.length:Int)≤4096:=oq;have xl:IntKind.i64.wrap (L.length:Int)=(L.length:Int):=i6;clear h hd hl hL hn hsr hr hng;generalize p+(leb L.length).length=P0 at*;go_enter func320,ntmps320;go_wp2_with fail;refine HMA.out.mono ?_;rintro e w2 ⟨rfl,h2,k2⟩;have Qa:=Oh h2;have OC:=Oh k2;clear h2 k2 HMA;go_wp2_with fail;go_loopw [3,10] (fun u v wr=>∃(i P:Nat) (AA:Option Addr) (cc:Nat),i≤L.length∧u=.slice AA (L.take i).length cc∧v=.int .i64 (i:Int)∧Rdr wr base g A c l P∧l.drop P=dA (if i=0 then none else L[i-1]?) (L.drop i)++R∧P≤l.length∧Own wr w.heap.size 2 1 AA (L.take i).length cc (ivs (L.take i))∧ab (RK g) w wr) (fun _ v _=>L.length-(intOf v).toNat)
 case atStart=>exact⟨0,P0,none,0,Nat.zero_le _,rfl,rfl,Qa.out,by rw[List.drop_zero,if_pos rfl];exact HD0.out,Uk.out,Own.nil _ _ _ _,OC.out⟩
 case round=>
  obtain⟨i,P,AA,cc,hi,rfl,rfl,hr,RA,OJ,ho,hk⟩:=hrel;have RG:=Oh OJ;have HR:=Oh hr;have HD:=Oh RA;have P5:=Oh ho;have HK:=Oh hk;have HX:=Oh (show KRd wr nr g from Blk.only Za.out.1 hk Za.out.2);clear hr RA ho hk OJ Uk Qa OC
  by_cases hlt:i<L.length
  ·obtain⟨v,hp⟩:=gs L i hlt;have Vv:=HN.out _ (Om hp);have HP5:Hid (L[i]?=some v):=Oh hp;have Qh:Hid (L.take (i+1)=L.take i++[v]):=Oh (by rw[List.take_add_one,hp];rfl);have hv:=oW Vv;have t1:(i:Int)<(L.length:Int):=oq;have oR:=Oh hlt;have Qf:Hid ((L.take i).length≤4096):=Oh (by rw[List.length_take];omega)
   have Tv:Hid (∀j,i=j+1→∃q,L[j]?=some q∧(L.take i)[j]?=some q∧q≤v):=Oh (fun j hj=>by
    obtain⟨q,hq⟩:=gs L j;have h1:=List.getElem?_eq_some_iff.1 hq;have h2:=List.getElem?_eq_some_iff.1 hp;have h3:=List.pairwise_iff_getElem.1 Ze.out j i h1.1 h2.1 oq;rw[h1.2,h2.2] at h3;exact⟨q,hq,by rw[List.getElem?_take,if_pos oq];exact hq,h3⟩)
   obtain⟨T,hT⟩:=nm (L.take i);rw[←hT] at Qh P5 Qf Tv ⊢;have HTI:Hid (T.length=i):=Oh (by rw[hT,List.length_take];omega);have Sl:=HD.out
   by_cases hz:i=0
   ·rw[if_pos hz,qp hp] at Sl;have UJ:Hid (l.drop P=leb (bG (zk v))++(dA (some v) (L.drop (i+1))++R)):=Oh (by rw[Sl];simp only[kvB,zb,List.append_assoc]);have z1:((i:Int)==0)=true:=by rw[beq_iff_eq];omega
    clear Sl Vv hp hlt hi hT hz Tv HTI;go_wp2_with fail;refine(Xm.out (zk v) (cu v) _ P _ HR.out HX.out UJ.out).mono ?_;rintro e w3 ⟨rfl,h2,k2⟩;obtain⟨P3,Ra⟩:=nm (P+(leb (bG (zk v))).length);rw[←Ra] at h2;have Oz:=Oh h2;have UU:Hid (P3≤l.length):=Oh (by rw[Ra];exact dn UJ.out (bT _));have QW:Hid (l.drop P3=dA (some v) (L.drop (i+1))++R):=Oh (by rw[Ra];exact bL UJ.out);have TR:Hid (Own w3 w.heap.size 2 1 AA T.length cc (ivs T)):=Oh (Own.only P5.out k2 (fun j hj e=>by have e2:j=g:=e;have:=(Own.block P5.out hj).1;have:=HG.out;omega));have Pb:=Oh (HK.out.trans k2);clear h2 k2 Ra;exact uH
   ·obtain⟨j,hj⟩:∃j,i=j+1:=⟨i-1,oq⟩;obtain⟨q,hq,RQ,hqv⟩:=Tv.out j hj;rw[if_neg hz,show i-1=j by omega,hq,qp hp] at Sl;have UJ:Hid (l.drop P=leb (zk (v-q))++(dA (some v) (L.drop (i+1))++R)):=Oh (by rw[Sl];simp only[kvB,List.append_assoc]);have z1:((i:Int)==0)=false:=by rw[beq_eq_false_iff_ne];omega
    have z2:wrap64 ((i:Int)-1)=(j:Int):=by unfold wrap64;omega
    have z2b:(i:Int)-1=(j:Int):=oq;have z3:(j:Int)<(T.length:Int):=by rw[HTI.out];omega
    have z4:=da q;have z5:IntKind.u64.wrap ((zk q:Int)+(zk (v-q):Int))=(zk v:Int):=by rw[On];unfold zk;omega
    have z6:decide (v<q)=false:=sq;obtain⟨b0,hA0,_,_,_,Pt,_⟩:=Own.form P5.out (by rw[HTI.out];omega);subst hA0;have q0:=Pt j _ (kY RQ);have HDV:=Oh (cu (v-q));clear Sl Vv hp hlt hi hT hz Tv HTI hj hq RQ hqv Pt;generalize zk (v-q)=DV at*;generalize zk q=ZQ at*;go_wp2_with fail;refine(Xl.out DV HDV.out _ P _ HR.out HX.out UJ.out).mono ?_;rintro e w3 ⟨rfl,h2,k2⟩;obtain⟨P3,Ra⟩:=nm (P+(leb DV).length);rw[←Ra] at h2;have Oz:=Oh h2;have UU:Hid (P3≤l.length):=Oh (by rw[Ra];exact dn UJ.out (bT _));have QW:Hid (l.drop P3=dA (some v) (L.drop (i+1))++R):=Oh (by rw[Ra];exact bL UJ.out);have TR:Hid (Own w3 w.heap.size 2 1 (some ⟨b0,0,none⟩) T.length cc (ivs T)):=Oh (Own.only P5.out k2 (fun j hj e=>by have e2:j=g:=e;have:=(Own.block P5.out hj).1;have:=HG.out;omega));have Pb:=Oh (HK.out.trans k2);clear h2 k2 Ra q0;exact uH
  ·obtain rfl:i=L.length:=oq;have t1:¬(L.length:Int)<(L.length:Int):=oq;have ho:=P5.out;have hd:=HD.out;rw[List.take_length] at ho ⊢;rw[List.drop_length] at hd;have HO:=Oh ho;have Up:Hid (l.drop P=R):=Oh hd;clear hi hlt ho hd P5;go_wp2_with fail;go_ret;exact⟨P,AA,cc,rfl,HR.out,Up.out,RG.out,HO.out,HK.out⟩
end
theorem sM(A:Option Addr)(c:Nat)(l:List Int)(w:World){b0:Nat}(h:jD w b0 A c l)(hl:l.length≤1000000)(hs:l.Pairwise (fun p q=>p≤q)):
  Cl 388 #[.slice A l.length c] w (Rq (.bool true) w):=by
 have TE:=Oh ov;have HH:=Oh h;have HS:=Oh hs;have Lt:(l.length:Int)≤1000000:=oq;clear h hs hl;go_enter func388,ntmps388;go_wp2_with fail;go_loopw [3] (fun u wr=>∃(i m:Nat),i≤l.length∧u=.int .i64 ((i:Int)-1)∧wr=w.drewN m) (fun u _=>(intOf u+1).toNat)
 case atStart=>exact⟨l.length,0,Oi _,by congr 1,rfl⟩
 case round=>
  obtain⟨i,m,hi,rfl,Qj⟩:=hrel
  by_cases hlt:1<i
  ·obtain⟨J,hJ⟩:∃J,i=J+1:=⟨i-1,oq⟩;obtain⟨j,hj⟩:∃j,J=j+1:=⟨J-1,oq⟩;obtain⟨x,hx⟩:=gs l J;obtain⟨y,hy⟩:=gs l j
   have UH:¬x<y:=by
    have h1:=List.getElem?_eq_some_iff.1 hx;have h2:=List.getElem?_eq_some_iff.1 hy;have h3:=List.pairwise_iff_getElem.1 HS.out j J h2.1 h1.1 oq;rw[h1.2,h2.2] at h3;omega
   obtain⟨b,rfl,_,Ov,_,hc,hfz⟩:=Own.form HH.out oq;have d0:wr.cell? ⟨b,J,none⟩=some (.int .i64 x):=by rw[Qj];exact hc J _ (kY hx)
   have d1:wr.cell? ⟨b,j,none⟩=some (.int .i64 y):=by rw[Qj];exact hc j _ (kY hy)
   have e0:(i:Int)-1=(J:Int):=oq;have z0:decide ((0:Int)<(J:Int))=true:=sq;have z0b:decide (0<J)=true:=sq;have z1:IntKind.i64.wrap ((J:Int)-1)=(j:Int):=by rw[show(J:Int)-1=(j:Int) by omega];exact i6
   have z1b:wrap64 ((J:Int)-1)=(j:Int):=by unfold wrap64;omega
   have z1c:(J:Int)-1=(j:Int):=oq;have z9:IntKind.i64.wrap (j:Int)=(j:Int):=i6;have z2:(J:Int)<(l.length:Int):=oq;have z3:(j:Int)<(l.length:Int):=oq;have z8:decide (x<y)=false:=sq;have OB:=Oh (TE.out x y);rw[z8] at OB;have HJ:=Oh (And.intro hi (And.intro hJ hj));have HW:=Oh Qj;rw[e0];clear UH z8 hx hy hc hi hlt Qj e0 hJ hj Ov hfz;go_upto_region 4 with(fail);go_quiet ((go_at_call 307;exact Calls.quiet_of_same (OB.out _)));go_wp2_with fail;go_roundw
   case rel=>exact⟨J,m+nq,by have:=HJ.out;omega,by go_num,by rw[HW.out,World.drewN_drewN]⟩
   case measure=>exact ms HJ
  ·obtain⟨z,hz⟩:=nm ((i:Int)-1:Int);rw[←hz];have z0:decide ((0:Int)<z)=false:=sq;have z0b:¬(0:Int)<z:=oq;clear hi hlt hz;go_wp2_with fail;go_ret;exact⟨rfl,m,rfl⟩
def wtN(L:List (List Int)):Nat→Nat
 |0=>0
 |i+1=>wtN L i+((L[i]?.map List.length).getD 0)*2^i
theorem td(L:List (List Int))(i:Nat):∀j,wtN L i≤wtN L (i+j)
 |0=>Oi _
 |j+1=>Oo (td L i j) (Nat.le_add_right _ _)
theorem Cj{L:List (List Int)}{i:Nat}{l:List Int}(h:L[i]?=some l):wtN L (i+1)=wtN L i+l.length*2^i:=by rw[wtN,h];rfl
theorem Kn{L:List (List Int)}{i:Nat}(h:i≤L.length):wtN L i≤wtN L L.length:=by
 have:=td L i (L.length-i)
 rwa [show i+(L.length-i)=L.length by omega] at this
structure KOk(s:KS):Prop where
 k0:8≤s.k
 k1:s.k≤4096
 len:s.L.length≤49
 g:s.g≤4611686018427387904
 none:s.L.length=0→s.g=0
 last:∀l,s.L[s.L.length-1]?=some l→l.length≠0
 room:∀i l,s.L[i]?=some l→l.length≤ew s.k s.L.length i
 srt:∀l∈s.L,l.Pairwise (fun p q=>p≤q)
 n:s.n=wtN s.L s.L.length
 cap:s.n≤281474976710656
theorem tG{k m h:Nat}(hk:k≤4096):ew k m h≤4096:=by
 unfold ew;have:=nQ k hk (m-1-h);split<;>omega
theorem KOk.each{s:KS}(h:KOk s):∀l∈s.L,l.length≤4096:=fun l hl=>by
 obtain⟨i,hi⟩:=List.mem_iff_getElem?.1 hl;exact Oo (h.room i l hi) (tG h.k1)
theorem Stk.row{w:World}{x g:Nat}{cS:Nat}{R:List KR}{s:KS}(h:Stk w x (some ⟨g,0,none⟩) cS R s)(i:Nat)(r:KR)(hr:jD w 0 r.A r.c r.l)(hn:∀b,aa r.A=some b→∀q∈R,aa q.A≠some b)(s':KS)(e:s'= {s with L:=s.L.set i r.l}):
  Stk (w.setCell ⟨g,i,none⟩ (krV r)) x (some ⟨g,0,none⟩) cS (R.set i r) s':=by
 subst e;have hxg:x≠g:=fun e=>Own.ne_blk h.top h.blk od (by rw[e];rfl);refine⟨?_,?_,?_,?_,?_⟩
 ·rw[List.length_set];exact h.blk.far (p:=⟨g,i,none⟩) hxg _
 ·unfold fP;rw[List.length_set,List.map_set];exact Own.stored h.top i (krV r)
 ·exact uF
 ·have hp:=h.apart;rw[List.pairwise_iff_getElem] at hp ⊢;intro a b ha hb Pd j hj;rw[List.length_set] at ha hb;rw[List.getElem_set] at hj;rw[List.getElem_set]
  by_cases e1:i=a
  ·rw[if_pos e1] at hj;rw[if_neg oq];exact fun e=>hn j hj _ (List.getElem_mem hb) e
  ·rw[if_neg e1] at hj
   by_cases e2:i=b
   ·rw[if_pos e2];exact fun e=>hn j e _ (List.getElem_mem ha) hj
   ·rw[if_neg e2];exact hp a b ha hb Pd j hj
 ·rw[List.map_set,h.is]
theorem tC{L:List (List Int)}{i:Nat}{l:List Int}(h:L[i]?=some l):L.take (i+1)++List.replicate (L.length-(i+1)) []=(L.take i++List.replicate (L.length-i) []).set i l:=by
 obtain⟨h1,h2⟩:=List.getElem?_eq_some_iff.1 h;rw[List.set_append_right _ _ (by rw[List.length_take];omega),List.length_take,Nat.min_eq_left oq,Nat.sub_self,show L.length-i=(L.length-(i+1))+1 by omega,List.replicate_succ,List.set_cons_zero,List.take_add_one,h];simp
theorem Ii(s:KS)(S0:Option Addr)(c0 b0:Nat)(R0:List KR)(w:World)(h:Lvs w b0 S0 c0 R0 s.L)(hok:KOk s):
  Cl 322 #[.int .i64 (s.k:Int),.slice S0 s.L.length c0,.int .u64 (s.g:Int)] w fun e w'=>∃x S cS R,e=.returned (.tuple #[.pointer (some ⟨x,0,none⟩),.int .i64 0])∧Stk w' x S cS R s∧(∀i,SF x S R i→w.heap.size≤i)∧Below w.heap.size w w':=by
 have R5:=Oh (fun W=>FK s.k W hok.k0 hok.k1);have hea:∀r∈R0,r.l∈s.L:=fun r hr=>by rw[←h.is];exact List.mem_map_of_mem hr
 have RY:=Oh (fun W r (hr:r∈R0) (h:Lvs W b0 S0 c0 R0 s.L)=>wz r.A r.l.length r.c (ivs r.l) W (Own.reads (h.rows r hr)) (kX _) (by have:=hok.each _ (hea r hr);omega));have V7:=Oh (fun W r (hr:r∈R0) (h:Lvs W b0 S0 c0 R0 s.L)=>sM r.A r.c r.l W (h.rows r hr) (by have:=hok.each _ (hea r hr);omega) (hok.srt _ (hea r hr)));have HRM:=Oh (fun(W:World) (x:Nat) (S:Option Addr) (cS:Nat) (b1:W.cell? ⟨x,0,none⟩=some (.int .i64 (s.k:Int))) (b2:W.cell? ⟨x,1,none⟩=some (.slice S s.L.length cS)) i (hi:i<s.L.length)=>yV (h:=i) b1 b2 hok.k1 (by have:=hok.len;omega) hi);have U8:R0.length=s.L.length:=h.len;have hmk:=j8 (P:=prog) underlying189 (z:=.slice none 0 0) (size:=1) (bytes:=24) (by kernel_rfl) .i64 .i64 s.L.length (by have:=hok.len;omega) (by have:=hok.len;omega);have x1:decide ((49:Int)<(s.L.length:Int))=false:=by have:=hok.len;simp;omega
 have x2:decide ((4611686018427387904:Int)<(s.g:Int))=false:=by have:=hok.g;simp;omega
 have Vc:=Oh h;have Td:=Oh hok;have WH:=Oh U8;have hLl:(s.L.length:Int)≤49:=by have:=hok.len;omega
 clear h hok hea U8;go_enter func322,ntmps322;go_wp2_with fail;refine(R5.out _).mono ?_;rintro e w1 ⟨x,rfl,hx,hS,b1⟩;have HX:=Oh hx;have H1:=Oh hS;have aS:=Oh b1;clear hx hS b1 R5;go_upto_region 3 with(fail);go_cut [50] (fun v wc=>v=.bool false∧wc=w1)
 case first=>
  by_cases hz:s.L.length=0
  ·have hg:=Td.out.none hz;have z1:((s.L.length:Int)==0)=true:=by rw[hz];rfl
   have z2:decide (0<s.g)=false:=by rw[hg];rfl
   have z3:decide ((0:Int)<(s.L.length:Int))=false:=by rw[hz];rfl
   have z4:decide (0<s.L.length)=false:=by rw[hz];rfl
   clear hz hg;go_wp2_with fail;go_meet
   case rel=>exact⟨rfl,rfl⟩
  ·obtain⟨m,hm⟩:∃m,s.L.length=m+1:=⟨s.L.length-1,oq⟩;obtain⟨r,hr⟩:∃r,R0[m]?=some r:=⟨_,Oj (by have:=WH.out;omega)⟩;have hrl:=Td.out.last r.l (by rw[hm,Nat.add_sub_cancel,←Vc.out.is,List.getElem?_map,hr];rfl);obtain⟨g0,rfl,d0⟩:=(Vc.out.below aS.out).top.at_ hr;have z1:((s.L.length:Int)==0)=false:=by rw[beq_eq_false_iff_ne];omega
   have z3:decide ((0:Int)<(s.L.length:Int))=true:=sq;have z4:decide (0<s.L.length)=true:=sq;have z5:wrap64 ((s.L.length:Int)-1)=(m:Int):=by unfold wrap64;omega
   have z5b:(s.L.length:Int)-1=(m:Int):=oq;have z6:(m:Int)<(s.L.length:Int):=oq;have z7:((r.l.length:Int)==0)=false:=by rw[beq_eq_false_iff_ne];omega
   have z8:(r.l.length==0)=false:=by rw[beq_eq_false_iff_ne];omega
   clear hz hm hr hrl;go_wp2_with fail;go_meet
   case rel=>exact⟨rfl,rfl⟩
 case rest=>
  obtain⟨rfl,rfl⟩:=hcut;have fr:=H1.out.blk.free;have c1:=H1.out.c1;have c3:=H1.out.c3;have XM:x<wc.heap.size:=H1.out.blk.lt;go_upto_region 6 with(fail);obtain⟨W0,UF⟩:∃W0,W0=((wc.setCell ⟨x,1,none⟩ (.slice (some ⟨wc.heap.size,0,none⟩) s.L.length s.L.length)).setCell ⟨x,3,none⟩ (.int .u64 (s.g:Int))).alloc (.cells (madeCells #[Value.slice none 0 0] s.L.length) 192):=⟨_,rfl⟩;obtain⟨gS,hgS⟩:∃gS,gS=wc.heap.size:=⟨_,rfl⟩;rw[←UF];rw[←hgS];rw[←hgS] at UF;have hlx:s.L.length≤49:=Td.out.len;have YM:(List.replicate s.L.length (⟨none,0,[]⟩:KR)).map krV=List.replicate s.L.length (.slice none 0 0):=by rw[List.map_replicate];rfl
  have AC:Hid (Stk W0 x (some ⟨gS,0,none⟩) s.L.length (List.replicate s.L.length ⟨none,0,[]⟩) ⟨s.k,List.replicate s.L.length [],0,s.g⟩):=Oh (by
   rw[UF];refine⟨?_,?_,?_,?_,?_⟩
   ·rw[List.length_replicate];exact((H1.out.blk.put 1 _).put 3 _).alloc _
   ·unfold fP;rw[YM,List.length_replicate];have h:=Own.made' (n:=gS) (W:=(wc.setCell ⟨x,1,none⟩ (.slice (some ⟨gS,0,none⟩) s.L.length s.L.length)).setCell ⟨x,3,none⟩ (.int .u64 (s.g:Int))) 0 192 1 (madeCells #[Value.slice none 0 0] s.L.length) s.L.length (by rw[hgS];simp[World.setCell]) (Nat.zero_le _) (by unfold maxLen;omega) (by simp[madeCells]);rw[toList_madeCells_one] at h;exact h
   ·intro r hr;rw[(List.mem_replicate.1 hr).2];exact Own.nil _ _ _ _
   ·rw[List.pairwise_replicate];exact .inr (fun i hi=>by cases hi)
   ·rw[List.map_replicate])
  have T9:Hid (Below w.heap.size w W0):=Oh (by
   rw[UF];exact((aS.out.setCell (p:=⟨x,1,none⟩) HX.out _).setCell (p:=⟨x,3,none⟩) HX.out _).alloc (by simpa using aS.out.size) _)
  have HGS:Hid (w.heap.size≤gS):=Oh (by rw[hgS];exact aS.out.size);clear UF hgS fr c1 c3 XM YM H1 aS;go_wp2_with fail;go_loopw [62] (fun u wr=>∃(i:Nat) (R:List KR),i≤s.L.length∧u=.int .i64 (i:Int)∧R.length=s.L.length∧Stk wr x (some ⟨gS,0,none⟩) s.L.length R ⟨s.k,s.L.take i++List.replicate (s.L.length-i) [],wtN s.L i,s.g⟩∧(∀r∈R,∀j,aa r.A=some j→w.heap.size≤j)∧Below w.heap.size w wr) (fun u _=>s.L.length-(intOf u).toNat)
  case atStart=>exact⟨0,_,Nat.zero_le _,rfl,List.length_replicate,by simpa [wtN] using AC.out,(fun r hr j hj=>by rw[(List.mem_replicate.1 hr).2] at hj;cases hj),T9.out⟩
  case round=>
   obtain⟨i,R,hi,rfl,U8,hs,U0,hb⟩:=hrel;have HS:=Oh hs;have Sd:=Oh U0;have HB:=Oh hb;have Tp:=Oh U8;have Vu:=Oh (Vc.out.below hb);clear hs U0 hb U8 AC T9
   by_cases hlt:i<s.L.length
   ·obtain⟨r,hr⟩:∃r,R0[i]?=some r:=⟨_,Oj (by have:=WH.out;omega)⟩;have hLi:s.L[i]?=some r.l:=by rw[←Vc.out.is,List.getElem?_map,hr];rfl
    obtain⟨g0,rfl,d0⟩:=Vu.out.top.at_ hr;have Sv:=Td.out.room i r.l hLi;have Le:=Cj hLi;have hle:=Kn (L:=s.L) (i:=i+1) oq;have OA:=Td.out.cap;rw[Td.out.n] at OA;have a7x:=Oh (HRM.out wr x _ _ (HS.out.c0) (by have:=HS.out.c1;rw[Tp.out] at this;exact this) i hlt);have a7y:=Oh (V7.out wr r (Om hr) Vu.out);have c2:=HS.out.c2;have t1:(i:Int)<(s.L.length:Int):=oq;have t2:decide (ew s.k s.L.length i<r.l.length)=false:=sq;have t3:IntKind.u64.wrap (r.l.length:Int)=(r.l.length:Int):=by rw[On];have:=tG (m:=s.L.length) (h:=i) Td.out.k1;omega
    dsimp only at c2;obtain⟨T0,Xg⟩:∃T,T=wtN s.L i:=⟨_,rfl⟩;obtain⟨T1,hT1⟩:∃T,T=wtN s.L (i+1):=⟨_,rfl⟩;rw[←Xg] at Le c2 HS;rw[←hT1] at Le hle;have t4:IntKind.u64.wrap (281474976710656-(T0:Int))=((281474976710656-T0:Nat):Int):=by rw[On];omega
    have hP:r.l.length*2^i≤281474976710656-T0:=oq
    have HT5:Hid (decide (((281474976710656-T0:Nat):Int)/2^i<(r.l.length:Int))=false):=Oh (by
     have h1:r.l.length≤(281474976710656-T0)/2^i:=(Nat.le_div_iff_mul_le (Nat.pow_pos oq)).2 hP
     have h2:((281474976710656-T0:Nat):Int)/2^i=(((281474976710656-T0)/2^i:Nat):Int):=by
      generalize 281474976710656-T0=X;rw[Int.natCast_ediv,Int.natCast_pow];rfl
     rw[h2,decide_eq_false_iff_not];omega)
    obtain⟨P0,hP0⟩:∃P,P=r.l.length*2^i:=⟨_,rfl⟩;rw[←hP0] at hP Le
    have t6:IntKind.u64.wrap ((r.l.length:Int)*2^i)=(P0:Int):=by
     have h2:(r.l.length:Int)*2^i=(P0:Int):=by rw[hP0,Int.natCast_mul,Int.natCast_pow];rfl
     rw[h2,On];omega
    have t7:IntKind.u64.wrap ((T0:Int)+(P0:Int))=(T1:Int):=by rw[On];omega
    have oR:=Oh hlt;have HT:=Oh (And.intro Xg (And.intro hT1 (And.intro Le (And.intro hle OA))));clear Sv Le hle OA Xg hT1 hlt hi hP hP0;generalize ew s.k s.L.length i=RM at*;go_upto_region 9 with(fail);go_cut [90] (fun v wc=>v=.bool false∧∃k,wc=wr.drewN k)
    case first=>
     go_wp2_with fail;refine a7x.out.mono ?_;rintro e w2 ⟨rfl,Ox⟩;obtain rfl:=Ox.symm;go_wp2_with fail;refine a7y.out.mono ?_;rintro e w3 ⟨rfl,q3,OU⟩;have c2b:w3.cell? ⟨x,2,none⟩=some (.int .u64 (T0:Int)):=by rw[OU];exact c2
     go_wp2_with fail;go_meet
     case rel=>
      refine⟨?_,q3,rfl⟩;rw[HT5.out]
    case rest=>
     obtain⟨rfl,k9,UI⟩:=hcut;have Tl:=Oh (show Stk wc _ _ _ _ _ from by rw[UI];exact HS.out.drewN k9);have HL9:=Oh (Vu.out.below (show Below wr.heap.size wr wc from by rw[UI];exact ae (Oq _ _) _));have QF:Hid (Below w.heap.size w wc):=Oh (by rw[UI];exact ae HB.out _);clear UI HS Vu HB a7x a7y c2 t2 d0 HT5;have e1:wc.cell? ⟨x,1,none⟩=some (.slice (some ⟨gS,0,none⟩) s.L.length s.L.length):=by have:=Tl.out.c1;rw[Tp.out] at this;exact this
     obtain⟨gq,hgq,d9⟩:=HL9.out.top.at_ hr;have hri:i<R.length:=by rw[Tp.out];exact oR.out
     have Sy:=Oh hri;have HMR:=Oh (Om hr);clear hgq d9 hri;go_upto_region 11 with(fail);refine wp_region_noPanic ?_;refine ag (S:=(fun(V:World)=>V.cell? ⟨x,1,none⟩=some (.slice (some ⟨gS,0,none⟩) s.L.length s.L.length))) (L:=8) (by kernel_rfl) e1 (fun hHeld=>?_);have SY:=Oh (Tl.out.drewN 1);have HLd:Hid (Lvs wc.drew b0 _ c0 R0 s.L):=Oh (HL9.out.below (Oq _ _).drew);have OL:Hid (Below w.heap.size w wc.drew):=Oh QF.out.drew;have S8:Hid (wc.heap.size≤wc.drew.heap.size):=Oh (Oi _);refine tV 0 ?_;refine tV 1 ?_;refine tV 2 ?_;refine tV 3 ?_;refine tV 4 ?_;refine tV 5 ?_;refine bO 6 fun K hK=>?_;go_simp;refine(RY.out _ r HMR.out HLd.out).mono ?_;rintro e v6 ⟨A2,c2,rfl,o2,b2⟩;have Ow:Hid (jD v6 wc.heap.size A2 c2 r.l):=Oh (Own.mono o2 S8.out);have QU:=Oh (SY.out.below b2);have PS:Hid (Below w.heap.size w v6):=Oh (ai OL.out b2);have HQB:Hid (∀q∈R,∀b,aa q.A=some b→b<wc.heap.size):=Oh (fun q hq b hb=>(Own.block (Tl.out.rows q hq) hb).2);have hg6:=QU.out.top;obtain⟨g6,YN,_,_,_,YO,YP⟩:=Own.form hg6 (by have:=Sy.out;omega);have Uq:gS=g6:=by injection YN with h;injection h
     subst Uq;have e6:∃u,v6.cell? ⟨gS,i,none⟩=some u:=⟨_,YO i _ (by rw[List.getElem?_map,Oj Sy.out];rfl)⟩;obtain⟨u6,e6⟩:=e6;have f6:v6.frozen? ⟨gS,i,none⟩=false:=YP _;have e1b:v6.cell? ⟨x,1,none⟩=some (.slice (some ⟨gS,0,none⟩) s.L.length s.L.length):=by have:=QU.out.c1;rw[Tp.out] at this;exact this
     clear o2 b2 hg6 YN YO YP;replace hHeld:=e1b;refine hK.out _ _ hHeld ?_;clear hK K;try go_simp
     refine tV 7 ?_;refine aL 8 ?_;refine cD ?_;have HRW:=Oh (QU.out.row (i:=i) ⟨A2,c2,r.l⟩ (Own.mono Ow.out (Nat.zero_le _)) (fun b hb q hq e=>by have h1:=(Own.block Ow.out hb).1;have h2:=HQB.out q hq b e;omega) ⟨s.k,s.L.take (i+1)++List.replicate (s.L.length-(i+1)) [],T0,s.g⟩ (by rw[tC hLi]));have T9:Hid (Below w.heap.size w (v6.setCell ⟨gS,i,none⟩ (.slice A2 r.l.length c2))):=Oh (PS.out.setCell (p:=⟨gS,i,none⟩) HGS.out _)
     have acy:Hid (∀q∈R.set i ⟨A2,c2,r.l⟩,∀j,aa q.A=some j→w.heap.size≤j):=Oh (fun q hq j hj=>by
      rcases List.mem_or_eq_of_mem_set hq with hq|rfl
      ·exact Sd.out q hq j hj
      ·exact Oo QF.out.size (Own.block Ow.out hj).1)
     have a3N:Hid ((R.set i ⟨A2,c2,r.l⟩).length=s.L.length):=Oh (by rw[List.length_set];exact Tp.out);generalize R.set i ⟨A2,c2,r.l⟩=R2 at*;have Xi:v6.setCell ⟨gS,i,none⟩ (krV ⟨A2,c2,r.l⟩)=v6.setCell ⟨gS,i,none⟩ (.slice A2 r.l.length c2):=rfl;rw[Xi] at HRW;generalize v6.setCell ⟨gS,i,none⟩ (.slice A2 r.l.length c2)=w7 at*;clear Xi QU Ow PS HQB Sd Tl HL9 QF e1;have e2:w7.cell? ⟨x,2,none⟩=some (.int .u64 (T0:Int)):=HRW.out.c2;have fr2:=HRW.out.blk.free 2;go_upto_region 12 with(fail);refine wp_region_noPanic ?_;refine ag (S:=(fun(V:World)=>V.cell? ⟨x,2,none⟩=some (.int .u64 (T0:Int)))) (L:=12) (by kernel_rfl) e2 (fun hHeld=>?_);refine tV 0 ?_;refine tV 1 ?_;refine tV 2 ?_;refine tV 3 ?_;refine tV 4 ?_;refine tV 5 ?_;refine tV 6 ?_;refine tV 7 ?_;refine tV 8 ?_;refine tV 9 ?_;refine tV 10 ?_;refine tV 11 ?_;refine aL 12 ?_;refine cD ?_;have Wf:Hid (Stk (w7.setCell ⟨x,2,none⟩ (.int .u64 (T1:Int))).drew x (some ⟨gS,0,none⟩) s.L.length R2 ⟨s.k,s.L.take (i+1)++List.replicate (s.L.length-(i+1)) [],T1,s.g⟩):=Oh ((HRW.out.put 2 (.int .u64 (T1:Int)) ⟨s.k,s.L.take (i+1)++List.replicate (s.L.length-(i+1)) [],T1,s.g⟩ rfl rfl).drewN 1);have HBX:Hid (Below w.heap.size w (w7.setCell ⟨x,2,none⟩ (.int .u64 (T1:Int))).drew):=Oh (T9.out.setCell (p:=⟨x,2,none⟩) HX.out _).drew;go_wp2_with fail;go_roundw
     case rel=>exact⟨i+1,R2,oR.out,by go_num,a3N.out,by rw[←HT.out.2.1];exact Wf.out,acy.out,HBX.out⟩
     case measure=>have:=oR.out;simp[intOf];omega
   ·obtain rfl:i=s.L.length:=oq;have t1:¬(s.L.length:Int)<(s.L.length:Int):=oq
    have Sj:Stk wr x (some ⟨gS,0,none⟩) s.L.length R s:=by
     have h:=HS.out;rw[Nat.sub_self,List.replicate_zero,List.append_nil,List.take_length,←Td.out.n] at h;exact h
    have Y4:=Oh Sj;clear hi hlt Sj;go_wp2_with fail;go_ret2;refine⟨x,rfl,_,_,R,Y4.out,?_,HB.out⟩;rintro j (rfl|hj|⟨q,hq,hj⟩)
    ·exact HX.out
    ·have:gS=j:=Option.some.inj hj;have:=HGS.out;omega
    ·exact Sd.out q hq j hj
theorem Lk(l:List Int)(h:l.length≤4096):(klB l).length≤41000:=by
 have h1:=af (show l.length<18446744073709551616 by omega);have h2:=ow l none;unfold klB;rw[Ok];omega
theorem ox:∀L:List (List Int),(∀l∈L,l.length≤4096)→(dB L).length≤41000*L.length
 | [],_=>Nat.zero_le _
 |l::L,h=>by
  have h1:=Lk l (h l os');have h2:=ox L (fun x hx=>h x (by simp[hx]));rw[show dB (l::L)=klB l++dB L from rfl,Ok,List.length_cons];omega
theorem KOk.fit{s:KS}(h:KOk s):MQ s:=
 ⟨h.k1,by have:=h.g;omega,by have:=h.len;omega,fun l hl=>by have:=h.each l hl;omega,by have h1:=ox s.L h.each;have h2:=h.len;omega⟩
theorem vP{s:KS}(h:KOk s):(dR s).length≤3000000:=by
 have h1:=ox s.L h.each;have h2:=h.len;have h3:=af (show s.k<18446744073709551616 by have:=h.k1;omega);have h4:=af (show s.g<18446744073709551616 by have:=h.g;omega);have h5:=af (show s.L.length<18446744073709551616 by omega);unfold dR;simp only[Ok];omega
theorem Bk{L:List (List Int)}{i:Nat}{l:List Int}(h:L[i]?=some l):dB (L.drop i)=klB l++dB (L.drop (i+1)):=by
 obtain⟨h1,h2⟩:=List.getElem?_eq_some_iff.1 h;rw[List.drop_eq_getElem_cons h1,h2];rfl
theorem Lvs.row{w:World}{b g:Nat}{cS:Nat}{R:List KR}{L:List (List Int)}(h:Lvs w b (some ⟨g,0,none⟩) cS R L)(i:Nat)(r:KR)(hr:jD w b r.A r.c r.l)(L':List (List Int))(e:L'=L.set i r.l):
  Lvs (w.setCell ⟨g,i,none⟩ (krV r)) b (some ⟨g,0,none⟩) cS (R.set i r) L':=by
 subst e;refine⟨?_,?_,?_⟩
 ·unfold fP;rw[List.length_set,List.map_set];exact Own.stored h.top i (krV r)
 ·exact uF
 ·rw[List.map_set,h.is]
theorem Lvs.rd{w w':World}{b base g p:Nat}{S A:Option Addr}{cS c:Nat}{R:List KR}{L:List (List Int)}{l:List UInt8}(h:Lvs w b S cS R L)(hr:Rdr w base g A c l p)(k:ab (RK g) w w'):Lvs w' b S cS R L:=
 h.only k (fun i hi e=>Own.ne_blk h.top hr.1 od (by rw[←show i=g from e];exact hi)) (fun r hq i hi e=>Own.ne_blk (h.rows r hq) hr.1 od (by rw[←show i=g from e];exact hi))
theorem DQ(s:KS)(hok:KOk s)(QO:∀l∈s.L,∀v∈l,InI v)(A0:Option Addr)(c0:Nat)(w:World)(hA:Bts w w.heap.size A0 (dR s)):
  Cl 252 #[.slice A0 (dR s).length c0] w fun e w'=>∃x S cS R,e=.returned (.pointer (some ⟨x,0,none⟩))∧Stk w' x S cS R s∧(∀i,SF x S R i→w.heap.size≤i)∧Below w.heap.size w w':=by
 have hlen:=vP hok;have PL:=hok.fit;have R5:=Oh (fun W (hb:Bts W W.heap.size A0 (dR s))=>ir A0 c0 (dR s) W hb oq);have Uw:=Oh (fun W x S cS R (h:Stk W x S cS R s)=>vM h PL);have TY:=Oh (fun A c W (hb:Bts W W.heap.size A (dR s)) (ha:Bts W W.heap.size A0 (dR s))=>ju A A0 c c0 (dR s) (dR s) W hb ha oq);rw[show(dR s==dR s)=true by simp] at TY;have HLD:=Oh (fun W S0 c0 b0 R0 (h:Lvs W b0 S0 c0 R0 s.L)=>Ii s S0 c0 b0 R0 W h hok);have htd:dR s=leb s.k++(leb s.g++(leb s.L.length++(dB s.L++[]))):=by unfold dR;simp only[List.append_assoc,List.append_nil]
 obtain⟨l,hl⟩:=nm (dR s);rw[←hl] at R5 Uw TY htd hlen hA ⊢;have OH:l.drop 0=leb s.k++(leb s.g++(leb s.L.length++(dB s.L++[]))):=by rw[List.drop_zero];exact htd
 have uP:=bL OH;have Rk:=bL uP;have Zj:=bL Rk;have OG:=Oh (fun base nr g A c W (h:Rdr W base g A c l 0) (hr:KRd W nr g)=>wE s.k 4096 (by have:=hok.k1;omega) h hr OH oq hok.k1);have Tz:=Oh (fun base nr g A c W (h:Rdr W base g A c l (0+(leb s.k).length)) (hr:KRd W nr g)=>wE s.g 18446744073709551615 (by have:=hok.g;omega) h hr uP oq (by have:=hok.g;omega));have SW:=Oh (fun base nr g A c W (h:Rdr W base g A c l (0+(leb s.k).length+(leb s.g).length)) (hr:KRd W nr g)=>wE s.L.length 49 (by have:=hok.len;omega) h hr Rk oq hok.len);have WH:=Oh (fun(q:List Int) (hq:q∈s.L) R base nr g A c p W (h:Rdr W base g A c l p) (hr:KRd W nr g) (hng:nr≠g) hd=>sL (R:=R) q (hok.each q hq) (QO q hq) (hok.srt q hq) h hr hng hd oq);have Xp:=Oh (fun base g A c p k W (h:Rdr W base g A c l p) (hk:p+k=l.length)=>fj base g A c l p k W h hk oq);have hmk:=j8 (P:=prog) underlying189 (z:=.slice none 0 0) (size:=1) (bytes:=24) ok' .u64 .u64 s.L.length (by have:=hok.len;omega) (by have:=hok.len;omega);have x3:IntKind.i64.wrap (s.k:Int)=(s.k:Int):=Ol _ ⟨oq,by have:=hok.k1;omega⟩;have hLl:(s.L.length:Int)≤49:=by have:=hok.len;omega
 have QW:=Oh Zj;have HA:=Oh hA;have RG:Hid (0+(leb s.k).length+(leb s.g).length+(leb s.L.length).length≤l.length):=Oh (dn Rk (bT _));clear hlen hl htd OH uP Rk Zj hok QO hA PL;generalize 0+(leb s.k).length+(leb s.g).length+(leb s.L.length).length=P3 at*;generalize 0+(leb s.k).length+(leb s.g).length=P2 at*;generalize 0+(leb s.k).length=P1 at*;go_enter func252,ntmps252;go_wp2_with fail;refine(R5.out _ HA.out).mono ?_;rintro e w2 ⟨g,A2,c2,rfl,hg,r2,b2⟩;have bY:=Oh b2;have Qa:=Oh r2;have HG:=Oh hg;clear hg r2 b2;go_upto_region 3 with(fail);have b3:Below w2.heap.size w2 (w2.alloc (.cells #[.pointer (some ⟨g,0,none⟩)] 431)):=Ba;have fR:=Oh (ai bY.out b3);have Oz:=Oh (Qa.out.below b3);have PA:=Oh (Blk.new w2 431 #[.pointer (some ⟨g,0,none⟩)]);have WI:Hid (w2.heap.size≠g∧w.heap.size≤w2.heap.size):=Oh ⟨fun e=>by have:=Qa.out.1.lt;omega,bY.out.size⟩;clear b3 Qa bY;obtain⟨N,hN⟩:=nm (w2.heap.size);obtain⟨w3,OU⟩:=nm (w2.alloc (.cells #[.pointer (some ⟨g,0,none⟩)] 431));rw[←OU] at fR Oz PA ⊢;rw[←hN] at PA WI ⊢;clear OU hN;go_wp2_with fail;refine(OG.out _ _ _ _ _ _ Oz.out PA.out).mono ?_;rintro e w4 ⟨rfl,r4,k4⟩;have VB:=Oh r4;have Xk:Hid (KRd w4 N g):=Oh (Blk.only PA.out k4 WI.out.1);have oN:Hid (Below w.heap.size w w4):=Oh (fR.out.trans (k4.below fR.out.size (fun i hi=>by have e2:i=g:=hi;have:=HG.out;omega)));clear r4 k4 Oz PA fR OG R5;go_wp2_with fail;refine(Tz.out _ _ _ _ _ _ VB.out Xk.out).mono ?_;rintro e w5 ⟨rfl,r5,k5⟩;have YE:=Oh r5;have HX5:Hid (KRd w5 N g):=Oh (Blk.only Xk.out k5 WI.out.1);have OE:Hid (Below w.heap.size w w5):=Oh (oN.out.trans (k5.below oN.out.size (fun i hi=>by have e2:i=g:=hi;have:=HG.out;omega)));clear r5 k5 VB Xk oN Tz;go_wp2_with fail;refine(SW.out _ _ _ _ _ _ YE.out HX5.out).mono ?_;rintro e w6 ⟨rfl,r6,k6⟩;have TS:=Oh r6;have VU:Hid (KRd w6 N g):=Oh (Blk.only HX5.out k6 WI.out.1);have PS:Hid (Below w.heap.size w w6):=Oh (OE.out.trans (k6.below OE.out.size (fun i hi=>by have e2:i=g:=hi;have:=HG.out;omega)));clear r6 k6 YE HX5 OE SW;go_upto_region 6 with(fail)
 obtain⟨W0,UF⟩:=nm (w6.alloc (.cells (madeCells #[Value.slice none 0 0] s.L.length) 192));obtain⟨gT,hgT⟩:=nm (w6.heap.size);rw[←UF];rw[←hgT];have b7:Below w6.heap.size w6 W0:=by rw[UF];exact Ba
 have hlx:s.L.length≤49:=oq;have YM:(List.replicate s.L.length (⟨none,0,[]⟩:KR)).map krV=List.replicate s.L.length (.slice none 0 0):=by rw[List.map_replicate];rfl
 have HL0:Hid (Lvs W0 w.heap.size (some ⟨gT,0,none⟩) s.L.length (List.replicate s.L.length ⟨none,0,[]⟩) (List.replicate s.L.length [])):=Oh (by
  refine⟨?_,?_,?_⟩
  ·unfold fP;rw[YM,List.length_replicate,UF];have h:=Own.made' (n:=gT) (W:=w6) w.heap.size 192 1 (madeCells #[Value.slice none 0 0] s.L.length) s.L.length hgT.symm (by rw[hgT];exact PS.out.size) (by unfold maxLen;omega) (by simp[madeCells]);rw[toList_madeCells_one] at h;exact h
  ·intro r hr;rw[(List.mem_replicate.1 hr).2];exact Own.nil _ _ _ _
  ·rw[List.map_replicate])
 have Zh:=Oh (TS.out.below b7);have WW:Hid (KRd W0 N g):=Oh (Blk.below VU.out b7 (Blk.lt VU.out));have Qx:=Oh (ai PS.out b7);clear UF hgT YM b7 TS VU PS;go_wp2_with fail;go_loopw [26] (fun u wr=>∃(i P:Nat) (R:List KR),i≤s.L.length∧u=.int .i64 (i:Int)∧R.length=s.L.length∧Lvs wr w.heap.size (some ⟨gT,0,none⟩) s.L.length R (s.L.take i++List.replicate (s.L.length-i) [])∧Rdr wr _ g A2 c2 l P∧l.drop P=dB (s.L.drop i)++[]∧P≤l.length∧KRd wr N g∧Below w.heap.size w wr) (fun u _=>s.L.length-(intOf u).toNat)
 case atStart=>exact⟨0,P3,_,Nat.zero_le _,rfl,List.length_replicate,by simpa using HL0.out,Zh.out,QW.out,RG.out,WW.out,Qx.out⟩
 case round=>
  obtain⟨i,P,R,hi,rfl,U8,hlv,hr,RA,OJ,hx,hb⟩:=hrel;have Vc:=Oh hlv;have HR:=Oh hr;have HD:=Oh RA;have HX:=Oh hx;have HB:=Oh hb;have Tp:=Oh U8;have Qz:=Oh OJ;clear hlv hr RA hx hb U8 OJ HL0 Zh WW Qx QW RG
  by_cases hlt:i<s.L.length
  ·obtain⟨q,hq⟩:=gs s.L i hlt;have Sl:=HD.out;rw[Bk hq] at Sl;have HDQ:Hid (l.drop P=leb q.length++(dA none q++(dB (s.L.drop (i+1))++[]))):=Oh (by rw[Sl];simp only[klB,List.append_assoc]);have HRQ:=Oh (WH.out q (Om hq) (dB (s.L.drop (i+1))++[]) _ N g A2 c2 P wr HR.out HX.out WI.out.1 HDQ.out);have t1:(i:Int)<(s.L.length:Int):=oq;have oR:=Oh hlt;have HQ:=Oh hq;clear Sl hlt hi hq HDQ;go_wp2_with fail;refine HRQ.out.mono ?_;rintro e w8 ⟨P8,A8,c8,rfl,r8,d8,pl8,o8,k8⟩;have Vb:Hid (jD w8 w.heap.size A8 c8 q):=Oh (Own.mono o8 HB.out.size);have HL8:=Oh (Vc.out.rd HR.out k8);have HR8:=Oh r8;have HD8:=Oh d8;have HP8:=Oh pl8;have HX8:Hid (KRd w8 N g):=Oh (Blk.only HX.out k8 WI.out.1);have Qg:Hid (Below w.heap.size w w8):=Oh (HB.out.trans (k8.below HB.out.size (fun i hi=>by have e2:i=g:=hi;have:=HG.out;omega)));clear r8 d8 pl8 o8 k8 HRQ Vc HR HX HB HD Qz;have Ry:=HL8.out.top;obtain⟨g6,YN,a7A,_,_,YO,YP⟩:=Own.form Ry (by have:=Tp.out;have:=oR.out;omega);have Uq:gT=g6:=by injection YN with h;injection h
   subst Uq;have e6:∃u,w8.cell? ⟨gT,i,none⟩=some u:=⟨_,YO i _ (by rw[List.getElem?_map,Oj (by rw[Tp.out];exact oR.out)];rfl)⟩;obtain⟨u6,e6⟩:=e6;have f6:w8.frozen? ⟨gT,i,none⟩=false:=YP _;have HGW:=Oh a7A;have HGX:Hid (gT≠g∧gT≠N∧aa A2≠some gT):=Oh ⟨fun e=>Own.ne_blk Ry HR8.out.1 od (by rw[e];rfl),fun e=>Own.ne_blk Ry HX8.out od (by rw[e];rfl),fun e=>Own.ne_own Ry (show Own w8 _ 5 1 A2 l.length c2 (bvs l) from HR8.out.2) od gT rfl e⟩;clear Ry YN a7A YO YP;go_wp2_with fail;have TX:=Oh (HL8.out.row (i:=i) ⟨A8,c8,q⟩ Vb.out (s.L.take (i+1)++List.replicate (s.L.length-(i+1)) []) (by rw[tC HQ.out]));have Wa:ab (fun j=>j=gT) w8 (w8.setCell ⟨gT,i,none⟩ (.slice A8 q.length c8)):=(ab.refl (fun j=>j=gT) w8).set (p:=⟨gT,i,none⟩) (.inl rfl) _;have Z8:Hid (Rdr (w8.setCell ⟨gT,i,none⟩ (.slice A8 q.length c8)) _ g A2 c2 l P8):=Oh ⟨HR8.out.1.only Wa (fun e=>HGX.out.1 e.symm),Own.only HR8.out.2 Wa (fun j hj e=>HGX.out.2.2 (by rw[←show j=gT from e];exact hj))⟩;have SR:Hid (KRd (w8.setCell ⟨gT,i,none⟩ (.slice A8 q.length c8)) N g):=Oh (Blk.only HX8.out Wa (fun e=>HGX.out.2.1 e.symm));have QF:Hid (Below w.heap.size w (w8.setCell ⟨gT,i,none⟩ (.slice A8 q.length c8))):=Oh (Qg.out.setCell (p:=⟨gT,i,none⟩) HGW.out _);have a3N:Hid ((R.set i ⟨A8,c8,q⟩).length=s.L.length):=Oh (by rw[List.length_set];exact Tp.out);go_roundw
   case rel=>exact⟨i+1,P8,R.set i ⟨A8,c8,q⟩,oR.out,by go_num,a3N.out,TX.out,Z8.out,HD8.out,HP8.out,SR.out,QF.out⟩
   case measure=>exact ms oR
  ·obtain rfl:i=s.L.length:=oq;have t1:¬(s.L.length:Int)<(s.L.length:Int):=oq
   have Qy:Hid (Lvs wr w.heap.size (some ⟨gT,0,none⟩) s.L.length R s.L):=Oh (by
    have h:=Vc.out;rw[Nat.sub_self,List.replicate_zero,List.append_nil,List.take_length] at h;exact h)
   have HPE:Hid (P+0=l.length):=Oh (by
    have h:=congrArg List.length HD.out;rw[List.drop_length,List.length_drop] at h;have:=Qz.out;simp[dB] at h;omega)
   clear hi hlt Vc HD Qz;go_wp2_with fail;refine(HLD.out _ _ _ _ _ Qy.out).mono ?_;rintro e w9 ⟨x,S,cS,R9,rfl,hs,hn,b9⟩;have Tl:=Oh hs;have HN9:Hid (∀j,SF x S R9 j→w.heap.size≤j):=Oh (fun j hj=>Oo HB.out.size (hn j hj));have QF:=Oh (ai HB.out b9);have Z8:=Oh (HR.out.below b9);have SR:Hid (KRd w9 N g):=Oh (Blk.below HX.out b9 (Blk.lt HX.out));clear hs hn b9 HR HX HB Qy HLD;have n0:w9.cell? ⟨N,0,none⟩=some (.pointer (some ⟨g,0,none⟩)):=by rw[Blk.cell SR.out];rfl
   go_wp2_with fail;refine(Xp.out _ _ _ _ _ 0 _ Z8.out HPE.out).mono ?_;rintro e Qr ⟨rfl,q10,Vd⟩;have QQ:Hid (Stk Qr x S cS R9 s):=Oh (by rw[Vd];exact Tl.out.drewN _);have RB:Hid (Below w.heap.size w Qr):=Oh (by rw[Vd];exact ae QF.out _);clear Vd Tl QF Z8 SR n0;go_wp2_with fail;refine(Uw.out _ _ _ _ _ QQ.out).mono ?_;rintro e Qe ⟨A,c,rfl,oB,bB⟩;have OI:=Oh (QQ.out.below bB);have Qt:=Oh (ai RB.out bB);have YL:Hid (Bts Qe Qe.heap.size A l):=Oh oB.reads;clear oB bB QQ RB Uw;go_wp2_with fail;refine(TY.out _ _ _ YL.out (HA.out.at_below Qt.out)).mono ?_;rintro e Tn ⟨rfl,q12,RC⟩;have QR:Hid (Stk Tn x S cS R9 s):=Oh (by rw[RC];exact OI.out.drewN _);have acA:Hid (Below w.heap.size w Tn):=Oh (by rw[RC];exact ae Qt.out _);clear RC OI Qt YL;go_wp2_with fail;go_ret;exact⟨x,S,cS,R9,rfl,QR.out,HN9.out,acA.out⟩
theorem Ib(p q:Addr)(w:World):
  CallsD prog 251 #[.pointer (some p),.pointer (some q)] .returning w fun e u' w'=>e=.returned (.tuple #[])∧u'=.returning∧w'=w:=by
 refine callsD_of_wpS func251 rfl fun c₀ cs hu=>?_
 apply wpS_seq
 apply wpS_region
 simp[wpOpsS,go_sem,recoverD,hu,ntmps251,Exit.thenS];refine wpS_of_wp ?_;rw[show(#[Value.pointer (some p),Value.pointer (some q)]++((Array.replicate 14 undef).setIfInBounds 3 (Value.nilIface)).setIfInBounds 0 (Value.nilIface))=#[.pointer (some p),.pointer (some q),Value.nilIface,undef,undef,Value.nilIface,undef,undef,undef,undef,undef,undef,undef,undef,undef,undef] from rfl];go_wp2_with fail;cases c₀
 simp_all [bodyPostS,results,results251]
def kwD(n:Nat):List Deferred:=[{target:=.fn (Fn.func 251) #[.pointer (some ⟨n,0,none⟩),.pointer (some ⟨n+1,0,none⟩)],args:=#[]}]
theorem Ic{w W:World}{p:Option Addr}(h:RsG 101 w W (.pointer p) 0)(tmps:Array Value)(h2:tmps.getD 2 undef=.pointer (some ⟨w.heap.size,0,none⟩))(h3:tmps.getD 3 undef=.pointer (some ⟨w.heap.size+1,0,none⟩))(R:Ending→World→Prop)(hR:R (.returned (.tuple #[.pointer p,.int .i64 0])) W):Leaves prog Tryz.f170 tmps R (kwD w.heap.size) .returning W:=by
 unfold kwD;refine leaves_cons (f:=251) (args:=#[.pointer (some ⟨w.heap.size,0,none⟩),.pointer (some ⟨w.heap.size+1,0,none⟩)]) os' (by simp[go_sem]) ?_;refine(Ib _ _ W).mono ?_;rintro e u' w' ⟨rfl,rfl,rfl⟩;have cs:=h.c2;have ce:=h.c3;simp only[Array.getD_eq_getD_getElem?] at h2 h3;refine⟨_,?_,hR⟩;simp only[results,results170];simp[go_sem,h2,h3,cs,ce]
theorem Ig(s:KS)(hok:KOk s)(QO:∀l∈s.L,∀v∈l,InI v)(A0:Option Addr)(c0:Nat)(w:World)(hA:Bts w w.heap.size A0 (dR s)):
  Cl 170 #[.slice A0 (dR s).length c0] w fun e w'=>∃x S cS R,e=.returned (.tuple #[.pointer (some ⟨x,0,none⟩),.int .i64 0])∧Stk w' x S cS R s∧(∀i,SF x S R i→w.heap.size≤i)∧Below w.heap.size w w':=by
 have UZ:=Oh (fun W (hA:Bts W W.heap.size A0 (dR s))=>DQ s hok QO A0 c0 W hA);have HA:=Oh hA;have SX:∀(fn:Fn) (first cap:Array Value) (w:World),(Instr.makeFunc fn first cap).run prog w=.ok (.func fn first cap) w:=fun _ _ _ _=>rfl;clear hok QO hA;go_enter_defers func170,ntmps170;go_wp2_with fail;have AC:=Oh (RsG.start (t:=101) (v:=.pointer none) w);refine(UZ.out _ (HA.out.at_below AC.out.below)).mono ?_;rintro e w1 ⟨x,S,cS,R,rfl,hs,hn,b1⟩;have By:=Oh (AC.out.next b1);have Ub:=Oh hs;have OG:Hid (∀i,SF x S R i→w.heap.size+1<i):=Oh (fun i hi=>by have h1:=hn i hi;have h2:=AC.out.e.lt;omega);clear hs hn b1 AC UZ;have t2:=By.out.c2;have t2f:=By.out.s.free 0;have t3:=By.out.c3;have Ul:=By.out.e.free 0;go_wp2_with fail;have uN:RsG 101 w ((w1.setCell ⟨w.heap.size,0,none⟩ (.pointer (some ⟨x,0,none⟩))).setCell ⟨w.heap.size+1,0,none⟩ (.int .i64 0)) (.pointer (some ⟨x,0,none⟩)) 0:=(By.out.setS _).setE 0;have OC:Stk ((w1.setCell ⟨w.heap.size,0,none⟩ (.pointer (some ⟨x,0,none⟩))).setCell ⟨w.heap.size+1,0,none⟩ (.int .i64 0)) x S cS R s:=Ub.out.only (((ab.refl (fun i=>i=w.heap.size∨i=w.heap.size+1) _).set (p:=⟨w.heap.size,0,none⟩) (.inl (.inl rfl)) _).set (p:=⟨w.heap.size+1,0,none⟩) (.inl (.inr rfl)) _) (fun i hi h=>by have:=OG.out i hi;omega);exact Ic uN _ rfl rfl _ ⟨x,S,cS,R,rfl,OC,fun i hi=>by have:=OG.out i hi;omega,uN.below⟩
end
end Go.Proofs.YtmbippkpjdoojaaGreat
