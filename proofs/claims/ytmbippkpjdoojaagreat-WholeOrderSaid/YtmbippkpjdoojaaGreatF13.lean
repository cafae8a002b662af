/- Parts of a proof, merged. -/
import Derived.Test.YtmbippkpjdoojaaGreatF12
import Derived.Laws.EntriesVeiled
set_option maxRecDepth 100000
set_option maxHeartbeats 1600000
namespace Go.Proofs.YtmbippkpjdoojaaGreat
open Tryz
open Go.RowKit
section
open Pl
def rix:List Pr→Nat→Nat
 | [],_=>0
 |p::l,r=>if r≤p.2 then 0 else 1+rix l (r-p.2)
theorem rx:∀{L:List Pr} {r i:Nat},i<L.length→(r≤tot (L.take (i+1))↔rix L r≤i)
 | [],_,_,h=>by simp at h
 |p::l,r,i,h=>by
  rw[List.take_succ_cons,aK,rix]
  by_cases hr:r≤p.2
  ·rw[if_pos hr];constructor
   ·intro _;omega
   ·intro _;omega
  ·rw[if_neg hr]
   cases i with
   |zero=>rw[List.take_zero,dX];constructor<;>intro h<;>omega
   |succ j=>
    have:=rx (L:=l) (r:=r-p.2) (i:=j) (by simpa using h);constructor
    ·intro h1;have:=this.1 oq;omega
    ·intro h1;have:=this.2 oq;omega
theorem KT{L:List Pr}{r:Nat}(h1:1≤r)(h:r≤tot L):rix L r<L.length:=by
 have hl:0<L.length:=by
  cases L with
  |nil=>rw[dX] at h;omega
  |cons=>simp
 have:=(rx (L:=L) (r:=r) (i:=L.length-1) oq).1 (by rw[show L.length-1+1=L.length by omega,List.take_length];exact h);omega
section
variable {w:World} {base g c d:Nat} {A B:Option Addr} {L:List Pr} (h:Tb w base g A c B d L)
theorem Tb.below{w':World}(h:Tb w base g A c B d L)(hb:Below w.heap.size w w'):Tb w' base g A c B d L:=⟨h.blk.below hb h.blk.lt,Own.below h.keys hb,Own.below h.upto hb⟩
theorem Tb.drewN(h:Tb w base g A c B d L)(n:Nat):Tb (w.drewN n) base g A c B d L:=⟨h.blk,h.keys,h.upto⟩
include h
theorem Tb.at_{i:Nat}{p:Pr}(hp:L[i]?=some p):∃a b,A=some ⟨a,0,none⟩∧B=some ⟨b,0,none⟩∧w.cell? ⟨a,i,none⟩=some (.int .i64 p.1)∧w.cell? ⟨b,i,none⟩=some (.int .u64 (tot (L.take (i+1)):Nat)):=by
 have hi:i<L.length:=(List.getElem?_eq_some_iff.1 hp).1;obtain⟨a,rfl,_,_,_,ha,_⟩:=Own.form h.keys oq;obtain⟨b,rfl,_,_,_,hb,_⟩:=Own.form h.upto oq;refine⟨a,b,rfl,rfl,ha i _ ?_,hb i _ ?_⟩
 ·unfold kcs;rw[List.getElem?_map,hp];rfl
 ·unfold ucs;rw[List.getElem?_map,List.getElem?_range hi];rfl
theorem KC:Cl 300 #[.pointer (some ⟨g,0,none⟩)] w (Rs (.int .i64 (L.length:Int)) w):=by
 have c0:=h.blk.c0;clear h;go_enter func300,ntmps300;go_wp2_with fail;go_ret;exact⟨rfl,rfl⟩
theorem Ky(i:Nat)(hi:i≤L.length)(hl:L.length≤1000000):Cl 299 #[.pointer (some ⟨g,0,none⟩),.int .i64 (i:Int)] w (Rs (.int .u64 (tot (L.take i):Nat)) w):=by
 cases i with
 |zero=>
  rw[List.take_zero,dX];clear h;go_enter func299,ntmps299;go_wp2_with fail;go_ret;exact⟨rfl,rfl⟩
 |succ j=>
  obtain⟨p,hp⟩:=gs L j;obtain⟨a,b,rfl,rfl,_,d1⟩:=h.at_ hp;have c1:=h.blk.c1;have x1:(((j+1:Nat):Int)==0)=false:=sq;have x2:((j+1:Nat):Int)-1=(j:Int):=oq;have x3:(j:Int)<(L.length:Int):=oq;have x4:(j:Int)<1000000:=oq;generalize tot (L.take (j+1))=T at*;generalize((j+1:Nat):Int)=J at*;obtain rfl:J=(j:Int)+1:=oq;clear h hi hl hp;go_enter func299,ntmps299;go_wp2_with fail;go_ret;exact⟨rfl,rfl⟩
theorem nJ(hl:L.length≤1000000):Cl 236 #[.pointer (some ⟨g,0,none⟩)] w (Rs (.int .u64 (tot L:Nat)) w):=by
 have c1:=h.blk.c1;have HS:=Oh (Ky h L.length (Oi _) hl);rw[List.take_length] at HS;clear h hl;go_enter func236,ntmps236;go_wp2_with fail;refine HS.out.mono ?_;rintro e w1 ⟨rfl,rfl⟩;go_wp2_with fail;go_ret;exact⟨rfl,rfl⟩
theorem Gw(i r p1 p2:Nat)(hi:i<L.length)(hl:L.length≤1000000)(k1:w.cell? ⟨p1,0,none⟩=some (.pointer (some ⟨g,0,none⟩)))(k2:w.cell? ⟨p2,0,none⟩=some (.int .u64 (r:Int))):
  Cl 414 #[.int .i64 (i:Int),.pointer (some ⟨p1,0,none⟩),.pointer (some ⟨p2,0,none⟩)] w (Rq (.bool (decide (r≤tot (L.take (i+1))))) w):=by
 obtain⟨p,hp⟩:=gs L i hi;obtain⟨a,b,rfl,rfl,_,d1⟩:=h.at_ hp;have c1:=h.blk.c1;have x3:(i:Int)<(L.length:Int):=oq;have x4:(i:Int)<1000000:=oq;generalize tot (L.take (i+1))=T at*;clear h hi hl hp;go_enter func414,ntmps414;go_wp2_with fail;go_quiet (fail);go_wp2_with fail;go_ret;exact⟨rfl,_,rfl⟩
theorem KE(r:Nat)(p:Pr)(hl:L.length≤1000000)(h1:1≤r)(h2:r≤tot L)(hp:L[rix L r]?=some p):
  Cl 354 #[.pointer (some ⟨g,0,none⟩),.int .u64 (r:Int)] w (Rb (.tuple #[.int .i64 p.1,.int .i64 0]) w):=by
 have SX:∀(fn:Fn) (first cap:Array Value) (w:World),(Instr.makeFunc fn first cap).run prog w=.ok (.func fn first cap) w:=fun _ _ _ _=>rfl;have hg:=h.blk.lt;have hq:=KT h1 h2;have hqi:=fun i hi=>rx (L:=L) (r:=r) (i:=i) hi;obtain⟨W,hW⟩:=nm ((w.alloc (.cells #[.pointer (some ⟨g,0,none⟩)] 301)).alloc (.cells #[.int .u64 (r:Int)] 35):World);have hT:Tb W base g A c B d L:=by rw[hW];exact(h.below (Ba)).below (Ba)
 have k1:W.cell? ⟨w.heap.size,0,none⟩=some (.pointer (some ⟨g,0,none⟩)):=by
  have hb:=(Blk.new w 301 #[.pointer (some ⟨g,0,none⟩)]).alloc (.cells #[.int .u64 (r:Int)] 35);rw[←hW] at hb;rw[hb.cell];rfl
 have k2:W.cell? ⟨w.heap.size+1,0,none⟩=some (.int .u64 (r:Int)):=by
  have hb:=Blk.new (w.alloc (.cells #[.pointer (some ⟨g,0,none⟩)] 301)) 35 #[.int .u64 (r:Int)];rw[World.size_alloc,←hW] at hb;rw[hb.cell];rfl
 have hWB:Below w.heap.size w W:=by rw[hW];exact(Ba).alloc os' _
 obtain⟨a,b,rfl,rfl,d0,_⟩:=hT.at_ hp;have c0:=hT.blk.c0;have HT:=Oh hT;have TX:=Oh (fun W' (h':Tb W' base g (some ⟨a,0,none⟩) c (some ⟨b,0,none⟩) d L)=>KC h');have HTO:=Oh (fun W' (h':Tb W' base g (some ⟨a,0,none⟩) c (some ⟨b,0,none⟩) d L)=>nJ h' hl)
 have Xe:=Oh (fun W' (h':Tb W' base g (some ⟨a,0,none⟩) c (some ⟨b,0,none⟩) d L) (k1:W'.cell? ⟨w.heap.size,0,none⟩=some (.pointer (some ⟨g,0,none⟩))) (k2:W'.cell? ⟨w.heap.size+1,0,none⟩=some (.int .u64 (r:Int)))=>tD L.length (rix L r) 414 (.pointer (some ⟨w.heap.size,0,none⟩)) (.pointer (some ⟨w.heap.size+1,0,none⟩)) (fun i=>decide (r≤tot (L.take (i+1)))) W'
  (enters_of func414 ok' rfl) hl oq (fun i hi=>decide_eq_decide.2 (hqi i hi)) (fun i hi k=>Gw (h'.drewN k) i r w.heap.size (w.heap.size+1) hi hl k1 k2))
 have x1:((L.length:Int)==0)=false:=by rw[beq_eq_false_iff_ne];omega
 have x1b:(L.length==0)=false:=by rw[beq_eq_false_iff_ne];omega
 have x2:decide ((r:Int)<1)=false:=decide_eq_false oq;have x3:decide (tot L<r)=false:=sq;have x4:((rix L r:Nat):Int)<(L.length:Int):=oq;have x5:((rix L r:Nat):Int)<1000000:=oq;have HWB:=Oh hWB;generalize rix L r=q at*;generalize tot L=T at*;clear hT hWB h1 h2 hq hqi hl hp hg;obtain⟨pk,pn⟩:=p;dsimp only at*;go_enter func354,ntmps354;go_upto_region 1 with(fail);rw[←hW];clear hW h;obtain⟨N,hN⟩:=nm (w.heap.size);rw[←hN] at Xe k1 k2 ⊢;clear hN;go_wp2_with fail;refine(TX.out _ HT.out).mono ?_;rintro e w1 ⟨rfl,rfl⟩;go_wp2_with fail;go_quiet ((go_at_call 236;exact Calls.quiet_of_same (HTO.out _ (HT.out.drewN _))));go_wp2_with fail;obtain⟨w2,Ox⟩:=nm (w1.drewN nq);rw[←Ox];have OM:Hid (Tb w2 base g (some ⟨a,0,none⟩) c (some ⟨b,0,none⟩) d L):=Oh (by rw[Ox];exact HT.out.drewN nq);replace c0:w2.cell? ⟨g,0,none⟩=some (.slice (some ⟨a,0,none⟩) L.length c):=by rw[Ox];exact c0
 replace d0:w2.cell? ⟨a,q,none⟩=some (.int .i64 pk):=by rw[Ox];exact d0
 replace k1:w2.cell? ⟨N,0,none⟩=some (.pointer (some ⟨g,0,none⟩)):=by rw[Ox];exact k1
 replace k2:w2.cell? ⟨N+1,0,none⟩=some (.int .u64 (r:Int)):=by rw[Ox];exact k2
 have aaR:Hid (Below w.heap.size w w2):=Oh (by rw[Ox];exact ae HWB.out _);clear Ox;have HTT:=Oh (fun n=>TX.out _ (OM.out.drewN n));have HSS:=Oh (fun n=>Xe.out _ (OM.out.drewN n) k1 k2);go_quiet (first|(go_at_call 300;exact Calls.quiet_of_same (HTT.out _))|(go_at_call 216;exact Calls.quiet_of (HSS.out _)));go_wp2_with fail;go_ret2;exact⟨rfl,ae aaR.out _⟩
end
end
section
open Pl
open Hdr (Mp)
section
variable {w:World} {base g c d:Nat} {A B:Option Addr} {L:List Pr}
theorem Gn(h:Tb w base g A c B d L)(num den:Nat)(p:Pr)(hl:L.length≤1000000)(h0:1≤den)(h1:num≤den)(uP:den<16384)(hn:1≤tot L)(Ud:tot L≤4611686018427387904)(Pd:num*tot L<18446744073709551615)(hr:max 1 (df (num*tot L) den)≤tot L)(hp:L[rix L (max 1 (df (num*tot L) den))]?=some p):
  Cl 288 #[.pointer (some ⟨g,0,none⟩),.int .u64 (num:Int),.int .u64 (den:Int)] w (Rb (.tuple #[.int .i64 p.1,.int .i64 0]) w):=by
 have HT:=Oh (nJ h hl);have HR:=Oh (xT num den (tot L) w h0 h1 uP hn oq Pd);have HK:=Oh (fun W (hb:Below w.heap.size w W)=>KE (h.below hb) (max 1 (df (num*tot L) den)) p hl oq hr hp);generalize max 1 (df (num*tot L) den)=R at*;generalize tot L=T at*;obtain⟨pk,pn⟩:=p;dsimp only at*;clear h hl h0 h1 uP hn Ud Pd hr hp;go_enter func288,ntmps288;go_wp2_with fail;refine HT.out.mono ?_;rintro e w1 ⟨rfl,rfl⟩;go_wp2_with fail;refine HR.out.mono ?_;rintro e w2 ⟨rfl,b2⟩;have B2:=Oh b2;clear b2;go_wp2_with fail;refine(HK.out _ B2.out).mono ?_;rintro e w3 ⟨rfl,b3⟩;have B3:=Oh b3;clear b3;go_wp2_with fail;go_ret2;exact⟨rfl,ai B2.out B3.out⟩
end
section
variable {w:World} {p gm bm b:Nat} {lo hi d:Int} {u m:Nat} {g:Bool} {L:List Pr}
theorem E9(h:Hst w p gm bm lo hi d u m g b L)(hf:fl L):
  Cl 210 #[.pointer (some ⟨p,0,none⟩)] w fun e w'=>∃base tg A c B dd,e=.returned (.pointer (some ⟨tg,0,none⟩))∧Tb w' base tg A c B dd L∧Below w.heap.size w w':=by
 have HP:=Oh (kD h hf);have HN:=Oh (fun A c W (hp:Prs W W.heap.size A L)=>Fg A c L W hp hf.srt hf.pos hf.tot hf.len (fun q hq=>by have:=hf.keys q hq;omega));clear h hf;go_enter func210,ntmps210;go_wp2_with fail;refine HP.out.mono ?_;rintro e w1 ⟨A1,c1,rfl,h1,b1⟩;have H1:=Oh h1;have B1:=Oh b1;clear h1 b1;go_wp2_with fail;refine(HN.out _ _ _ (bI.reads H1.out)).mono ?_;rintro e w2 ⟨tg,A,c,B,dd,rfl,_,h2,b2⟩;have H2:=Oh h2;have B2:=Oh b2;clear h2 b2;go_wp2_with fail;go_ret;exact⟨_,tg,A,c,B,dd,rfl,H2.out,ai B1.out B2.out⟩
def JN(u m k:Nat):Nat:=Hdr.Hd.low u m (Hdr.db u m k)+(Hdr.Hd.size u m (Hdr.db u m k)-1)
theorem Nm(h:Hst w p gm bm lo hi d u m g b L)(hf:fl L)(gE:1≤m)(hm:m≤18)(lE:u+m≤62)(num den:Nat)(q:Pr)(k:Nat)(h0:1≤den)(h1:num≤den)(uP:den<16384)(hn:1≤tot L)(Pd:num*tot L<18446744073709551615)(hr:max 1 (df (num*tot L) den)≤tot L)(hp:L[rix L (max 1 (df (num*tot L) den))]?=some q)(hk:q.1=(k:Int))(hv:Hdr.db u m k<2^63):
  Cl 205 #[.pointer (some ⟨p,0,none⟩),.int .u64 (num:Int),.int .u64 (den:Int)] w (Rb (.tuple #[.int .i64 (JN u m k:Nat),.int .i64 0]) w):=by
 have HT:=Oh (E9 h hf);have R3:=hf.keys q (Om hp);have UC:=Oh (fun W base tg A c B dd (ht:Tb W base tg A c B dd L)=>Gn ht num den q hf.len h0 h1 uP hn hf.tot Pd hr hp);have HV:=Oh (fun W (hm':Mp W gm lo hi d u m)=>Hdr.yi gm lo hi d u m k W hm' gE hm lE oq);have HH:=Oh (fun W (hm':Mp W gm lo hi d u m)=>Hdr.LU gm lo hi d u m (Hdr.db u m k) W hm' gE lE hv);rw[hk] at UC;have c0:=h.c0;have OJ:=h.blk.lt;have HM:=Oh h.mp;unfold JN;generalize Hdr.db u m k=V at*;generalize Hdr.Hd.low u m V+(Hdr.Hd.size u m V-1)=E at*;clear h hf gE hm lE h0 h1 uP hn Pd hr hp hk R3 hv;go_enter func205,ntmps205;go_wp2_with fail;refine HT.out.mono ?_;rintro e w1 ⟨base,tg,A,c,B,dd,rfl,h1,b1⟩;have H1:=Oh h1;have B1:=Oh b1;clear h1 b1;go_wp2_with fail;refine(UC.out _ _ _ _ _ _ _ H1.out).mono ?_;rintro e w2 ⟨rfl,b2⟩;have B2:=Oh (ai B1.out b2);have d0:w2.cell? ⟨p,0,none⟩=some (.pointer (some ⟨gm,0,none⟩)):=(B2.out.cell (p:=⟨p,0,none⟩) OJ).trans c0;have PW:Hid (Mp w2 gm lo hi d u m):=Oh (Blk.below HM.out B2.out (Blk.lt HM.out));clear b2 c0;go_wp2_with fail;refine(HV.out _ PW.out).mono ?_;rintro e w3 ⟨rfl,n3,rfl⟩;go_wp2_with fail;refine(HH.out _ (show Mp (w2.drewN n3) gm lo hi d u m from PW.out)).mono ?_;rintro e w4 ⟨rfl,n4,rfl⟩;go_wp2_with fail;go_ret2;exact⟨rfl,ae B2.out _⟩
end
end
section
open Go.Maps
open Pl
open Hdr (Mp)
theorem iA{H:Type}{P:Program}(w:World){ops:Array Oper}{o:Oper}{a:Act}{K:Act→World→Prop}{Q:Exit→Act→World→Prop}{E:Prop}(hg:o.guard=none)(m x v:Operand)(t:TypeId)(hop:o.op=Op.mapUpdate t m x v)(k e:TypeId)(KD:Keyed P k)(ht:P.underlying t=some (.map k e))(R:Value→Option (DataW H×List MemPlace))(b n:Nat)(D:DataW H)(hm:a.eval m=.map (some b))(hown:w.ownsMap P k R b n D)(hn:n<maxLen)(key val:Value)(kl:Lit)(hx:a.eval x=key)(hv:a.eval v=val)(iD:keyOf P k key=some kl)(d:DataW H)(ps:List MemPlace)(hval:R val=some (d,ps))(hK:∀w',w'.ownsMap P k R b (n+1) (D.put kl d)→w.grownBy w' (some b)→K (a.put o.dst undef) w'):
  if Region.wanted o (yielded ops a.tmps)=true then Oper.wp P o a w K Q else E:=by
 have hw:Region.wanted o (yielded ops a.tmps)=true:=by simp[Region.wanted,hg]
 rw[if_pos hw];obtain⟨w',iN,r1,r2⟩:=hown.update KD ht hn iD hval;unfold Oper.wp;simp[execOp,hop,hm,hx,hv,iN,Result.andThen];exact hK w' r1 r2
theorem Dc{L:List Pr}{k:Int}{n:Nat}(h:∀q∈L,q.1<k):put L k n=L++[(k,n)]:=by
 induction L with
 |nil=>rfl
 |cons p l ih=>
  rw[put,if_pos (h p List.mem_cons_self),ih (fun q hq=>h q (List.mem_cons_of_mem _ hq))];rfl
theorem FX{u m:Nat}{hi:Int}(h0:0≤hi)(h1:hi≤9223372036854775807):1≤1+Hdr.Hd.bk u m hi.toNat∧1+Hdr.Hd.bk u m hi.toNat≤64:=by
 have:=Hdr.Hd.pz (u:=u) (m:=m) (v:=hi.toNat) oq;omega
theorem FN(lo D:Nat)(hi:Int)(g:Bool)(w:World)(h1:1≤D)(h5:D≤5)(hL:1≤lo)(SD:2*(lo:Int)≤hi)(FR:hi≤9223372036854775807)(lE:Hdr.uOf lo+Hdr.mOf D≤62):
  Cl 159 #[.agg #[.int .i64 (lo:Int),.int .i64 hi,.int .i64 (D:Int)],.bool g] w fun e w'=>∃p gm bm,e=.returned (.tuple #[.pointer (some ⟨p,0,none⟩),.int .i64 0])∧w.heap.size≤p∧w.heap.size≤gm∧w.heap.size≤bm∧Hst w' p gm bm (lo:Int) hi (D:Int) (Hdr.uOf lo) (Hdr.mOf D) g (1+Hdr.Hd.bk (Hdr.uOf lo) (Hdr.mOf D) hi.toNat) []∧Below w.heap.size w w':=by
 have hmm:= @run_makeMap prog;have HN:=Oh (fun W=>Hdr.ir lo D hi W h1 h5 hL SD FR lE);have Pw:=Oh (fun W gm (h:Mp W gm lo hi D (Hdr.uOf lo) (Hdr.mOf D))=>Hdr.gj gm lo hi D (Hdr.uOf lo) (Hdr.mOf D) hi.toNat hi W h lE oq oq);have e0:1+(Hdr.Hd.bk (Hdr.uOf lo) (Hdr.mOf D) hi.toNat:Int)=((1+Hdr.Hd.bk (Hdr.uOf lo) (Hdr.mOf D) hi.toNat:Nat):Int):=oq;rw[e0] at Pw;generalize 1+Hdr.Hd.bk (Hdr.uOf lo) (Hdr.mOf D) hi.toNat=F at*;generalize Hdr.uOf lo=u at*;generalize Hdr.mOf D=m at*;clear h1 h5 hL SD FR lE e0;go_enter func159,ntmps159;go_wp2_with fail;refine(HN.out _).mono ?_;rintro e w1 ⟨gm,rfl,ZM,If,Pq,b1⟩;have hbx:=(Blk.new w 27 #[.int .i64 (lo:Int),.int .i64 hi,.int .i64 (D:Int)]).below b1 os';have d1:=hbx.c1;have Uo:=Oh Pq;have aS:Hid (Below w.heap.size w w1):=Oh ((Ba).trans (b1.mono os'));have HG:=Oh (show w.heap.size≤gm by simp at ZM;omega);clear hbx Pq b1 ZM;go_wp2_with fail;refine(Pw.out _ _ Uo.out).mono ?_;rintro e w2 ⟨rfl,n2,Ox⟩;have PW:Hid (Mp w2 gm lo hi D u m):=Oh (by rw[Ox];exact Uo.out);have bY:Hid (Below w.heap.size w w2):=Oh (by rw[Ox];exact ae aS.out _);have a00:gm<w2.heap.size:=by rw[Ox];exact If
 clear Ox If;go_wp2_with fail;go_ret2;have b3:Below w2.heap.size w2 ((w2.alloc (.map #[] 0)).alloc (.cells #[.pointer (some ⟨gm,0,none⟩),.bool g,.int .i64 (F:Int),.map (some w2.heap.size),.int .u64 0] 263)):=(Ba).alloc os' _;have hs:=bY.out.size;refine⟨w2.heap.size+1,gm,w2.heap.size,rfl,oq,HG.out,hs,⟨?_,Blk.below PW.out b3 a00,?_⟩,ai bY.out b3⟩
 ·have h:=Blk.new (w2.alloc (.map #[] 0)) 263 #[.pointer (some ⟨gm,0,none⟩),.bool g,.int .i64 (F:Int),.map (some w2.heap.size),.int .u64 0];rw[World.size_alloc] at h;exact h
 ·exact(World.ownsMap_made w2 _ _ _).alloc _
theorem Cnt.ne_own{w:World}{bm:Nat}{L:List Pr}(h:Cnt w bm L){base:Nat}{e:TypeId}{size:Nat}{A:Option Addr}{n c:Nat}{xs:List Value}(ho:Own w base e size A n c xs):aa A=none∨aa A≠some bm:=by
 rcases ho.2 with⟨hv,_⟩|⟨g',cap,cur,hv,_,hh,_⟩
 ·injection hv with hA _ _
  subst hA;exact .inl rfl
 ·injection hv with hA _ _
  subst hA;refine .inr (fun e=>?_);have:g'=bm:=by simpa [aa] using e
  subst this;exact h.ne (show Blk w g' _ cur from hh) rfl
def iu(u m:Nat)(first:Nat)(L:List Pr):Nat:=L.foldl (fun n p=>max n (1+Hdr.Hd.bk u m (Hdr.db u m p.1.toNat))) first
theorem xd{u m first i:Nat}{L:List Pr}{p:Pr}(h:L[i]?=some p):iu u m first (L.take (i+1))=max (iu u m first (L.take i)) (1+Hdr.Hd.bk u m (Hdr.db u m p.1.toNat)):=by
 unfold iu;rw[List.take_add_one,h];simp
theorem Dx{u m first:Nat}(hf:first≤64):∀(L:List Pr),(∀p∈L,Hdr.db u m p.1.toNat<2^63)→iu u m first L≤64:=by
 intro L
 induction L generalizing first with
 |nil=>intro _;exact hf
 |cons p l ih=>
  intro h;have h1:=Hdr.Hd.pz (u:=u) (m:=m) (h p List.mem_cons_self);exact ih (first:=max first (1+Hdr.Hd.bk u m (Hdr.db u m p.1.toNat))) oq (fun q hq=>h q (List.mem_cons_of_mem _ hq))
set_option maxHeartbeats 3200000 in
theorem yX(lo D:Nat)(hi:Int)(g:Bool)(A0:Option Addr)(c0:Nat)(L:List Pr)(bk:Nat)(w:World)(hA:Prs w w.heap.size A0 L)(hf:fl L)(h1:1≤D)(h5:D≤5)(hL:1≤lo)(SD:2*(lo:Int)≤hi)(FR:hi≤9223372036854775807)(lE:Hdr.uOf lo+Hdr.mOf D≤62)(hv:∀p∈L,Hdr.dS (Hdr.uOf lo) (Hdr.mOf D) p.1.toNat=false∧Hdr.db (Hdr.uOf lo) (Hdr.mOf D) p.1.toNat<2^63)(EQ:bk=iu (Hdr.uOf lo) (Hdr.mOf D) (1+Hdr.Hd.bk (Hdr.uOf lo) (Hdr.mOf D) hi.toNat) L)(hg:g=true∨bk≤1+Hdr.Hd.bk (Hdr.uOf lo) (Hdr.mOf D) hi.toNat):
  Cl 162 #[.agg #[.int .i64 (lo:Int),.int .i64 hi,.int .i64 (D:Int)],.bool g,.int .i64 (bk:Int),.slice A0 L.length c0] w fun e w'=>∃p gm bm,e=.returned (.tuple #[.pointer (some ⟨p,0,none⟩),.int .i64 0])∧w.heap.size≤p∧w.heap.size≤gm∧w.heap.size≤bm∧Hst w' p gm bm (lo:Int) hi (D:Int) (Hdr.uOf lo) (Hdr.mOf D) g bk L∧Below w.heap.size w w':=by
 have hmr:=Hdr.eL h1 h5;have eQ:=FX (u:=Hdr.uOf lo) (m:=Hdr.mOf D) (hi:=hi) oq FR;have HN:=Oh (fun W=>FN lo D hi g W h1 h5 hL SD FR lE);have HWN:=Oh (fun A c W (hp:Prs W W.heap.size A L)=>Fg A c L W hp hf.srt hf.pos hf.tot hf.len (fun q hq=>by have:=hf.keys q hq;omega));have HVL:=Oh (fun gm i W (h:Mp W gm lo hi D (Hdr.uOf lo) (Hdr.mOf D)) (hi2:i<2^63)=>Hdr.yi gm lo hi D (Hdr.uOf lo) (Hdr.mOf D) i W h oq hmr.2 lE hi2);have Pw:=Oh (fun gm (V:Nat) W (h:Mp W gm lo hi D (Hdr.uOf lo) (Hdr.mOf D)) (hV:V<2^63)=>Hdr.gj gm lo hi D (Hdr.uOf lo) (Hdr.mOf D) V (V:Int) W h lE hV oq);have Rj:=Oh (fun p gm W (c0:W.cell? ⟨p,0,none⟩=some (.pointer (some ⟨gm,0,none⟩))) (hp:p<W.heap.size) (h:Mp W gm lo hi D (Hdr.uOf lo) (Hdr.mOf D))=>vR (w:=W) c0 hp h lE oq FR);have HTO:=Oh (fun base tg A c B d W (h:Tb W base tg A c B d L)=>nJ h hf.len);have HNL:=Oh (fun k=>Dx (u:=Hdr.uOf lo) (m:=Hdr.mOf D) (first:=1+Hdr.Hd.bk (Hdr.uOf lo) (Hdr.mOf D) hi.toNat) eQ.2 (L.take k) (fun p hp=>(hv p (List.mem_of_mem_take hp)).2));have PE:=Oh (fun i p (h:L[i]?=some p)=>xd (u:=Hdr.uOf lo) (m:=Hdr.mOf D) (first:=1+Hdr.Hd.bk (Hdr.uOf lo) (Hdr.mOf D) hi.toNat) h);have SZ:iu (Hdr.uOf lo) (Hdr.mOf D) (1+Hdr.Hd.bk (Hdr.uOf lo) (Hdr.mOf D) hi.toNat) (L.take 0)=1+Hdr.Hd.bk (Hdr.uOf lo) (Hdr.mOf D) hi.toNat:=rfl;have hnL:iu (Hdr.uOf lo) (Hdr.mOf D) (1+Hdr.Hd.bk (Hdr.uOf lo) (Hdr.mOf D) hi.toNat) (L.take L.length)=bk:=by rw[List.take_length,EQ]
 obtain⟨NF,hNF⟩:∃NF:Nat→Nat,NF=fun i=>iu (Hdr.uOf lo) (Hdr.mOf D) (1+Hdr.Hd.bk (Hdr.uOf lo) (Hdr.mOf D) hi.toNat) (L.take i):=⟨_,rfl⟩;have a6h:∀i,iu (Hdr.uOf lo) (Hdr.mOf D) (1+Hdr.Hd.bk (Hdr.uOf lo) (Hdr.mOf D) hi.toNat) (L.take i)=NF i:=fun i=>by rw[hNF]
 simp only[a6h] at HNL PE SZ hnL;have HV:=Oh hv;have HF:=Oh hf;have HA:=Oh hA;have Lt:(L.length:Int)≤1000000:=by have:=hf.len;omega
 clear a6h hNF EQ hv hf hA h1 h5 hL SD lE eQ FR;generalize 1+Hdr.Hd.bk (Hdr.uOf lo) (Hdr.mOf D) hi.toNat=F at*;generalize Hdr.uOf lo=u at*;generalize Hdr.mOf D=m at*;have HG:=Oh hg;have HZ:=Oh (And.intro SZ hnL);clear hg SZ hnL hmr;go_enter func162,ntmps162;go_wp2_with fail;refine(HN.out _).mono ?_;rintro e w1 ⟨p,gm,bm,rfl,hp,ZM,hbm,R4,b1⟩;have HP:Hid (w.heap.size≤p∧w.heap.size≤gm∧w.heap.size≤bm):=Oh (by simp at hp ZM hbm;omega);have aS:Hid (Below w.heap.size w w1):=Oh ((Ba).trans (b1.mono os'));have By:=Oh R4;have HA1:Hid (Prs w1 w1.heap.size A0 L):=Oh (Prs.at_below HA.out aS.out);clear hp ZM hbm R4 b1;go_wp2_with fail;refine(HWN.out _ _ _ HA1.out).mono ?_;rintro e w2 ⟨tg,A,c,B,d,rfl,htg,htb,b2⟩;have bY:=Oh (ai aS.out b2);have uN:=Oh (By.out.below b2);have OM:=Oh htb;have HTG:=Oh htg;have c2:=uN.out.c2;clear b2 htb htg aS By HA1;go_wp2_with fail;have RX:p≠tg:=Blk.ne uN.out.blk OM.out.blk od;go_loopw [13,40] (fun x v wr=>∃(i:Nat),i≤L.length∧v=.int .i64 (i:Int)∧x=.int .i64 (NF i:Nat)∧Blk wr p 263 #[.pointer (some ⟨gm,0,none⟩),.bool g,.int .i64 (F:Int),.map (some bm),.int .u64 0]∧Mp wr gm lo hi D u m∧Cnt wr bm (L.take i)∧Below w.heap.size w wr∧Tb wr w1.heap.size tg A c B d L) (fun _ v _=>L.length-(intOf v).toNat)
 case atStart=>exact⟨0,Nat.zero_le _,rfl,by rw[HZ.out.1],uN.out.blk,uN.out.mp,uN.out.own,bY.out,OM.out⟩
 case round=>
  obtain⟨i,hi2,rfl,rfl,dO,Wz,Rr,Si,WE⟩:=hrel;obtain⟨wo,rfl⟩:=nm (wr:World)
  by_cases hlt:i<L.length
  ·obtain⟨⟨KY,n⟩,Q8⟩:∃q,L[i]?=some q:=⟨_,Oj hlt⟩;have OZ:=HF.out.keys _ (Om Q8);have hvv:=HV.out _ (Om Q8);have Le:=PE.out i _ Q8;have hnl:=HNL.out (i+1);have aaT:=HNL.out i;dsimp only at OZ hvv Le;obtain⟨k,rfl⟩:∃k:Nat,KY=(k:Int):=⟨KY.toNat,oq⟩;rw[Int.toNat_natCast] at hvv Le;obtain⟨b0,o0,rfl,QC,hcell⟩:=Prs.at_ (Prs.below HA.out Si) oq;obtain⟨d0,d1⟩:=hcell i _ Q8;have a1e:Hdr.fe u m k=0:=by unfold Hdr.fe;rw[hvv.1];rfl
   have HVK:=Oh (fun W h=>HVL.out gm k W h oq);rw[a1e] at HVK;obtain⟨V,hV⟩:=nm (Hdr.db u m k);have a33:=hvv.2;rw[←hV] at HVK Le a33;have HBV:=Oh (fun W h=>Pw.out gm V W h a33);obtain⟨BK,hBK⟩:=nm (Hdr.Hd.bk u m V);rw[←hBK] at HBV Le;have t0:(i:Int)<(L.length:Int):=oq;have t3:max ((NF i:Nat):Int) (1+(BK:Int))=((NF (i+1):Nat):Int):=by rw[Le];omega
   have a34:=Oh (JK (k:=(k:Int)) oq oq);have T5:=fY L (i+1);rw[fm Q8] at T5;dsimp only at T5;have XQ:=HF.out.tot;have HWF:Hid (plainElem (H:=Unit) prog 35 (.int .u64 (n:Int))=some (.lit (.int .u64 (n:Int)),[])):=Oh (plainElem_int underlying35 (WalkArith.wf_u64 oq));have HLM:Hid ((L.take i).length<maxLen):=Oh (by have:=List.length_take_le i L;unfold maxLen;omega)
   have oR:Hid (∀q∈L.take i,q.1<(k:Int)):=Oh (fun q hq=>by
    obtain⟨j,hj,hqj⟩:=List.getElem_of_mem hq;have TC:j<i:=by rw[List.length_take] at hj;omega
    rw[List.getElem_take] at hqj;have h2:=List.getElem?_eq_some_iff.1 Q8;have h3:=List.pairwise_iff_getElem.1 HF.out.srt j i oq h2.1 TC;rw[h2.2,hqj] at h3;exact h3)
   have HI:=Oh hlt;have HKN:=Oh Q8;have OJ:=dO.lt;have fR:=Oh dO;have UG:=Oh Wz;have sO:=Oh Rr;have Uy:=Oh Si;have Vr:=Oh WE;clear dO Wz Rr Si WE hcell OZ hvv Le hnl aaT a1e hV a33 hBK T5 XQ hlt Q8 hi2 c2 bY uN OM;go_upto_region 11 with(fail);obtain⟨N,hN⟩:=nm (wo.heap.size);obtain⟨w4,Po⟩:=nm (wo.alloc (.cells #[.int .i64 (k:Int),.int .u64 (n:Int)] 176));rw[←Po,←hN];clear d0 d1;have RH:Hid (Blk w4 N 176 #[.int .i64 (k:Int),.int .u64 (n:Int)]):=Oh (by rw[Po,hN];exact Blk.new _ _ _);have oN:Hid (Blk w4 p 263 #[.pointer (some ⟨gm,0,none⟩),.bool g,.int .i64 (F:Int),.map (some bm),.int .u64 0]):=Oh (by rw[Po];exact fR.out.alloc _);have UW:Hid (Mp w4 gm lo hi D u m):=Oh (by rw[Po];exact Blk.alloc UG.out _);have bN:Below wo.heap.size wo w4:=by rw[Po];exact Ba
   have Pk:Hid (Cnt w4 bm (L.take i)):=Oh (sO.out.below bN);have Uj:=Oh (ai Uy.out bN);have VH:=Oh (Vr.out.below bN);have k0:=oN.out.c0;have e0:=RH.out.c0;clear Po hN bN fR UG sO Uy Vr;go_quiet ((go_at_call 234;exact Calls.quiet_of (HVK.out _ (show Mp (w4.drewN _) gm lo hi D u m from UW.out))));go_wp2_with fail;refine(HBV.out _ (show Mp (w4.drewN nq) gm lo hi D u m from UW.out)).mono ?_;rintro e w6 ⟨rfl,n5,VI⟩;have WG:Hid (Blk w6 N 176 #[.int .i64 (k:Int),.int .u64 (n:Int)]):=Oh (by rw[VI];exact RH.out);have PS:Hid (Blk w6 p 263 #[.pointer (some ⟨gm,0,none⟩),.bool g,.int .i64 (F:Int),.map (some bm),.int .u64 0]):=Oh (by rw[VI];exact oN.out);have HM6:Hid (Mp w6 gm lo hi D u m):=Oh (by rw[VI];exact UW.out);have Ow:Hid (Cnt w6 bm (L.take i)):=Oh (by rw[VI];exact Pk.out);have VJ:Hid (Below w.heap.size w w6):=Oh (by rw[VI];exact ae (ae Uj.out _) _);have SS:Hid (Tb w6 w1.heap.size tg A c B d L):=Oh (by rw[VI];exact(VH.out.drewN _).drewN _);have k3:=PS.out.c3;have e0:=WG.out.c0;have e1:=WG.out.c1;clear VI RH oN UW Pk Uj VH k0;go_upto_region 15 with(fail);refine wp_region_noPanic ?_;refine aR (S:=(fun W=>W.cell? ⟨p,3,none⟩=some (.map (some bm))∧W.cell? ⟨N,0,none⟩=some (.int .i64 (k:Int))∧W.cell? ⟨N,1,none⟩=some (.int .u64 (n:Int)))) (L:=8) ok' ⟨k3,e0,e1⟩ (fun hHeld=>?_);refine tT 0 ?_;refine tT 1 ?_;refine tT 2 ?_;refine tT 3 ?_;refine tT 4 ?_;refine tT 5 ?_;refine tT 6 ?_;refine tT 7 ?_;refine dP 8 fun K hK=>?_;refine iA _ rfl _ _ _ 261 rfl 3 35 xF underlying261 _ bm (L.take i).length (cL (L.take i)) rfl (show Cnt _ bm (L.take i) from Ow.out) HLM.out _ _ (.int .i64 (k:Int)) rfl rfl a34.out (.lit (.int .u64 (n:Int))) [] HWF.out ?_;intro w8 SJ NE;refine hK.out _ _ ?_ (fun hHeld=>?_)
   ·exact fun h=>absurd rfl h
   clear hK K
   try go_simp
   refine me ?_;have hne:=Ow.out.ne PS.out;have Uv:=Ow.out.ne HM6.out;have XZ:=Ow.out.ne SS.out.blk;have hc0:cnt (L.take i) (k:Int)=0:=oM (fun q hq=>by have:=oR.out q hq;omega);rw[show((n:Nat):Int)=((cnt (L.take i) (k:Int)+n:Nat):Int) by rw[hc0,Nat.zero_add]] at SJ;have ho8:=Cnt.stored (List.Pairwise.sublist (List.take_sublist i L) HF.out.srt) SJ;rw[Dc oR.out,←(show L.take (i+1)=L.take i++[((k:Int),n)] by rw[List.take_add_one,HKN.out];rfl)] at ho8;have Qv:w6.grownBy w8 (some bm):=⟨NE.os,NE.tape,NE.output,NE.size,NE.block⟩;have Vb:=Oh ho8;have Qg:=Oh (PS.out.grown Qv (fun e=>hne (by injection e)));have HM8:Hid (Mp w8 gm lo hi D u m):=Oh (Blk.grown HM6.out Qv (fun e=>Uv (by injection e)));have HL8:Hid (Below w.heap.size w w8):=Oh (VJ.out.grown Qv VJ.out.size (fun j hj=>by injection hj with hj;rw[←hj];exact HP.out.2.2));have HT8:Hid (Tb w8 w1.heap.size tg A c B d L):=Oh ⟨SS.out.blk.grown Qv (fun e=>XZ (by injection e)),Own.kept SS.out.keys Qv (Ow.out.ne_own SS.out.keys),Own.kept SS.out.upto Qv (Ow.out.ne_own SS.out.upto)⟩;clear SJ NE Qv ho8 hne Uv XZ hc0 Ow PS HM6 VJ SS WG k3 e0 e1;go_wp2_with fail;go_roundw
   case rel=>exact⟨i+1,HI.out,by go_num,rfl,Qg.out,HM8.out,Vb.out,HL8.out,HT8.out⟩
   case measure=>exact ms HI
  ·obtain rfl:i=L.length:=oq;have t0:¬(L.length:Int)<(L.length:Int):=oq;rw[List.take_length] at Rr;rw[HZ.out.2];have OJ:=dO.lt;have fR:=Oh dO;have UG:=Oh Wz;have sO:=Oh Rr;have Uy:=Oh Si;have Vr:=Oh WE;have k0:=fR.out.c0;have X9:=Oh (Rj.out p gm wo k0 OJ UG.out);clear dO Wz Rr Si WE hlt hi2 c2 bY uN OM
   have hc:decide (F<bk)=false∨decide (F<bk)=true∧g=true:=by
    by_cases h:F<bk
    ·exact .inr ⟨decide_eq_true h,by rcases HG.out with h1|h1;exact h1;omega⟩
    ·exact .inl (decide_eq_false h)
   rcases hc with x1|⟨x1,rfl⟩
   all_goals
    go_wp2_with fail;refine X9.out.mono ?_;rintro e w4 ⟨rfl,b4⟩;have oN:=Oh (fR.out.below b4 OJ);have UW:Hid (Mp w4 gm lo hi D u m):=Oh (Blk.below UG.out b4 (Blk.lt UG.out));have Pk:=Oh (sO.out.below b4);have Uj:=Oh (ai Uy.out b4);have VH:=Oh (Vr.out.below b4);have hpm:p≠gm:=Blk.ne oN.out UW.out od;clear b4 k0;go_wp2_with fail;refine(HTO.out _ _ _ _ _ _ _ VH.out).mono ?_;rintro e w5 ⟨rfl,rfl⟩;have k2:=oN.out.cell 2;have k4:=oN.out.cell 4;have fr:=oN.out.free;go_wp2_with fail;go_ret2;have XJ:=(oN.out.put 2 (.int .i64 (bk:Int))).put 4 (.int .u64 (tot L:Nat));refine⟨p,gm,bm,rfl,HP.out.1,HP.out.2.1,HP.out.2.2,⟨by simpa using XJ,Blk.far (Blk.far UW.out (p:=⟨p,2,none⟩) (fun e=>hpm e.symm) _) (p:=⟨p,4,none⟩) (fun e=>hpm e.symm) _,(Pk.out.set oN.out 2 _).set (oN.out.put 2 _) 4 _⟩,(Uj.out.setCell HP.out.1 _).setCell HP.out.1 _⟩
section
variable {w w':World} {p gm bm b p2 Zg Xh b2:Nat} {lo hi d:Int} {u m:Nat} {g:Bool} {L L2:List Pr}
theorem EU{W:World}{M:List Pr}(k:Nat)(hk:k≤16777216)(h:Cnt W bm M):(Instr.lookup 261 (.map (some bm)) (.int .i64 (k:Int)) false).run prog W=.ok (.int .u64 (cnt M (k:Int):Nat)) W:=by
 obtain⟨c,h1,h2,_⟩:=World.ownsMap.lookup_int h xF underlying261 underlying35 (JQ W) (JK (k:=(k:Int)) oq oq);rw[yO] at h2;injection h2 with h2
 injection h2 with _ h2
 rw[h1,h2]
theorem qg{i:Nat}{q:Pr}(h:L2[i]?=some q):az L (L2.take (i+1))=put (az L (L2.take i)) q.1 q.2:=by
 rw[List.take_add_one,h];exact AN L (L2.take i) q
theorem lA(hf:fl L)(OT:fl L2)(i:Nat)(hl:L.length+L2.length≤1000000)(ht:tot L+tot L2≤4611686018427387904):fl (az L (L2.take i)):=by
 have Ts:Pos (L2.take i):=fun q hq=>OT.pos q (List.mem_of_mem_take hq);obtain⟨a1,a2,a3⟩:=cm hf.srt hf.pos Ts;have h1:=fY L2 i;have h2:=iO (l:=L) (m:=L2.take i);have h3:(L2.take i).length≤L2.length:=by rw[List.length_take];omega
 refine⟨a1,a2,?_,oq,oq⟩;clear a1 a2 a3 h2 Ts h1 h3
 induction i with
 |zero=>exact hf.keys
 |succ i ih=>
  by_cases hi:i<L2.length
  ·obtain⟨q,hq⟩:=gs L2 i hi;rw[qg hq];intro r hr;rcases gy r hr with e|⟨s,hs,e⟩
   ·rw[e];exact OT.keys q (Om hq)
   ·rw[←e];exact ih s hs
  ·rw[List.take_of_length_le oq,←List.take_of_length_le (l:=L2) (i:=i) oq];exact ih
set_option maxHeartbeats 3200000 in
theorem IE(h:Hst w p gm bm lo hi d u m g b L)(h2:Hst w p2 Zg Xh lo hi d u m g b2 L2)(hf:fl L)(OT:fl L2)(Y7:p≠p2)(OO:bm≠Xh)(hl:L.length+L2.length≤1000000)(ht:tot L+tot L2≤4611686018427387904):
  Cl 139 #[.pointer (some ⟨p,0,none⟩),.pointer (some ⟨p2,0,none⟩)] w fun e w'=>e=.returned (.int .i64 0)∧Hst w' p gm bm lo hi d u m g (max b b2) (az L L2)∧ab (HK p bm) w w':=by
 have H1:=Oh h;have H2:=Oh h2;have HF:=Oh hf;have T4:=Oh OT;have aaX:=Oh (fun W (h:Hst W p gm bm lo hi d u m g b L)=>gF h);have aaY:=Oh (fun W (h:Hst W p2 Zg Xh lo hi d u m g b2 L2)=>gF h);have OB:=Oh (And.intro hl ht);have PX:=Oh (And.intro Y7 OO);have x1:((tot L2:Nat):Int)≤4611686018427387904:=oq;have x2:IntKind.u64.wrap (4611686018427387904-(tot L:Int))=((4611686018427387904-tot L:Nat):Int):=by rw[On];omega
 have x3:decide (4611686018427387904-tot L<tot L2)=false:=decide_eq_false oq;have x4:IntKind.u64.wrap ((tot L:Int)+(tot L2:Int))=((tot L+tot L2:Nat):Int):=by rw[On];omega
 obtain⟨T1,hT1⟩:∃T,T=tot L:=⟨_,rfl⟩;obtain⟨T2,hT2⟩:∃T,T=tot L2:=⟨_,rfl⟩;rw[←hT1] at x2 x3 x4;rw[←hT2] at x1 x3 x4;have HT:=Oh (And.intro hT1 hT2);clear h h2 hf OT hl ht Y7 OO hT1 hT2;go_enter func139,ntmps139;go_wp2_with fail;refine wp_region_noPanic ?_;refine wp_region_held_drew (S:=(fun W=>W.cell? ⟨p2,1,none⟩=some (.bool g)∧W.cell? ⟨p,1,none⟩=some (.bool g)∧Hst W p2 Zg Xh lo hi d u m g b2 L2∧Hst W p gm bm lo hi d u m g b L∧Below w.heap.size w W)) (by kernel_rfl) ⟨H2.out.c1,H1.out.c1,H2.out.drewN 1,H1.out.drewN 1,(Oq _ _).drew⟩ (fun hHeld=>?_);refine tH 0 ?_;refine tH 2 ?_;refine dQ 1 fun K hK=>?_;go_simp;refine(aaY.out _ (by first|exact hHeld.2.2.1|assumption)).mono ?_;rintro e w1 ⟨rfl,b9⟩;have B9:=Oh b9;clear b9;refine hK.out _ _ ?_ (fun hHeld=>?_)
 ·exact uQ
 clear hK K
 try go_simp
 refine dQ 3 fun K hK=>?_;go_simp;refine(aaX.out _ (by first|exact hHeld.2.2.2.1|assumption)).mono ?_;rintro e w2 ⟨rfl,b9⟩;have B9:=Oh b9;clear b9;refine hK.out _ _ ?_ (fun hHeld=>?_)
 ·exact uQ
 clear hK K
 try go_simp
 refine tH 4 ?_;refine tH 5 ?_;refine tH 6 ?_;refine tH 7 ?_;refine tH 8 ?_;refine tH 9 ?_;refine tH 10 ?_;refine tH 11 ?_;refine tH 12 ?_;refine tH 13 ?_;refine tH 14 ?_;refine tH 15 ?_;refine tH 16 ?_;refine jR ?_;obtain⟨_,_,hy,hx,Ov⟩:=hHeld;have HX:=Oh hx;have HY:=Oh hy;have HB:=Oh Ov;have c4:w2.cell? ⟨p,4,none⟩=some (.int .u64 (T1:Int)):=by rw[HT.out.1];exact hx.c4
 have d4:w2.cell? ⟨p2,4,none⟩=some (.int .u64 (T2:Int)):=by rw[HT.out.2];exact hy.c4
 clear hx hy Ov H1 H2;go_wp2_with fail;go_quiet (fail);obtain⟨w3,OU⟩:∃x,x=w2.drewN nq:=⟨_,rfl⟩;rw[←OU];replace c4:w3.cell? ⟨p,4,none⟩=some (.int .u64 (T1:Int)):=by rw[OU];exact c4
 replace d4:w3.cell? ⟨p2,4,none⟩=some (.int .u64 (T2:Int)):=by rw[OU];exact d4
 have PA:Hid (Hst w3 p gm bm lo hi d u m g b L):=Oh (by rw[OU];exact HX.out.drewN _);have HY3:Hid (Hst w3 p2 Zg Xh lo hi d u m g b2 L2):=Oh (by rw[OU];exact HY.out.drewN _);have fR:Hid (Below w.heap.size w w3):=Oh (by rw[OU];exact ae HB.out _);have f4:=PA.out.blk.free 4;clear OU HX HY HB;go_wp2_with fail;refine wp_region_noPanic ?_;refine aR (S:=(fun W=>W.cell? ⟨p,4,none⟩=some (.int .u64 (T1:Int))∧W.cell? ⟨p2,4,none⟩=some (.int .u64 (T2:Int))∧W.frozen? ⟨p,4,none⟩=false)) (L:=11) (by kernel_rfl) ⟨c4,d4,f4⟩ (fun hHeld=>?_);refine tT 0 ?_;refine tT 1 ?_;refine tT 2 ?_;refine tT 3 ?_;refine tT 4 ?_;refine tT 5 ?_;refine tT 6 ?_;refine tT 7 ?_;refine tT 8 ?_;refine tT 9 ?_;refine tT 10 ?_;refine dP 11 fun K hK=>?_;go_simp;refine hK.out _ _ ?_ (fun hHeld=>?_)
 ·exact fun h=>absurd rfl h
 clear hK K
 try go_simp
 refine me ?_;obtain⟨w4,Po⟩:∃x,x=(w3.setCell ⟨p,4,none⟩ (.int .u64 ((T1:Int)+(T2:Int)))).drew:=⟨_,rfl⟩;rw[←Po];have hpm:p≠gm:=Blk.ne PA.out.blk PA.out.mp (by decide);have oN:Hid (Blk w4 p 263 #[.pointer (some ⟨gm,0,none⟩),.bool g,.int .i64 (b:Int),.map (some bm),.int .u64 ((T1:Int)+(T2:Int))]):=Oh (by rw[Po];exact PA.out.blk.put 4 _);have UW:Hid (Mp w4 gm lo hi d u m):=Oh (by rw[Po];exact Blk.far PA.out.mp (p:=⟨p,4,none⟩) (fun e=>hpm e.symm) _);have Pk:Hid (Cnt w4 bm L):=Oh (by rw[Po];exact PA.out.own.set PA.out.blk 4 _);have SV:ab (fun i=>i=p) w3 w4:=by rw[Po];exact((ab.refl (fun i=>i=p) w3).set (p:=⟨p,4,none⟩) (.inl rfl) _).drew
 have PK:Zg≠p:=fun e=>Blk.ne PA.out.blk HY3.out.mp (by decide) e.symm;have aT:Xh≠p:=fun e=>HY3.out.own.ne PA.out.blk e.symm;have HY4:Hid (Hst w4 p2 Zg Xh lo hi d u m g b2 L2):=Oh (HY3.out.only SV (fun e=>PX.out.1 e.symm) PK aT);have RH:Hid (ab (HK p bm) w w4):=Oh ((ab.of_below fR.out).trans (SV.mono (fun _ e=>.inl e)));have c2:w4.cell? ⟨p,2,none⟩=some (.int .i64 (b:Int)):=by rw[oN.out.cell];rfl
 have d2:w4.cell? ⟨p2,2,none⟩=some (.int .i64 (b2:Int)):=HY4.out.c2;have f2:=oN.out.free 2;have t5:max (b:Int) (b2:Int)=((max b b2:Nat):Int):=oq;obtain⟨mb,XS⟩:∃x,x=max b b2:=⟨_,rfl⟩;rw[←XS] at t5;have HMB:=Oh XS;clear Po SV hHeld PA HY3 fR c4 d4 f4 x1 x2 x3 x4 XS;go_wp2_with fail;refine wp_region_noPanic ?_;refine aR (S:=(fun W=>W.cell? ⟨p,2,none⟩=some (.int .i64 (b:Int))∧W.cell? ⟨p2,2,none⟩=some (.int .i64 (b2:Int))∧W.frozen? ⟨p,2,none⟩=false)) (L:=12) (by kernel_rfl) ⟨c2,d2,f2⟩ (fun hHeld=>?_);refine tT 0 ?_;refine tT 1 ?_;refine tT 2 ?_;refine tT 3 ?_;refine tT 4 ?_;refine tT 5 ?_;refine tT 6 ?_;refine tT 7 ?_;refine tT 8 ?_;refine tT 9 ?_;refine tT 10 ?_;refine tT 11 ?_;refine dP 12 fun K hK=>?_;go_simp;refine hK.out _ _ ?_ (fun hHeld=>?_)
 ·exact fun h=>absurd rfl h
 clear hK K
 try go_simp
 refine me ?_;obtain⟨w5,R7⟩:∃x,x=(w4.setCell ⟨p,2,none⟩ (.int .i64 (mb:Int))).drew:=⟨_,rfl⟩;rw[←R7];have OE:Hid (Blk w5 p 263 #[.pointer (some ⟨gm,0,none⟩),.bool g,.int .i64 (mb:Int),.map (some bm),.int .u64 ((T1:Int)+(T2:Int))]):=Oh (by rw[R7];exact oN.out.put 2 _);have HM5:Hid (Mp w5 gm lo hi d u m):=Oh (by rw[R7];exact Blk.far UW.out (p:=⟨p,2,none⟩) (fun e=>hpm e.symm) _);have RZ:Hid (Cnt w5 bm L):=Oh (by rw[R7];exact Pk.out.set oN.out 2 _);have a36:ab (fun i=>i=p) w4 w5:=by rw[R7];exact((ab.refl (fun i=>i=p) w4).set (p:=⟨p,2,none⟩) (.inl rfl) _).drew
 have HY5:Hid (Hst w5 p2 Zg Xh lo hi d u m g b2 L2):=Oh (HY4.out.only a36 (fun e=>PX.out.1 e.symm) PK aT);have QS:Hid (ab (HK p bm) w w5):=Oh (RH.out.trans (a36.mono (fun _ e=>.inl e)));have HPR:=Oh (kD HY5.out T4.out);clear R7 a36 hHeld oN UW Pk HY4 RH c2 d2 f2 t5 PK aT;go_wp2_with fail;refine HPR.out.mono ?_;rintro e w6 ⟨A2,c2,rfl,h6,b6⟩;have TS:=Oh h6;have PS:=Oh (OE.out.below b6 OE.out.lt);have HM6:Hid (Mp w6 gm lo hi d u m):=Oh (Blk.below HM5.out b6 (Blk.lt HM5.out));have Ow:=Oh (RZ.out.below b6);have WG:Hid (ab (HK p bm) w w6):=Oh (QS.out.trans (ab.of_below b6));have PT:(L2.length:Int)≤1000000:=by have:=T4.out.len;omega
 clear h6 b6 OE HM5 RZ QS HY5 HPR;go_wp2_with fail;go_loopw [64] (fun v wr=>∃(i:Nat),i≤L2.length∧v=.int .i64 (i:Int)∧Blk wr p 263 #[.pointer (some ⟨gm,0,none⟩),.bool g,.int .i64 (mb:Int),.map (some bm),.int .u64 ((T1:Int)+(T2:Int))]∧Mp wr gm lo hi d u m∧Cnt wr bm (az L (L2.take i))∧bI wr w5.heap.size A2 c2 L2∧ab (HK p bm) w wr) (fun v _=>L2.length-(intOf v).toNat)
 case atStart=>exact⟨0,Nat.zero_le _,rfl,PS.out,HM6.out,Ow.out,TS.out,WG.out⟩
 case round=>
  obtain⟨i,hi2,rfl,dO,Wz,Rr,SL,hn3⟩:=hrel;obtain⟨wo,rfl⟩:∃wo:World,wo=wr:=⟨_,rfl⟩
  by_cases hlt:i<L2.length
  ·obtain⟨⟨KY,n⟩,Q8⟩:∃q,L2[i]?=some q:=⟨_,Oj hlt⟩;have OZ:=T4.out.keys _ (Om Q8);dsimp only at OZ;obtain⟨k,rfl⟩:∃k:Nat,KY=(k:Int):=⟨KY.toNat,oq⟩;obtain⟨b0,o0,rfl,QC,hcell⟩:=Prs.at_ (bI.reads SL) oq;obtain⟨d0,d1⟩:=hcell i _ Q8;have t0:(i:Int)<(L2.length:Int):=oq;have SX:=lA HF.out T4.out i OB.out.1 OB.out.2;have hmn:=lA HF.out T4.out (i+1) OB.out.1 OB.out.2;have RX:=qg (L:=L) Q8;obtain⟨M,hM⟩:∃M,M=az L (L2.take i):=⟨_,rfl⟩;rw[←hM] at SX RX Rr;rw[RX] at hmn;have RI:=nD (L:=M) (k:=(k:Int));have hmt:=hmn.tot;rw[eI] at hmt;dsimp only at hmt RX;have t6:IntKind.u64.wrap ((cnt M (k:Int):Nat)+(n:Int))=((cnt M (k:Int)+n:Nat):Int):=by rw[On];omega
   have Q9:=fun W (h:Cnt W bm M)=>EU (W:=W) (M:=M) k oq h;have a34:=Oh (JK (k:=(k:Int)) oq oq);have HWF:Hid (plainElem (H:=Unit) prog 35 (.int .u64 ((cnt M (k:Int)+n:Nat):Int))=some (.lit (.int .u64 ((cnt M (k:Int)+n:Nat):Int)),[])):=Oh (plainElem_int underlying35 (WalkArith.wf_u64 oq));have HLM:Hid (M.length<maxLen):=Oh (by have:=SX.len;unfold maxLen;omega);have HMS:=Oh SX.srt;have UC:=Oh RX;have HI:=Oh hlt;clear hcell OZ Q8 hlt hi2 hM SX hmn RI hmt RX;go_upto_region 12 with(fail);obtain⟨N,hN⟩:∃x,x=wo.heap.size:=⟨_,rfl⟩;obtain⟨w7,Xi⟩:∃x,x=wo.alloc (.cells #[.int .i64 (k:Int),.int .u64 (n:Int)] 176):=⟨_,rfl⟩;rw[←Xi,←hN];clear d0 d1;have bN:Below wo.heap.size wo w7:=by rw[Xi];exact(Oq _ _).alloc (Oi _) _
   have HN7:Hid (Blk w7 N 176 #[.int .i64 (k:Int),.int .u64 (n:Int)]):=Oh (by rw[Xi,hN];exact Blk.new _ _ _);have Qx:=Oh (dO.below bN dO.lt);have HM7:Hid (Mp w7 gm lo hi d u m):=Oh (Blk.below Wz bN (Blk.lt Wz));have Ow:Hid (Cnt w7 bm M):=Oh (Rr.below bN);have Zh:Hid (bI w7 w5.heap.size (some ⟨b0,o0,none⟩) c2 L2):=Oh (Own.below SL bN);have HNN:Hid (ab (HK p bm) w w7):=Oh (hn3.trans (ab.of_below bN));have k3:w7.cell? ⟨p,3,none⟩=some (.map (some bm)):=by rw[Qx.out.cell];rfl
   have e0:w7.cell? ⟨N,0,none⟩=some (.int .i64 (k:Int)):=by rw[HN7.out.cell];rfl
   have e1:w7.cell? ⟨N,1,none⟩=some (.int .u64 (n:Int)):=by rw[HN7.out.cell];rfl
   clear Xi hN bN dO Wz Rr SL hn3;refine wp_region_noPanic ?_;refine aR (S:=(fun W=>W.cell? ⟨p,3,none⟩=some (.map (some bm))∧W.cell? ⟨N,0,none⟩=some (.int .i64 (k:Int))∧W.cell? ⟨N,1,none⟩=some (.int .u64 (n:Int))∧Cnt W bm M)) (L:=10) (by kernel_rfl) ⟨k3,e0,e1,Ow.out.drewN 1⟩ (fun hHeld=>?_);refine tT 0 ?_;refine tT 1 ?_;refine tT 2 ?_;refine tT 3 ?_;refine tT 4 ?_;refine tT 5 ?_;refine tT 6 ?_;refine tT 7 ?_;refine tT 8 ?_;refine tT 9 ?_;refine dP 10 fun K hK=>?_;refine iA _ rfl _ _ _ 261 rfl 3 35 xF underlying261 _ bm M.length (cL M) rfl (show Cnt _ bm M from Ow.out) HLM.out _ _ (.int .i64 (k:Int)) rfl rfl a34.out (.lit (.int .u64 ((cnt M (k:Int)+n:Nat):Int))) [] HWF.out ?_;intro w8 SJ NE;refine hK.out _ _ ?_ (fun hHeld=>?_)
   ·exact fun h=>absurd rfl h
   clear hK K
   try go_simp
   refine me ?_;have Qv:w7.grownBy w8 (some bm):=⟨NE.os,NE.tape,NE.output,NE.size,NE.block⟩;have hne:=Ow.out.ne Qx.out;have Uv:=Ow.out.ne HM7.out;have Vb:Hid (Cnt w8 bm (az L (L2.take (i+1)))):=Oh (by rw[UC.out];exact Cnt.stored HMS.out SJ);have Qg:=Oh (Qx.out.grown Qv (fun e=>hne (by injection e)));have HM8:Hid (Mp w8 gm lo hi d u m):=Oh (Blk.grown HM7.out Qv (fun e=>Uv (by injection e)));have HR8:Hid (bI w8 w5.heap.size (some ⟨b0,o0,none⟩) c2 L2):=Oh (Own.kept Zh.out Qv (Ow.out.ne_own Zh.out));have Sf:Hid (ab (HK p bm) w w8):=Oh (HNN.out.trans ((ab.of_grown Qv).mono (fun j e=>.inr (by injection e with e;exact e.symm))));clear SJ NE Qv hne Uv Ow Qx HM7 Zh HNN HN7 k3 e0 e1 Q9;go_wp2_with fail;go_roundw
   case rel=>exact⟨i+1,HI.out,by go_num,Qg.out,HM8.out,Vb.out,HR8.out,Sf.out⟩
   case measure=>have:=HI.out;simp[intOf];omega
  ·obtain rfl:i=L2.length:=oq;have t0:¬(L2.length:Int)<(L2.length:Int):=oq;rw[List.take_length] at Rr;have fR:=Oh dO;have UG:=Oh Wz;have sO:=Oh Rr;have SW:=Oh hn3;clear dO Wz Rr SL hn3 hlt hi2;go_wp2_with fail;go_ret
   have Zf:((T1:Int)+(T2:Int))=((tot (az L L2):Nat):Int):=by
    have h:=(cm HF.out.srt HF.out.pos T4.out.pos).2.2;rw[h,HT.out.1,HT.out.2];omega
   refine⟨rfl,⟨?_,UG.out,sO.out⟩,SW.out⟩;rw[←Zf,←HMB.out];exact fR.out
end
end
section
open Pl Wi
def nB(n:Nat):List UInt8:=eF 8 (bG n)
theorem oZ(n:Nat):(nB n).length≤9:=ky 8 _
theorem Kc:di[fi (110:UInt8).toNat]?=some (110,0,331,332):=by decide
theorem KW(n:Nat):dh [110] [n]=(0,nB n):=by
 unfold dh;rw[if_pos ⟨od,rfl⟩,et,Kc];rfl
def zB(n:Int):List UInt8:=if n=1 then nB 0 else if 1<n then nB (zk (-n)) else[]
theorem Fe(n:Int):(zB n).length≤9:=by
 unfold zB;split
 ·exact oZ _
 ·split
  ·exact oZ _
  ·simp
def cst(s:List UInt8×Int)(p:Pr):List UInt8×Int:=(s.1++zB (p.1-s.2)++nB p.2,p.1+1)
def jS(L:List Pr):List UInt8×Int:=L.foldl cst ([],0)
def an(L:List Pr):List UInt8:=if L.length=0 then nB 0 else(jS L).1
theorem lH{L:List Pr}{i:Nat}{p:Pr}(h:L[i]?=some p):jS (L.take (i+1))=cst (jS (L.take i)) p:=by
 unfold jS;rw[List.take_add_one,h];simp
theorem wx(L:List Pr):∀i,(jS (L.take i)).1.length≤18*i:=by
 intro i
 induction i with
 |zero=>simp[jS]
 |succ i ih=>
  by_cases hi:i<L.length
  ·obtain⟨p,hp⟩:=gs L i hi;have h1:=Fe (p.1-(jS (L.take i)).2);have h2:=oZ p.2;rw[lH hp,cst,Ok,Ok];omega
  ·rw[List.take_of_length_le oq,←List.take_of_length_le (l:=L) (i:=i) oq];omega
theorem Jr{L:List Pr}{i:Nat}{p:Pr}(h:L[i]?=some p):(jS (L.take (i+1))).2=p.1+1:=by rw[lH h];rfl
def Acc(w:World)(B pb:Nat)(l:List UInt8):Prop:=B≤pb∧∃A c,Blk w pb 24 #[.slice A l.length c]∧ak w B A c l
def zy(w:World)(B pb:Nat)(l:List UInt8)(e:Ending)(w':World):Prop:=
 e=.returned (.tuple #[])∧Acc w' B pb l∧Below B w w'∧(∀g t cs,Blk w g t cs→t≠24→t≠5→Blk w' g t cs)
theorem Acc.drop{w w':World}{B pb:Nat}{l:List UInt8}(h:Acc w B pb l)(hb:Below w.heap.size w w'):Acc w' B pb l:=by
 obtain⟨h0,A,c,h1,h2⟩:=h;exact⟨h0,A,c,h1.below hb h1.lt,Own.below h2 hb⟩
theorem FT(B pb:Nat)(n:Int)(l:List UInt8)(w:World)(h:Acc w B pb l)(hl:l.length≤80000000)(hB:B≤w.heap.size):
  Cl 256 #[.int .i64 n,.pointer (some ⟨pb,0,none⟩)] w (zy w B pb (l++nB (zk n))):=by
 obtain⟨h0,A,c,hb,ho⟩:=h;have HP:=Oh (fun W A0 (hb:Us W W.heap.size A0 [zk n])=>gY ⟨#[110]⟩ A0 1 [zk n] W hb os' (by have:=cu n;simpa using this));have e0:dh (⟨#[110]⟩:ByteArray).data.toList [zk n]=(0,nB (zk n)):=KW (zk n);rw[e0] at HP;have hnl:=oZ (zk n);have hzw:=da n;generalize nB (zk n)=X at*;generalize zk n=Z at*;have HB:=Oh hb;have HO:=Oh ho;have HH:=Oh (And.intro h0 hB);clear hb ho h0 hB e0;go_enter func256,ntmps256;go_wp2_with fail;have b1:Below w.heap.size w (w.alloc (.cells #[.int .u64 (Z:Int)] 35)):=Ba;refine(HP.out _ (some ⟨w.heap.size,0,none⟩) (kP w Z)).mono ?_;rintro e w2 ⟨A2,c2,rfl,o2,b2⟩;have B2:=Oh (ai b1 b2);have O2:=Oh o2;have aT:=HB.out.below B2.out HB.out.lt;have k0:=aT.c0;clear b1 b2 o2 aT;dsimp only;go_wp2_with (at_builtin;refine Hid.out ?_);have nE:ak w2 B A c l:=Own.below (show Own w B 5 1 A l.length c (bvs l) from HO.out) B2.out;refine aj (xs:=bvs l) rfl rfl bu rfl nE rfl (ak.reads O2.out) (aO _) (l.length+X.length) rfl (bvs (l++X)) (aE _ _).symm (by unfold maxLen;omega) oq (Oo HH.out.2 B2.out.size) ?_;intro A3 c3 w3 o3 g3 q3;have dO:=(HB.out.below B2.out HB.out.lt).grown g3 (fun e=>Own.ne_blk nE (HB.out.below B2.out HB.out.lt) od e.symm);have P7:∀g t cs,Blk w g t cs→t≠24→t≠5→Blk w3 g t cs:=fun g t cs hg _ h2=>(hg.below B2.out hg.lt).grown g3 (fun e=>Own.ne_blk nE (hg.below B2.out hg.lt) (fun e=>h2 e.symm) e.symm);have PZ:Below B w w3:=(B2.out.mono HH.out.2).grown g3 (Oo HH.out.2 B2.out.size) (fun i hi=>(Own.block nE hi).1);have O3:Hid (ak w3 B A3 c3 (l++X)):=Oh (by unfold ak;rw[Ok];exact o3);have fR:=Oh dO;have Pb:=Oh P7;have Uy:=Oh PZ;have f0:=dO.free 0;have k0:=dO.c0;clear nE o3 g3 q3 dO P7 PZ;go_wp2_with fail;go_end0;have QT:=fR.out.put 0 (.slice A3 (l.length+X.length) c3);refine⟨rfl,⟨HH.out.1,A3,c3,?_,Own.setOther O3.out (p:=⟨pb,0,none⟩) (Own.ne_blk O3.out fR.out od) _⟩,Uy.out.setCell HH.out.1 _,fun g t cs hg h1 h2=>(Pb.out g t cs hg h1 h2).far (p:=⟨pb,0,none⟩) (fun e=>?_) _⟩
 ·rw[Ok];exact QT
 ·have h3:=Pb.out g t cs hg h1 h2;exact Blk.ne h3 fR.out h1 e
theorem EL(B pb pf:Nat)(n:Int)(l:List UInt8)(w:World)(h:Acc w B pb l)(hf:Blk w pf 356 #[.func (Fn.func 256) #[] #[.pointer (some ⟨pb,0,none⟩)]])(hl:l.length≤80000000)(hB:B≤w.heap.size)(h0: -9223372036854775807≤n)(h1:n≤9223372036854775807):
  Cl 257 #[.int .i64 n,.pointer (some ⟨pf,0,none⟩)] w (zy w B pb (l++zB n)):=by
 have k0:=hf.c0;have HC:=Oh (fun m=>FT B pb m l w h hl hB);have HA:=Oh h;unfold zB;clear h hl hf hB
 by_cases e1:n=1
 ·subst e1;rw[if_pos rfl];go_enter func257,ntmps257;go_wp2_with fail;refine(HC.out 0).mono ?_;rintro e w1 ⟨rfl,h2⟩;have H2:=Oh h2;clear h2;go_wp2_with fail;go_end0;exact⟨rfl,H2.out⟩
 ·rw[if_neg e1];have x1:(n==1)=false:=by rw[beq_eq_false_iff_ne];exact e1
  clear e1
  by_cases e2:1<n
  ·rw[if_pos e2];have x2:decide (1<n)=true:=decide_eq_true e2;have x3:IntKind.i64.wrap (-n)= -n:=i6;clear e2;go_enter func257,ntmps257;go_wp2_with fail;refine(HC.out (-n)).mono ?_;rintro e w1 ⟨rfl,h2⟩;have H2:=Oh h2;clear h2;go_wp2_with fail;go_end0;exact⟨rfl,H2.out⟩
  ·rw[if_neg e2,List.append_nil];have x2:decide (1<n)=false:=decide_eq_false e2;clear e2;go_enter func257,ntmps257;go_wp2_with fail;go_end0;exact⟨rfl,HA.out,Oq _ _,fun _ _ _ h _ _=>h⟩
def NB(X:List UInt8)(w:World)(e:Ending)(w':World):Prop:=∃A c,e=.returned (.slice A X.length c)∧ak w' w.heap.size A c X∧Below w.heap.size w w'
theorem Jq{L:List Pr}(hk:∀p∈L,0≤p.1∧p.1≤16777216){i:Nat}(hi:i≤L.length):0≤(jS (L.take i)).2∧(jS (L.take i)).2≤16777217:=by
 cases i with
 |zero=>exact⟨Int.le_refl _,show(0:Int)≤16777217 by decide⟩
 |succ j=>
  obtain⟨p,hp⟩:=gs L j;have:=hk p (Om hp);rw[Jr hp];omega
theorem ER(A0:Option Addr)(c0:Nat)(L:List Pr)(w:World)(hA:Prs w w.heap.size A0 L)(hf:fl L):
  Cl 175 #[.slice A0 L.length c0] w (NB (an L) w):=by
 have SX:∀(fn:Fn) (first cap:Array Value) (w:World),(Instr.makeFunc fn first cap).run prog w=.ok (.func fn first cap) w:=fun _ _ _ _=>rfl;have HA:=Oh hA;have HF:=Oh hf;have HC:=Oh (fun B pb m l W h hl hB=>FT B pb m l W h hl hB);have HZ:=Oh (fun B pb pf m l W h hf hl hB h0 h1=>EL B pb pf m l W h hf hl hB h0 h1);have Lt:(L.length:Int)≤1000000:=by have:=hf.len;omega
 clear hA hf;go_enter func175,ntmps175;go_wp2_with fail;go_loopw [6,13] (fun u v wr=>∃(i:Nat),i≤L.length∧v=.int .i64 (i:Int)∧u=.int .i64 (jS (L.take i)).2∧Acc wr w.heap.size w.heap.size (jS (L.take i)).1∧Blk wr (w.heap.size+1) 356 #[.func (Fn.func 256) #[] #[.pointer (some ⟨w.heap.size,0,none⟩)]]∧Below w.heap.size w wr) (fun _ v _=>L.length-(intOf v).toNat)
 case atStart=>
  have b1:=Blk.new w 24 #[.slice none 0 0];have b2:=Blk.new (w.alloc (.cells #[.slice none 0 0] 24)) 356 #[.func (Fn.func 256) #[] #[.pointer (some ⟨w.heap.size,0,none⟩)]];rw[World.size_alloc] at b2;exact⟨0,Nat.zero_le _,rfl,rfl,⟨Oi _,none,0,b1.alloc _,Own.nil _ _ _ _⟩,b2,(Ba).alloc os' _⟩
 case round=>
  obtain⟨i,hi,rfl,rfl,Qm,hpf,aC⟩:=hrel;obtain⟨wo,rfl⟩:=nm (wr:World)
  by_cases hlt:i<L.length
  ·obtain⟨⟨KY,n⟩,Q8⟩:∃q,L[i]?=some q:=⟨_,Oj hlt⟩;obtain⟨b0,o0,rfl,QC,hcell⟩:=Prs.at_ (Prs.below HA.out aC) oq;obtain⟨d0,d1⟩:=hcell i _ Q8;have OZ:=HF.out.keys _ (Om Q8);have hat:=Jq HF.out.keys hi;have hln:=wx L i;have Le:=lH Q8;have Ps:n≤tot L:=aW (p:=(KY,n)) (Om Q8);have XQ:=HF.out.tot;obtain⟨S,hS⟩:=nm ((jS (L.take i)).1);obtain⟨AT,hAT⟩:=nm ((jS (L.take i)).2);unfold cst at Le;rw[←hS,←hAT] at Le;rw[←hS] at Qm hln;rw[←hAT] at hat ⊢;dsimp only at OZ Le;have hz:=Fe (KY-AT);have t0:(i:Int)<(L.length:Int):=oq;have t1:IntKind.i64.wrap (KY-AT)=KY-AT:=i6;have t2:IntKind.i64.wrap (n:Int)=(n:Int):=i6;have hkz:zk (n:Int)=n:=by unfold zk;omega
   have HI:=Oh hlt;have PE:=Oh Le;have HAC:=Oh Qm;have HPF:=Oh hpf;have HL:=Oh aC;have ahw:0≤KY:=OZ.1;have ahx:KY≤16777216:=OZ.2;have ab0:0≤AT:=hat.1;have ab1:AT≤16777217:=hat.2;have HKZ:=Oh hkz;have TX:Hid (S.length≤18000000):=Oh oq;have HZL:=Oh hz;clear hcell OZ hat hln Le Ps XQ hS hAT Qm hpf aC hlt hi Q8 hkz hz;go_upto_region 8 with(fail);obtain⟨N,hN⟩:=nm (wo.heap.size);obtain⟨w4,Po⟩:=nm (wo.alloc (.cells #[.int .i64 KY,.int .u64 (n:Int)] 176));rw[←Po,←hN];clear d0 d1;have bN:Below wo.heap.size wo w4:=by rw[Po];exact Ba
   have RH:Hid (Blk w4 N 176 #[.int .i64 KY,.int .u64 (n:Int)]):=Oh (by rw[Po,hN];exact Blk.new _ _ _);have a6m:=Oh (HAC.out.drop bN);have a38:=Oh (HPF.out.below bN HPF.out.lt);have Uj:=Oh (ai HL.out bN);have e0:=RH.out.c0;clear Po hN bN HAC HPF HL;go_wp2_with fail;refine(HZ.out _ _ _ _ _ _ a6m.out a38.out (by have:=TX.out;omega) Uj.out.size oq oq).mono ?_;rintro e w5 ⟨rfl,a6n,b5,k5⟩;have a6o:=Oh a6n;have Xb:=Oh (Uj.out.trans b5);have a39:=Oh (k5 _ _ _ a38.out od od);have QS:=Oh (k5 _ _ _ RH.out od od);have f0:=a39.out.c0;have e1:=QS.out.c1;clear a6n b5 k5 a6m a38 Uj RH e0;go_wp2_with fail;refine(HC.out _ _ _ _ _ a6o.out (by have:=TX.out;have:=HZL.out;rw[Ok];omega) Xb.out.size).mono ?_;rintro e w6 ⟨rfl,a3a,b6,k6⟩;have ab3:Hid (Acc w6 w.heap.size w.heap.size (jS (L.take (i+1))).1):=Oh (by rw[HKZ.out] at a3a;rw[PE.out];exact a3a);have VJ:=Oh (Xb.out.trans b6);have ab4:=Oh (k6 _ _ _ a39.out od od);have WG:=Oh (k6 _ _ _ QS.out od od);have e0:=WG.out.c0;clear a3a b6 k6 a6o a39 Xb QS e1 f0;go_wp2_with fail;go_roundw
   case rel=>exact⟨i+1,HI.out,by go_num,by rw[PE.out],ab3.out,ab4.out,VJ.out⟩
   case measure=>exact ms HI
  ·obtain rfl:i=L.length:=oq;have t0:¬(L.length:Int)<(L.length:Int):=oq;have HL:=Oh aC;have HPF:=Oh hpf;rw[List.take_length] at Qm
   by_cases hz:L.length=0
   ·obtain rfl:L=[]:=List.length_eq_zero_iff.1 hz;have HAC:Hid (Acc wo w.heap.size w.heap.size []):=Oh Qm;have f0:=HPF.out.c0;clear Qm aC hpf hlt hi hz;go_wp2_with fail;refine(HC.out _ _ 0 _ _ HAC.out od HL.out.size).mono ?_;rintro e w6 ⟨rfl,⟨_,A,c,XJ,ho6⟩,b6,_⟩;have Ow:=Oh ho6;have VJ:=Oh (HL.out.trans b6);have k0:=XJ.cell 0;clear XJ ho6 b6 f0;go_wp2_with fail;go_ret;exact⟨A,c,rfl,Ow.out,VJ.out⟩
   ·have hcf:an L=(jS L).1:=by unfold an;rw[if_neg hz]
    rw[←hcf] at Qm;obtain⟨_,A,c,XJ,ho6⟩:=Qm;clear hcf;have x1:((L.length:Int)==0)=false:=by rw[beq_eq_false_iff_ne];omega
    have x2:(L.length==0)=false:=by rw[beq_eq_false_iff_ne];omega
    have Ow:=Oh ho6;have k0:=XJ.cell 0;clear XJ ho6 aC hpf hlt hi hz;go_wp2_with fail;go_ret;exact⟨A,c,rfl,Ow.out,HL.out⟩
def ji(n D lo R:Nat):List UInt8:=eG 4 478450451++eG 4 n++eG 4 0++eG 4 D++eG 8 lo++eG 8 R++eG 8 4607182418800017408
def hwF(D lo R:Nat)(X:List UInt8):List UInt8:=ji X.length D lo R++X
theorem eP(n D lo R:Nat):(ji n D lo R).length=40:=by
 unfold ji;simp only[Ok,eh]
theorem Nr:di[fi (87:UInt8).toNat]?=some (87,4,325,326):=by decide
theorem Ns:di[fi (81:UInt8).toNat]?=some (81,8,325,326):=by decide
theorem su(pt:List UInt8)(n:Nat)(ns:List Nat)(S:List UInt8)(h:n<4294967296):et (87::pt) (n::ns) S=et pt ns (S++eG 4 n):=by
 rw[et,Nr];have hf:bW (87,4,325,326) n=true:=by unfold bW;simp;omega
 simp only[hf,if_true];rfl
theorem xV(pt:List UInt8)(n:Nat)(ns:List Nat)(S:List UInt8):et (81::pt) (n::ns) S=et pt ns (S++eG 8 n):=by
 rw[et,Ns];have hf:bW (81,8,325,326) n=true:=by unfold bW;simp
 simp only[hf,if_true];rfl
theorem qi(n D lo R:Nat)(hn:n<4294967296)(hD:D<4294967296):dh [87,87,87,87,81,81,81] [478450451,n,0,D,lo,R,4607182418800017408]=(0,ji n D lo R):=by
 unfold dh;rw[if_pos ⟨od,rfl⟩,su _ _ _ _ od,su _ _ _ _ hn,su _ _ _ _ od,su _ _ _ _ hD,xV,xV,xV];rfl
theorem iK(L:List Pr):(an L).length≤18*L.length+9:=by
 unfold an;split
 ·have:=oZ 0;omega
 ·have:=wx L L.length;rw[List.take_length] at this;omega
set_option maxHeartbeats 3200000 in
theorem lz{w:World}{p gm bm b lo D:Nat}{hi:Int}{u m:Nat}{g:Bool}{L:List Pr}(h:Hst w p gm bm (lo:Int) hi (D:Int) u m g b L)(hf:fl L)(lE:u+m≤62)(hh0:0≤hi)(Xf:hi≤9223372036854775807)(h1:1≤b)(h2:b≤64)(hD:D≤5)(P4:lo≤9223372036854775807)(R:Nat)(hR:dU hi u m b=(R:Int))(Ot:R≤9223372036854775807):
  Cl 97 #[.pointer (some ⟨p,0,none⟩)] w fun e w'=>∃A c,e=.returned (.tuple #[.slice A (hwF D lo R (an L)).length c,.int .i64 0])∧ak w' w.heap.size A c (hwF D lo R (an L))∧Below w.heap.size w w':=by
 have HSH:=Oh (gF h);have HPR:=Oh (fun W (h:Hst W p gm bm (lo:Int) hi (D:Int) u m g b L)=>kD h hf);have HCO:=Oh (fun A c W (hA:Prs W W.heap.size A L)=>ER A c L W hA hf);have PY:=Oh (fun W (h:Hst W p gm bm (lo:Int) hi (D:Int) u m g b L)=>Ea h lE hh0 Xf h1 h2);rw[hR] at PY;have hcl:=iK L;have Rl:=hf.len;unfold hwF;generalize an L=X at*;have UC:=Oh (fun W A0 (hb:Us W W.heap.size A0 [478450451,X.length,0,D,lo,R,4607182418800017408])=>gY ⟨#[87,87,87,87,81,81,81]⟩ A0 7 [478450451,X.length,0,D,lo,R,4607182418800017408] W hb os' sq);have e0:dh (⟨#[87,87,87,87,81,81,81]⟩:ByteArray).data.toList [478450451,X.length,0,D,lo,R,4607182418800017408]=(0,ji X.length D lo R):=qi X.length D lo R oq oq;rw[e0] at UC;have Zc:(ji X.length D lo R).length≤40:=by rw[eP];exact Oi _
 generalize ji X.length D lo R=HD at*;have HH:=Oh h;have z1:IntKind.u64.wrap (X.length:Int)=(X.length:Int):=u6;have z2:IntKind.u64.wrap (D:Int)=(D:Int):=u6;have z3:IntKind.u64.wrap (lo:Int)=(lo:Int):=u6;have z4:IntKind.u64.wrap (R:Int)=(R:Int):=u6;have hXl:X.length≤18000009:=oq;have hXi:(X.length:Int)≤18000009:=oq;have ahz:(lo:Int)≤9223372036854775807:=oq;have hR3:(R:Int)≤9223372036854775807:=oq;have hD2:(D:Int)≤5:=oq;clear h hf lE hh0 Xf h1 h2 hR hcl Rl e0 hD P4 Ot;go_enter func97,ntmps97;go_wp2_with fail;refine HSH.out.mono ?_;rintro e w1 ⟨rfl,b1⟩;have aS:=Oh b1;have HH1:=Oh (HH.out.below b1);clear b1;go_wp2_with fail;refine(HPR.out _ HH1.out).mono ?_;rintro e w2 ⟨A2,c2,rfl,o2,b2⟩;have bY:=Oh (ai aS.out b2);have WA:=Oh (HH1.out.below b2);have Qz:=Oh (bI.reads o2);clear b2 o2;go_wp2_with fail;refine(HCO.out _ _ _ Qz.out).mono ?_;rintro e w3 ⟨A4,c4,rfl,o3,b3⟩;have fR:=Oh (ai bY.out b3);have HH3:=Oh (WA.out.below b3);have O3:=Oh o3;clear b3 o3;obtain⟨B4,hB4⟩:=nm (w2.heap.size);have ab6:w.heap.size≤B4:=by rw[hB4];exact bY.out.size
 go_upto_region 4 with(fail);obtain⟨N,hN⟩:=nm (w3.heap.size);obtain⟨w5,R7⟩:=nm (w3.alloc (.cells #[.int .i64 (lo:Int),.int .i64 hi,.int .i64 (D:Int)] 27));rw[←R7,←hN];have b5:Below w3.heap.size w3 w5:=by rw[R7];exact Ba
 have T6:Blk w5 N 27 #[.int .i64 (lo:Int),.int .i64 hi,.int .i64 (D:Int)]:=by rw[R7,hN];exact Blk.new _ _ _
 have k0:=T6.c0;have k2:=T6.c2;have HH5:=Oh (HH3.out.below b5);have OE:=Oh (ai fR.out b5);have O5:Hid (ak w5 B4 A4 c4 X):=Oh (by rw[hB4];exact Own.below O3.out b5);have hN5:=T6.lt;clear R7 hN b5 T6 HH1 WA HH3 aS bY fR O3 Qz hB4;refine wp_region_noPanic ?_;refine wp_region_held_drew (S:=(fun W=>W.cell? ⟨N,0,none⟩=some (.int .i64 (lo:Int))∧W.cell? ⟨N,2,none⟩=some (.int .i64 (D:Int))∧Hst W p gm bm lo hi D u m g b L∧Below w.heap.size w W∧ak W B4 A4 c4 X∧N<W.heap.size)) ok' ⟨k0,k2,HH5.out.drewN 1,OE.out.drew,O5.out,hN5⟩ (fun hHeld=>?_);refine tH 0 ?_;refine tH 1 ?_;refine tH 2 ?_;refine tH 3 ?_;refine tH 4 ?_;refine tH 5 ?_;refine tH 6 ?_;refine tH 7 ?_;refine tH 8 ?_;refine tH 9 ?_;refine dQ 10 fun K hK=>?_;go_simp;refine(PY.out _ (by first|exact hHeld.2.2.1|assumption)).mono ?_;rintro e w6 ⟨rfl,b6⟩;have B6:=Oh b6;clear b6;refine hK.out _ _ ?_ (fun hHeld=>?_)
 ·exact⟨(B6.out.cell (p:=⟨N,0,none⟩) hHeld.2.2.2.2.2).trans hHeld.1,(B6.out.cell (p:=⟨N,2,none⟩) hHeld.2.2.2.2.2).trans hHeld.2.1,hHeld.2.2.1.below B6.out,ai hHeld.2.2.2.1 B6.out,Own.below hHeld.2.2.2.2.1 B6.out,Nat.lt_of_lt_of_le hHeld.2.2.2.2.2 B6.out.size⟩
 clear hK K
 try go_simp
 refine tH 11 ?_;refine dQ 12 fun K hK=>?_;go_simp;obtain⟨W6,hW6⟩:=nm (w6.alloc (.cells #[.int .u64 478450451,.int .u64 (X.length:Int),.int .u64 0,.int .u64 (D:Int),.int .u64 (lo:Int),.int .u64 (R:Int),.int .u64 4607182418800017408] 35));obtain⟨P6,hP6⟩:=nm (w6.heap.size);have B7:Hid (Below w6.heap.size w6 W6):=Oh (by rw[hW6];exact Ba);have HU7:Hid (Us W6 W6.heap.size (some ⟨P6,0,none⟩) [478450451,X.length,0,D,lo,R,4607182418800017408]):=Oh (by rw[hW6,hP6];exact am.lit (bQ _ _) rfl rfl);rw[←hW6,←hP6];clear hW6 hP6;refine hK.out _ _ ?_ (fun hHeld=>?_)
 ·exact⟨(B7.out.cell (p:=⟨N,0,none⟩) hHeld.2.2.2.2.2).trans hHeld.1,(B7.out.cell (p:=⟨N,2,none⟩) hHeld.2.2.2.2.2).trans hHeld.2.1,hHeld.2.2.1.below B7.out,ai hHeld.2.2.2.1 B7.out,Own.below hHeld.2.2.2.2.1 B7.out,Nat.lt_of_lt_of_le hHeld.2.2.2.2.2 B7.out.size⟩
 clear hK K
 try go_simp
 refine dQ 13 fun K hK=>?_;go_simp;refine(UC.out _ _ HU7.out).mono ?_;rintro e w8 ⟨A8,c8,rfl,o8,b8⟩;have B8:=Oh b8;have O8:=Oh o8;clear o8 b8
 try dsimp only
 refine hK.out _ _ ?_ (fun hHeld=>?_)
 ·exact⟨(B8.out.cell (p:=⟨N,0,none⟩) hHeld.2.2.2.2.2).trans hHeld.1,(B8.out.cell (p:=⟨N,2,none⟩) hHeld.2.2.2.2.2).trans hHeld.2.1,hHeld.2.2.1.below B8.out,ai hHeld.2.2.2.1 B8.out,Own.below hHeld.2.2.2.2.1 B8.out,Nat.lt_of_lt_of_le hHeld.2.2.2.2.2 B8.out.size⟩
 clear hK K
 try go_simp
 refine tH 14 ?_;refine tH 15 ?_;refine tH 16 ?_;refine tH 17 ?_;refine tH 18 ?_;refine jR ?_;obtain⟨_,_,_,Ov,hox,_⟩:=hHeld;have Qg:=Oh Ov;have HX8:=Oh hox;have hws:w.heap.size≤W6.heap.size:=Oo OE.out.size (by have:=B6.out.size;have:=B7.out.size;simp at*;omega);have HWS:=Oh hws;clear Ov hox hws HH5 OE O5 hN5 k0 k2 ab6 HU7;go_wp2_with (at_builtin;refine Hid.out ?_);refine aj (xs:=bvs HD) rfl rfl bu rfl O8.out rfl (ak.reads HX8.out) (aO _) (HD.length+X.length) rfl (bvs (HD++X)) (aE _ _).symm (by unfold maxLen;omega) oq B8.out.size ?_;intro A9 c9 w9 o9 g9 q9;have QF:Hid (Below w.heap.size w w9):=Oh (Qg.out.grown g9 Qg.out.size (fun i hi=>Oo HWS.out (Own.block O8.out hi).1));have O9:Hid (ak w9 w.heap.size A9 c9 (HD++X)):=Oh (by unfold ak;rw[Ok];exact Own.mono o9 HWS.out);clear o9 g9 q9;go_wp2_with fail;go_ret2;exact⟨A9,c9,by rw[Ok];rfl,O9.out,QF.out⟩
end
end Go.Proofs.YtmbippkpjdoojaaGreat
