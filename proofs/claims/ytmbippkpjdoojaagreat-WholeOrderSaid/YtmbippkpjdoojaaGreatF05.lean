/- Parts of a proof, merged. -/
import Derived.Test.YtmbippkpjdoojaaGreatF04
set_option maxRecDepth 100000
set_option maxHeartbeats 1600000
namespace Go.Proofs.YtmbippkpjdoojaaGreat
open Tryz
open Go.RowKit
def GP{σ:Type}(r:σ→Array Value)(P:σ→Prop)(I:σ→World→Prop)(F:Nat→Prop)(F':σ→Nat→Prop)(w:World)(e:Ending)(w':World):Prop:=
 ∃s,e=.returned (.agg (r s))∧P s∧ar (I s) (F' s) w'∧aD F (F' s) w w'
theorem lq{fn:Func}(hr:fn.results=#[.cell 4 39]){R:Ending→World→Prop}{b:Act}{W:World}{g:Nat}{cs:Array Value}(h6:b.tmps.getD 4 undef=.pointer (some ⟨g,0,none⟩))(hd:b.defers=[])(hb:Blk W g 39 cs)(hs:cs.size=8)(hR:R (.returned (.agg cs)) W):bodyPost prog fn R .ret b W:=
 bodyPost_ret (v:=.agg cs) (results_cell_row hr _ _ g 39 cs (0,0) _ h6 hb underlying39 (by rfl) (by rw[hs];kernel_rfl)) hd hR
section
variable {w:World} {a:Ac}
theorem bH{P:Program}{o:Oper}{b:Act}{W:World}{ty:TypeId}{x:Operand}(ho:o.op=.load ty x)(g:Nat)(hx:b.eval x=.pointer (some ⟨g,0,none⟩))(t:TypeId)(cs:Array Value)(fr:Nat×Nat)(d:TypeDesc)(hg:W.heap[g]?=some (.cells cs t fr))(hu:P.underlying ty=some d)(hd:(match d with| .struct _| .array _ _=>true|_=>false)=true)(hi:(P.info? ty).map (·.size)=some cs.size):(execOp b.eval o).run P W=.ok (.value (.agg cs)) W:=by
 unfold execOp;simp only[ho,hx,Instr.loadAt,Instr.sureAddr,Sem.run_bind,Sem.run_pure,Result.andThen_ok,run_loadVar_row W g t ty cs fr d hg hu hd hi]
theorem MF{W:World}{g:Nat}(h:Blk W g 42 (acC a)):W.cell? ⟨g,0,none⟩=some (.int .u8 (a.k:Int)):=h.ce
abbrev Fr0(w V:World)(a:Ac)(r:Array Value):Prop:=Blk V w.heap.size 42 (acC a)∧Blk V (w.heap.size+1) 39 r
theorem pq{σ:Type}(r:σ→Array Value)(P:σ→Prop)(I:σ→World→Prop)(F:Nat→Prop)(F':σ→Nat→Prop)(x:Nat)(fn:FuncId)(al ok:Bool)(pv:Option Addr)(QM:1≤a.k)(R3:a.k≤11)(hfn:cE[a.k]?=some (.func (Fn.func fn) #[] #[]))(UB:dI[a.k]?=some (.bool al))(Z7:ok=true∨al=true)(eg:∀args w,(callFunc fn args).run prog w=.ok (.enter fn args) w)(TB:Hid (∀i,F i→i<w.heap.size))(Rj:Hid (∀W,Below w.heap.size w W→Cl 24 #[.pointer (some ⟨x,0,none⟩),.int .u32 (a.H:Int)] W (Rs (.tuple #[.pointer pv,.bool ok]) W)))(HR:Hid (∀s,P s→∃(c v:Int) (vg:Bool) (lg ls up tt:Nat) (A:Option Addr) (n cc:Nat),r s=bC c v vg lg ls up tt (.slice A n cc)∧(c=0∨r s=ap c)))(HC:Hid (∀W,Below w.heap.size w W→Cl fn #[.pointer (some ⟨x,0,none⟩),.pointer pv,.agg (acC a)] W (GP r P I F F' W))):
  Cl 11 #[.pointer (some ⟨x,0,none⟩),.agg (acC a)] w (GP r P I F F' w):=by
 have x1:decide ((a.k:Int)<1)=false:=sq;have x1b:decide (a.k<1)=false:=sq;have x2:decide ((11:Int)<(a.k:Int))=false:=sq;have x2b:decide (11<a.k)=false:=sq;have x3:(a.k:Int)<12:=oq;have HF:Hid (Fr w ((w.alloc (.cells (acC a) 42)).alloc (.cells (rz (.slice none 0 0)) 39)) a (ap 0)):=Oh (Fr.start w a);have HK:=Oh (And.intro QM R3);clear QM R3;go_enter func11,ntmps11;go_upto_region 1 with(fail);generalize((w.alloc (.cells (acC a) 42)).alloc (.cells (rz (.slice none 0 0)) 39))=w0 at*;have n0:w0.cell? ⟨w.heap.size,0,none⟩=some (.int .u8 (a.k:Int)):=by rw[HF.out.cell];rfl
 go_wp2_with fail;refine(ME _).mono ?_;rintro e v1 ⟨rfl,b1⟩;have Pf:=Oh (HF.out.next b1);clear b1 HF n0;have B5z:Hid (Blk ((v1.alloc (.cells nz 82)).alloc (.cells bz 83)) v1.heap.size 82 hI):=Oh ((Blk.new v1 _ _).alloc _)
 have B6z:Hid (Blk (((v1.alloc (.cells nz 82)).alloc (.cells bz 83)).setRow v1.heap.size cE) (v1.heap.size+1) 83 im):=Oh (by
  refine(setRow_other _ _ _ _ oq).trans ?_;have h:=Blk.new (v1.alloc (.cells nz 82)) 83 bz;rw[World.size_alloc] at h;exact h)
 go_upto_region 4 with(first
  |(refine wpList_store_row rfl 82 _ _ rfl v1.heap.size cE rfl rfl 82 hI B5z.out gn rfl lL ?_)
  |(refine wpList_store_row rfl 83 _ _ rfl (v1.heap.size+1) dI rfl rfl 83 im B6z.out jO rfl nF ?_)
  |fail)
 have B5:Hid (Blk ((((v1.alloc (.cells nz 82)).alloc (.cells bz 83)).setRow v1.heap.size cE).setRow (v1.heap.size+1) dI) v1.heap.size 82 cE):=Oh ((setRow_other _ _ _ _ oq).trans (setRow_heap _ _ _ _ _ _ B5z.out));have B6:Hid (Blk ((((v1.alloc (.cells nz 82)).alloc (.cells bz 83)).setRow v1.heap.size cE).setRow (v1.heap.size+1) dI) (v1.heap.size+1) 83 dI):=Oh (setRow_heap _ _ _ _ _ _ B6z.out);have XW:Hid (Fr w ((((v1.alloc (.cells nz 82)).alloc (.cells bz 83)).setRow v1.heap.size cE).setRow (v1.heap.size+1) dI) a (ap 0)):=Oh (Pf.out.next (below_setRow (below_setRow ((Ba).alloc os' _) (Oi _) _) oq _));have HN:Hid (w.heap.size+1<v1.heap.size):=Oh Pf.out.res.lt;generalize((((v1.alloc (.cells nz 82)).alloc (.cells bz 83)).setRow v1.heap.size cE).setRow (v1.heap.size+1) dI)=v4 at*;generalize v1.heap.size=N at*;clear B5z B6z Pf;have n0:v4.cell? ⟨w.heap.size,0,none⟩=some (.int .u8 (a.k:Int)):=by rw[XW.out.cell];rfl
 have n1:v4.cell? ⟨w.heap.size,1,none⟩=some (.int .u32 (a.H:Int)):=by rw[XW.out.cell];rfl
 have n6:v4.cell? ⟨N+1,a.k,none⟩=some (.bool al):=by rw[B6.out.cell];exact UB
 go_wp2_with fail;refine(Rj.out _ XW.out.below).mono ?_;rintro e w1 ⟨rfl,iF⟩;obtain rfl:=iF.symm;go_upto_region 5 with(fail);go_cut [38] (fun v wc=>v=.bool false∧wc=v4)
 case first=>
  cases ok with
  |true=>
   go_wp2_with fail;go_meet
   case rel=>exact⟨rfl,rfl⟩
  |false=>
   obtain rfl:al=true:=Z7.resolve_left os';go_wp2_with fail;go_meet
   case rel=>exact⟨rfl,rfl⟩
 case rest=>
  obtain⟨rfl,ZK⟩:=hcut;obtain rfl:=ZK.symm;go_upto_region 7 with(fail);have hS7:(fun(V:World)=>Blk V w.heap.size 42 (acC a)∧V.cell? ⟨N,a.k,none⟩=some (.func (Fn.func fn) #[] #[])) v4:=⟨XW.out.act,by rw[B5.out.cell];exact hfn⟩;refine wp_region_noPanic ?_;refine ag (S:=(fun(V:World)=>Blk V w.heap.size 42 (acC a)∧V.cell? ⟨N,a.k,none⟩=some (.func (Fn.func fn) #[] #[]))) (L:=9) ok' hS7 (fun hHeld=>?_);have ZN:Hid (Fr0 w v4.drew a (ap 0)):=Oh ⟨XW.out.act,XW.out.res⟩;have OL:Hid (Below w.heap.size w v4.drew):=Oh XW.out.below.drew;have B5d:Hid (Blk v4.drew N 82 cE):=Oh B5.out;clear XW B5 B6 n0 n1 n6 hS7;generalize v4.drew=wd at*;refine cV 0 ?_;refine tV 1 ?_ (hy:=Or.inl ⟨by kernel_rfl,by intro w hSw;have h0:=MF hSw.1;clear hSw;go_simp;try with_reducible rfl⟩);refine cV 2 ?_;refine tV 3 ?_ (hy:=Or.inl ⟨by kernel_rfl,by intro w hSw;have h0:=hSw.2;clear hSw;go_simp;try with_reducible rfl⟩);refine cV 4 ?_;refine cV 5 ?_;refine tV 6 ?_ (hy:=Or.inl ⟨by kernel_rfl,by intro W hSw;refine bH (x:=.tmp 3) ?_ w.heap.size ?_ 42 (acC a) (0,0) _ hSw.1 underlying42 ?_ F9<;>rfl⟩);refine eN (i:=7) (j:=8) ok' ?_ ?_
  ·refine rX fun K hK=>?_;go_simp;refine(HC.out _ OL.out).mono ?_;rintro e v7 ⟨s,rfl,hp,hh,ht⟩;obtain⟨c,v,vg,lg,ls,up,tt,rA,rn,rc,Rh,hrc⟩:=HR.out s hp;have WZ:=Oh (And.intro hp (And.intro Rh hrc));have So:ab (fun i=>F i) wd v7:=ht.only;have hFi:∀i,F i→i<w.heap.size∨w.heap.size+1<i:=fun i hi=>.inl (TB.out i hi);have HA7:Hid (Fr0 w v7 a (ap 0)):=Oh ⟨Blk.only ZN.out.1 So (fun h=>by have:=TB.out _ h;omega),Blk.only ZN.out.2 So (fun h=>by have:=TB.out _ h;omega)⟩;have Qx:Hid (Blk v7 N 82 cE):=Oh (Blk.only B5d.out So (fun h=>by have:=TB.out _ h;have:=HN.out;omega));have YT:=Oh hh;have YV:=Oh (ht.pre OL.out)
   have WW:Hid (∀i,F' s i→i≠w.heap.size+1):=Oh (fun i hi e=>by
    rcases ht.new i hi with h|h
    ·have:=TB.out i h;omega
    ·have:=Blk.lt ZN.out.2;omega)
   clear hp hh ht So hFi HC Rh hrc;replace hHeld:=(show(fun(V:World)=>Blk V w.heap.size 42 (acC a)∧V.cell? ⟨N,a.k,none⟩=some (.func (Fn.func fn) #[] #[])) v7 from⟨HA7.out.1,by rw[Qx.out.cell];exact hfn⟩);refine hK.out _ _ hHeld ?_;clear hK K;try go_simp
   refine bO 8 fun K hK=>?_;go_simp;have XD:Hid (Fr0 w (v7.alloc (.cells (rz (.slice none 0 0)) 39)) a (ap 0)):=Oh ⟨Blk.alloc HA7.out.1 _,Blk.alloc HA7.out.2 _⟩;have B8:=Oh (Blk.alloc Qx.out (.cells (rz (.slice none 0 0)) 39));have R8:Hid (Blk (v7.alloc (.cells (rz (.slice none 0 0)) 39)) v7.heap.size 39 (ap 0)):=Oh (Blk.new v7 _ _);have Sf:Hid (w.heap.size+1<v7.heap.size):=Oh (Blk.lt HA7.out.2);obtain⟨v8,Xa⟩:∃v8,v8=v7.alloc (.cells (rz (.slice none 0 0)) 39):=⟨_,rfl⟩;have hs8:v8.heap.size=v7.heap.size+1:=by rw[Xa];simp
   rw[←Xa];rw[←Xa] at XD B8 R8;obtain⟨N9,hN9⟩:∃N9,N9=v7.heap.size:=⟨_,rfl⟩;rw[←hN9];rw[←hN9] at R8 Sf hs8;have YU:Hid (ar (I s) (F' s) v8):=Oh (by rw[Xa];exact YT.out.alloc _);have WX:Hid (aD F (F' s) w v8):=Oh (by rw[Xa];exact YV.out.post (Ba));have SR:Hid (∀i,F' s i→i≠N9∧i≠w.heap.size+1):=Oh (fun i hi=>⟨fun e=>by have:=YT.out.lt i hi;omega,WW.out i hi⟩);clear Xa hN9;replace hHeld:=(show(fun(V:World)=>Blk V w.heap.size 42 (acC a)∧V.cell? ⟨N,a.k,none⟩=some (.func (Fn.func fn) #[] #[])) v8 from⟨XD.out.1,by rw[B8.out.cell];exact hfn⟩);refine hK.out _ _ hHeld ?_;clear hK K;try go_simp
   refine iV 9 fun K hK=>?_;have Rh:=WZ.out.2.1;refine lm rfl rfl N9 (bC c v vg lg ls up tt (.slice rA rn rc)) rfl (by rw[Rh];rfl) 39 (ap 0) R8.out aF rfl aP ?_;refine hK.out _ _ ?_;clear hK K;try go_simp
   refine cD ?_;clear hHeld;have Wa:ab (fun i=>i=N9) v8 (v8.setRow N9 (bC c v vg lg ls up tt (.slice rA rn rc))):=aY _ _ _;have Zv:Hid (Blk (v8.setRow N9 (bC c v vg lg ls up tt (.slice rA rn rc))) N9 39 (bC c v vg lg ls up tt (.slice rA rn rc))):=Oh (setRow_heap _ _ _ _ _ _ R8.out);have Zw:=Oh (YU.out.only Wa (fun i hi=>(SR.out i hi).1));have VS:Hid (aD F (F' s) w (v8.setRow N9 (bC c v vg lg ls up tt (.slice rA rn rc)))):=Oh ⟨WX.out.only.step Wa (fun i hi=>.inr (by have:=Sf.out;omega)),WX.out.new⟩;have UQ:Hid (Blk (v8.setRow N9 (bC c v vg lg ls up tt (.slice rA rn rc))) (w.heap.size+1) 39 (ap 0)):=Oh (Blk.only XD.out.2 Wa (by have:=Sf.out;omega));generalize v8.setRow N9 (bC c v vg lg ls up tt (.slice rA rn rc))=Qr at*;exact vf
  ·refine rX fun K hK=>?_;go_simp;have XD:Hid (Fr0 w (wd.alloc (.cells (rz (.slice none 0 0)) 39)) a (ap 0)):=Oh ⟨Blk.alloc ZN.out.1 _,Blk.alloc ZN.out.2 _⟩;have B8:=Oh (Blk.alloc B5d.out (.cells (rz (.slice none 0 0)) 39));have R8:Hid (Blk (wd.alloc (.cells (rz (.slice none 0 0)) 39)) wd.heap.size 39 (ap 0)):=Oh (Blk.new wd _ _);have Sf:Hid (w.heap.size+1<wd.heap.size):=Oh (Blk.lt ZN.out.2);obtain⟨v8,Xa⟩:∃v8,v8=wd.alloc (.cells (rz (.slice none 0 0)) 39):=⟨_,rfl⟩;have hs8:v8.heap.size=wd.heap.size+1:=by rw[Xa];simp
   rw[←Xa];rw[←Xa] at XD B8 R8;obtain⟨N9,hN9⟩:∃N9,N9=wd.heap.size:=⟨_,rfl⟩;rw[←hN9];rw[←hN9] at R8 Sf hs8;have Qg:Hid (Below w.heap.size w v8):=Oh (by rw[Xa];exact OL.out.alloc OL.out.size _);clear Xa hN9;replace hHeld:=(show(fun(V:World)=>Blk V w.heap.size 42 (acC a)∧V.cell? ⟨N,a.k,none⟩=some (.func (Fn.func fn) #[] #[])) v8 from⟨XD.out.1,by rw[B8.out.cell];exact hfn⟩);refine hK.out _ _ hHeld ?_;clear hK K;try go_simp
   refine bO 7 fun K hK=>?_;go_simp;refine(HC.out _ Qg.out).mono ?_;rintro e v7 ⟨s,rfl,hp,hh,ht⟩;obtain⟨c,v,vg,lg,ls,up,tt,rA,rn,rc,Rh,hrc⟩:=HR.out s hp;have WZ:=Oh (And.intro hp (And.intro Rh hrc));have So:ab (fun i=>F i) v8 v7:=ht.only;have hFi:∀i,F i→i<w.heap.size∨w.heap.size+1<i:=fun i hi=>.inl (TB.out i hi);have HA7:Hid (Fr0 w v7 a (ap 0)):=Oh ⟨Blk.only XD.out.1 So (fun h=>by have:=TB.out _ h;omega),Blk.only XD.out.2 So (fun h=>by have:=TB.out _ h;omega)⟩;have Qx:Hid (Blk v7 N 82 cE):=Oh (Blk.only B8.out So (fun h=>by have:=TB.out _ h;have:=HN.out;omega));have YT:=Oh hh;have YV:=Oh (ht.pre Qg.out)
   have WW:Hid (∀i,F' s i→i≠w.heap.size+1):=Oh (fun i hi e=>by
    rcases ht.new i hi with h|h
    ·have:=TB.out i h;omega
    ·have:=Blk.lt XD.out.2;omega)
   have Z8:Hid (Blk v7 N9 39 (ap 0)):=Oh (R8.out.only So (fun h=>by have:=TB.out _ h;have:=Sf.out;omega))
   have SR:Hid (∀i,F' s i→i≠N9∧i≠w.heap.size+1):=Oh (fun i hi=>⟨fun e=>by
    rcases ht.new i hi with h|h
    ·have:=TB.out i h;have:=Sf.out;omega
    ·omega,WW.out i hi⟩)
   have YU:=Oh hh;have WX:=Oh YV.out;clear hp hh ht So hFi HC Rh hrc hs8;replace hHeld:=(show(fun(V:World)=>Blk V w.heap.size 42 (acC a)∧V.cell? ⟨N,a.k,none⟩=some (.func (Fn.func fn) #[] #[])) v7 from⟨HA7.out.1,by rw[Qx.out.cell];exact hfn⟩);refine hK.out _ _ hHeld ?_;clear hK K;try go_simp
   refine iV 9 fun K hK=>?_;have Rh:=WZ.out.2.1;refine lm rfl rfl N9 (bC c v vg lg ls up tt (.slice rA rn rc)) rfl (by rw[Rh];rfl) 39 (ap 0) Z8.out aF rfl aP ?_;refine hK.out _ _ ?_;clear hK K;try go_simp
   refine cD ?_;clear hHeld;have Wa:ab (fun i=>i=N9) v7 (v7.setRow N9 (bC c v vg lg ls up tt (.slice rA rn rc))):=aY _ _ _;have Zv:Hid (Blk (v7.setRow N9 (bC c v vg lg ls up tt (.slice rA rn rc))) N9 39 (bC c v vg lg ls up tt (.slice rA rn rc))):=Oh (setRow_heap _ _ _ _ _ _ Z8.out);have Zw:=Oh (YU.out.only Wa (fun i hi=>(SR.out i hi).1));have VS:Hid (aD F (F' s) w (v7.setRow N9 (bC c v vg lg ls up tt (.slice rA rn rc)))):=Oh ⟨WX.out.only.step Wa (fun i hi=>.inr (by have:=Sf.out;omega)),WX.out.new⟩;have UQ:Hid (Blk (v7.setRow N9 (bC c v vg lg ls up tt (.slice rA rn rc))) (w.heap.size+1) 39 (ap 0)):=Oh (Blk.only HA7.out.2 Wa (by have:=Sf.out;omega));generalize v7.setRow N9 (bC c v vg lg ls up tt (.slice rA rn rc))=Qr at*;exact vf
end
def dr:Array Value:=#[.func (Fn.func 84) #[] #[],.func (Fn.func 85) #[] #[],.func (Fn.func 86) #[] #[],.func (Fn.func 87) #[] #[],.func (Fn.func 88) #[] #[],.func (Fn.func 89) #[] #[],.func (Fn.func 90) #[] #[],.func (Fn.func 91) #[] #[]]
theorem lR:(Tryz.prog.info? 126).map (·.size)=some 8:=by kernel_rfl
theorem sK:dr.all (·.oneCell')=true:=by kernel_rfl
theorem iP(w:World):Cl 49 #[] w (Rb (.agg dr) w):=by
 go_enter func49,ntmps49;go_wp2_with (first|(refine wpList_store_row rfl 126 _ _ rfl w.heap.size dr rfl rfl 126 _ (Blk.new w _ _) lR rfl sK ?_)|fail);go_wp2_with fail;exact bodyPost_ret (v:=.agg dr) (results_cell_row results49 _ _ w.heap.size 126 _ (0,0) _ rfl (setRow_heap _ _ _ _ _ _ (Blk.new w _ _)) underlying126 (by rfl) lR) rfl ⟨rfl,below_setRow (Ba) (Oi _) _⟩
theorem ee(k:Nat)(h1:1≤k)(h2:k≤4)(w:World):Cl 48 #[.int .u8 (k:Int)] w (Rs (.bool true) w):=by
 have x1:decide ((1:Int)≤(k:Int))=true:=sq;have x2:decide ((k:Int)≤4)=true:=sq;have x3:decide (1≤k)=true:=sq;have x4:decide (k≤4)=true:=sq;clear h1 h2;go_enter func48,ntmps48;go_wp2_with fail;go_ret;exact⟨rfl,rfl⟩
def xJ:Array Value:=#[.int .u8 1,.pointer none,.pointer none,.pointer none,.pointer none]
theorem LM(lo hi d:Int)(g:Bool)(ac sz:Int)(w:World)(S:Ent→Prop)(HM:Hid (∀W p,Below w.heap.size w W→Blk W p 103 xJ→w.heap.size≤p→Cl 84 #[.pointer (some ⟨p,0,none⟩),.agg (spC 1 lo hi d g ac sz)] W fun e w'=>e=.returned (.int .i64 0)∧∃f:Ent,f.p=p∧S f∧ar f.I f.F w'∧(∀i,f.F i→i=p∨W.heap.size≤i)∧ab (fun i=>i=p) W w'))(HS:Hid (∀W (f:Ent),S f→ar f.I f.F W→Cl 74 #[.pointer (some ⟨f.p,0,none⟩)] W (Rb (.agg (spC 1 lo hi d g ac sz)) W))):
  Cl 65 #[.agg (spC 1 lo hi d g ac sz)] w (eH S w):=by
 have HI:=Oh (fun W=>ee 1 oq oq W)
 have hne:∀W,(binOp .neq 29 (.agg (spC 1 lo hi d g ac sz)) (.agg (spC 1 lo hi d g ac sz))).run prog W=.ok (.bool false) W:=fun W=>by
  unfold spC;go_simp
 have Wh:∀W,(Instr.index 126 (.agg dr) (.int .u8 (IntKind.u8.wrap 0))).run prog W=.ok (.agg #[.func (Fn.func 84) #[] #[],.func (Fn.func 85) #[] #[]]) W:=fun W=>by kernel_rfl
 have hfd:∀W,(Instr.field 125 (.agg #[.func (Fn.func 84) #[] #[],.func (Fn.func 85) #[] #[]]) 0).run prog W=.ok (.func (Fn.func 84) #[] #[]) W:=fun W=>by kernel_rfl
 go_enter func65,ntmps65;go_upto_region 1 with(fail);have AC:Hid (Blk (w.alloc (.cells (spC 1 lo hi d g ac sz) 29)) w.heap.size 29 (spC 1 lo hi d g ac sz)):=Oh (Blk.new w _ _);have oK:Hid (Below w.heap.size w (w.alloc (.cells (spC 1 lo hi d g ac sz) 29))):=Oh (Ba);have Is:(w.alloc (.cells (spC 1 lo hi d g ac sz) 29)).heap.size=w.heap.size+1:=by simp
 obtain⟨N,hN⟩:=nm (w.heap.size);obtain⟨W1,Oy⟩:=nm (w.alloc (.cells (spC 1 lo hi d g ac sz) 29));rw[←Oy] at AC oK Is ⊢;rw[←hN] at AC Is ⊢;have S8:=Oh Is;clear hN Oy Is;have d0:=AC.out.c0;go_wp2_with fail;refine(HI.out _).mono ?_;rintro e w1 ⟨rfl,iF⟩;obtain rfl:=iF.symm;go_upto_region 4 with(fail);have OY:Hid (Blk (W1.alloc (.cells (j5 1) 103)) W1.heap.size 103 xJ):=Oh (Blk.new W1 _ _);have By:Hid (Blk (W1.alloc (.cells (j5 1) 103)) N 29 (spC 1 lo hi d g ac sz)):=Oh (AC.out.alloc _);have aS:Hid (Below w.heap.size w (W1.alloc (.cells (j5 1) 103))):=Oh (oK.out.alloc oK.out.size _);have PD:Hid (w.heap.size≤W1.heap.size):=Oh oK.out.size;have XX:Hid (N≠W1.heap.size):=Oh (by have:=S8.out;omega);obtain⟨p,hp⟩:=nm (W1.heap.size);obtain⟨w0,Rd⟩:=nm (W1.alloc (.cells (j5 1) 103));rw[←Rd] at OY By aS ⊢;rw[←hp] at OY PD XX ⊢;clear Rd hp d0 AC oK HI S8;have AC:=By;have oK:=aS;clear By aS;refine wp_region_noPanic ?_;refine ag (S:=(fun(V:World)=>Blk V N 29 (spC 1 lo hi d g ac sz))) (L:=8) ok' AC.out (fun hHeld=>?_);have SY:=Oh AC.out.drew;have TN:=Oh OY.out.drew;have OL:Hid (Below w.heap.size w w0.drew):=Oh oK.out.drew;clear AC OY oK;generalize w0.drew=wd at*;refine cV 1 ?_;refine tV 2 ?_ (hy:=Or.inl ⟨by kernel_rfl,by intro w hSw;have h0:w.cell? ⟨N,0,none⟩=some (.int .u8 1):=(by rw[Blk.cell hSw];rfl);clear hSw;go_simp;try with_reducible rfl⟩);refine cV 3 ?_;refine cV 6 ?_;refine tV 7 ?_ (hy:=Or.inl ⟨by kernel_rfl,by intro W hSw;refine bH (x:=.tmp 1) ?_ N ?_ 29 (spC 1 lo hi d g ac sz) (0,0) _ hSw underlying29 ?_ bq<;>rfl⟩);refine bO 0 fun K hK=>?_;go_simp;refine(iP _).mono ?_;rintro e v4 ⟨rfl,b4⟩;have OX:=Oh (SY.out.below b4 SY.out.lt);have YY:=Oh (TN.out.below b4 TN.out.lt);have oN:Hid (Below w.heap.size w v4):=Oh (ai OL.out b4);clear b4;replace hHeld:=OX.out;refine hK.out _ _ hHeld ?_;clear hK K;try go_simp
 refine cV 4 ?_;refine cV 5 ?_;refine iV 8 fun K hK=>?_;go_simp;refine(HM.out _ p oN.out YY.out PD.out).mono ?_;rintro e v5 ⟨rfl,f,rfl,hf,hh,hn,hk⟩;have RJ:=Oh (OX.out.only hk XX.out);have OE:Hid (Below w.heap.size w v5):=Oh (oN.out.trans (hk.below oN.out.size (fun i hi=>by rw[hi];exact PD.out)));have Tr:=Oh (And.intro hf hh);have QS:Hid (∀i,f.F i→w.heap.size≤i):=Oh (fun i hi=>(hn i hi).elim (fun e=>by rw[e];exact PD.out) (fun h=>Oo oN.out.size h));clear hf hh hn hk HM;refine hK.out _ _ ?_;clear hK K;try go_simp
 refine aA 9 ?_;refine cD ?_;clear hHeld;go_upto_region 5 with(fail);refine wp_region_noPanic ?_;refine ag (S:=(fun(V:World)=>Blk V N 29 (spC 1 lo hi d g ac sz))) (L:=6) ok' RJ.out (fun hHeld=>?_);have US:=Oh (And.intro Tr.out.1 (Tr.out.2.drewN 1));have XH:=Oh RJ.out.drew;have Zx:Hid (Below w.heap.size w v5.drew):=Oh OE.out.drew;refine cV 0 ?_;refine cV 1 ?_;refine cV 2 ?_;refine cV 3 ?_;refine tV 5 ?_ (hy:=Or.inl ⟨by kernel_rfl,by intro W hSw;refine bH (x:=.tmp 1) ?_ N ?_ 29 (spC 1 lo hi d g ac sz) (0,0) _ hSw underlying29 ?_ bq<;>rfl⟩);exact ku
def xI:Array Value:=#[.int .u8 2,.pointer none,.pointer none,.pointer none,.pointer none]
theorem LL(lo hi d:Int)(g:Bool)(ac sz:Int)(w:World)(S:Ent→Prop)(HM:Hid (∀W p,Below w.heap.size w W→Blk W p 103 xI→w.heap.size≤p→Cl 86 #[.pointer (some ⟨p,0,none⟩),.agg (spC 2 lo hi d g ac sz)] W fun e w'=>e=.returned (.int .i64 0)∧∃f:Ent,f.p=p∧S f∧ar f.I f.F w'∧(∀i,f.F i→i=p∨W.heap.size≤i)∧ab (fun i=>i=p) W w'))(HS:Hid (∀W (f:Ent),S f→ar f.I f.F W→Cl 74 #[.pointer (some ⟨f.p,0,none⟩)] W (Rb (.agg (spC 2 lo hi d g ac sz)) W))):
  Cl 65 #[.agg (spC 2 lo hi d g ac sz)] w (eH S w):=by
 have HI:=Oh (fun W=>ee 2 oq oq W)
 have hne:∀W,(binOp .neq 29 (.agg (spC 2 lo hi d g ac sz)) (.agg (spC 2 lo hi d g ac sz))).run prog W=.ok (.bool false) W:=fun W=>by
  unfold spC;go_simp
 have Wh:∀W,(Instr.index 126 (.agg dr) (.int .u8 (IntKind.u8.wrap 1))).run prog W=.ok (.agg #[.func (Fn.func 86) #[] #[],.func (Fn.func 87) #[] #[]]) W:=fun W=>by kernel_rfl
 have hfd:∀W,(Instr.field 125 (.agg #[.func (Fn.func 86) #[] #[],.func (Fn.func 87) #[] #[]]) 0).run prog W=.ok (.func (Fn.func 86) #[] #[]) W:=fun W=>by kernel_rfl
 go_enter func65,ntmps65;go_upto_region 1 with(fail);have AC:Hid (Blk (w.alloc (.cells (spC 2 lo hi d g ac sz) 29)) w.heap.size 29 (spC 2 lo hi d g ac sz)):=Oh (Blk.new w _ _);have oK:Hid (Below w.heap.size w (w.alloc (.cells (spC 2 lo hi d g ac sz) 29))):=Oh (Ba);have Is:(w.alloc (.cells (spC 2 lo hi d g ac sz) 29)).heap.size=w.heap.size+1:=by simp
 obtain⟨N,hN⟩:=nm (w.heap.size);obtain⟨W1,Oy⟩:=nm (w.alloc (.cells (spC 2 lo hi d g ac sz) 29));rw[←Oy] at AC oK Is ⊢;rw[←hN] at AC Is ⊢;have S8:=Oh Is;clear hN Oy Is;have d0:=AC.out.c0;go_wp2_with fail;refine(HI.out _).mono ?_;rintro e w1 ⟨rfl,iF⟩;obtain rfl:=iF.symm;go_upto_region 4 with(fail);have OY:Hid (Blk (W1.alloc (.cells (j5 2) 103)) W1.heap.size 103 xI):=Oh (Blk.new W1 _ _);have By:Hid (Blk (W1.alloc (.cells (j5 2) 103)) N 29 (spC 2 lo hi d g ac sz)):=Oh (AC.out.alloc _);have aS:Hid (Below w.heap.size w (W1.alloc (.cells (j5 2) 103))):=Oh (oK.out.alloc oK.out.size _);have PD:Hid (w.heap.size≤W1.heap.size):=Oh oK.out.size;have XX:Hid (N≠W1.heap.size):=Oh (by have:=S8.out;omega);obtain⟨p,hp⟩:=nm (W1.heap.size);obtain⟨w0,Rd⟩:=nm (W1.alloc (.cells (j5 2) 103));rw[←Rd] at OY By aS ⊢;rw[←hp] at OY PD XX ⊢;clear Rd hp d0 AC oK HI S8;have AC:=By;have oK:=aS;clear By aS;refine wp_region_noPanic ?_;refine ag (S:=(fun(V:World)=>Blk V N 29 (spC 2 lo hi d g ac sz))) (L:=8) ok' AC.out (fun hHeld=>?_);have SY:=Oh AC.out.drew;have TN:=Oh OY.out.drew;have OL:Hid (Below w.heap.size w w0.drew):=Oh oK.out.drew;clear AC OY oK;generalize w0.drew=wd at*;refine cV 1 ?_;refine tV 2 ?_ (hy:=Or.inl ⟨by kernel_rfl,by intro w hSw;have h0:w.cell? ⟨N,0,none⟩=some (.int .u8 2):=(by rw[Blk.cell hSw];rfl);clear hSw;go_simp;try with_reducible rfl⟩);refine cV 3 ?_;refine cV 6 ?_;refine tV 7 ?_ (hy:=Or.inl ⟨by kernel_rfl,by intro W hSw;refine bH (x:=.tmp 1) ?_ N ?_ 29 (spC 2 lo hi d g ac sz) (0,0) _ hSw underlying29 ?_ bq<;>rfl⟩);refine bO 0 fun K hK=>?_;go_simp;refine(iP _).mono ?_;rintro e v4 ⟨rfl,b4⟩;have OX:=Oh (SY.out.below b4 SY.out.lt);have YY:=Oh (TN.out.below b4 TN.out.lt);have oN:Hid (Below w.heap.size w v4):=Oh (ai OL.out b4);clear b4;replace hHeld:=OX.out;refine hK.out _ _ hHeld ?_;clear hK K;try go_simp
 refine cV 4 ?_;refine cV 5 ?_;refine iV 8 fun K hK=>?_;go_simp;refine(HM.out _ p oN.out YY.out PD.out).mono ?_;rintro e v5 ⟨rfl,f,rfl,hf,hh,hn,hk⟩;have RJ:=Oh (OX.out.only hk XX.out);have OE:Hid (Below w.heap.size w v5):=Oh (oN.out.trans (hk.below oN.out.size (fun i hi=>by rw[hi];exact PD.out)));have Tr:=Oh (And.intro hf hh);have QS:Hid (∀i,f.F i→w.heap.size≤i):=Oh (fun i hi=>(hn i hi).elim (fun e=>by rw[e];exact PD.out) (fun h=>Oo oN.out.size h));clear hf hh hn hk HM;refine hK.out _ _ ?_;clear hK K;try go_simp
 refine aA 9 ?_;refine cD ?_;clear hHeld;go_upto_region 5 with(fail);refine wp_region_noPanic ?_;refine ag (S:=(fun(V:World)=>Blk V N 29 (spC 2 lo hi d g ac sz))) (L:=6) ok' RJ.out (fun hHeld=>?_);have US:=Oh (And.intro Tr.out.1 (Tr.out.2.drewN 1));have XH:=Oh RJ.out.drew;have Zx:Hid (Below w.heap.size w v5.drew):=Oh OE.out.drew;refine cV 0 ?_;refine cV 1 ?_;refine cV 2 ?_;refine cV 3 ?_;refine tV 5 ?_ (hy:=Or.inl ⟨by kernel_rfl,by intro W hSw;refine bH (x:=.tmp 1) ?_ N ?_ 29 (spC 2 lo hi d g ac sz) (0,0) _ hSw underlying29 ?_ bq<;>rfl⟩);exact ku
def xH:Array Value:=#[.int .u8 3,.pointer none,.pointer none,.pointer none,.pointer none]
theorem LJ(lo hi d:Int)(g:Bool)(ac sz:Int)(w:World)(S:Ent→Prop)(HM:Hid (∀W p,Below w.heap.size w W→Blk W p 103 xH→w.heap.size≤p→Cl 88 #[.pointer (some ⟨p,0,none⟩),.agg (spC 3 lo hi d g ac sz)] W fun e w'=>e=.returned (.int .i64 0)∧∃f:Ent,f.p=p∧S f∧ar f.I f.F w'∧(∀i,f.F i→i=p∨W.heap.size≤i)∧ab (fun i=>i=p) W w'))(HS:Hid (∀W (f:Ent),S f→ar f.I f.F W→Cl 74 #[.pointer (some ⟨f.p,0,none⟩)] W (Rb (.agg (spC 3 lo hi d g ac sz)) W))):
  Cl 65 #[.agg (spC 3 lo hi d g ac sz)] w (eH S w):=by
 have HI:=Oh (fun W=>ee 3 oq oq W)
 have hne:∀W,(binOp .neq 29 (.agg (spC 3 lo hi d g ac sz)) (.agg (spC 3 lo hi d g ac sz))).run prog W=.ok (.bool false) W:=fun W=>by
  unfold spC;go_simp
 have Wh:∀W,(Instr.index 126 (.agg dr) (.int .u8 (IntKind.u8.wrap 2))).run prog W=.ok (.agg #[.func (Fn.func 88) #[] #[],.func (Fn.func 89) #[] #[]]) W:=fun W=>by kernel_rfl
 have hfd:∀W,(Instr.field 125 (.agg #[.func (Fn.func 88) #[] #[],.func (Fn.func 89) #[] #[]]) 0).run prog W=.ok (.func (Fn.func 88) #[] #[]) W:=fun W=>by kernel_rfl
 go_enter func65,ntmps65;go_upto_region 1 with(fail);have AC:Hid (Blk (w.alloc (.cells (spC 3 lo hi d g ac sz) 29)) w.heap.size 29 (spC 3 lo hi d g ac sz)):=Oh (Blk.new w _ _);have oK:Hid (Below w.heap.size w (w.alloc (.cells (spC 3 lo hi d g ac sz) 29))):=Oh (Ba);have Is:(w.alloc (.cells (spC 3 lo hi d g ac sz) 29)).heap.size=w.heap.size+1:=by simp
 obtain⟨N,hN⟩:=nm (w.heap.size);obtain⟨W1,Oy⟩:=nm (w.alloc (.cells (spC 3 lo hi d g ac sz) 29));rw[←Oy] at AC oK Is ⊢;rw[←hN] at AC Is ⊢;have S8:=Oh Is;clear hN Oy Is;have d0:=AC.out.c0;go_wp2_with fail;refine(HI.out _).mono ?_;rintro e w1 ⟨rfl,iF⟩;obtain rfl:=iF.symm;go_upto_region 4 with(fail);have OY:Hid (Blk (W1.alloc (.cells (j5 3) 103)) W1.heap.size 103 xH):=Oh (Blk.new W1 _ _);have By:Hid (Blk (W1.alloc (.cells (j5 3) 103)) N 29 (spC 3 lo hi d g ac sz)):=Oh (AC.out.alloc _);have aS:Hid (Below w.heap.size w (W1.alloc (.cells (j5 3) 103))):=Oh (oK.out.alloc oK.out.size _);have PD:Hid (w.heap.size≤W1.heap.size):=Oh oK.out.size;have XX:Hid (N≠W1.heap.size):=Oh (by have:=S8.out;omega);obtain⟨p,hp⟩:=nm (W1.heap.size);obtain⟨w0,Rd⟩:=nm (W1.alloc (.cells (j5 3) 103));rw[←Rd] at OY By aS ⊢;rw[←hp] at OY PD XX ⊢;clear Rd hp d0 AC oK HI S8;have AC:=By;have oK:=aS;clear By aS;refine wp_region_noPanic ?_;refine ag (S:=(fun(V:World)=>Blk V N 29 (spC 3 lo hi d g ac sz))) (L:=8) ok' AC.out (fun hHeld=>?_);have SY:=Oh AC.out.drew;have TN:=Oh OY.out.drew;have OL:Hid (Below w.heap.size w w0.drew):=Oh oK.out.drew;clear AC OY oK;generalize w0.drew=wd at*;refine cV 1 ?_;refine tV 2 ?_ (hy:=Or.inl ⟨by kernel_rfl,by intro w hSw;have h0:w.cell? ⟨N,0,none⟩=some (.int .u8 3):=(by rw[Blk.cell hSw];rfl);clear hSw;go_simp;try with_reducible rfl⟩);refine cV 3 ?_;refine cV 6 ?_;refine tV 7 ?_ (hy:=Or.inl ⟨by kernel_rfl,by intro W hSw;refine bH (x:=.tmp 1) ?_ N ?_ 29 (spC 3 lo hi d g ac sz) (0,0) _ hSw underlying29 ?_ bq<;>rfl⟩);refine bO 0 fun K hK=>?_;go_simp;refine(iP _).mono ?_;rintro e v4 ⟨rfl,b4⟩;have OX:=Oh (SY.out.below b4 SY.out.lt);have YY:=Oh (TN.out.below b4 TN.out.lt);have oN:Hid (Below w.heap.size w v4):=Oh (ai OL.out b4);clear b4;replace hHeld:=OX.out;refine hK.out _ _ hHeld ?_;clear hK K;try go_simp
 refine cV 4 ?_;refine cV 5 ?_;refine iV 8 fun K hK=>?_;go_simp;refine(HM.out _ p oN.out YY.out PD.out).mono ?_;rintro e v5 ⟨rfl,f,rfl,hf,hh,hn,hk⟩;have RJ:=Oh (OX.out.only hk XX.out);have OE:Hid (Below w.heap.size w v5):=Oh (oN.out.trans (hk.below oN.out.size (fun i hi=>by rw[hi];exact PD.out)));have Tr:=Oh (And.intro hf hh);have QS:Hid (∀i,f.F i→w.heap.size≤i):=Oh (fun i hi=>(hn i hi).elim (fun e=>by rw[e];exact PD.out) (fun h=>Oo oN.out.size h));clear hf hh hn hk HM;refine hK.out _ _ ?_;clear hK K;try go_simp
 refine aA 9 ?_;refine cD ?_;clear hHeld;go_upto_region 5 with(fail);refine wp_region_noPanic ?_;refine ag (S:=(fun(V:World)=>Blk V N 29 (spC 3 lo hi d g ac sz))) (L:=6) ok' RJ.out (fun hHeld=>?_);have US:=Oh (And.intro Tr.out.1 (Tr.out.2.drewN 1));have XH:=Oh RJ.out.drew;have Zx:Hid (Below w.heap.size w v5.drew):=Oh OE.out.drew;refine cV 0 ?_;refine cV 1 ?_;refine cV 2 ?_;refine cV 3 ?_;refine tV 5 ?_ (hy:=Or.inl ⟨by kernel_rfl,by intro W hSw;refine bH (x:=.tmp 1) ?_ N ?_ 29 (spC 3 lo hi d g ac sz) (0,0) _ hSw underlying29 ?_ bq<;>rfl⟩);exact ku
def xG:Array Value:=#[.int .u8 4,.pointer none,.pointer none,.pointer none,.pointer none]
theorem LI(lo hi d:Int)(g:Bool)(ac sz:Int)(w:World)(S:Ent→Prop)(HM:Hid (∀W p,Below w.heap.size w W→Blk W p 103 xG→w.heap.size≤p→Cl 90 #[.pointer (some ⟨p,0,none⟩),.agg (spC 4 lo hi d g ac sz)] W fun e w'=>e=.returned (.int .i64 0)∧∃f:Ent,f.p=p∧S f∧ar f.I f.F w'∧(∀i,f.F i→i=p∨W.heap.size≤i)∧ab (fun i=>i=p) W w'))(HS:Hid (∀W (f:Ent),S f→ar f.I f.F W→Cl 74 #[.pointer (some ⟨f.p,0,none⟩)] W (Rb (.agg (spC 4 lo hi d g ac sz)) W))):
  Cl 65 #[.agg (spC 4 lo hi d g ac sz)] w (eH S w):=by
 have HI:=Oh (fun W=>ee 4 oq oq W)
 have hne:∀W,(binOp .neq 29 (.agg (spC 4 lo hi d g ac sz)) (.agg (spC 4 lo hi d g ac sz))).run prog W=.ok (.bool false) W:=fun W=>by
  unfold spC;go_simp
 have Wh:∀W,(Instr.index 126 (.agg dr) (.int .u8 (IntKind.u8.wrap 3))).run prog W=.ok (.agg #[.func (Fn.func 90) #[] #[],.func (Fn.func 91) #[] #[]]) W:=fun W=>by kernel_rfl
 have hfd:∀W,(Instr.field 125 (.agg #[.func (Fn.func 90) #[] #[],.func (Fn.func 91) #[] #[]]) 0).run prog W=.ok (.func (Fn.func 90) #[] #[]) W:=fun W=>by kernel_rfl
 go_enter func65,ntmps65;go_upto_region 1 with(fail);have AC:Hid (Blk (w.alloc (.cells (spC 4 lo hi d g ac sz) 29)) w.heap.size 29 (spC 4 lo hi d g ac sz)):=Oh (Blk.new w _ _);have oK:Hid (Below w.heap.size w (w.alloc (.cells (spC 4 lo hi d g ac sz) 29))):=Oh (Ba);have Is:(w.alloc (.cells (spC 4 lo hi d g ac sz) 29)).heap.size=w.heap.size+1:=by simp
 obtain⟨N,hN⟩:=nm (w.heap.size);obtain⟨W1,Oy⟩:=nm (w.alloc (.cells (spC 4 lo hi d g ac sz) 29));rw[←Oy] at AC oK Is ⊢;rw[←hN] at AC Is ⊢;have S8:=Oh Is;clear hN Oy Is;have d0:=AC.out.c0;go_wp2_with fail;refine(HI.out _).mono ?_;rintro e w1 ⟨rfl,iF⟩;obtain rfl:=iF.symm;go_upto_region 4 with(fail);have OY:Hid (Blk (W1.alloc (.cells (j5 4) 103)) W1.heap.size 103 xG):=Oh (Blk.new W1 _ _);have By:Hid (Blk (W1.alloc (.cells (j5 4) 103)) N 29 (spC 4 lo hi d g ac sz)):=Oh (AC.out.alloc _);have aS:Hid (Below w.heap.size w (W1.alloc (.cells (j5 4) 103))):=Oh (oK.out.alloc oK.out.size _);have PD:Hid (w.heap.size≤W1.heap.size):=Oh oK.out.size;have XX:Hid (N≠W1.heap.size):=Oh (by have:=S8.out;omega);obtain⟨p,hp⟩:=nm (W1.heap.size);obtain⟨w0,Rd⟩:=nm (W1.alloc (.cells (j5 4) 103));rw[←Rd] at OY By aS ⊢;rw[←hp] at OY PD XX ⊢;clear Rd hp d0 AC oK HI S8;have AC:=By;have oK:=aS;clear By aS;refine wp_region_noPanic ?_;refine ag (S:=(fun(V:World)=>Blk V N 29 (spC 4 lo hi d g ac sz))) (L:=8) ok' AC.out (fun hHeld=>?_);have SY:=Oh AC.out.drew;have TN:=Oh OY.out.drew;have OL:Hid (Below w.heap.size w w0.drew):=Oh oK.out.drew;clear AC OY oK;generalize w0.drew=wd at*;refine cV 1 ?_;refine tV 2 ?_ (hy:=Or.inl ⟨by kernel_rfl,by intro w hSw;have h0:w.cell? ⟨N,0,none⟩=some (.int .u8 4):=(by rw[Blk.cell hSw];rfl);clear hSw;go_simp;try with_reducible rfl⟩);refine cV 3 ?_;refine cV 6 ?_;refine tV 7 ?_ (hy:=Or.inl ⟨by kernel_rfl,by intro W hSw;refine bH (x:=.tmp 1) ?_ N ?_ 29 (spC 4 lo hi d g ac sz) (0,0) _ hSw underlying29 ?_ bq<;>rfl⟩);refine bO 0 fun K hK=>?_;go_simp;refine(iP _).mono ?_;rintro e v4 ⟨rfl,b4⟩;have OX:=Oh (SY.out.below b4 SY.out.lt);have YY:=Oh (TN.out.below b4 TN.out.lt);have oN:Hid (Below w.heap.size w v4):=Oh (ai OL.out b4);clear b4;replace hHeld:=OX.out;refine hK.out _ _ hHeld ?_;clear hK K;try go_simp
 refine cV 4 ?_;refine cV 5 ?_;refine iV 8 fun K hK=>?_;go_simp;refine(HM.out _ p oN.out YY.out PD.out).mono ?_;rintro e v5 ⟨rfl,f,rfl,hf,hh,hn,hk⟩;have RJ:=Oh (OX.out.only hk XX.out);have OE:Hid (Below w.heap.size w v5):=Oh (oN.out.trans (hk.below oN.out.size (fun i hi=>by rw[hi];exact PD.out)));have Tr:=Oh (And.intro hf hh);have QS:Hid (∀i,f.F i→w.heap.size≤i):=Oh (fun i hi=>(hn i hi).elim (fun e=>by rw[e];exact PD.out) (fun h=>Oo oN.out.size h));clear hf hh hn hk HM;refine hK.out _ _ ?_;clear hK K;try go_simp
 refine aA 9 ?_;refine cD ?_;clear hHeld;go_upto_region 5 with(fail);refine wp_region_noPanic ?_;refine ag (S:=(fun(V:World)=>Blk V N 29 (spC 4 lo hi d g ac sz))) (L:=6) ok' RJ.out (fun hHeld=>?_);have US:=Oh (And.intro Tr.out.1 (Tr.out.2.drewN 1));have XH:=Oh RJ.out.drew;have Zx:Hid (Below w.heap.size w v5.drew):=Oh OE.out.drew;refine cV 0 ?_;refine cV 1 ?_;refine cV 2 ?_;refine cV 3 ?_;refine tV 5 ?_ (hy:=Or.inl ⟨by kernel_rfl,by intro W hSw;refine bH (x:=.tmp 1) ?_ N ?_ 29 (spC 4 lo hi d g ac sz) (0,0) _ hSw underlying29 ?_ bq<;>rfl⟩);exact ku
theorem iT:(Tryz.prog.info? 37).map (·.size)=some 3:=by kernel_rfl
section
variable {w:World} {p q:Nat}
theorem O0(hb:Blk w p 103 xJ)(lo hi d:Int)(g:Bool)(ac sz:Int)(R:Nat→World→Prop)(HN:Hid (∀W,Below w.heap.size w W→Cl 159 #[.agg #[.int .i64 lo,.int .i64 hi,.int .i64 d],.bool g] W fun e w'=>∃q,e=.returned (.tuple #[.pointer (some ⟨q,0,none⟩),.int .i64 0])∧R q w'∧Below W.heap.size W w')):
  Cl 84 #[.pointer (some ⟨p,0,none⟩),.agg (spC 1 lo hi d g ac sz)] w fun e w'=>e=.returned (.int .i64 0)∧∃q W,R q W∧Below w.heap.size w W∧w'=W.setCell ⟨p,1,none⟩ (.pointer (some ⟨q,0,none⟩)):=by
 have HB:=Oh hb;clear hb;unfold spC;go_enter func84,ntmps84;go_wp2_with fail;refine(HN.out _ (Ba)).mono ?_;rintro e w2 ⟨q,rfl,hr,b2⟩;have aT:Below w.heap.size w w2:=ai (Ba) b2;have EQ:=HB.out.below aT HB.out.lt;have c2:=EQ.c1;exact kq
theorem NZ(hb:Blk w p 103 xI)(lo hi d:Int)(g:Bool)(ac sz:Int)(R:Nat→World→Prop)(HN:Hid (∀W,Below w.heap.size w W→Cl 165 #[.int .i64 ac,.int .i64 sz] W fun e w'=>∃q,e=.returned (.tuple #[.pointer (some ⟨q,0,none⟩),.int .i64 0])∧R q w'∧Below W.heap.size W w')):
  Cl 86 #[.pointer (some ⟨p,0,none⟩),.agg (spC 2 lo hi d g ac sz)] w fun e w'=>e=.returned (.int .i64 0)∧∃q W,R q W∧Below w.heap.size w W∧w'=W.setCell ⟨p,2,none⟩ (.pointer (some ⟨q,0,none⟩)):=by
 have HB:=Oh hb;clear hb;unfold spC;go_enter func86,ntmps86;go_wp2_with fail;refine(HN.out _ (Ba)).mono ?_;rintro e w2 ⟨q,rfl,hr,b2⟩;have aT:Below w.heap.size w w2:=ai (Ba) b2;have EQ:=HB.out.below aT HB.out.lt;have c2:=EQ.c2;exact kq
theorem NY(hb:Blk w p 103 xH)(lo hi d:Int)(g:Bool)(ac sz:Int)(R:Nat→World→Prop)(HN:Hid (∀W,Below w.heap.size w W→Cl 167 #[.int .i64 sz] W fun e w'=>∃q,e=.returned (.tuple #[.pointer (some ⟨q,0,none⟩),.int .i64 0])∧R q w'∧Below W.heap.size W w')):
  Cl 88 #[.pointer (some ⟨p,0,none⟩),.agg (spC 3 lo hi d g ac sz)] w fun e w'=>e=.returned (.int .i64 0)∧∃q W,R q W∧Below w.heap.size w W∧w'=W.setCell ⟨p,3,none⟩ (.pointer (some ⟨q,0,none⟩)):=by
 have HB:=Oh hb;clear hb;unfold spC;go_enter func88,ntmps88;go_wp2_with fail;refine(HN.out _ (Ba)).mono ?_;rintro e w2 ⟨q,rfl,hr,b2⟩;have aT:Below w.heap.size w w2:=ai (Ba) b2;have EQ:=HB.out.below aT HB.out.lt;have c2:=EQ.c3;exact kq
theorem NX(hb:Blk w p 103 xG)(lo hi d:Int)(g:Bool)(ac sz:Int)(R:Nat→World→Prop)(HN:Hid (∀W,Below w.heap.size w W→Cl 169 #[.int .i64 sz] W fun e w'=>∃q,e=.returned (.tuple #[.pointer (some ⟨q,0,none⟩),.int .i64 0])∧R q w'∧Below W.heap.size W w')):
  Cl 90 #[.pointer (some ⟨p,0,none⟩),.agg (spC 4 lo hi d g ac sz)] w fun e w'=>e=.returned (.int .i64 0)∧∃q W,R q W∧Below w.heap.size w W∧w'=W.setCell ⟨p,4,none⟩ (.pointer (some ⟨q,0,none⟩)):=by
 have HB:=Oh hb;clear hb;unfold spC;go_enter func90,ntmps90;go_wp2_with fail;refine(HN.out _ (Ba)).mono ?_;rintro e w2 ⟨q,rfl,hr,b2⟩;have aT:Below w.heap.size w w2:=ai (Ba) b2;have EQ:=HB.out.below aT HB.out.lt;have c2:=EQ.c4;exact kq
theorem Ob(hb:Blk w p 103 (rZ q))(num den:Nat)(v:Int)(HC:Hid (∀W,Below w.heap.size w W→Cl 205 #[.pointer (some ⟨q,0,none⟩),.int .u64 (num:Int),.int .u64 (den:Int)] W (Rb (.tuple #[.int .i64 v,.int .i64 0]) W))):
  Cl 143 #[.pointer (some ⟨p,0,none⟩),.int .u64 (num:Int),.int .u64 (den:Int)] w (Rb (.tuple #[.agg #[.int .i64 v,.bool false,.int .u64 0],.int .i64 0]) w):=by
 have c0:=hb.c0;have ck:=hb.c1;exact uT
theorem Oa(hb:Blk w p 103 (xL q))(num den:Nat)(v:Int)(vg:Bool)(HC:Hid (∀W,Below w.heap.size w W→Cl 206 #[.pointer (some ⟨q,0,none⟩),.int .u64 (num:Int),.int .u64 (den:Int)] W (Rb (.tuple #[.int .i64 v,.bool vg,.int .i64 0]) W))):
  Cl 143 #[.pointer (some ⟨p,0,none⟩),.int .u64 (num:Int),.int .u64 (den:Int)] w (Rb (.tuple #[.agg #[.int .i64 v,.bool vg,.int .u64 0],.int .i64 0]) w):=by
 have c0:=hb.c0;have ck:=hb.c2;have OJ:p<w.heap.size:=hb.lt;clear hb;go_enter func143,ntmps143;go_wp2_with fail;refine(HC.out _ (Ba)).mono ?_;rintro e w2 ⟨rfl,b2⟩;have HB:=Oh ((Blk.new w 37 #[.int .i64 0,.bool false,.int .u64 0]).below b2 os');have HW:Hid (Below w.heap.size w w2):=Oh (ai (Ba) b2);have k0:=HB.out.c0;have k1:=HB.out.c1;have k2:=HB.out.c2;have fr:=HB.out.free;clear b2 HC c0 ck;go_wp2_with fail;exact bodyPost_ret (v:=.tuple #[.agg #[.int .i64 v,.bool vg,.int .u64 0],.int .i64 0]) (cF results143 _ _ w.heap.size 37 #[.int .i64 v,.bool vg,.int .u64 0] (0,0) _ rfl (((((HB.out.put 0 _).put 1 _).put 0 _).put 1 _).put 2 _) underlying37 (by rfl) iT) rfl ⟨rfl,(((((HW.out.setCell (Oi _) _).setCell (Oi _) _).setCell (Oi _) _).setCell (Oi _) _).setCell (Oi _) _)⟩
theorem O7(hb:Blk w p 103 (zC q))(num den:Nat)(v:Int)(HC:Hid (∀W,Below w.heap.size w W→Cl 207 #[.pointer (some ⟨q,0,none⟩),.int .u64 (num:Int),.int .u64 (den:Int)] W (Rb (.tuple #[.int .i64 v,.int .i64 0]) W))):
  Cl 143 #[.pointer (some ⟨p,0,none⟩),.int .u64 (num:Int),.int .u64 (den:Int)] w (Rb (.tuple #[.agg #[.int .i64 v,.bool false,.int .u64 0],.int .i64 0]) w):=by
 have c0:=hb.c0;have ck:=hb.c3;exact uT
theorem O1(hb:Blk w p 103 (xK q))(num den:Nat)(v:Int)(lg:Nat)(HC:Hid (∀W,Below w.heap.size w W→Cl 208 #[.pointer (some ⟨q,0,none⟩),.int .u64 (num:Int),.int .u64 (den:Int)] W (Rb (.tuple #[.int .i64 v,.int .u64 (lg:Int),.int .i64 0]) W))):
  Cl 143 #[.pointer (some ⟨p,0,none⟩),.int .u64 (num:Int),.int .u64 (den:Int)] w (Rb (.tuple #[.agg #[.int .i64 v,.bool false,.int .u64 (lg:Int)],.int .i64 0]) w):=by
 have c0:=hb.c0;have ck:=hb.c4;have OJ:p<w.heap.size:=hb.lt;clear hb;go_enter func143,ntmps143;go_wp2_with fail;refine(HC.out _ (Ba)).mono ?_;rintro e w2 ⟨rfl,b2⟩;have HB:=Oh ((Blk.new w 37 #[.int .i64 0,.bool false,.int .u64 0]).below b2 os');have HW:Hid (Below w.heap.size w w2):=Oh (ai (Ba) b2);have k0:=HB.out.c0;have k1:=HB.out.c1;have k2:=HB.out.c2;have fr:=HB.out.free;clear b2 HC c0 ck;go_wp2_with fail;exact bodyPost_ret (v:=.tuple #[.agg #[.int .i64 v,.bool false,.int .u64 (lg:Int)],.int .i64 0]) (cF results143 _ _ w.heap.size 37 #[.int .i64 v,.bool false,.int .u64 (lg:Int)] (0,0) _ rfl (((((HB.out.put 0 _).put 2 _).put 0 _).put 1 _).put 2 _) underlying37 (by rfl) iT) rfl ⟨rfl,(((((HW.out.setCell (Oi _) _).setCell (Oi _) _).setCell (Oi _) _).setCell (Oi _) _).setCell (Oi _) _)⟩
theorem jAt(num den:Nat)(v:Int)(vg:Bool)(lg:Nat)(HC:Hid (∀W,Below w.heap.size w W→Cl 143 #[.pointer (some ⟨p,0,none⟩),.int .u64 (num:Int),.int .u64 (den:Int)] W (Rb (.tuple #[.agg #[.int .i64 v,.bool vg,.int .u64 (lg:Int)],.int .i64 0]) W))):
  Cl 70 #[.pointer (some ⟨p,0,none⟩),.int .u64 (num:Int),.int .u64 (den:Int)] w (Rb (.tuple #[.agg #[.int .i64 v,.bool vg,.int .u64 (lg:Int)],.int .i64 0]) w):=by
 go_enter func70,ntmps70;go_wp2_with fail;refine(HC.out _ (Ba)).mono ?_;rintro e w2 ⟨rfl,b2⟩;have HB:=Oh ((Blk.new w 37 #[.int .i64 0,.bool false,.int .u64 0]).below b2 os');have HW:Hid (Below w.heap.size w w2):=Oh (ai (Ba) b2);clear b2 HC;go_wp2_with (first|(refine wpList_store_row rfl 37 _ _ rfl w.heap.size #[.int .i64 v,.bool vg,.int .u64 (lg:Int)] rfl rfl 37 _ (HB.out.alloc _) iT rfl (by simp[Value.oneCell']) ?_)|fail);go_wp2_with fail;exact bodyPost_ret (v:=.tuple #[.agg #[.int .i64 v,.bool vg,.int .u64 (lg:Int)],.int .i64 0]) (cF results70 _ _ w.heap.size 37 #[.int .i64 v,.bool vg,.int .u64 (lg:Int)] (0,0) _ rfl (setRow_heap _ _ _ _ _ _ (HB.out.alloc _)) underlying37 (by rfl) iT) rfl ⟨rfl,below_setRow (HW.out.alloc HW.out.size _) (Oi _) _⟩
end
abbrev Pr:=Int×Nat
namespace Pl
def cnt:List Pr→Int→Nat
 | [],_=>0
 |p::l,k=>if p.1=k then p.2 else cnt l k
def tot(l:List Pr):Nat:=(l.map (·.2)).sum
def Srt(l:List Pr):Prop:=l.Pairwise (fun p q=>p.1<q.1)
def Pos(l:List Pr):Prop:=∀p∈l,0<p.2
def put:List Pr→Int→Nat→List Pr
 | [],k,n=>[(k,n)]
 |p::l,k,n=>if p.1<k then p::put l k n else if p.1=k then(k,p.2+n)::l else(k,n)::p::l
theorem dX:tot []=0:=rfl
theorem aK(p:Pr)(l:List Pr):tot (p::l)=p.2+tot l:=by simp[tot]
theorem cj(l m:List Pr):tot (l++m)=tot l+tot m:=by simp[tot]
theorem Srt.nil:Srt []:=List.Pairwise.nil
theorem Pos.nil:Pos []:=by intro p h;cases h
theorem aq{p:Pr}{l:List Pr}:Srt (p::l)↔(∀q∈l,p.1<q.1)∧Srt l:=List.pairwise_cons
theorem aH{p:Pr}{l:List Pr}:Pos (p::l)↔0<p.2∧Pos l:=by simp[Pos]
theorem oM{l:List Pr}{k:Int}(h:∀q∈l,q.1≠k):cnt l k=0:=by
 induction l with
 |nil=>rfl
 |cons p l ih=>rw[cnt,if_neg (h p os')];exact ih fun q hq=>h q (by simp[hq])
theorem fT{l:List Pr}{k:Int}(h:∀q∈l,k<q.1):cnt l k=0:=oM fun q hq=>by have:=h q hq;omega
theorem zt{l:List Pr}{k:Int}(h:cnt l k≠0):(k,cnt l k)∈l:=by
 induction l with
 |nil=>exact absurd rfl h
 |cons p l ih=>
  rw[cnt] at h ⊢
  by_cases hk:p.1=k
  ·rw[if_pos hk];subst hk;simp
  ·rw[if_neg hk] at h ⊢;exact List.mem_cons_of_mem _ (ih h)
theorem dK{l:List Pr}(hs:Srt l){p:Pr}(h:p∈l):cnt l p.1=p.2:=by
 induction l with
 |nil=>cases h
 |cons q l ih=>
  obtain⟨h1,h2⟩:=aq.1 hs;rw[cnt];rcases List.mem_cons.1 h with rfl|h
  ·rw[if_pos rfl]
  ·rw[if_neg (by have:=h1 p h;omega)];exact ih h2 h
theorem ext{l m:List Pr}(hl:Srt l)(Qk:Pos l)(hm:Srt m)(Pq:Pos m)(h:∀k,cnt l k=cnt m k):l=m:=by
 induction l generalizing m with
 |nil=>
  cases m with
  |nil=>rfl
  |cons q m=>
   have:=h q.1;rw[cnt,cnt,if_pos rfl] at this;have:=(aH.1 Pq).1;omega
 |cons p l ih=>
  cases m with
  |nil=>
   have:=h p.1;rw[cnt,cnt,if_pos rfl] at this;have:=(aH.1 Qk).1;omega
  |cons q m=>
   obtain⟨a1,a2⟩:=aq.1 hl;obtain⟨b1,b2⟩:=aq.1 hm;obtain⟨a3,a4⟩:=aH.1 Qk;obtain⟨b3,b4⟩:=aH.1 Pq
   have hk:p.1=q.1:=by
    rcases Int.lt_trichotomy p.1 q.1 with hlt|heq|hgt
    ·have:=h p.1
     rw[cnt,if_pos rfl,fT (l:=q::m) (fun r hr=>by
      rcases List.mem_cons.1 hr with rfl|hr
      ·exact hlt
      ·have:=b1 r hr;omega)] at this
     omega
    ·exact heq
    ·have:=h q.1
     rw[fT (l:=p::l) (fun r hr=>by
      rcases List.mem_cons.1 hr with rfl|hr
      ·exact hgt
      ·have:=a1 r hr;omega),cnt,if_pos rfl] at this
     omega
   have hn:p.2=q.2:=by
    have:=h p.1;rw[cnt,if_pos rfl,cnt,if_pos hk.symm] at this;exact this
   have hpq:p=q:=Prod.ext hk hn;subst hpq
   congr 1
   refine ih a2 a4 b2 b4 fun k=>?_
   by_cases hk:p.1=k
   ·subst hk;rw[fT a1,fT b1]
   ·have:=h k;rw[cnt,cnt,if_neg hk,if_neg hk] at this;exact this
theorem gy{l:List Pr}{k:Int}{n:Nat}:∀q∈put l k n,q.1=k∨∃p∈l,p.1=q.1:=by
 induction l with
 |nil=>intro q hq;simp[put] at hq;subst hq;exact .inl rfl
 |cons p l ih=>
  intro q hq;rw[put] at hq
  by_cases h1:p.1<k
  ·rw[if_pos h1] at hq;rcases List.mem_cons.1 hq with rfl|hq
   ·exact .inr ⟨_,by simp,rfl⟩
   ·rcases ih q hq with h|⟨r,hr,e⟩
    ·exact .inl h
    ·exact .inr ⟨r,by simp[hr],e⟩
  ·rw[if_neg h1] at hq
   by_cases h2:p.1=k
   ·rw[if_pos h2] at hq;rcases List.mem_cons.1 hq with rfl|hq
    ·exact .inl rfl
    ·exact .inr ⟨q,by simp[hq],rfl⟩
   ·rw[if_neg h2] at hq;rcases List.mem_cons.1 hq with rfl|hq
    ·exact .inl rfl
    ·exact .inr ⟨q,hq,rfl⟩
theorem jo{l:List Pr}{k:Int}{n:Nat}(hs:Srt l):Srt (put l k n):=by
 induction l with
 |nil=>exact List.pairwise_singleton _ _
 |cons p l ih=>
  obtain⟨h1,h2⟩:=aq.1 hs;rw[put]
  by_cases c1:p.1<k
  ·rw[if_pos c1];refine aq.2 ⟨fun q hq=>?_,ih h2⟩;rcases gy q hq with h|⟨r,hr,e⟩
   ·omega
   ·have:=h1 r hr;omega
  ·rw[if_neg c1]
   by_cases c2:p.1=k
   ·rw[if_pos c2];exact aq.2 ⟨fun q hq=>by have:=h1 q hq;simp only;omega,h2⟩
   ·rw[if_neg c2];refine aq.2 ⟨fun q hq=>?_,hs⟩;rcases List.mem_cons.1 hq with rfl|hq
    ·simp only;omega
    ·have:=h1 q hq;simp only;omega
theorem mE{l:List Pr}{k:Int}{n:Nat}(hp:Pos l)(hn:0<n):Pos (put l k n):=by
 induction l with
 |nil=>intro q hq;simp[put] at hq;subst hq;exact hn
 |cons p l ih=>
  obtain⟨h1,h2⟩:=aH.1 hp;rw[put]
  by_cases c1:p.1<k
  ·rw[if_pos c1];exact aH.2 ⟨h1,ih h2⟩
  ·rw[if_neg c1]
   by_cases c2:p.1=k
   ·rw[if_pos c2];exact aH.2 ⟨by simp only;omega,h2⟩
   ·rw[if_neg c2];exact aH.2 ⟨hn,hp⟩
theorem mF{l:List Pr}{k:Int}{n:Nat}(hs:Srt l)(j:Int):cnt (put l k n) j=cnt l j+if j=k then n else 0:=by
 induction l with
 |nil=>
  rw[put,cnt,cnt]
  by_cases h:j=k
  ·subst h;simp
  ·rw[if_neg (fun e=>h e.symm),if_neg h];rfl
 |cons p l ih=>
  obtain⟨h1,h2⟩:=aq.1 hs;rw[put]
  by_cases c1:p.1<k
  ·rw[if_pos c1,cnt,cnt]
   by_cases hj:p.1=j
   ·rw[if_pos hj,if_pos hj,if_neg oq];omega
   ·rw[if_neg hj,if_neg hj];exact ih h2
  ·rw[if_neg c1]
   by_cases c2:p.1=k
   ·rw[if_pos c2,cnt,cnt]
    by_cases hj:j=k
    ·subst hj;rw[if_pos rfl,if_pos c2,if_pos rfl]
    ·rw[if_neg (fun e=>hj e.symm),if_neg (fun e=>hj oq),if_neg hj];omega
   ·rw[if_neg c2,cnt]
    by_cases hj:j=k
    ·subst hj;rw[if_pos rfl,if_pos rfl,cnt,if_neg c2,fT (fun q hq=>by have:=h1 q hq;omega)];omega
    ·simp only;rw[if_neg (fun e=>hj e.symm),if_neg hj];omega
theorem eI{l:List Pr}{k:Int}{n:Nat}:tot (put l k n)=tot l+n:=by
 induction l with
 |nil=>simp[put,tot]
 |cons p l ih=>
  rw[put]
  by_cases c1:p.1<k
  ·rw[if_pos c1,aK,aK,ih];omega
  ·rw[if_neg c1]
   by_cases c2:p.1=k
   ·rw[if_pos c2,aK,aK];simp only;omega
   ·rw[if_neg c2,aK,aK];simp only;omega
theorem kS{l:List Pr}{k:Int}{n:Nat}:(put l k n).length≤l.length+1:=by
 induction l with
 |nil=>simp[put]
 |cons p l ih=>
  rw[put]
  by_cases c1:p.1<k
  ·rw[if_pos c1];simp;omega
  ·rw[if_neg c1]
   by_cases c2:p.1=k
   ·rw[if_pos c2];simp
   ·rw[if_neg c2];simp
theorem aW{l:List Pr}{p:Pr}(h:p∈l):p.2≤tot l:=by
 induction l with
 |nil=>cases h
 |cons q l ih=>
  rw[aK];rcases List.mem_cons.1 h with rfl|h
  ·omega
  ·have:=ih h;omega
def az(l m:List Pr):List Pr:=m.foldl (fun o p=>put o p.1 p.2) l
theorem D9(l:List Pr):az l []=l:=rfl
theorem AN(l m:List Pr)(p:Pr):az l (m++[p])=put (az l m) p.1 p.2:=by simp[az]
theorem cm{l m:List Pr}(hs:Srt l)(hp:Pos l)(hm:Pos m):Srt (az l m)∧Pos (az l m)∧tot (az l m)=tot l+tot m:=by
 induction m generalizing l with
 |nil=>exact⟨hs,hp,by simp[az,tot]⟩
 |cons p m ih=>
  obtain⟨h1,h2⟩:=aH.1 hm;obtain⟨a,b,c⟩:=ih (l:=put l p.1 p.2) (jo hs) (mE hp h1) h2;exact⟨a,b,by rw[show az l (p::m)=az (put l p.1 p.2) m from rfl,c,eI,aK];omega⟩
theorem gu{l m:List Pr}(hs:Srt l)(hm:Srt m)(j:Int):cnt (az l m) j=cnt l j+cnt m j:=by
 induction m generalizing l with
 |nil=>simp[az,cnt]
 |cons p m ih=>
  obtain⟨h1,h2⟩:=aq.1 hm;rw[show az l (p::m)=az (put l p.1 p.2) m from rfl,ih (jo hs) h2,mF hs,cnt]
  by_cases hj:p.1=j
  ·subst hj;rw[if_pos rfl,if_pos rfl,fT h1];omega
  ·rw[if_neg hj,if_neg (fun e=>hj e.symm)];omega
theorem iO{l m:List Pr}:(az l m).length≤l.length+m.length:=by
 induction m generalizing l with
 |nil=>simp[az]
 |cons p m ih=>
  have h1:=ih (l:=put l p.1 p.2);have h2:=kS (l:=l) (k:=p.1) (n:=p.2);rw[show az l (p::m)=az (put l p.1 p.2) m from rfl];simp only[List.length_cons];omega
end Pl
def G5(p:Pr):List Value:=[.int .i64 p.1,.int .u64 (p.2:Nat)]
def pcs:List Pr→List Value
 | []=>[]
 |p::l=>.int .i64 p.1::.int .u64 (p.2:Nat)::pcs l
theorem au(l m:List Pr):pcs (l++m)=pcs l++pcs m:=by
 induction l with
 |nil=>rfl
 |cons p l ih=>simp[pcs,ih]
theorem aQ(l:List Pr):(pcs l).length=l.length*2:=by
 induction l with
 |nil=>rfl
 |cons p l ih=>simp only[pcs,List.length_cons,ih];omega
theorem aI(l:List Pr):∀u∈pcs l,u.oneCell'=true:=by
 induction l with
 |nil=>intro u h;cases h
 |cons p l ih=>
  intro u h;simp only[pcs,List.mem_cons] at h;rcases h with rfl|rfl|h
  ·rfl
  ·rfl
  ·exact ih u h
theorem kT{l:List Pr}{i:Nat}{p:Pr}(h:l[i]?=some p):(pcs l)[i*2]?=some (.int .i64 p.1)∧(pcs l)[i*2+1]?=some (.int .u64 (p.2:Nat)):=by
 exact vi
theorem cg:fH prog 172 176 2 16:=cy underlying172 (z:=.agg #[.int .i64 0,.int .u64 0]) ok' od od
def Prs(w:World)(B:Nat)(A:Option Addr)(L:List Pr):Prop:=am w B 2 A L.length (pcs L)
section
variable {w w':World} {B:Nat} {A:Option Addr} {L:List Pr}
theorem Prs.at_(h:Prs w B A L)(hn:0<L.length):∃b o,A=some ⟨b,o,none⟩∧b<B∧∀i p,L[i]?=some p→w.cell? ⟨b,o+i*2,none⟩=some (.int .i64 p.1)∧w.cell? ⟨b,o+i*2+1,none⟩=some (.int .u64 (p.2:Nat)):=by
 obtain⟨b,o,e,hb,hc⟩:=h.2 hn;refine⟨b,o,e,hb,fun i p hp=>?_⟩;obtain⟨h1,h2⟩:=kT hp;exact⟨hc _ _ h1,by have:=hc _ _ h2;rwa [←Nat.add_assoc] at this⟩
theorem Prs.below(h:Prs w B A L)(hb:Below B w w'):Prs w' B A L:=am.below h hb
theorem Prs.at_below(h:Prs w w.heap.size A L)(hb:Below w.heap.size w w'):Prs w' w'.heap.size A L:=am.at_below h hb
end
theorem gz(w:World)(k:Int)(n:Nat):am (w.alloc (.cells #[.int .i64 k,.int .u64 (n:Int)] 176)) (w.alloc (.cells #[.int .i64 k,.int .u64 (n:Int)] 176)).heap.size 2 (some ⟨w.heap.size,0,none⟩) 1 (pcs [(k,n)]):=
 am.lit (bQ _ _) rfl rfl
def bI(w:World)(base:Nat)(A:Option Addr)(c:Nat)(L:List Pr):Prop:=Own w base 176 2 A L.length c (pcs L)
theorem bI.reads{w:World}{base:Nat}{A:Option Addr}{c:Nat}{L:List Pr}(h:bI w base A c L):Prs w w.heap.size A L:=Own.reads h
section
open Pl
def en(L:List Pr)(w:World)(e:Ending)(w':World):Prop:=∃A c,e=.returned (.slice A L.length c)∧bI w' w.heap.size A c L∧Below w.heap.size w w'
theorem Dm{w:World}{base:Nat}{A:Option Addr}{n c:Nat}{L M:List Pr}(h:Own w base 176 2 A n c (pcs M))(hM:M=L):bI w base A c L:=by
 subst hM;have h1:=h.len;rw[aQ] at h1;have:n=M.length:=oq;subst this;exact h
def JR(L:List Pr)(k:Int):Int:=match L.head?,L.getLast? with
 |some p,some q=>max k q.1-min k p.1+1
 |_,_=>1
def eD(L:List Pr):Prop:=∀p∈L,-1048576≤p.1∧p.1≤1048576
def cq(L:List Pr)(k:Int)(n W:Nat):List Pr×Int:=
 if n=0 then(L,4) else if k< -1048576∨1048576<k then(L,5) else if 0<W∧(W:Int)<JR L k then(L,130) else if 4611686018427387904-tot L<n then(L,6) else(put L k n,0)
def Fj(L M:List Pr):Int:=match L.head?,L.getLast?,M.head?,M.getLast? with
 |some p,some q,some p',some q'=>max q.1 q'.1-min p.1 p'.1+1
 |_,_,_,_=>0
def bE(L M:List Pr)(W:Nat):List Pr×Int:=
 if M=[] then(L,0) else if 0<W∧L≠ []∧(W:Int)<Fj L M then(L,130) else if 4611686018427387904-tot L<tot M then(L,6) else(az L M,0)
theorem vt{L M:List Pr}:tot (az L M)=tot L+tot M:=by
 induction M generalizing L with
 |nil=>simp[az,tot]
 |cons p M ih=>rw[show az L (p::M)=az (put L p.1 p.2) M from rfl,ih,eI,aK];omega
theorem oY(L M:List Pr):bE L M 0=if M=[] then(L,0) else if 4611686018427387904-tot L<tot M then(L,6) else(az L M,0):=by
 unfold bE;rw[if_neg (show¬(0<0∧L≠ []∧((0:Nat):Int)<Fj L M) from fun h=>absurd h.1 od)]
end
namespace Pl
def lo(L:List Pr)(k:Int):Nat:=L.countP (fun p=>decide (p.1<k))
theorem JZ(L:List Pr)(k:Int):lo L k≤L.length:=List.countP_le_length
theorem kV(p:Pr)(L:List Pr)(k:Int):lo (p::L) k=lo L k+if p.1<k then 1 else 0:=by
 unfold lo;rw[List.countP_cons]
 by_cases h:p.1<k<;>simp[h]
theorem rH{L:List Pr}{k:Int}(h:∀q∈L,k≤q.1):lo L k=0:=by
 unfold lo;rw[List.countP_eq_zero];intro q hq;have:=h q hq;simp;omega
theorem Lf{L:List Pr}(hs:Srt L){k:Int}:∀{i:Nat} {p:Pr},L[i]?=some p→(p.1<k↔i<lo L k):=by
 induction L with
 |nil=>intro i p h;simp at h
 |cons q L ih=>
  intro i p h;obtain⟨h1,h2⟩:=aq.1 hs;rw[kV]
  cases i with
  |zero=>
   simp at h;subst h;exact uw
  |succ i=>
   have h3:=ih h2 (i:=i) (p:=p) (by simpa using h);have h4:=h1 p (Om (by simpa using h));exact uw
def iW(L:List Pr)(k:Int):Bool:=match L[lo L k]? with
 |some p=>decide (p.1=k)
 |none=>false
theorem iE{p:Pr}{L:List Pr}{k:Int}{n:Nat}(h:p.1<k):put (p::L) k n=p::put L k n:=by rw[put,if_pos h]
theorem Hf{L:List Pr}(hs:Srt L){k:Int}{n:Nat}(h:iW L k=false):put L k n=L.take (lo L k)++(k,n)::L.drop (lo L k):=by
 induction L with
 |nil=>rfl
 |cons p L ih=>
  obtain⟨h1,h2⟩:=aq.1 hs
  by_cases hk:p.1<k
  ·have e:lo (p::L) k=lo L k+1:=by rw[kV,if_pos hk]
   have h3:iW L k=false:=by
    unfold iW at h ⊢;rw[e,List.getElem?_cons_succ] at h;exact h
   rw[iE hk,e,List.take_succ_cons,List.drop_succ_cons,ih h2 h3];rfl
  ·have e:lo (p::L) k=0:=by rw[kV,if_neg hk,rH (fun r hr=>by have:=h1 r hr;omega)]
   have h3:p.1≠k:=by
    unfold iW at h;rw[e] at h;simpa using h
   rw[put,if_neg hk,if_neg h3,e];rfl
theorem He{L:List Pr}(hs:Srt L){k:Int}{n:Nat}(h:iW L k=true):∃m,L[lo L k]?=some (k,m)∧put L k n=L.set (lo L k) (k,m+n):=by
 induction L with
 |nil=>simp[iW] at h
 |cons p L ih=>
  obtain⟨h1,h2⟩:=aq.1 hs
  by_cases hk:p.1<k
  ·have e:lo (p::L) k=lo L k+1:=by rw[kV,if_pos hk]
   have h3:iW L k=true:=by
    unfold iW at h ⊢;rw[e,List.getElem?_cons_succ] at h;exact h
   obtain⟨m,h4,h5⟩:=ih h2 h3;exact⟨m,by rw[e,List.getElem?_cons_succ,h4],by rw[iE hk,e,List.set_cons_succ,h5]⟩
  ·have e:lo (p::L) k=0:=by rw[kV,if_neg hk,rH (fun r hr=>by have:=h1 r hr;omega)]
   have h3:p.1=k:=by
    unfold iW at h;rw[e] at h;simpa using h
   refine⟨p.2,by rw[e,←h3];rfl,?_⟩;rw[put,if_neg hk,if_pos h3,e];rfl
theorem II{L:List Pr}{k:Int}{p:Pr}(h:L[lo L k]?=some p):iW L k=decide (p.1=k):=by unfold iW;rw[h]
theorem Eh{L:List Pr}{k:Int}(h:L.length≤lo L k):iW L k=false:=by unfold iW;rw[List.getElem?_eq_none h]
theorem fy{L:List Pr}{i:Nat}{p:Pr}(h:L[i]?=some p):tot (L.take (i+1))=tot (L.take i)+p.2:=by
 rw[List.take_add_one,h,cj];simp[tot]
theorem gL(L:List Pr)(i:Nat):tot (L.take i)≤tot L:=by
 have h:tot (L.take i)+tot (L.drop i)=tot L:=by rw[←cj,List.take_append_drop]
 omega
def below(L:List Pr)(k:Int):Nat:=tot (L.filter (fun p=>decide (p.1<k)))
def mu:List Pr→Nat→Int
 | [],_=>0
 |p::L,r=>if r≤p.2 then p.1 else mu L (r-p.2)
theorem Hc{L:List Pr}{i:Nat}{p:Pr}{r:Nat}(hp:L[i]?=some p)(h1:tot (L.take i)<r)(h2:r≤tot (L.take i)+p.2):mu L r=p.1:=by
 induction L generalizing i r with
 |nil=>simp at hp
 |cons q L ih=>
  cases i with
  |zero=>
   simp at hp;subst hp;rw[List.take_zero,dX] at h1 h2;rw[mu,if_pos oq]
  |succ i=>
   rw[List.take_succ_cons,aK] at h1 h2;rw[mu,if_neg oq];exact ih (by simpa using hp) oq oq
def fk(L:List Pr)(i:Nat):List Pr:=match L.drop i with
 | []=>[]
 |p::R=>(p.1,p.2+tot (L.take i))::R
def dj(m:Int):Nat:=(max m 1).toNat
def ah(L:List Pr)(m:Int):List Pr×Nat:=if L.length≤dj m then(L,0) else(fk L (L.length-dj m),tot (L.take (L.length-dj m)))
theorem gJ(L:List Pr)(i:Nat):(fk L i).length=L.length-i:=by
 unfold fk;rw[←List.length_drop];cases L.drop i<;>rfl
theorem kJ{L:List Pr}{i:Nat}(h:i<L.length):tot (fk L i)=tot L:=by
 have h1:tot (L.take i)+tot (L.drop i)=tot L:=by rw[←cj,List.take_append_drop]
 unfold fk
 cases hd:L.drop i with
 |nil=>
  have:=congrArg List.length hd;rw[List.length_drop] at this;simp at this;omega
 |cons p R=>
  rw[hd,aK] at h1;rw[aK];omega
theorem Ew{L:List Pr}(hs:Srt L)(i:Nat):Srt (L.drop i):=List.Pairwise.sublist (List.drop_sublist i L) hs
theorem wm{L:List Pr}(hs:Srt L)(i:Nat):Srt (fk L i):=by
 have h:=Ew hs i;unfold fk
 cases hd:L.drop i with
 |nil=>exact Srt.nil
 |cons p R=>
  rw[hd] at h;exact aq.2 ⟨(aq.1 h).1,(aq.1 h).2⟩
theorem ws{L:List Pr}(hp:Pos L)(i:Nat):Pos (fk L i):=by
 have h:Pos (L.drop i):=fun p hq=>hp p (List.mem_of_mem_drop hq);unfold fk
 cases hd:L.drop i with
 |nil=>exact Pos.nil
 |cons p R=>
  rw[hd] at h;exact aH.2 ⟨by have:=(aH.1 h).1;simp only;omega,(aH.1 h).2⟩
theorem lG{L:List Pr}{i:Nat}{P:Int→Prop}(h:∀p∈L,P p.1):∀p∈fk L i,P p.1:=by
 unfold fk
 cases hd:L.drop i with
 |nil=>intro p hp;cases hp
 |cons q R=>
  have hm:∀p∈q::R,P p.1:=fun p hp=>h p (List.mem_of_mem_drop (by rw[hd];exact hp));intro p hp;rcases List.mem_cons.1 hp with rfl|hp
  ·exact hm q os'
  ·exact hm p (by simp[hp])
end Pl
end Go.Proofs.YtmbippkpjdoojaaGreat
