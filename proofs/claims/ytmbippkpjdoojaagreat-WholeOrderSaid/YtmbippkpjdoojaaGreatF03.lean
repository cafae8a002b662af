/- Parts of a proof, merged. -/
import Derived.Test.YtmbippkpjdoojaaGreatF02
import Derived.Test.YtmbippkpjdoojaaGreatProg
import Derived.WideKeyEntry
set_option maxRecDepth 100000
set_option maxHeartbeats 1600000
namespace Go.Proofs.YtmbippkpjdoojaaGreat
open Tryz
open Go.RowKit
structure ar(P:World→Prop)(F:Nat→Prop)(w:World):Prop where
 it:P w
 lt:∀i,F i→i<w.heap.size
 keep:∀(K:Nat→Prop) (w':World),ab K w w'→(∀i,F i→¬K i)→P w'
section
variable {P Q:World→Prop} {F G K:Nat→Prop} {w w':World}
theorem ar.only(h:ar P F w)(k:ab K w w')(hd:∀i,F i→¬K i):ar P F w':=
 ⟨h.keep K w' k hd,fun i hi=>Nat.lt_of_lt_of_le (h.lt i hi) k.size,fun J w2 k2 Rk=>h.keep (fun i=>K i∨J i) w2 ((k.mono fun _ h=>.inl h).trans (k2.mono fun _ h=>.inr h)) fun i hi=>by
  rintro(h1|h1)
  ·exact hd i hi h1
  ·exact Rk i hi h1⟩
theorem ar.below(h:ar P F w)(hb:Below w.heap.size w w'):ar P F w':=h.only (K:=fun _=>False) ⟨hb.os,hb.tape,hb.output,hb.size,fun i hi _=>hb.block i hi⟩ fun _ _ h=>h
theorem ar.drewN(h:ar P F w)(n:Nat):ar P F (w.drewN n):=h.below (ae (Oq _ _) n)
theorem ar.alloc(h:ar P F w)(o:Obj):ar P F (w.alloc o):=h.below (Ba)
theorem ar.and(h:ar P F w)(k:ar Q G w):ar (fun w=>P w∧Q w) (fun i=>F i∨G i) w:=
 ⟨⟨h.it,k.it⟩,fun i hi=>hi.elim (h.lt i) (k.lt i),fun K w' ko hd=>⟨h.keep K w' ko fun i hi=>hd i (.inl hi),k.keep K w' ko fun i hi=>hd i (.inr hi)⟩⟩
theorem ar.blk{g:Nat}{t:TypeId}{cs:Array Value}(h:Blk w g t cs):ar (fun w=>Blk w g t cs) (fun i=>i=g) w:=
 ⟨h,fun i hi=>by rw[hi];exact h.lt,fun K w' k hd=>h.only k (hd g rfl)⟩
theorem ar.own{base:Nat}{e:TypeId}{size:Nat}{A:Option Addr}{n c:Nat}{xs:List Value}(h:Own w base e size A n c xs):ar (fun w=>Own w base e size A n c xs) (fun i=>aa A=some i) w:=
 ⟨h,fun _ hi=>(Own.block h hi).2,fun _ _ k hd=>Own.only h k hd⟩
theorem ar.pure{p:Prop}(h:p):ar (fun _=>p) (fun _=>False) w:=⟨h,fun _ h=>h.elim,fun _ _ _ _=>h⟩
end
structure aD(F F':Nat→Prop)(w w':World):Prop where
 only:ab F w w'
 new:∀i,F' i→F i∨w.heap.size≤i
theorem aD.self{F:Nat→Prop}{w w':World}(hb:Below w.heap.size w w'):aD F F w w':=⟨ab.of_below hb,fun _ h=>.inl h⟩
theorem aD.trans{F F' F'':Nat→Prop}{w w1 w2:World}(h:aD F F' w w1)(k:aD F' F'' w1 w2):aD F F'' w w2:=
 ⟨h.only.step k.only h.new,fun i hi=>(k.new i hi).elim (h.new i) fun hs=>.inr (Oo h.only.size hs)⟩
theorem aD.pre{F F':Nat→Prop}{w w1 w2:World}(hb:Below w.heap.size w w1)(k:aD F F' w1 w2):aD F F' w w2:=(aD.self hb).trans k
theorem aD.post{F F':Nat→Prop}{w w1 w2:World}(h:aD F F' w w1)(hb:Below w1.heap.size w1 w2):aD F F' w w2:=h.trans (aD.self hb)
theorem ar.other{P:World→Prop}{G F F':Nat→Prop}{w w':World}(h:ar P G w)(hd:∀i,G i→¬F i)(k:aD F F' w w'):ar P G w'∧∀i,G i→¬F' i:=
 ⟨h.only k.only hd,fun i hi hf=>by
  rcases k.new i hf with h1|h1
  ·exact hd i hi h1
  ·have:=h.lt i hi;omega⟩
theorem aD.below{F F':Nat→Prop}{B:Nat}{w w':World}(k:aD F F' w w')(hB:B≤w.heap.size)(hF:∀i,F i→B≤i):Below B w w':=k.only.below hB hF
def fn0(i:Nat):Value:=.func (.func i) #[] #[]
abbrev Frm:=Nat×Nat×Nat×Nat
def di:List Frm:=[
 (98,1,323,324),(104,2,323,324),
 (72,2,325,326),(119,4,323,324),
 (87,4,325,326),(113,8,323,324),
 (81,8,325,326),(118,0,327,328),
 (122,0,329,330),(110,0,331,332)]
def kh(f:Frm):List Value:=[.int .u8 (f.1:Int),.int .i64 (f.2.1:Int),fn0 f.2.2.1,fn0 f.2.2.2]
def xM(f:Frm):Value:=.agg (kh f).toArray
def ei:Array Value:=(di.flatMap kh).toArray
theorem pB{P:Program}{ops:Array Oper}{rest:List Oper}{o:Oper}{a:Act}{w:World}{Q:Exit→Act→World→Prop}(hg:o.guard=none)(t:TypeId)(parts:Array (Nat×Operand))(ho:o.op=.build t parts)(cells:Array Value)(hc:P.built t (parts.map fun(i,x)=>(i,a.eval x)).toList=some cells)(h:wpList P ops Q rest (a.put o.dst (.agg cells)) w):wpList P ops Q (o::rest) a w:=
 wpList_build hg t parts ho (by rw[hc];rfl) (by rw[hc];exact h)
theorem IR(w:World):Cl 253 #[] w (Rb (.agg ei) w):=by
 go_enter func253,ntmps253;go_wp2_with (first|(refine pB rfl 349 _ rfl ei (by as_aux_lemma=>kernel_rfl) ?_)|(refine wpList_store_row rfl 349 _ _ rfl w.heap.size ei rfl rfl 349 _ (heap_alloc_new _ _) ok' ok' ok' ?_)|fail);go_wp2_with fail;refine bodyPost_ret (v:=.agg ei) (results_cell_row results253 _ _ w.heap.size 349 ei (0,0) _ ?_ (setRow_heap _ _ _ _ 349 _ (heap_alloc_new _ _)) underlying349 (by rfl) ok') ?_ ?_
 ·rfl
 ·rfl
 exact⟨rfl,below_setRow (Ba) (Oi _) _⟩
def isL(x:Nat)(f:Frm):Bool:=decide (f.1=x)
def fi(x:Nat):Nat:=di.findIdx (isL x)
theorem Ke(x:Nat):fi x≤10:=List.findIdx_le_length
theorem IV{x k:Nat}{f:Frm}(hk:k≤fi x)(hf:di[k]?=some f)(h:f.1≠x):k+1≤fi x:=by
 rcases Nat.lt_or_ge k (fi x) with h1|h1
 ·exact h1
 ·obtain rfl:k=fi x:=oq;obtain⟨hl,e⟩:=List.getElem?_eq_some_iff.1 hf;have h2:=List.findIdx_getElem (p:=isL x) (w:=hl);have h3:isL x f=true:=by rw[←e];exact h2
  exact absurd (of_decide_eq_true h3) h
theorem IU{x k:Nat}{f:Frm}(hk:k≤fi x)(hf:di[k]?=some f)(h:f.1=x):k=fi x:=by
 rcases Nat.lt_or_ge k (fi x) with h1|h1
 ·obtain⟨hl,e⟩:=List.getElem?_eq_some_iff.1 hf;have h2:=List.not_of_lt_findIdx h1;have h3:isL x f=false:=by rw[←e];simpa using h2
  simp[isL,h] at h3
 ·omega
def fii(x:Nat):Int:=if fi x<10 then(fi x:Int) else-1
theorem Nl(f:Frm)(x g:Nat)(w:World)(h:Blk w g 5 #[.int .u8 (x:Int)]):
  Cl 255 #[xM f,.pointer (some ⟨g,0,none⟩)] w (Rb (.bool (isL x f)) w):=by
 have c0:=h.c0;have hg:=h.lt;obtain⟨a,b,c,d⟩:=f
 have hr:isL x (a,b,c,d)=((a:Int)==(x:Int)):=by
  unfold isL;rw[Bool.eq_iff_iff,decide_eq_true_iff,beq_iff_eq];show a=x↔_;omega
 rw[hr];clear h hr;unfold xM kh fn0;go_enter func255,ntmps255;go_wp2_with fail;go_ret;exact⟨rfl,Ba⟩
def iz(w:World)(b o:Nat):Prop:=∀j u,(di.flatMap kh)[j]?=some u→w.cell? ⟨b,o+j,none⟩=some u
theorem mN{k:Nat}{f:Frm}(h:di[k]?=some f)(i:Nat)(hi:i<4):(di.flatMap kh)[k*4+i]?=(kh f)[i]?:=by
 have hk:k<10:=(List.getElem?_eq_some_iff.1 h).1;rcases k with _|_|_|_|_|_|_|_|_|_|k<;>first|omega|(injection h with h;subst h;rcases i with _|_|_|_|i<;>first|omega|rfl)
theorem iz.at_{w:World}{b o k:Nat}{f:Frm}(h:iz w b o)(hf:di[k]?=some f):
  w.cell? ⟨b,o+k*4,none⟩=some (.int .u8 (f.1:Int))∧w.cell? ⟨b,o+k*4+1,none⟩=some (.int .i64 (f.2.1:Int))∧w.cell? ⟨b,o+k*4+2,none⟩=some (fn0 f.2.2.1)∧w.cell? ⟨b,o+k*4+3,none⟩=some (fn0 f.2.2.2):=by
 refine⟨?_,?_,?_,?_⟩
 ·exact h (k*4+0) _ (by rw[mN hf 0 oq];rfl)
 ·have:=h (k*4+1) _ (by rw[mN hf 1 oq];rfl);rw[←Nat.add_assoc] at this;exact this
 ·have:=h (k*4+2) _ (by rw[mN hf 2 oq];rfl);rw[←Nat.add_assoc] at this;exact this
 ·have:=h (k*4+3) _ (by rw[mN hf 3 oq];rfl);rw[←Nat.add_assoc] at this;exact this
theorem iz.below{w w':World}{b o B:Nat}(h:iz w b o)(hb:b<B)(hw:Below B w w'):iz w' b o:=fun j u hu=>(hw.cell (p:=⟨b,o+j,none⟩) hb).trans (h j u hu)
theorem rL(b o g x:Nat)(w:World)(h:Blk w g 5 #[.int .u8 (x:Int)])(hF:iz w b o)(hb:b<w.heap.size):
  Cl 254 #[.slice (some ⟨b,o,none⟩) 10 10,.func (Fn.func 255) #[] #[.pointer (some ⟨g,0,none⟩)]] w (Rb (.int .i64 (fii x)) w):=by
 have H:=Oh h;have HF:=Oh hF;clear h hF;go_enter func254,ntmps254;go_wp2_with fail;go_loopw [8] (fun i wr=>∃k:Nat,k≤fi x∧i=.int .i64 (k:Int)∧Below w.heap.size w wr) (fun i _=>10-(intOf i).toNat)
 case atStart=>exact⟨0,Nat.zero_le _,rfl,Oq _ _⟩
 case round=>
  obtain⟨k,hk,rfl,aC⟩:=hrel;obtain⟨wo,rfl⟩:=nm (wr:World);have hle:=Ke x
  by_cases hlt:k<10
  ·obtain⟨f,hf⟩:=gs di k hlt;obtain⟨c0,c1,c2,c3⟩:=(HF.out.below hb aC).at_ hf;have hB:=H.out.below aC H.out.lt;have OZ:(k:Int)<10:=oq;have VZ:(0:Int)≤(k:Int):=oq;have HC:=Oh (Nl f x g wo hB);have HW:=Oh aC;unfold xM kh fn0 at HC;unfold fn0 at c2 c3
   by_cases he:f.1=x
   ·have HK:Hid (fii x=(k:Int)):=Oh (by unfold fii;rw[←IU hk hf he,if_pos hlt]);have hi:isL x f=true:=by simp[isL,he]
    rw[hi] at HC;obtain⟨fa,fb,fc,fd⟩:=f;dsimp only at c0 c1 c2 c3 HC;clear hk hle hf hB aC he hlt hi;go_wp2_with fail;refine HC.out.mono ?_;rintro e w1 ⟨rfl,h1⟩;have H1:=Oh h1;clear h1;go_wp2_with fail;go_ret;exact⟨by rw[HK.out];rfl,HW.out.trans (H1.out.mono HW.out.size)⟩
   ·have HK:=Oh (IV hk hf he);have hi:isL x f=false:=by simp[isL,he]
    rw[hi] at HC;obtain⟨fa,fb,fc,fd⟩:=f;dsimp only at c0 c1 c2 c3 HC;have HL:=Oh hlt;clear hk hle hf hB aC he hlt hi;go_wp2_with fail;refine HC.out.mono ?_;rintro e w1 ⟨rfl,h1⟩;have H1:=Oh h1;clear h1;go_wp2_with fail;go_roundw
    case rel=>exact⟨k+1,HK.out,by go_num,HW.out.trans (H1.out.mono HW.out.size)⟩
    case measure=>exact ms HL
  ·obtain rfl:k=10:=oq;have hfi:fi x=10:=oq;have HK:Hid (fii x= -1):=Oh (by unfold fii;rw[hfi];rfl);clear hk hle hfi hlt;go_wp2_with fail;go_ret;exact⟨by rw[HK.out];rfl,aC⟩
theorem iz.new{w:World}{g:Nat}{t:TypeId}(h:w.heap[g]?=some (.cells ei t (0,0))):iz w g 0:=fun j u hu=>by
 rw[Nat.zero_add,cell_of_row w g j ei t (0,0) h,←hu];unfold ei;simp
theorem Blk.setRow{w:World}{g g':Nat}{t:TypeId}{cs cs':Array Value}(h:Blk w g t cs)(hne:g≠g'):Blk (w.setRow g' cs') g t cs:=(setRow_other w g' g cs' hne).trans h
def eS:List Value:=[.int .u8 0,.int .i64 0,.nilFunc,.nilFunc]
def Fc(x:Nat)(w:World)(e:Ending)(w':World):Prop:=
 ((∃f,di[fi x]?=some f∧e=.returned (.tuple #[xM f,.bool true]))∨(fi x=10∧e=.returned (.tuple #[.agg eS.toArray,.bool false])))∧Below w.heap.size w w'
theorem cF{P:Program}{fn:Func}{p u:Tmp}{ty:TypeId}(h:fn.results=#[.cell p ty,.tmp u])(tmps:Array Value)(w:World)(g:Nat)(t:TypeId)(cs:Array Value)(fr:Nat×Nat)(d:TypeDesc)(hp:tmps.getD p undef=.pointer (some ⟨g,0,none⟩))(hg:w.heap[g]?=some (.cells cs t fr))(hu:P.underlying ty=some d)(hd:(match d with| .struct _| .array _ _=>true|_=>false)=true)(hi:(P.info? ty).map (·.size)=some cs.size):
  (results fn tmps).run P w=.ok (.tuple #[.agg cs,tmps.getD u undef]) w:=by
 rw[results_cell_tmp h,hp];simp[asAddr,run_loadVar_row w g t ty cs fr d hg hu hd hi,Result.andThen]
theorem kF(f:Frm):(kh f).toArray.all (·.oneCell')=true:=by
 obtain⟨a,b,c,d⟩:=f;simp[kh,fn0,Value.oneCell']
theorem pS:eS.toArray.all (·.oneCell')=true:=by kernel_rfl
theorem gH:(Tryz.prog.info? 256).map (·.size)=some 4:=by kernel_rfl
theorem gV{w w1 w2 w4:World}{x:Nat}{XR:Array Value}(B0:Blk w1 w.heap.size 5 #[.int .u8 (x:Int)])(B1:Blk w1 (w.heap.size+1) 256 eS.toArray)(S1:w1.heap.size=w.heap.size+2)(W1:Below w.heap.size w w1)(H2:Below w1.heap.size w1 w2):
  Blk ((w2.alloc (.cells XR 349)).setRow w2.heap.size ei) w.heap.size 5 #[.int .u8 (x:Int)]∧iz ((w2.alloc (.cells XR 349)).setRow w2.heap.size ei) w2.heap.size 0∧w2.heap.size<((w2.alloc (.cells XR 349)).setRow w2.heap.size ei).heap.size∧
   (Below ((w2.alloc (.cells XR 349)).setRow w2.heap.size ei).heap.size ((w2.alloc (.cells XR 349)).setRow w2.heap.size ei) w4→Blk w4 (w.heap.size+1) 256 eS.toArray∧iz w4 w2.heap.size 0∧Below w.heap.size w w4∧w.heap.size+2≤w2.heap.size):=by
 have s2:=H2.size;have hF:iz ((w2.alloc (.cells XR 349)).setRow w2.heap.size ei) w2.heap.size 0:=iz.new (setRow_heap _ _ _ _ 349 _ (heap_alloc_new _ _));have hl:w2.heap.size<((w2.alloc (.cells XR 349)).setRow w2.heap.size ei).heap.size:=by simp
 have dO:Below w.heap.size w ((w2.alloc (.cells XR 349)).setRow w2.heap.size ei):=below_setRow ((W1.trans (H2.mono W1.size)).alloc oq _) oq _;have b3:=((B1.below H2 oq).alloc (.cells XR 349)).setRow (g':=w2.heap.size) (cs':=ei) oq;refine⟨((B0.below H2 oq).alloc _).setRow oq,hF,hl,fun h4=>?_⟩;exact⟨b3.below h4 b3.lt,hF.below hl h4,dO.trans (h4.mono dO.size),oq⟩
theorem oC(x:Nat)(w:World):
  Cl 172 #[.int .u8 (x:Int)] w (Fc x w):=by
 go_enter func172,ntmps172;go_wp2_with fail;obtain⟨w1,iF⟩:=nm ((w.alloc (Obj.cells #[Value.int IntKind.u8 (x:Int)] 5)).alloc (Obj.cells #[Value.int IntKind.u8 0,Value.int IntKind.i64 0,Value.nilFunc,Value.nilFunc] 256));have b0:Blk w1 w.heap.size 5 #[.int .u8 (x:Int)]:=by rw[iF];exact(Blk.new _ _ _).alloc _
 have b1:Blk w1 (w.heap.size+1) 256 eS.toArray:=by
  rw[iF];have:=Blk.new (w.alloc (Obj.cells #[Value.int IntKind.u8 (x:Int)] 5)) 256 eS.toArray;rw[World.size_alloc] at this;exact this
 have RS:w1.heap.size=w.heap.size+2:=by rw[iF];simp
 have eQ:Below w.heap.size w w1:=by rw[iF];exact(Ba).alloc os' _
 rw[←iF];have B0:=Oh b0;have B1:=Oh b1;have S1:=Oh RS;have W1:=Oh eQ;clear b0 b1 RS eQ iF;refine(IR w1).mono ?_;rintro e w2 ⟨rfl,h2⟩;have H2:=Oh h2;clear h2;go_wp2_with (first|(refine wpList_store_row rfl 349 _ _ rfl w2.heap.size ei rfl rfl 349 _ (heap_alloc_new _ _) ok' ok' ok' ?_)|fail);refine(rL w2.heap.size 0 w.heap.size x _ (gV (w4:=w) B0.out B1.out S1.out W1.out H2.out).1 (gV (w4:=w) B0.out B1.out S1.out W1.out H2.out).2.1 (gV (w4:=w) B0.out B1.out S1.out W1.out H2.out).2.2.1).mono ?_;rintro e w4 ⟨rfl,h4⟩;obtain⟨QT,hF4,Po,hs4⟩:=(gV (w4:=w4) B0.out B1.out S1.out W1.out H2.out).2.2.2 h4;clear h4 B0 B1 S1 W1 H2;have HB:=Oh QT;have HW:=Oh Po;generalize w2.heap.size=gf at*;have hle:=Ke x
 by_cases hlt:fi x<10
 ·obtain⟨f,hf⟩:=gs di (fi x) hlt;obtain⟨c0,c1,c2,c3⟩:=hF4.at_ hf;rw[Nat.zero_add] at c0 c1 c2 c3;have hi:fii x=(fi x:Int):=by unfold fii;rw[if_pos hlt]
  have HFK:=Oh hf;rw[hi];generalize Wa:fi x=k at hf c0 c1 c2 c3 hlt hi ⊢;clear Wa;have hk:(k:Int)<10:=oq;have hn:decide ((k:Int)<0)=false:=by simp
  clear hF4 QT Po hi hf hlt hle;unfold fn0 at c2 c3;obtain⟨fa,fb,fc,fd⟩:=f;dsimp only at c0 c1 c2 c3;go_wp2_with (first|(refine wpList_store_row rfl 256 _ _ rfl (w.heap.size+1) (kh (fa,fb,fc,fd)).toArray rfl rfl 256 eS.toArray HB.out gH rfl (kF _) ?_)|fail);go_wp2_with fail;refine bodyPost_ret (v:=.tuple #[xM (fa,fb,fc,fd),.bool true]) (cF results172 _ _ (w.heap.size+1) 256 (kh (fa,fb,fc,fd)).toArray (0,0) _ rfl (setRow_heap _ _ _ _ _ _ HB.out) underlying256 (by rfl) ok') rfl ?_;exact⟨.inl ⟨_,HFK.out,rfl⟩,below_setRow HW.out oq _⟩
 ·have hi:fii x= -1:=by unfold fii;rw[if_neg hlt]
  rw[hi];go_wp2_with (first|(refine wpList_store_row rfl 256 _ _ rfl (w.heap.size+1) eS.toArray rfl rfl 256 eS.toArray HB.out gH rfl pS ?_)|fail);go_wp2_with fail;refine bodyPost_ret (v:=.tuple #[.agg eS.toArray,.bool false]) (cF results172 _ _ (w.heap.size+1) 256 eS.toArray (0,0) _ rfl (setRow_heap _ _ _ _ _ _ HB.out) underlying256 (by rfl) ok') rfl ?_;exact⟨.inr ⟨oq,rfl⟩,below_setRow HW.out oq _⟩
namespace Wi
def by8(n:Nat):UInt8:=UInt8.ofNat n
theorem dF{n:Nat}(h:n<256):(by8 n).toNat=n:=by simp only[by8,UInt8.toNat_ofNat'];omega
theorem ic(n:Nat):(by8 n).toNat=n%256:=by simp only[by8,UInt8.toNat_ofNat']
def leb(n:Nat):List UInt8:=if h:n<128 then[by8 n] else by8 (128+n%128)::leb (n/128)
termination_by n
decreasing_by omega
theorem gD{n:Nat}(h:n<128):leb n=[by8 n]:=by rw[leb,dif_pos h]
theorem gC{n:Nat}(h:128≤n):leb n=by8 (128+n%128)::leb (n/128):=by rw[leb,dif_neg oq]
theorem bT(n:Nat):0<(leb n).length:=by rw[leb];split<;>simp
theorem yT:∀(k n:Nat),n<128^(k+1)→(leb n).length≤k+1
 |0,n,h=>by rw[gD (by simpa using h)];simp
 |k+1,n,h=>by
  rcases Nat.lt_or_ge n 128 with h1|h1
  ·rw[gD h1];simp
  ·rw[gC h1,List.length_cons];have:=yT k (n/128) (by rw[Nat.pow_succ] at h;omega);omega
theorem af{n:Nat}(h:n<18446744073709551616):(leb n).length≤10:=yT 9 n oq
def eF:Nat→Nat→List UInt8
 |0,n=>[by8 n]
 |k+1,n=>if n<128 then[by8 n] else by8 (128+n%128)::eF k (n/128)
theorem ky:∀(k n:Nat),(eF k n).length≤k+1
 |0,_=>by simp[eF]
 |k+1,n=>by
  rw[eF];split
  ·simp
  ·rw[List.length_cons];have:=ky k (n/128);omega
def bG(n:Nat):Nat:=if n<9223372036854775808 then 2*n else 2*(18446744073709551615-n)+1
def cM(n:Nat):Nat:=if n%2=0 then n/2 else 18446744073709551615-n/2
theorem bK{n:Nat}(h:n<18446744073709551616):bG n<18446744073709551616:=by unfold bG;split<;>omega
theorem eK{n:Nat}(h:n<18446744073709551616):cM n<18446744073709551616:=by unfold cM;split<;>omega
theorem iC{n:Nat}(h:n<18446744073709551616):cM (bG n)=n:=by unfold bG cM;split<;>split<;>omega
theorem lQ{n:Nat}(h:n<18446744073709551616):bG (cM n)=n:=by unfold bG cM;split<;>split<;>omega
def low:Nat→Nat→List UInt8
 |0,_=>[]
 |k+1,n=>by8 (n%256)::low k (n/256)
theorem aJ(k n:Nat):(low k n).length=k:=by
 induction k generalizing n with
 |zero=>rfl
 |succ k ih=>rw[low,List.length_cons,ih]
def eG(k n:Nat):List UInt8:=(low k n).reverse
theorem eh(k n:Nat):(eG k n).length=k:=by unfold eG;rw[List.length_reverse,aJ]
end Wi
section
open Wi
theorem bu:fH prog 24 5 1 1:=cy underlying24 (z:=.int .u8 0) ok' od od
theorem cX(w:World)(x:UInt8):am (w.alloc (.cells #[.int .u8 (x.toNat:Int)] 5)) (w.alloc (.cells #[.int .u8 (x.toNat:Int)] 5)).heap.size 1 (some ⟨w.heap.size,0,none⟩) 1 (bvs [x]):=
 am.lit (bQ _ _) rfl rfl
def ak(w:World)(base:Nat)(A:Option Addr)(c:Nat)(l:List UInt8):Prop:=Own w base 5 1 A l.length c (bvs l)
theorem ak.reads{w:World}{base:Nat}{A:Option Addr}{c:Nat}{l:List UInt8}(h:ak w base A c l):Bts w w.heap.size A l:=Own.reads h
def Wr(w:World)(g:Nat)(A:Option Addr)(c:Nat)(L:List UInt8):Prop:=Blk w g 252 #[.slice A L.length c]∧ak w g A c L
def WK(g:Nat)(A:Option Addr)(i:Nat):Prop:=i=g∨aa A=some i
def br(g:Nat)(A:Option Addr)(L:List UInt8)(w w':World):Prop:=∃A' c',Wr w' g A' c' L∧ab (WK g A) w w'∧(aa A'=aa A∨∃i,aa A'=some i∧w.heap.size≤i)
theorem br.then{g:Nat}{A:Option Addr}{L:List UInt8}{w w' Wb:World}{A':Option Addr}(ho:ab (WK g A) w w')(hl:aa A'=aa A∨∃i,aa A'=some i∧w.heap.size≤i)(h:br g A' L w' Wb):br g A L w Wb:=by
 exact oc
theorem i9{wo w3:World}{g c c3:Nat}{A A3:Option Addr}{S:List UInt8}{x:UInt8}{cs:Array Value}(h:Wr wo g A c S)(o3:Own w3 g 5 1 A3 (S.length+1) c3 (bvs (S++[x])))(g3:(wo.alloc (.cells cs 5)).grownBy w3 (aa A))(q3:aa A3=aa A∨aa A3=some (wo.alloc (.cells cs 5)).heap.size):
  Blk w3 g 252 #[.slice A S.length c]∧br g A (S++[x]) wo (w3.setCell ⟨g,0,none⟩ (.slice A3 (S.length+1) c3)):=by
 obtain⟨hb,ho⟩:=h;have nE:=Own.alloc (show Own wo g 5 1 A S.length c (bvs S) from ho) (.cells cs 5);have dO:=(hb.alloc (.cells cs 5)).grown g3 (fun e=>Own.ne_blk nE (hb.alloc _) od e.symm);have RW:ab (WK g A) wo w3:=((ab.refl (WK g A) wo).alloc _).step (ab.of_grown g3) (fun i hi=>.inl (.inr hi));have hbn:aa A3≠some g:=Own.ne_blk o3 dO od;refine⟨dO,A3,c3,⟨?_,?_⟩,RW.set (p:=⟨g,0,none⟩) (.inl (.inl rfl)) _,q3.imp id (fun e=>⟨_,e,by simp⟩)⟩
 ·have:=dO.put 0 (.slice A3 (S.length+1) c3);rw[Ok];simpa using this
 ·have:=Own.setOther o3 (p:=⟨g,0,none⟩) hbn (.slice A3 (S.length+1) c3);unfold ak;rw[Ok];exact this
set_option maxRecDepth 4000 in
theorem Bg:∀a,a<256→a|||128=128+a%128:=by decide
theorem JU{n:Nat}:bits .or .u8 ((n:Int)%256) 128=((by8 (128+n%128)).toNat:Int):=by
 rw[show(n:Int)%256=((n%256:Nat):Int) by omega,show(128:Int)=((128:Nat):Int) from rfl,u8_or_nat _ _ oq oq,Bg _ oq,dF oq];omega
theorem Fi(g:Nat)(A:Option Addr)(c:Nat)(L:List UInt8)(n:Nat)(k:Int)(w:World)(h:Wr w g A c L)(hn:n<18446744073709551616)(hL:(L++leb n).length≤100000000):
  Cl 327 #[.pointer (some ⟨g,0,none⟩),.int .u64 (n:Int),.int .i64 k] w fun e w'=>e=.returned (.tuple #[])∧br g A (L++leb n) w w':=by
 obtain⟨T,hT⟩:=nm (L++leb n);rw[←hT] at hL ⊢;have H:=Oh h;have HT:=Oh hT;clear h hT;go_enter func327,ntmps327;go_wp2_with fail;go_loopw [1] (fun u wr=>∃(m:Nat) (S:List UInt8) (A2:Option Addr) (c2:Nat),u=.int .u64 (m:Int)∧m<18446744073709551616∧T=S++leb m∧Wr wr g A2 c2 S∧ab (WK g A) w wr∧(aa A2=aa A∨∃i,aa A2=some i∧w.heap.size≤i)) (fun u _=>(intOf u).toNat)
 case atStart=>exact⟨n,L,A,c,rfl,hn,HT.out,H.out,ab.refl _ _,.inl rfl⟩
 case round=>
  obtain⟨m,S,A2,c2,rfl,hm,hT,hw,PR,Ov⟩:=hrel;obtain⟨wo,rfl⟩:=nm (wr:World);have hp:=bT m;have Z5:S.length+1≤100000000:=by rw[hT,Ok] at hL;omega
  have c0:=hw.1.c0;have fr:=hw.1.free;have HW:=Oh hw;have Sr:=Oh PR;have Pg:=Oh Ov;have If:g<wo.heap.size:=hw.1.lt
  by_cases hlt:m<128
  ·have hd:decide ((127:Int)<(m:Int))=false:=sq;have hx:IntKind.u8.wrap (m:Int)=((by8 m).toNat:Int):=by rw[dF oq,IntWalk.u8_in _ oq]
   rw[gD hlt] at hT;have OM:=Oh hT;clear hT hw PR Ov hlt hp HT H hn;generalize by8 m=x at*;go_wp2_with (at_builtin;refine Hid.out ?_);have nE:=Own.alloc (show Own wo g 5 1 A2 S.length c2 (bvs S) from HW.out.2) (.cells #[.int .u8 (x.toNat:Int)] 5);refine aj (xs:=bvs S) rfl rfl bu rfl nE rfl (cX wo x) (aO _) (S.length+1) rfl (bvs (S++[x])) (aE _ _).symm (by unfold maxLen;omega) oq (by have:=HW.out.1.lt;simp;omega) ?_;intro A3 c3 w3 o3 g3 q3;obtain⟨dO,Qj⟩:=i9 HW.out o3 g3 q3;have WY:=dO.c0;have Xz:=dO.free;have TQ:g<w3.heap.size:=dO.lt;have HR:=Oh (br.then Sr.out Pg.out Qj);clear nE o3 g3 q3 dO Qj c0 fr If;go_wp2_with fail;exact bodyPost_end (v:=.tuple #[]) (results_none results327 _ _ _) rfl ⟨rfl,by rw[OM.out];exact HR.out⟩
  ·have hd:decide ((127:Int)<(m:Int))=true:=sq;have hx:bits .or .u8 ((m:Int)%256) 128=((by8 (128+m%128)).toNat:Int):=JU;rw[gC oq] at hT;have OM:=Oh hT;have oR:=Oh hlt;have HM:=Oh hm;clear hT hw PR Ov hlt hp HT H hn hm;generalize by8 (128+m%128)=x at*;go_wp2_with (at_builtin;refine Hid.out ?_);have nE:=Own.alloc (show Own wo g 5 1 A2 S.length c2 (bvs S) from HW.out.2) (.cells #[.int .u8 (x.toNat:Int)] 5);refine aj (xs:=bvs S) rfl rfl bu rfl nE rfl (cX wo x) (aO _) (S.length+1) rfl (bvs (S++[x])) (aE _ _).symm (by unfold maxLen;omega) oq (by have:=HW.out.1.lt;simp;omega) ?_;intro A3 c3 w3 o3 g3 q3;obtain⟨dO,Qj⟩:=i9 HW.out o3 g3 q3;have WY:=dO.c0;have Xz:=dO.free;have TQ:g<w3.heap.size:=dO.lt;have HR:=Oh (br.then Sr.out Pg.out Qj);clear nE o3 g3 q3 dO Qj c0 fr If;go_wp2_with fail;go_roundw
   case rel=>
    obtain⟨A4,c4,k1,k2,k3⟩:=HR.out;exact⟨m/128,S++[x],A4,c4,by go_num,by have:=HM.out;omega,by rw[OM.out];simp,k1,k2,k3⟩
   case measure=>exact ms oR
end
def rZ(q:Nat):Array Value:=#[.int .u8 1,.pointer (some ⟨q,0,none⟩),.pointer none,.pointer none,.pointer none]
def xL(q:Nat):Array Value:=#[.int .u8 2,.pointer none,.pointer (some ⟨q,0,none⟩),.pointer none,.pointer none]
def zC(q:Nat):Array Value:=#[.int .u8 3,.pointer none,.pointer none,.pointer (some ⟨q,0,none⟩),.pointer none]
def xK(q:Nat):Array Value:=#[.int .u8 4,.pointer none,.pointer none,.pointer none,.pointer (some ⟨q,0,none⟩)]
section
variable {w:World} {p q:Nat}
theorem K9(hb:Blk w p 103 (rZ q))(v:Int)(n:Nat)(co:Value)(c:Int)(Q:World→Prop)(HC:Cl 134 #[.pointer (some ⟨q,0,none⟩),.int .i64 v,.int .u64 (n:Int)] w fun e w'=>e=.returned (.int .i64 c)∧Q w'):
  Cl 67 #[.pointer (some ⟨p,0,none⟩),.int .i64 v,.int .u64 (n:Int),co] w fun e w'=>e=.returned (.int .i64 c)∧Q w':=by
 have c0:=hb.c0;have c1:=hb.c1;have HH:=Oh HC;clear hb HC;go_enter func67,ntmps67;exact dZ
theorem Ir(hb:Blk w p 103 (rZ q))(n:Nat)(Q:World→Prop)(HC:Cl 149 #[.pointer (some ⟨q,0,none⟩)] w fun e w'=>e=.returned (.int .u64 (n:Int))∧Q w'):
  Cl 72 #[.pointer (some ⟨p,0,none⟩)] w fun e w'=>e=.returned (.int .u64 (n:Int))∧Q w':=by
 have SX:∀(fn:Fn) (first cap:Array Value) (w:World),(Instr.makeFunc fn first cap).run prog w=.ok (.func fn first cap) w:=fun _ _ _ _=>rfl;have c0:=hb.c0;have c1:=hb.c1;have HH:=Oh HC;clear hb HC;go_enter func72,ntmps72;exact dZ
theorem G7(hb:Blk w p 103 (xL q))(v:Int)(n:Nat)(co:Value)(c:Int)(Q:World→Prop)(HC:Cl 135 #[.pointer (some ⟨q,0,none⟩),.int .i64 v,.int .u64 (n:Int)] w fun e w'=>e=.returned (.int .i64 c)∧Q w'):
  Cl 67 #[.pointer (some ⟨p,0,none⟩),.int .i64 v,.int .u64 (n:Int),co] w fun e w'=>e=.returned (.int .i64 c)∧Q w':=by
 have c0:=hb.c0;have c1:=hb.c2;have HH:=Oh HC;clear hb HC;go_enter func67,ntmps67;exact dZ
theorem Iq(hb:Blk w p 103 (xL q))(n:Nat)(Q:World→Prop)(HC:Cl 150 #[.pointer (some ⟨q,0,none⟩)] w fun e w'=>e=.returned (.int .u64 (n:Int))∧Q w'):
  Cl 72 #[.pointer (some ⟨p,0,none⟩)] w fun e w'=>e=.returned (.int .u64 (n:Int))∧Q w':=by
 have SX:∀(fn:Fn) (first cap:Array Value) (w:World),(Instr.makeFunc fn first cap).run prog w=.ok (.func fn first cap) w:=fun _ _ _ _=>rfl;have c0:=hb.c0;have c1:=hb.c2;have HH:=Oh HC;clear hb HC;go_enter func72,ntmps72;exact dZ
theorem Nk(hb:Blk w p 103 (zC q))(v:Int)(n:Nat)(co:Value)(c:Int)(Q:World→Prop)(HC:Cl 136 #[.pointer (some ⟨q,0,none⟩),.int .i64 v,.int .u64 (n:Int)] w fun e w'=>e=.returned (.int .i64 c)∧Q w'):
  Cl 67 #[.pointer (some ⟨p,0,none⟩),.int .i64 v,.int .u64 (n:Int),co] w fun e w'=>e=.returned (.int .i64 c)∧Q w':=by
 have c0:=hb.c0;have c1:=hb.c3;have HH:=Oh HC;clear hb HC;go_enter func67,ntmps67;exact dZ
theorem Ip(hb:Blk w p 103 (zC q))(n:Nat)(Q:World→Prop)(HC:Cl 151 #[.pointer (some ⟨q,0,none⟩)] w fun e w'=>e=.returned (.int .u64 (n:Int))∧Q w'):
  Cl 72 #[.pointer (some ⟨p,0,none⟩)] w fun e w'=>e=.returned (.int .u64 (n:Int))∧Q w':=by
 have SX:∀(fn:Fn) (first cap:Array Value) (w:World),(Instr.makeFunc fn first cap).run prog w=.ok (.func fn first cap) w:=fun _ _ _ _=>rfl;have c0:=hb.c0;have c1:=hb.c3;have HH:=Oh HC;clear hb HC;go_enter func72,ntmps72;exact dZ
theorem Nj(hb:Blk w p 103 (xK q))(v:Int)(n:Nat)(co:Value)(c:Int)(Q:World→Prop)(HC:Cl 137 #[.pointer (some ⟨q,0,none⟩),.int .i64 v,.int .u64 (n:Int),co] w fun e w'=>e=.returned (.int .i64 c)∧Q w'):
  Cl 67 #[.pointer (some ⟨p,0,none⟩),.int .i64 v,.int .u64 (n:Int),co] w fun e w'=>e=.returned (.int .i64 c)∧Q w':=by
 have c0:=hb.c0;have c1:=hb.c4;have HH:=Oh HC;clear hb HC;go_enter func67,ntmps67;exact dZ
theorem Io(hb:Blk w p 103 (xK q))(n:Nat)(Q:World→Prop)(HC:Cl 152 #[.pointer (some ⟨q,0,none⟩)] w fun e w'=>e=.returned (.int .u64 (n:Int))∧Q w'):
  Cl 72 #[.pointer (some ⟨p,0,none⟩)] w fun e w'=>e=.returned (.int .u64 (n:Int))∧Q w':=by
 have SX:∀(fn:Fn) (first cap:Array Value) (w:World),(Instr.makeFunc fn first cap).run prog w=.ok (.func fn first cap) w:=fun _ _ _ _=>rfl;have c0:=hb.c0;have c1:=hb.c4;have HH:=Oh HC;clear hb HC;go_enter func72,ntmps72;exact dZ
theorem Lu(hb:Blk w p 103 (xL q))(l:List UInt8)(HC:Cl 55 #[.pointer (some ⟨q,0,none⟩)] w fun e w'=>∃A c,e=.returned (.tuple #[.slice A l.length c,.int .i64 0])∧ak w' w.heap.size A c l∧Below w.heap.size w w'):
  Cl 29 #[.pointer (some ⟨p,0,none⟩)] w fun e w'=>∃A c,e=.returned (.slice A l.length c)∧ak w' w.heap.size A c l∧Below w.heap.size w w':=by
 have c0:=hb.c0;have c1:=hb.c2;exact kt
theorem Ls(hb:Blk w p 103 (zC q))(l:List UInt8)(HC:Cl 56 #[.pointer (some ⟨q,0,none⟩)] w fun e w'=>∃A c,e=.returned (.tuple #[.slice A l.length c,.int .i64 0])∧ak w' w.heap.size A c l∧Below w.heap.size w w'):
  Cl 29 #[.pointer (some ⟨p,0,none⟩)] w fun e w'=>∃A c,e=.returned (.slice A l.length c)∧ak w' w.heap.size A c l∧Below w.heap.size w w':=by
 have c0:=hb.c0;have c1:=hb.c3;exact kt
theorem Lr(hb:Blk w p 103 (xK q))(l:List UInt8)(HC:Cl 57 #[.pointer (some ⟨q,0,none⟩)] w fun e w'=>∃A c,e=.returned (.tuple #[.slice A l.length c,.int .i64 0])∧ak w' w.heap.size A c l∧Below w.heap.size w w'):
  Cl 29 #[.pointer (some ⟨p,0,none⟩)] w fun e w'=>∃A c,e=.returned (.slice A l.length c)∧ak w' w.heap.size A c l∧Below w.heap.size w w':=by
 have c0:=hb.c0;have c1:=hb.c4;exact kt
end
section
open Go.ChangeMaps
open Go.MapKept
open Go.ChangeShapes
open Go.WideElems (Fit rd rg pl rd_val elemAt)
open Go.Maps (Keyed Tidy has size)
section
variable {H:Type} {P:Program} {w:World} {t k E:TypeId} {R:Value→Option (DataW H×List MemPlace)} {b n:Nat} {D:DataW H}
theorem BF(K:Keyed P k)(ht:P.underlying t=some (.map k E)){z:Value}(hz:∀u:World,(zeroValue E).run P u=.ok z u){es:Array MapEntry}{clock:Nat}(hb:w.heap[b]?=some (.map es clock))(F:Fit P k R es clock){key:Value}{kl:Lit}(iD:keyOf P k key=some kl)(Qc:∀x∈es.toList,x.key≠key):
  (Instr.mapEntry t (.map (some b)) key).run P w=.ok (.tuple #[z,goInt clock]) (setBlock w b (.map (es.push ⟨key,z,clock⟩) (clock+1)))∧
   ∀(w2:World) (val:Value),w2.heap[b]?=some (.map (es.push ⟨key,z,clock⟩) (clock+1))→
    (Instr.entryStore t (.map (some b)) (goInt clock) val).run P w2=.ok () (setBlock w2 b (.map (es.push ⟨key,val,clock⟩) (clock+1)))∧
    (Instr.mapUpdate t (.map (some b)) key val).run P w=.ok () (setBlock w b (.map (es.push ⟨key,val,clock⟩) (clock+1))):=by
 obtain⟨s1,s2,_⟩:=F.stamped;rcases K.find w iD es.toList F.keys with⟨h1,_⟩|⟨j,e0,_,h2,h3⟩
 ·refine⟨by simp[Instr.mapEntry,run_underlying ht,MapKept.run_getObj_map hb,K.check w false iD,h1,hz,MapKept.run_setObj_map _ hb,Result.andThen,setBlock],fun w2 val Ox=>⟨?_,by simp[Instr.mapUpdate,run_underlying ht,MapKept.run_getObj_map hb,K.check w false iD,h1,MapKept.run_setObj_map _ hb,Result.andThen,setBlock]⟩⟩
  have a9r:(es.push ⟨key,z,clock⟩).findIdx? (fun e=>((e.born:Nat):Int)==((clock:Nat):Int))=some es.size:=by
   rw[WideElems.findIdx_arr];have hl:((es.push ⟨key,z,clock⟩).toList)[es.size]?=some ⟨key,z,clock⟩:=by simp
   refine WideElems.findIdx_born ?_ hl;rw[Array.toList_push,List.map_append];refine List.nodup_append.2 ⟨s2,by simp,fun a ha c hc e1=>?_⟩;rw[List.map_cons,List.map_nil,List.mem_singleton] at hc;obtain⟨x,hx,hxa⟩:=List.mem_map.1 ha;have:=s1 x hx;simp only at hc;omega
  have a9s:(es.push ⟨key,z,clock⟩).modify es.size (fun e=> {e with val:=val})=es.push ⟨key,val,clock⟩:=by
   refine Array.ext' ?_;rw[Array.toList_modify,Array.toList_push,Array.toList_push,←Array.length_toList,WideElems.modify_last]
  simp[Instr.entryStore,MapKept.run_getObj_map Ox,asInt,asIntOf,goInt,a9r,a9s,MapKept.run_setObj_map _ Ox,Result.andThen,setBlock]
 ·exact absurd h3 (Qc e0 (Om h2))
theorem xb{key:Value}{kl:Lit}(h:w.ownsMap P k R b n D)(K:Keyed P k)(ht:P.underlying t=some (.map k E)){z:Value}(hz:∀u:World,(zeroValue E).run P u=.ok z u)(hn:n<maxLen)(iD:keyOf P k key=some kl)(U0:has D kl=false):
  ∃v st w1,(Instr.mapEntry t (.map (some b)) key).run P w=.ok (.tuple #[v,goInt st]) w1∧w.grownBy w1 (some b)∧w1.heap.size=w.heap.size∧
   ∀(w2:World) (val:Value) (d:DataW H) (ps:List MemPlace),w1.grownBy w2 none→R val=some (d,ps)→
    ∃w3,(Instr.entryStore t (.map (some b)) (goInt st) val).run P w2=.ok () w3∧w3.ownsMap P k R b (n+1) (D.put kl d)∧w2.grownBy w3 (some b):=by
 have hh:=h;obtain⟨es,clock,hb,F,hs,hD⟩:=h;have a1S:b<w.heap.size:=(Array.getElem?_eq_some_iff.1 hb).1
 have Qc:∀x∈es.toList,x.key≠key:=by
  rcases Maps.fit_look false K ht (hz w) hb F iD with⟨_,Qc,_⟩|⟨e0,y,_,_,_,_,hat,_⟩
  ·exact Qc
  ·rw[hD] at U0;have:=Go.Maps.has_true_of_atKey hat;rw[this] at U0;cases U0
 obtain⟨iN,UY⟩:=BF K ht hz hb F iD Qc;refine⟨z,clock,_,iN,⟨rfl,rfl,rfl,by simp[setBlock],fun i _ hi=>heap_setBlock_other hb _ (fun e1=>hi (by rw[e1]))⟩,by simp[setBlock],fun w2 val d ps PK hv=>?_⟩;have aT:=(PK.block b (by simpa [setBlock] using a1S) os').trans (heap_setBlock_same hb _);obtain⟨QZ,hru⟩:=UY w2 val aT;obtain⟨w4,Vm,⟨es4,a9u,QT,F4,hs4,hD4⟩,_⟩:=hh.store K ht hn iD hv
 have e4:setBlock w b (.map (es.push ⟨key,val,clock⟩) (clock+1))=w4:=by
  have h1:=hru.symm.trans Vm;simp only[Result.ok.injEq,true_and] at h1;exact h1
 rw[←e4,heap_setBlock_same hb] at QT;injection QT with QT
 injection QT with h5 h6
 subst h5;subst h6;exact⟨_,QZ,⟨_,_,heap_setBlock_same aT _,F4,hs4,hD4⟩,⟨rfl,rfl,rfl,by simp[setBlock],fun i _ hi=>heap_setBlock_other aT _ (fun e1=>hi (by rw[e1]))⟩⟩
end
structure Hm(D:DataW Unit)(M:List (Nat×Nat)):Prop where
 tidy:Tidy D
 has:∀h:Nat,Go.Maps.has D (.int .u32 (h:Int))=(M.lookup h).isSome
 at_:∀h i:Nat,M.lookup h=some i→∀z,D.atKey (.int .u32 (h:Int)) z=.lit (.int .i64 (i:Int))
 size:Go.Maps.size D=M.length
theorem Hm.nil:Hm (.map []) []:=⟨Go.Maps.tidy_empty,fun _=>rfl,fun h i e _=>(by simp at e),rfl⟩
theorem ni(M:List (Nat×Nat))(h i k:Nat)(hM:M.lookup h=none):(M++[(h,i)]).lookup k=if k=h then some i else M.lookup k:=by
 rw[List.lookup_append]
 by_cases e:k=h
 ·subst e;rw[hM,if_pos rfl];simp
 ·rw[if_neg e]
  have:([(h,i)]:List (Nat×Nat)).lookup k=none:=by
   rw[List.lookup_cons];have:(k==h)=false:=by simpa using e
   rw[this];rfl
  rw[this,Option.or_none]
theorem y8(h:Nat):WideAt.IsKeyLit (.int .u32 (h:Int)):=trivial
theorem Hm.put{D:DataW Unit}{M:List (Nat×Nat)}(H:Hm D M){h i:Nat}(hM:M.lookup h=none):Hm (D.put (.int .u32 (h:Int)) (.lit (.int .i64 (i:Int)))) (M++[(h,i)]):=by
 refine⟨H.tidy.put (y8 h) _,fun k=>?_,fun k j hk z=>?_,?_⟩
 ·rw[ni M h i k hM]
  by_cases e:k=h
  ·subst e;rw[if_pos rfl,Go.Maps.has_put_same H.tidy.isMap (y8 _)];rfl
  ·rw[if_neg e,Go.Maps.has_put_other (by intro e2;injection e2 with _ e2;omega),H.has]
 ·rw[ni M h i k hM] at hk
  by_cases e:k=h
  ·subst e;rw[if_pos rfl] at hk;injection hk with hk
   subst hk;exact Go.Maps.atKey_put_same H.tidy.isMap (y8 _) _ _
  ·rw[if_neg e] at hk;rw[Go.Maps.atKey_put_other (by intro e2;injection e2 with _ e2;omega)];exact H.at_ k j hk z
 ·rw[Go.Maps.size_put H.tidy,H.has,hM,H.size,Ok];rfl
theorem Ce:Keyed prog 33:=Go.Maps.int_keyed underlying33
theorem zG(W:World):(zeroValue 3).run prog W=.ok (.int .i64 0) W:=by kernel_rfl
theorem JL{h:Nat}(hh:h<4294967296):keyOf prog 33 (.int .u32 (h:Int))=some (.int .u32 (h:Int)):=Go.Maps.keyOf_int_mk underlying33 (WalkArith.wf_u32 oq)
def pm(w:World)(m:Nat)(M:List (Nat×Nat)):Prop:=∃D,Hm D M∧w.ownsMap (H:=Unit) prog 33 (plainElem prog 3) m M.length D
theorem pm.lt{w:World}{m:Nat}{M:List (Nat×Nat)}(h:pm w m M):m<w.heap.size:=by
 obtain⟨D,_,h⟩:=h;exact h.lt
theorem pm.only{w w':World}{m:Nat}{M:List (Nat×Nat)}{K:Nat→Prop}(h:pm w m M)(k:ab K w w')(hd:¬K m):pm w' m M:=by
 have hlt:=h.lt;obtain⟨D,hH,es,clock,hb,F,hs,hD⟩:=h;exact⟨D,hH,es,clock,(k.block m hlt hd).trans hb,F,hs,hD⟩
theorem pm.ne{w:World}{m:Nat}{M:List (Nat×Nat)}(h:pm w m M){g:Nat}{t:TypeId}{cs:Array Value}(hb:Blk w g t cs):g≠m:=fun e=>by
 obtain⟨D,_,es,clock,h,_⟩:=h;subst e;rw[hb] at h;cases h
end
def bC(e av:Int)(vg:Bool)(lg ls up tt:Nat)(b:Value):Array Value:=#[.int .i64 e,.int .i64 av,.bool vg,.int .u64 (lg:Int),.int .u64 (ls:Int),.int .u64 (up:Int),.int .u64 (tt:Int),b]
def ap(e:Int):Array Value:=bC e 0 false 0 0 0 0 (.slice none 0 0)
theorem aP{e av:Int}{vg:Bool}{lg ls up tt:Nat}{A:Option Addr}{n c:Nat}:(bC e av vg lg ls up tt (.slice A n c)).all (·.oneCell')=true:=by simp[bC,Value.oneCell']
theorem aF:(Tryz.prog.info? 39).map (·.size)=some 8:=by kernel_rfl
theorem mC(e:Int)(w:World):Cl 22 #[.int .i64 e] w fun o w'=>o=.returned (.agg (ap e))∧Below w.heap.size w w':=by
 go_enter func22,ntmps22;go_wp2_with (first|(refine wpList_store_row rfl 39 _ _ rfl w.heap.size (ap e) rfl rfl 39 (ap 0) (Blk.new w _ _) aF rfl aP ?_)|fail);go_wp2_with fail;exact bodyPost_ret (v:=.agg (ap e)) (results_cell_row results22 _ _ w.heap.size 39 _ (0,0) _ rfl (setRow_heap _ _ _ _ _ _ (Blk.new w _ _)) underlying39 (by rfl) ok') rfl ⟨rfl,below_setRow (Ba) (Oi _) _⟩
structure Ent where
 p:Nat
 F:Nat→Prop
 I:World→Prop
def mv(o:Option Ent):Value:=.pointer (o.map fun e=>⟨e.p,0,none⟩)
structure Sui(w:World)(x m:Nat)(A:Option Addr)(c:Nat)(Q:List (Option Ent))(M:List (Nat×Nat)):Prop where
 blk:Blk w x 78 #[.map (some m),.slice A Q.length c]
 mp:pm w m M
 row:Own w 0 61 1 A Q.length c (Q.map mv)
 held:∀e,some e∈Q→ar e.I e.F w
 own:∀e,some e∈Q→∀i,e.F i→i≠x∧i≠m∧aa A≠some i
 apart:Q.Pairwise (fun a b=>∀e f,a=some e→b=some f→∀i,e.F i→¬f.F i)
def SG(x m:Nat)(A:Option Addr)(Q:List (Option Ent))(i:Nat):Prop:=i=x∨i=m∨aa A=some i∨∃e,some e∈Q∧e.F i
section
variable {w w':World} {x m c:Nat} {A:Option Addr} {Q:List (Option Ent)} {M:List (Nat×Nat)} {K:Nat→Prop}
theorem Sui.lt(h:Sui w x m A c Q M):∀i,SG x m A Q i→i<w.heap.size:=by
 rintro i (rfl|rfl|hi|⟨e,he,hi⟩)
 ·exact h.blk.lt
 ·exact h.mp.lt
 ·exact(Own.block h.row hi).2
 ·exact(h.held e he).lt i hi
theorem Sui.only(h:Sui w x m A c Q M)(k:ab K w w')(hd:∀i,SG x m A Q i→¬K i):Sui w' x m A c Q M:=
 ⟨h.blk.only k (hd x (.inl rfl)),h.mp.only k (hd m (.inr (.inl rfl))),Own.only h.row k (fun g hg=>hd g (.inr (.inr (.inl hg)))),fun e he=>(h.held e he).only k (fun i hi=>hd i (.inr (.inr (.inr ⟨e,he,hi⟩)))),h.own,h.apart⟩
theorem Sui.below(h:Sui w x m A c Q M)(hb:Below w.heap.size w w'):Sui w' x m A c Q M:=h.only (ab.of_below (K:=fun _=>False) hb) (fun _ _ h=>h)
theorem Sui.c0(h:Sui w x m A c Q M):w.cell? ⟨x,0,none⟩=some (.map (some m)):=h.blk.ce
theorem Sui.c1(h:Sui w x m A c Q M):w.cell? ⟨x,1,none⟩=some (.slice A Q.length c):=h.blk.ce
theorem Sui.at_(h:Sui w x m A c Q M){i:Nat}{o:Option Ent}(hi:Q[i]?=some o):∃g,A=some ⟨g,0,none⟩∧w.cell? ⟨g,i,none⟩=some (mv o):=by
 have hl:=(List.getElem?_eq_some_iff.1 hi).1;obtain⟨g,e,_,_,_,hc,_⟩:=Own.form h.row oq;exact⟨g,e,hc i _ (by rw[List.getElem?_map,hi];rfl)⟩
theorem Sui.turn(h:Sui w x m A c Q M){k:Nat}{e f:Ent}(hk:Q[k]?=some (some e))(hp:f.p=e.p)(hf:ar f.I f.F w')(ht:aD e.F f.F w w'):
  Sui w' x m A c (Q.set k (some f)) M∧aD (SG x m A Q) (SG x m A (Q.set k (some f))) w w':=by
 have hem:some e∈Q:=Om hk;obtain⟨Sb,hke⟩:=List.getElem?_eq_some_iff.1 hk;have ho:=h.own e hem;have hxf:¬e.F x:=fun h0=>(ho x h0).1 rfl;have SX:¬e.F m:=fun h0=>(ho m h0).2.1 rfl
 have Vt:∀j g,j≠k→Q[j]?=some (some g)→∀i,g.F i→¬e.F i:=fun j g PO hj i hi hei=>by
  obtain⟨Qi,hje⟩:=List.getElem?_eq_some_iff.1 hj;have hp:=List.pairwise_iff_getElem.1 h.apart;rcases Nat.lt_or_gt_of_ne PO with h1|h1
  ·exact hp j k Qi Sb h1 g e hje hke i hi hei
  ·exact hp k j Sb Qi h1 e g hke hje i hei hi
 have OV:∀g,some g∈Q.set k (some f)→g=f∨∃j,j≠k∧Q[j]?=some (some g):=fun g hg=>by
  obtain⟨j,hj⟩:=List.mem_iff_getElem?.1 hg;rw[List.getElem?_set] at hj
  by_cases PO:k=j
  ·rw[if_pos PO,if_pos oq] at hj;injection hj with hj
   injection hj with hj
   exact .inl hj.symm
  ·rw[if_neg PO] at hj;exact .inr ⟨j,fun e=>PO e.symm,hj⟩
 have PI:(Q.set k (some f)).map mv=Q.map mv:=by
  rw[List.map_set]
  apply List.ext_getElem?
  intro j;rw[List.getElem?_set]
  by_cases PO:k=j
  ·subst PO;rw[if_pos rfl,if_pos (by rw[List.length_map];exact Sb),List.getElem?_map,hk];simp[mv,hp]
  ·rw[if_neg PO]
 have U0:∀i,f.F i→(i≠x∧i≠m∧aa A≠some i):=fun i hi=>by
  rcases ht.new i hi with h1|h1
  ·exact ho i h1
  ·refine⟨fun e=>?_,fun e=>?_,fun e=>?_⟩
   ·have:=h.blk.lt;omega
   ·have:=h.mp.lt;omega
   ·have:=(Own.block h.row e).2;omega
 refine⟨⟨?_,h.mp.only ht.only SX,?_,?_,?_,?_⟩,?_,?_⟩
 ·rw[List.length_set];exact h.blk.only ht.only hxf
 ·rw[List.length_set,PI];exact Own.only h.row ht.only (fun g hg he=>(ho g he).2.2 hg)
 ·intro g hg;rcases OV g hg with rfl|⟨j,PO,hj⟩
  ·exact hf
  ·exact(h.held g (Om hj)).only ht.only (Vt j g PO hj)
 ·intro g hg i hi;rcases OV g hg with rfl|⟨j,PO,hj⟩
  ·exact U0 i hi
  ·exact h.own g (Om hj) i hi
 ·have hp:=List.pairwise_iff_getElem.1 h.apart;rw[List.pairwise_iff_getElem];intro a b ha hb Pd g1 g2 h1 h2 i RT hi2;rw[List.length_set] at ha hb;rw[List.getElem_set] at h1 h2
  by_cases ea:k=a
  ·rw[if_pos ea] at h1;rw[if_neg oq] at h2;injection h1 with h1
   subst h1;have hj:Q[b]?=some (some g2):=List.getElem?_eq_some_iff.2 ⟨hb,h2⟩;rcases ht.new i RT with h3|h3
   ·exact Vt b g2 oq hj i hi2 h3
   ·have:=(h.held g2 (Om hj)).lt i hi2;omega
  ·rw[if_neg ea] at h1
   by_cases eb:k=b
   ·rw[if_pos eb] at h2;injection h2 with h2
    subst h2;have hj:Q[a]?=some (some g1):=List.getElem?_eq_some_iff.2 ⟨ha,h1⟩;rcases ht.new i hi2 with h3|h3
    ·exact Vt a g1 oq hj i RT h3
    ·have:=(h.held g1 (Om hj)).lt i RT;omega
   ·rw[if_neg eb] at h2;exact hp a b ha hb Pd g1 g2 h1 h2 i RT hi2
 ·exact ht.only.mono fun i hi=>.inr (.inr (.inr ⟨e,hem,hi⟩))
 ·rintro i (h1|h1|h1|⟨g,hg,hi⟩)
  ·exact .inl (.inl h1)
  ·exact .inl (.inr (.inl h1))
  ·exact .inl (.inr (.inr (.inl h1)))
  ·rcases OV g hg with rfl|⟨j,PO,hj⟩
   ·rcases ht.new i hi with h3|h3
    ·exact .inl (.inr (.inr (.inr ⟨e,hem,h3⟩)))
    ·exact .inr h3
   ·exact .inl (.inr (.inr (.inr ⟨g,Om hj,hi⟩)))
end
theorem Fp(w:World):Cl 10 #[] w fun e w'=>∃x m,e=.returned (.pointer (some ⟨x,0,none⟩))∧w.heap.size≤x∧w.heap.size≤m∧Sui w' x m none 0 [] []∧Below w.heap.size w w':=by
 have hmm:= @run_makeMap prog;go_enter func10,ntmps10;go_wp2_with fail;go_ret;have hm:=World.ownsMap_made (H:=Unit) w prog 33 (plainElem prog 3)
 have hb:Blk ((w.alloc (.map #[] 0)).alloc (.cells #[.map (some w.heap.size),.slice none 0 0] 78)) (w.heap.size+1) 78 #[.map (some w.heap.size),.slice none 0 0]:=by
  have:=Blk.new (w.alloc (.map #[] 0)) 78 #[.map (some w.heap.size),.slice none 0 0]
  rwa [World.size_alloc] at this
 exact⟨w.heap.size+1,w.heap.size,rfl,oq,Oi _,⟨hb,⟨_,Hm.nil,hm.alloc _⟩,Own.nil _ _ _ _,(fun e he=>by cases he),(fun e he=>by cases he),List.Pairwise.nil⟩,(Ba).alloc os' _⟩
section
variable {w:World} {x m c:Nat} {A:Option Addr} {Q:List (Option Ent)} {M:List (Nat×Nat)}
theorem jn(h:Sui w x m A c Q M){H i:Nat}{e:Ent}(hH:H<4294967296)(hM:M.lookup H=some i)(hi:Q[i]?=some (some e)):
  Cl 24 #[.pointer (some ⟨x,0,none⟩),.int .u32 (H:Int)] w fun o w'=>o=.returned (.tuple #[.pointer (some ⟨e.p,0,none⟩),.bool true])∧w'=w:=by
 obtain⟨D,hD,ho⟩:=h.mp;obtain⟨g,rfl,d0⟩:=h.at_ hi;have c0:=h.c0;have c1:=h.c1;have iD:=JL hH;have HO:=Oh ho;have HD:=Oh hD;have HM:=Oh hM;have t1:(i:Int)<(Q.length:Int):=by have:=(List.getElem?_eq_some_iff.1 hi).1;omega
 simp only[mv,Option.map_some] at d0;clear h ho hD hM hi hH;go_enter func24,ntmps24;go_wp2_with (at_lookup;refine wpList_lookup_own_ok_int _ rfl _ _ 75 rfl 33 3 .i64 Ce underlying75 underlying3 (zG _) m M.length D rfl HO.out _ (.int .u32 (H:Int)) rfl iD ?_;intro k hat ZK;rw[HD.out.has,HM.out];obtain rfl:k=(i:Int):=(by rw[HD.out.at_ _ _ HM.out] at hat;injection hat with hat;injection hat with _ hat;exact hat.symm);clear hat ZK);go_ret2;exact⟨rfl,rfl⟩
theorem tB(h:Sui w x m A c Q M){H:Nat}(hH:H<4294967296)(hM:M.lookup H=none):
  Cl 24 #[.pointer (some ⟨x,0,none⟩),.int .u32 (H:Int)] w fun o w'=>o=.returned (.tuple #[.pointer none,.bool false])∧w'=w:=by
 obtain⟨D,hD,ho⟩:=h.mp;have c0:=h.c0;have iD:=JL hH;have HO:=Oh ho;have HD:=Oh hD;have HM:=Oh hM;clear h ho hD hM hH;go_enter func24,ntmps24;go_wp2_with (at_lookup;refine wpList_lookup_own_ok_int _ rfl _ _ 75 rfl 33 3 .i64 Ce underlying75 underlying3 (zG _) m M.length D rfl HO.out _ (.int .u32 (H:Int)) rfl iD ?_;intro k hat ZK;rw[HD.out.has,HM.out];clear hat ZK);go_ret2;exact⟨rfl,rfl⟩
theorem yr(h:Sui w x m A c Q M){H:Nat}(hH:H<4294967296)(hM:M.lookup H=none)(hl:M.length<64):
  Cl 64 #[.pointer (some ⟨x,0,none⟩),.int .u32 (H:Int)] w fun o w'=>o=.returned (.bool true)∧w'=w:=by
 obtain⟨D,hD,ho⟩:=h.mp;have c0:=h.c0;have hln:∀ty,(Builtin.len_ #[75] ty #[.map (some m)]).run prog w=.ok (.int .i64 (M.length:Int)) w:=fun ty=>by rw[ho.len underlying75 ty,hD.size]
 have iD:=JL hH;have HO:=Oh ho;have HD:=Oh hD;have HM:=Oh hM;have t1:decide ((M.length:Int)<64)=true:=sq;have t2:decide (M.length<64)=true:=sq;clear h ho hD hM hH hl;go_enter func64,ntmps64;go_wp2_with (at_lookup;refine wpList_lookup_own_ok_int _ rfl _ _ 75 rfl 33 3 .i64 Ce underlying75 underlying3 (zG _) m M.length D rfl HO.out _ (.int .u32 (H:Int)) rfl iD ?_;intro k hat ZK;rw[HD.out.has,HM.out];clear hat ZK);go_ret;exact⟨rfl,rfl⟩
end
theorem bq:(Tryz.prog.info? 29).map (·.size)=some 7:=by kernel_rfl
def spC(k:Nat)(lo hi d:Int)(g:Bool)(ac sz:Int):Array Value:=#[.int .u8 (k:Int),.int .i64 lo,.int .i64 hi,.int .i64 d,.bool g,.int .i64 ac,.int .i64 sz]
theorem mz{k:Nat}{lo hi d:Int}{g:Bool}{ac sz:Int}:(spC k lo hi d g ac sz).all (·.oneCell')=true:=by simp[spC,Value.oneCell']
structure Sp2(w V:World)(r s:Array Value):Prop where
 res:Blk V w.heap.size 29 r
 own:Blk V (w.heap.size+1) 29 s
 below:Below w.heap.size w V
section
variable {w V V':World} {r s:Array Value} {p q:Nat}
theorem Sp2.next(h:Sp2 w V r s)(k:Below V.heap.size V V'):Sp2 w V' r s:=⟨h.res.below k h.res.lt,h.own.below k h.own.lt,h.below.trans (k.mono h.below.size)⟩
theorem Sp2.start(w:World)(r s:Array Value):Sp2 w ((w.alloc (.cells r 29)).alloc (.cells s 29)) r s:=by
 have h1:=Blk.new w 29 r;have h2:=Blk.new (w.alloc (.cells r 29)) 29 s;simp only[World.size_alloc] at h2;exact⟨h1.alloc _,h2,(Ba).alloc os' _⟩
theorem Sp2.put(h:Sp2 w V r s)(j:Nat)(u:Value):Sp2 w (V.setCell ⟨w.heap.size+1,j,none⟩ u) r (s.setIfInBounds j u):=⟨h.res.far (p:=⟨w.heap.size+1,j,none⟩) os' _,h.own.put j u,h.below.setCell os' _⟩
theorem Ag{R:Ending→World→Prop}{b:Act}{W:World}{g:Nat}{cs:Array Value}(h2:b.tmps.getD 2 undef=.pointer (some ⟨g,0,none⟩))(hd:b.defers=[])(hb:Blk W g 29 cs)(hs:cs.size=7)(hR:R (.returned (.agg cs)) W):bodyPost prog Tryz.f74 R .ret b W:=
 bodyPost_ret (v:=.agg cs) (results_cell_row results74 _ _ g 29 cs (0,0) _ h2 hb underlying29 (by rfl) (by rw[hs];kernel_rfl)) hd hR
theorem Lz(hb:Blk w p 103 (zC q))(z:Int)(HC:Hid (∀W,Below w.heap.size w W→Cl 105 #[.pointer (some ⟨q,0,none⟩)] W (Rs (.int .i64 z) W))):
  Cl 74 #[.pointer (some ⟨p,0,none⟩)] w (Rb (.agg (spC 3 0 0 0 false 0 z)) w):=by
 have c0:=hb.c0;have HH:=Oh hb;have OJ:p<w.heap.size:=hb.lt;clear hb;have HS:Hid (Sp2 w ((w.alloc (.cells sz' 29)).alloc (.cells #[.int .u8 3,.int .i64 0,.int .i64 0,.int .i64 0,.bool false,.int .i64 0,.int .i64 0] 29)) sz' #[.int .u8 3,.int .i64 0,.int .i64 0,.int .i64 0,.bool false,.int .i64 0,.int .i64 0]):=Oh (Sp2.start w _ _);go_enter func74,ntmps74;go_upto_region 2 with(fail);have oK:=Oh (HH.out.below HS.out.below OJ);generalize((w.alloc (.cells sz' 29)).alloc (.cells #[.int .u8 3,.int .i64 0,.int .i64 0,.int .i64 0,.bool false,.int .i64 0,.int .i64 0] 29))=w0 at*;have d0:=oK.out.c0;have d1:=oK.out.c3;go_wp2_with fail;refine(HC.out _ HS.out.below).mono ?_;rintro e w1 ⟨rfl,iF⟩;obtain rfl:=iF.symm;have m6:=HS.out.own.c6;have fr:=HS.out.own.free;go_upto_region 10 with(fail);have HT:Hid (Sp2 w (w0.setCell ⟨w.heap.size+1,6,none⟩ (.int .i64 z)) sz' (spC 3 0 0 0 false 0 z)):=Oh (HS.out.put 6 _);generalize w0.setCell ⟨w.heap.size+1,6,none⟩ (.int .i64 z)=w2 at*
 go_wp2_with (first
  |(refine wpList_load_row rfl 29 _ rfl (w.heap.size+1) rfl 29 (spC 3 0 0 0 false 0 z) (0,0) _ HT.out.own underlying29 (by rfl) bq ?_)
  |(refine wpList_store_row rfl 29 _ _ rfl w.heap.size (spC 3 0 0 0 false 0 z) rfl rfl 29 _ HT.out.res bq rfl mz ?_)
  |fail)
 exact kp
theorem Ly(hb:Blk w p 103 (xK q))(z:Int)(HC:Hid (∀W,Below w.heap.size w W→Cl 111 #[.pointer (some ⟨q,0,none⟩)] W (Rs (.int .i64 z) W))):
  Cl 74 #[.pointer (some ⟨p,0,none⟩)] w (Rb (.agg (spC 4 0 0 0 false 0 z)) w):=by
 have c0:=hb.c0;have HH:=Oh hb;have OJ:p<w.heap.size:=hb.lt;clear hb;have HS:Hid (Sp2 w ((w.alloc (.cells sz' 29)).alloc (.cells #[.int .u8 4,.int .i64 0,.int .i64 0,.int .i64 0,.bool false,.int .i64 0,.int .i64 0] 29)) sz' #[.int .u8 4,.int .i64 0,.int .i64 0,.int .i64 0,.bool false,.int .i64 0,.int .i64 0]):=Oh (Sp2.start w _ _);go_enter func74,ntmps74;go_upto_region 2 with(fail);have oK:=Oh (HH.out.below HS.out.below OJ);generalize((w.alloc (.cells sz' 29)).alloc (.cells #[.int .u8 4,.int .i64 0,.int .i64 0,.int .i64 0,.bool false,.int .i64 0,.int .i64 0] 29))=w0 at*;have d0:=oK.out.c0;have d1:=oK.out.c4;go_wp2_with fail;refine(HC.out _ HS.out.below).mono ?_;rintro e w1 ⟨rfl,iF⟩;obtain rfl:=iF.symm;have m6:=HS.out.own.c6;have fr:=HS.out.own.free;go_upto_region 10 with(fail);have HT:Hid (Sp2 w (w0.setCell ⟨w.heap.size+1,6,none⟩ (.int .i64 z)) sz' (spC 4 0 0 0 false 0 z)):=Oh (HS.out.put 6 _);generalize w0.setCell ⟨w.heap.size+1,6,none⟩ (.int .i64 z)=w2 at*
 go_wp2_with (first
  |(refine wpList_load_row rfl 29 _ rfl (w.heap.size+1) rfl 29 (spC 4 0 0 0 false 0 z) (0,0) _ HT.out.own underlying29 (by rfl) bq ?_)
  |(refine wpList_store_row rfl 29 _ _ rfl w.heap.size (spC 4 0 0 0 false 0 z) rfl rfl 29 _ HT.out.res bq rfl mz ?_)
  |fail)
 exact kp
theorem LC(hb:Blk w p 103 (rZ q))(lo hi d:Int)(g:Bool)(HC4:Hid (∀W,Below w.heap.size w W→Cl 95 #[.pointer (some ⟨q,0,none⟩)] W (Rb (.agg #[.int .i64 lo,.int .i64 hi,.int .i64 d]) W)))(HC9:Hid (∀W,Below w.heap.size w W→Cl 96 #[.pointer (some ⟨q,0,none⟩)] W (Rt (.bool g) W))):
  Cl 74 #[.pointer (some ⟨p,0,none⟩)] w (Rb (.agg (spC 1 lo hi d g 0 0)) w):=by
 have c0:=hb.c0;have HH:=Oh hb;have OJ:p<w.heap.size:=hb.lt;have RG:=Oh OJ;clear hb;have HS:Hid (Sp2 w ((w.alloc (.cells sz' 29)).alloc (.cells #[.int .u8 1,.int .i64 0,.int .i64 0,.int .i64 0,.bool false,.int .i64 0,.int .i64 0] 29)) sz' #[.int .u8 1,.int .i64 0,.int .i64 0,.int .i64 0,.bool false,.int .i64 0,.int .i64 0]):=Oh (Sp2.start w _ _);go_enter func74,ntmps74;go_upto_region 2 with(fail);have oK:=Oh (HH.out.below HS.out.below OJ);generalize((w.alloc (.cells sz' 29)).alloc (.cells #[.int .u8 1,.int .i64 0,.int .i64 0,.int .i64 0,.bool false,.int .i64 0,.int .i64 0] 29))=w0 at*;have d0:=oK.out.c0;have d1:=oK.out.c1;go_upto_region 5 with(fail);refine wp_region_noPanic ?_;refine ag (S:=(fun(V:World)=>V.cell? ⟨p,1,none⟩=some (.pointer (some ⟨q,0,none⟩)))) (L:=13) ok' d1 (fun hHeld=>?_);have SY:Hid (Sp2 w w0.drew _ _):=Oh (HS.out.next (Oq _ _).drew);have OL:=Oh oK.out.drew;clear HS oK d0 d1;generalize w0.drew=wd at*;refine tV 0 ?_;refine tV 1 ?_;refine tV 2 ?_;refine tV 3 ?_;refine tV 5 ?_;refine tV 6 ?_;refine tV 7 ?_;refine tV 8 ?_;refine bO 4 fun K hK=>?_;go_simp;refine(HC4.out _ SY.out.below).mono ?_;rintro e v4 ⟨rfl,b4⟩;have OX:=Oh (SY.out.next b4);have oN:=Oh (OL.out.below b4 OL.out.lt);clear b4;have y4:=oN.out.c1;replace hHeld:=y4;refine hK.out _ _ hHeld ?_;clear hK K;try go_simp
 refine tV 10 ?_;refine bO 9 fun K hK=>?_;go_simp;refine(HC9.out _ OX.out.below).mono ?_;rintro e v9 ⟨rfl,Wc⟩;obtain rfl:=Wc;have x1:=oN.out.c1;have fr:=OX.out.own.free;have m1:=OX.out.own.c1;have m2:=OX.out.own.c2;have m3:=OX.out.own.c3;have m4:=OX.out.own.c4;have m5:=OX.out.own.c5;have m6:=OX.out.own.c6;replace hHeld:=x1;refine hK.out _ _ hHeld ?_;clear hK K;try go_simp
 refine bO 11 fun K hK=>?_;go_simp;have OI:=Oh (((OX.out.put 1 (.int .i64 lo)).put 2 (.int .i64 hi)).put 3 (.int .i64 d));have Qt:=Oh (((oN.out.far (p:=⟨w.heap.size+1,1,none⟩) (by have:=RG.out;simp;omega) (.int .i64 lo)).far (p:=⟨w.heap.size+1,2,none⟩) (by have:=RG.out;simp;omega) (.int .i64 hi)).far (p:=⟨w.heap.size+1,3,none⟩) (by have:=RG.out;simp;omega) (.int .i64 d));obtain⟨v11,Se⟩:=nm (((v4.setCell ⟨w.heap.size+1,1,none⟩ (.int .i64 lo)).setCell ⟨w.heap.size+1,2,none⟩ (.int .i64 hi)).setCell ⟨w.heap.size+1,3,none⟩ (.int .i64 d));rw[←Se];rw[←Se] at OI Qt;have a9v:=OI.out.own.free;have m4_:=OI.out.own.c4;have y11:=Qt.out.c1;clear Se;replace hHeld:=y11;refine hK.out _ _ hHeld ?_;clear hK K;try go_simp
 refine tV 12 ?_;refine aL 13 ?_;refine cD ?_;have HT:Hid (Sp2 w (v11.setCell ⟨w.heap.size+1,4,none⟩ (.bool g)) sz' (spC 1 lo hi d g 0 0)):=Oh (OI.out.put 4 _);generalize v11.setCell ⟨w.heap.size+1,4,none⟩ (.bool g)=w2 at*
 go_wp2_with (first
  |(refine wpList_load_row rfl 29 _ rfl (w.heap.size+1) rfl 29 (spC 1 lo hi d g 0 0) (0,0) _ HT.out.own underlying29 (by rfl) bq ?_)
  |(refine wpList_store_row rfl 29 _ _ rfl w.heap.size (spC 1 lo hi d g 0 0) rfl rfl 29 _ HT.out.res bq rfl mz ?_)
  |fail)
 exact kp
theorem LB(hb:Blk w p 103 (xL q))(a m:Int)(HC4:Hid (∀W,Below w.heap.size w W→Cl 99 #[.pointer (some ⟨q,0,none⟩)] W (Rb (.int .i64 a) W)))(HC9:Hid (∀W,Below w.heap.size w W→Cl 100 #[.pointer (some ⟨q,0,none⟩)] W (Rt (.int .i64 m) W))):
  Cl 74 #[.pointer (some ⟨p,0,none⟩)] w (Rb (.agg (spC 2 0 0 0 false a m)) w):=by
 have c0:=hb.c0;have HH:=Oh hb;have OJ:p<w.heap.size:=hb.lt;have RG:=Oh OJ;clear hb;have HS:Hid (Sp2 w ((w.alloc (.cells sz' 29)).alloc (.cells #[.int .u8 2,.int .i64 0,.int .i64 0,.int .i64 0,.bool false,.int .i64 0,.int .i64 0] 29)) sz' #[.int .u8 2,.int .i64 0,.int .i64 0,.int .i64 0,.bool false,.int .i64 0,.int .i64 0]):=Oh (Sp2.start w _ _);go_enter func74,ntmps74;go_upto_region 2 with(fail);have oK:=Oh (HH.out.below HS.out.below OJ);generalize((w.alloc (.cells sz' 29)).alloc (.cells #[.int .u8 2,.int .i64 0,.int .i64 0,.int .i64 0,.bool false,.int .i64 0,.int .i64 0] 29))=w0 at*;have d0:=oK.out.c0;have d1:=oK.out.c2;go_upto_region 7 with(fail);refine wp_region_noPanic ?_;refine ag (S:=(fun(V:World)=>V.cell? ⟨p,2,none⟩=some (.pointer (some ⟨q,0,none⟩)))) (L:=13) ok' d1 (fun hHeld=>?_);have SY:Hid (Sp2 w w0.drew _ _):=Oh (HS.out.next (Oq _ _).drew);have OL:=Oh oK.out.drew;clear HS oK d0 d1;generalize w0.drew=wd at*;refine tV 0 ?_;refine tV 1 ?_;refine tV 2 ?_;refine tV 3 ?_;refine tV 5 ?_;refine tV 6 ?_;refine tV 7 ?_;refine tV 8 ?_;refine bO 4 fun K hK=>?_;go_simp;refine(HC4.out _ SY.out.below).mono ?_;rintro e v4 ⟨rfl,b4⟩;have OX:=Oh (SY.out.next b4);have oN:=Oh (OL.out.below b4 OL.out.lt);clear b4;have y4:=oN.out.c2;replace hHeld:=y4;refine hK.out _ _ hHeld ?_;clear hK K;try go_simp
 refine tV 10 ?_;refine bO 9 fun K hK=>?_;go_simp;refine(HC9.out _ OX.out.below).mono ?_;rintro e v9 ⟨rfl,Wc⟩;obtain rfl:=Wc;have x1:=oN.out.c2;have fr:=OX.out.own.free;have m1:=OX.out.own.c1;have m2:=OX.out.own.c2;have m3:=OX.out.own.c3;have m4:=OX.out.own.c4;have m5:=OX.out.own.c5;have m6:=OX.out.own.c6;replace hHeld:=x1;refine hK.out _ _ hHeld ?_;clear hK K;try go_simp
 refine bO 11 fun K hK=>?_;go_simp;have OI:=Oh (OX.out.put 5 (.int .i64 a));have Qt:=Oh (oN.out.far (p:=⟨w.heap.size+1,5,none⟩) (by have:=RG.out;simp;omega) (.int .i64 a));obtain⟨v11,Se⟩:=nm (v4.setCell ⟨w.heap.size+1,5,none⟩ (.int .i64 a));rw[←Se];rw[←Se] at OI Qt;have a9v:=OI.out.own.free;have m6_:=OI.out.own.c6;have y11:=Qt.out.c2;clear Se;replace hHeld:=y11;refine hK.out _ _ hHeld ?_;clear hK K;try go_simp
 refine tV 12 ?_;refine aL 13 ?_;refine cD ?_;have HT:Hid (Sp2 w (v11.setCell ⟨w.heap.size+1,6,none⟩ (.int .i64 m)) sz' (spC 2 0 0 0 false a m)):=Oh (OI.out.put 6 _);generalize v11.setCell ⟨w.heap.size+1,6,none⟩ (.int .i64 m)=w2 at*
 go_wp2_with (first
  |(refine wpList_load_row rfl 29 _ rfl (w.heap.size+1) rfl 29 (spC 2 0 0 0 false a m) (0,0) _ HT.out.own underlying29 (by rfl) bq ?_)
  |(refine wpList_store_row rfl 29 _ _ rfl w.heap.size (spC 2 0 0 0 false a m) rfl rfl 29 _ HT.out.res bq rfl mz ?_)
  |fail)
 exact kp
end
end Go.Proofs.YtmbippkpjdoojaaGreat
