/- Parts of a proof, merged. -/
import Derived.WalkLawsBesides
import Derived.WalkSpells
import Derived.Deep.AppendLies
import Derived.Lib.SlBytesConst
import Derived.Lib.Strings
import Derived.Handy
import Derived.Deep.RegionHeld3
import Derived.Test.YtmbippkpjdoojaaGreatChecked
import Derived.Test.YtmbippkpjdoojaaGreatF00
set_option maxRecDepth 100000
set_option maxHeartbeats 1600000
namespace Go.Proofs.YtmbippkpjdoojaaGreat
open Tryz
open Go.RowKit
theorem oq{p:Prop}(h:p:=by omega):p:=h
theorem sq{p:Prop}(h:p:=by simp;omega):p:=h
theorem qI(a:Addr)(n:Nat):(a.add n).block=a.block:=by unfold Addr.add;split<;>rfl
theorem C7(a:Addr)(i j:Nat):(a.add i).add j=a.add (i+j):=by
 unfold Addr.add
 by_cases hi:i=0<;>by_cases hj:j=0<;>simp[hi,hj,Nat.add_assoc]
theorem fM(b o j:Nat):(⟨b,o,none⟩:Addr).add j=⟨b,o+j,none⟩:=by simp[Addr.add_lit]
def Blk(w:World)(g:Nat)(t:TypeId)(cs:Array Value):Prop:=w.heap[g]?=some (.cells cs t (0,0))
section
variable {w w':World} {g:Nat} {t:TypeId} {cs:Array Value}
theorem Blk.lt(h:Blk w g t cs):g<w.heap.size:=lt_of_block h
theorem Blk.cell(h:Blk w g t cs)(i:Nat):w.cell? ⟨g,i,none⟩=cs[i]?:=cell_of_row w g i cs t (0,0) h
theorem Blk.free(h:Blk w g t cs)(i:Nat):w.frozen? ⟨g,i,none⟩=false:=by
 unfold Blk at h;simp[World.frozen?,h]
theorem Blk.new(w:World)(t:TypeId)(cs:Array Value):Blk (w.alloc (.cells cs t)) w.heap.size t cs:=heap_alloc_new w _
theorem Blk.drew(h:Blk w g t cs):Blk w.drew g t cs:=h
theorem Blk.drewN(h:Blk w g t cs)(n:Nat):Blk (w.drewN n) g t cs:=h
theorem Blk.alloc(h:Blk w g t cs)(o:Obj):Blk (w.alloc o) g t cs:=(Below.heap_alloc w o g h.lt).trans h
theorem Blk.put(h:Blk w g t cs)(i:Nat)(u:Value):Blk (w.setCell ⟨g,i,none⟩ u) g t (cs.setIfInBounds i u):=by
 unfold Blk at h ⊢;simp[World.setCell,Array.getElem?_modify,h]
theorem Blk.far(h:Blk w g t cs){p:Addr}(hp:g≠p.block)(u:Value):Blk (w.setCell p u) g t cs:=(Below.heap_setCell w p u g hp).trans h
theorem Blk.below{B:Nat}(h:Blk w g t cs)(hb:Below B w w')(hg:g<B):Blk w' g t cs:=(hb.block g hg).trans h
theorem Blk.grown{row:Option Nat}(h:Blk w g t cs)(hb:w.grownBy w' row)(hg:some g≠row):Blk w' g t cs:=(hb.block g h.lt hg).trans h
theorem Blk.ne{g':Nat}{t':TypeId}{cs':Array Value}(h:Blk w g t cs)(h':Blk w g' t' cs')(hne:t≠t'):g≠g':=by
 rintro rfl;unfold Blk at h h';rw[h] at h';injection h' with h'
 injection h' with _ ht
 exact hne ht
end
def am(w:World)(B size:Nat)(A:Option Addr)(n:Nat)(xs:List Value):Prop:=
 xs.length=n*size∧(0<n→∃b o,A=some ⟨b,o,none⟩∧b<B∧∀j u,xs[j]?=some u→w.cell? ⟨b,o+j,none⟩=some u)
section
variable {w w':World} {B B' size n:Nat} {A:Option Addr} {xs:List Value}
theorem am.empty(w:World)(B size:Nat)(A:Option Addr):am w B size A 0 []:=⟨by simp,fun h=>absurd h oq⟩
theorem am.keep(h:am w B size A n xs)(hk:∀p:Addr,p.block<B→w'.cell? p=w.cell? p):am w' B size A n xs:=
 ⟨h.1,fun hn=>by
  obtain⟨b,o,e,hb,hc⟩:=h.2 hn;exact⟨b,o,e,hb,fun j u hu=>(hk _ hb).trans (hc j u hu)⟩⟩
theorem am.more(h:am w B size A n xs)(hB:B≤B'):am w B' size A n xs:=
 ⟨h.1,fun hn=>by
  obtain⟨b,o,e,hb,hc⟩:=h.2 hn;exact⟨b,o,e,oq,hc⟩⟩
theorem am.below(h:am w B size A n xs)(hb:Below B w w'):am w' B size A n xs:=h.keep fun _ hp=>hb.cell hp
theorem am.alloc(h:am w B size A n xs)(hB:B≤w.heap.size)(o:Obj):am (w.alloc o) B size A n xs:=h.keep fun p hp=>World.cell?_alloc_lt w o p oq
theorem am.grown(h:am w B size A n xs){row:Option Nat}(hg:w.grownBy w' row)(hB:B≤w.heap.size)(hr:∀g,row=some g→B≤g):am w' B size A n xs:=
 h.keep fun p hp=>World.cell?_of_block (hg.block p.block oq (fun e=>by have:=hr _ e.symm;omega))
end
theorem am.at_below{w w':World}{size n:Nat}{A:Option Addr}{xs:List Value}(h:am w w.heap.size size A n xs)(hb:Below w.heap.size w w'):am w' w'.heap.size size A n xs:=(h.below hb).more hb.size
def bv(b:UInt8):Value:=.int .u8 (b.toNat:Int)
def bvs(l:List UInt8):List Value:=l.map bv
theorem bj(l:List UInt8):(bvs l).length=l.length:=by simp[bvs]
theorem aE(l m:List UInt8):bvs (l++m)=bvs l++bvs m:=by simp[bvs]
theorem EW(l:List UInt8)(k:Nat):bvs (l.take k)=(bvs l).take k:=by simp[bvs]
theorem EX(l:List UInt8)(k:Nat):bvs (l.drop k)=(bvs l).drop k:=by simp[bvs]
theorem aO(l:List UInt8):∀u∈bvs l,u.oneCell'=true:=by
 intro u hu;obtain⟨_,_,rfl⟩:=List.mem_map.1 hu;rfl
def Bts(w:World)(B:Nat)(A:Option Addr)(l:List UInt8):Prop:=am w B 1 A l.length (bvs l)
section
variable {w w':World} {B B':Nat} {A:Option Addr} {l:List UInt8}
theorem Bts.at_(h:Bts w B A l)(hn:0<l.length):∃b o,A=some ⟨b,o,none⟩∧b<B∧∀j (hj:j<l.length),w.cell? ⟨b,o+j,none⟩=some (.int .u8 (l[j].toNat:Int)):=by
 obtain⟨b,o,e,hb,hc⟩:=h.2 hn;exact⟨b,o,e,hb,fun j hj=>hc j _ (by simp[bvs,bv,hj])⟩
theorem Bts.empty(w:World)(B:Nat)(A:Option Addr):Bts w B A []:=am.empty ..
theorem Bts.more(h:Bts w B A l)(hB:B≤B'):Bts w B' A l:=am.more h hB
theorem Bts.below(h:Bts w B A l)(hb:Below B w w'):Bts w' B A l:=am.below h hb
end
theorem Bts.lit{w:World}{g:Nat}{cs:Array Value}{t:TypeId}{m:Nat×Nat}{l:List UInt8}(h:w.heap[g]?=some (.cells cs t m))(hcs:cs.toList=bvs l):Bts w w.heap.size (some ⟨g,0,none⟩) l:=
 ⟨by simp[bj],fun _=>⟨g,0,rfl,lt_of_block h,fun j u hu=>by
  rw[Nat.zero_add,cell_of_row w g j cs t m h,←hu,←hcs];simp⟩⟩
theorem am.lit{w:World}{g size n:Nat}{cs:Array Value}{t:TypeId}{m:Nat×Nat}{xs:List Value}(h:w.heap[g]?=some (.cells cs t m))(hcs:cs.toList=xs)(hn:xs.length=n*size):am w w.heap.size size (some ⟨g,0,none⟩) n xs:=
 ⟨hn,fun _=>⟨g,0,rfl,lt_of_block h,fun j u hu=>by
  rw[Nat.zero_add,cell_of_row w g j cs t m h,←hu,←hcs];simp⟩⟩
theorem bQ(w:World)(o:Obj):(w.alloc o).heap[w.heap.size]?=some o:=heap_alloc_new w o
theorem Bts.up{w w':World}{B:Nat}{A:Option Addr}{l:List UInt8}(h:Bts w B A l)(hB:B≤w.heap.size)(hb:Below w.heap.size w w'):Bts w' w'.heap.size A l:=
 ((h.more hB).below hb).more hb.size
theorem Bts.at_below{w w':World}{A:Option Addr}{l:List UInt8}(h:Bts w w.heap.size A l)(hb:Below w.heap.size w w'):Bts w' w'.heap.size A l:=h.up (Oi _) hb
def Own(w:World)(base:Nat)(e:TypeId)(size:Nat)(A:Option Addr)(n c:Nat)(xs:List Value):Prop:=w.ownsRow base e size (.slice A n c) n xs
def aa(A:Option Addr):Option Nat:=A.map (·.block)
theorem ay(A:Option Addr)(n c:Nat):(Value.slice A n c).ownBlock=aa A:=by cases A<;>rfl
section
variable {w w':World} {base:Nat} {e:TypeId} {size:Nat} {A:Option Addr} {n c:Nat} {xs:List Value}
theorem ja{v:Value}(h:w.ownsRow base e size v n xs):∃A c,v=.slice A n c:=by
 rcases h.2 with⟨rfl,rfl⟩|⟨g,cap,cur,rfl,_⟩
 ·exact⟨none,0,rfl⟩
 ·exact⟨_,_,rfl⟩
theorem Own.nil(w:World)(base:Nat)(e:TypeId)(size:Nat):Own w base e size none 0 0 []:=World.ownsRow_nil w base e size
theorem Own.made(w:World)(base:Nat)(e:TypeId)(size:Nat)(cs:Array Value)(n:Nat)(hb:base≤w.heap.size)(hm:n≤maxLen)(hs:cs.size=n*size):
  Own (w.alloc (.cells cs e)) base e size (some ⟨w.heap.size,0,none⟩) n n cs.toList:=World.ownsRow_lit w cs n hb hm hs
theorem Own.len(h:Own w base e size A n c xs):xs.length=n*size:=h.1
theorem Own.reads(h:Own w base e size A n c xs):am w w.heap.size size A n xs:=by
 refine⟨h.1,fun hn=>?_⟩;rcases h.2 with⟨_,h0⟩|⟨g,cap,cur,hv,_,hg,Sm,Qb,hcs,PV⟩
 ·omega
 ·injection hv with hA _ _
  subst hA
  exact⟨g,0,rfl,lt_of_block hg,fun j u hu=>by
   rw[Nat.zero_add,cell_of_row w g j cur e (0,0) hg];rw[←PV,List.getElem?_take] at hu;split at hu
   ·simpa using hu
   ·cases hu⟩
theorem Own.form(h:Own w base e size A n c xs)(hn:0<n):∃g,A=some ⟨g,0,none⟩∧base≤g∧g<w.heap.size∧n≤c∧(∀j u,xs[j]?=some u→w.cell? ⟨g,j,none⟩=some u)∧∀j,w.frozen? ⟨g,j,none⟩=false:=by
 have hh:=h;rcases h.2 with⟨_,h0⟩|⟨g,cap,cur,hv,hb,hg,Sm,Qb,hcs,PV⟩
 ·omega
 ·injection hv with hA _ hc
  subst hA;subst hc;refine⟨g,rfl,hb,lt_of_block hg,Sm,fun j u hu=>?_,World.ownsRow.frozenAt hh⟩;rw[cell_of_row w g j cur e (0,0) hg];rw[←PV,List.getElem?_take] at hu;split at hu
  ·simpa using hu
  ·cases hu
theorem Own.stored{g:Nat}(h:Own w base e size (some ⟨g,0,none⟩) n c xs)(j:Nat)(u:Value):Own (w.setCell ⟨g,j,none⟩ u) base e size (some ⟨g,0,none⟩) n c (xs.set j u):=(World.ownsRow.stored h j u).1
theorem Own.kept{row:Option Nat}(h:Own w base e size A n c xs)(hg:w.grownBy w' row)(hne:aa A=none∨aa A≠row):Own w' base e size A n c xs:=
 World.ownsRow.kept h hg (by rw[ay];exact hne)
theorem Own.alloc(h:Own w base e size A n c xs)(o:Obj):Own (w.alloc o) base e size A n c xs:=World.ownsRow.alloc h o
theorem Own.drew(h:Own w base e size A n c xs):Own w.drew base e size A n c xs:=h
theorem Own.block(h:Own w base e size A n c xs){g:Nat}(hg:aa A=some g):base≤g∧g<w.heap.size:=World.ownsRow.lt h g (by rw[ay];exact hg)
theorem Own.below(h:Own w base e size A n c xs)(hb:Below w.heap.size w w'):Own w' base e size A n c xs:=
 h.kept (row:=none) ⟨hb.os,hb.tape,hb.output,hb.size,fun k hk _=>hb.block k hk⟩ (by cases A<;>simp[aa])
theorem Own.setOther(h:Own w base e size A n c xs){p:Addr}(hp:aa A≠some p.block)(u:Value):Own (w.setCell p u) base e size A n c xs:=
 ownsRow_setCell_other h (by rw[ay];exact hp) u
theorem Own.ne_blk{g:Nat}{t:TypeId}{cs:Array Value}(h:Own w base e size A n c xs)(hg:Blk w g t cs)(hne:e≠t):aa A≠some g:=by
 rcases h.2 with⟨hv,_⟩|⟨g',cap,cur,hv,_,hh,_⟩
 ·injection hv with hA _ _
  subst hA;simp[aa]
 ·injection hv with hA _ _
  subst hA;intro he;have:g'=g:=by simpa [aa] using he
  subst this;exact Blk.ne (t:=e) hh hg hne rfl
theorem Own.mono{Rc:Nat}(h:Own w base e size A n c xs)(hb:Rc≤base):Own w Rc e size A n c xs:=by
 refine⟨h.1,?_⟩;rcases h.2 with h0|⟨g,cap,cur,hv,hg,r⟩
 ·exact .inl h0
 ·exact .inr ⟨g,cap,cur,hv,oq,r⟩
end
def fH(P:Program)(t e:TypeId)(size bytes:Nat):Prop:=
 P.underlying t=some (.slice e)∧∃i z,P.info? e=some i∧i.zero=some z∧i.size=size∧i.bytes=bytes∧z.cells.size=size∧0<size
theorem cy{P:Program}{t e:TypeId}{z:Value}{size bytes:Nat}(ht:P.underlying t=some (.slice e))(h:(P.info? e).map (fun i=>(i.zero,i.size,i.bytes))=some (some z,size,bytes))(hz:z.cells.size=size)(hs:0<size):fH P t e size bytes:=by
 obtain⟨i,hi,h0,h1,h2⟩:=info_parts h;exact⟨ht,i,z,hi,h0,h1,h2,hz,hs⟩
section
variable {P:Program} {w:World}
theorem sI{base:Nat}{t ty e:TypeId}{size bytes:Nat}(hE:fH P t e size bytes){v:Value}{n:Nat}{xs:List Value}(hown:w.ownsRow base e size v n xs)(c:Nat):(Builtin.append_ #[t,t] ty #[v,.slice none 0 c]).run P w=.ok v w:=by
 obtain⟨ht,i,z,hi,hz,OP,Vk,UK,Is⟩:=hE;rcases hown.2 with⟨rfl,rfl⟩|⟨g,cap,cur,rfl,_,_,Sm,_⟩
 ·simp[Builtin.append_,run_underlying ht,sizeOf,typeInfo,hi,Builtin.lenOf,Builtin.firstCells]
 ·simp[Builtin.append_,run_underlying ht,sizeOf,typeInfo,hi,Builtin.lenOf,Builtin.firstCells,Sm,storeCells]
theorem GY{base:Nat}{t ty e:TypeId}{size bytes:Nat}(hE:fH P t e size bytes){A:Option Addr}{n c:Nat}{xs:List Value}(hown:Own w base e size A n c xs){B:Nat}{D:Option Addr}{m c2:Nat}{news:List Value}(hr:am w B size D m news)(h1:∀u∈news,u.oneCell'=true)(TH:n+m≤maxLen)(OD:(n+m)*bytes≤140737488355328)(oF:base≤w.heap.size):
  ∃A' c' w',(Builtin.append_ #[t,t] ty #[.slice A n c,.slice D m c2]).run P w=.ok (.slice A' (n+m) c') w'∧Own w' base e size A' (n+m) c' (xs++news)∧w.grownBy w' (aa A)∧
   (aa A'=aa A∨aa A'=some w.heap.size):=by
 have hE':=hE;obtain⟨ht,i,z,hi,hz,OP,Vk,UK,Is⟩:=hE'
 have core:∃v' w',(Builtin.append_ #[t,t] ty #[.slice A n c,.slice D m c2]).run P w=.ok v' w'∧w'.ownsRow base e size v' (n+m) (xs++news)∧w.grownBy w' (aa A)∧(v'.ownBlock=aa A∨v'.ownBlock=some w.heap.size):=by
  rcases D with _|ad
  ·have hm:m=0:=by
    rcases Nat.eq_zero_or_pos m with h0|h0
    ·exact h0
    ·obtain⟨_,_,h,_⟩:=hr.2 h0;cases h
   subst hm;have hn:news=[]:=List.eq_nil_of_length_eq_zero (by simpa using hr.1);subst hn;exact⟨_,w,sI hE hown c2,by simpa [Own] using hown,⟨rfl,rfl,rfl,Oi _,fun _ _ _=>rfl⟩,.inl (ay _ _ _)⟩
  ·have a1w:∀j u,news[j]?=some u→w.cell? (ad.add j)=some u:=by
    intro j u hu;rcases Nat.eq_zero_or_pos m with h0|h0
    ·subst h0;have hn:news=[]:=List.eq_nil_of_length_eq_zero (by simpa using hr.1);subst hn;simp at hu
    ·obtain⟨b,o,h,_,hc⟩:=hr.2 h0;injection h with h
     subst h;rw[fM];exact hc j u hu
   obtain⟨v',w',iN,h2,h3,_,h5⟩:=run_append_own_at (P:=P) w base t ty e i z size bytes ht hi hz OP Vk UK Is _ n xs hown ad m c2 news hr.1 a1w h1 TH OD oF;rw[ay] at h3 h5;exact⟨v',w',iN,h2,h3,h5⟩
 obtain⟨v',w',iN,h2,h3,h4⟩:=core;obtain⟨A',c',rfl⟩:=ja h2;rw[ay] at h4;exact⟨A',c',w',iN,h2,h3,h4⟩
theorem Ff{o:Oper}{a:Act}{K:Act→World→Prop}{Q:Exit→Act→World→Prop}{s x:Operand}{t:TypeId}(ho:o.op=.call {callee:=.builtin .append,args:=#[s,x],argTypes:=#[t,t]}){base:Nat}{e:TypeId}{size bytes:Nat}(hE:fH P t e size bytes){A:Option Addr}{n c:Nat}{xs:List Value}(hs:a.eval s=.slice A n c)(hown:Own w base e size A n c xs){B:Nat}{D:Option Addr}{m c2:Nat}{news:List Value}(hx:a.eval x=.slice D m c2)(hr:am w B size D m news)(h1:∀u∈news,u.oneCell'=true)(k:Nat)(hk:n+m=k)(ys:List Value)(hy:xs++news=ys)(TH:k≤maxLen)(OD:k*bytes≤140737488355328)(oF:base≤w.heap.size)(h:∀A' c' w',Own w' base e size A' k c' ys→w.grownBy w' (aa A)→(aa A'=aa A∨aa A'=some w.heap.size)→K (a.put o.dst (.slice A' k c')) w'):o.wp P a w K Q:=by
 subst hk;subst hy;obtain⟨A',c',w',iN,h2,h3,h4⟩:=GY (ty:=o.type) hE hown (c2:=c2) hr h1 TH OD oF;unfold Oper.wp execOp;simp only[ho,resolve,invoke,builtin,Sem.run_bind,Sem.run_pure,Result.andThen_ok,List.map_toArray,List.map_cons,List.map_nil,hs,hx,iN];exact h A' c' w' h2 h3 h4
theorem aj{ops:Array Oper}{rest:List Oper}{o:Oper}{a:Act}{Q:Exit→Act→World→Prop}(PB:o.guard=none){s x:Operand}{t:TypeId}(ho:o.op=.call {callee:=.builtin .append,args:=#[s,x],argTypes:=#[t,t]}){base:Nat}{e:TypeId}{size bytes:Nat}(hE:fH P t e size bytes){A:Option Addr}{n c:Nat}{xs:List Value}(hs:a.eval s=.slice A n c)(hown:Own w base e size A n c xs){B:Nat}{D:Option Addr}{m c2:Nat}{news:List Value}(hx:a.eval x=.slice D m c2)(hr:am w B size D m news)(h1:∀u∈news,u.oneCell'=true)(k:Nat)(hk:n+m=k)(ys:List Value)(hy:xs++news=ys)(TH:k≤maxLen)(OD:k*bytes≤140737488355328)(oF:base≤w.heap.size)(h:∀A' c' w',Own w' base e size A' k c' ys→w.grownBy w' (aa A)→(aa A'=aa A∨aa A'=some w.heap.size)→wpList P ops Q rest (a.put o.dst (.slice A' k c')) w'):Hid (wpList P ops Q (o::rest) a w):=
 Oh (wpList_plain PB fun _ hK=>Ff ho hE hs hown hx hr h1 k hk ys hy TH OD oF fun A' c' w' h2 h3 h4=>hK _ _ (h A' c' w' h2 h3 h4))
end
theorem wD{B:Nat}{a w w':World}{base:Nat}{e:TypeId}{size:Nat}{A:Option Addr}{n c:Nat}{xs:List Value}(h:Below B a w)(hown:Own w base e size A n c xs)(hg:w.grownBy w' (aa A))(hB:B≤base)(hw:B≤w.heap.size):Below B a w':=
 h.grown hg hw (fun _ hk=>Oo hB (hown.block hk).1)
def str(l:List UInt8):ByteArray:=⟨l.toArray⟩
theorem yt{P:Program}{w:World}{src dst e:TypeId}{B:Nat}{A:Option Addr}{l:List UInt8}{n c:Nat}(hs:P.underlying src=some (.slice e))(he:P.underlying e=some (.int .u8))(hd:P.underlying dst=some .string)(hr:am w B 1 A n (bvs l)):(convert src dst (.slice A n c)).run P w=.ok (.string (str l)) w:=by
 have hn:l.length=n:=by have:=hr.1;rw[bj] at this;omega
 subst hn;rcases Nat.eq_zero_or_pos l.length with h0|h0
 ·have hl:l=[]:=List.eq_nil_of_length_eq_zero h0;subst hl;rcases A with _|a
  ·exact run_convert_bytes_nil w src e hs he _ _ dst hd
  ·exact run_convert_bytes_back w src dst e a c [] hs he hd (fun j hj=>absurd hj (by simp))
 ·obtain⟨b,o,rfl,_,hc⟩:=hr.2 h0;refine run_convert_bytes_back w src dst e _ c l hs he hd fun j hj=>?_;rw[fM];exact hc j _ (by simp[bvs,bv,hj])
theorem ai{a b c:World}(h:Below a.heap.size a b)(k:Below b.heap.size b c):Below a.heap.size a c:=h.trans (k.mono h.size)
theorem fG{a w:World}(h:Below a.heap.size a w)(o:Obj):Below a.heap.size a (w.alloc o):=h.alloc h.size _
theorem Dn(w:World)(row:Option Nat):w.grownBy w row:=⟨rfl,rfl,rfl,Oi _,fun _ _ _=>rfl⟩
theorem Dp{a w:World}{row:Option Nat}(h:a.grownBy w row):a.grownBy w.drew row:=⟨h.os,h.tape,h.output,h.size,h.block⟩
theorem Hq{a w:World}{g:Nat}(h:a.grownBy w (some g)){p:Addr}(hp:p.block=g∨a.heap.size≤p.block)(u:Value):a.grownBy (w.setCell p u) (some g):=
 ⟨h.os,h.tape,h.output,by simpa [World.setCell] using h.size,fun i hi hne=>(Below.heap_setCell w p u i (by
  rintro rfl;rcases hp with hp|hp
  ·exact hne (by rw[hp])
  ·omega)).trans (h.block i hi hne)⟩
theorem N8{a w:World}{g:Nat}(h:a.grownBy w (some g)){B:Nat}(hB:B≤g)(Qw:B≤a.heap.size):Below B a w:=
 ⟨h.os,h.tape,h.output,h.size,fun k hk=>h.block k oq (fun e=>by injection e with e;omega)⟩
theorem mD{k:IntKind}{a b:Int}(h:a=b):Ending.returned (.int k a)=.returned (.int k b):=by rw[h]
theorem ae{B:Nat}{a w:World}(h:Below B a w)(n:Nat):Below B a (w.drewN n):=⟨h.os,h.tape,h.output,h.size,h.block⟩
structure ab(K:Nat→Prop)(w w':World):Prop where
 os:w'.os=w.os
 tape:w'.tape=w.tape
 output:w'.output=w.output
 size:w.heap.size≤w'.heap.size
 block:∀k,k<w.heap.size→¬K k→w'.heap[k]?=w.heap[k]?
section
variable {K J:Nat→Prop} {a b w:World}
theorem ab.refl(K:Nat→Prop)(w:World):ab K w w:=⟨rfl,rfl,rfl,Oi _,fun _ _ _=>rfl⟩
theorem ab.trans(h:ab K a b)(k:ab K b w):ab K a w:=
 ⟨k.os.trans h.os,k.tape.trans h.tape,k.output.trans h.output,Oo h.size k.size,fun i hi hn=>(k.block i (Nat.lt_of_lt_of_le hi h.size) hn).trans (h.block i hi hn)⟩
theorem ab.step(h:ab K a b)(k:ab J b w)(hJ:∀i,J i→K i∨a.heap.size≤i):ab K a w:=
 ⟨k.os.trans h.os,k.tape.trans h.tape,k.output.trans h.output,Oo h.size k.size,fun i hi hn=>(k.block i (Nat.lt_of_lt_of_le hi h.size) (fun hj=>by
  rcases hJ i hj with h1|h1
  ·exact hn h1
  ·omega)).trans (h.block i hi hn)⟩
theorem ab.mono(h:ab J a b)(hJ:∀i,J i→K i):ab K a b:=⟨h.os,h.tape,h.output,h.size,fun i hi hn=>h.block i hi (fun hj=>hn (hJ i hj))⟩
theorem ab.drew(h:ab K a w):ab K a w.drew:=⟨h.os,h.tape,h.output,h.size,h.block⟩
theorem ab.drewN(h:ab K a w)(n:Nat):ab K a (w.drewN n):=⟨h.os,h.tape,h.output,h.size,h.block⟩
theorem ab.alloc(h:ab K a w)(o:Obj):ab K a (w.alloc o):=
 ⟨h.os,h.tape,h.output,Oo h.size (by simp),fun i hi hn=>(Below.heap_alloc w o i (Nat.lt_of_lt_of_le hi h.size)).trans (h.block i hi hn)⟩
theorem ab.set(h:ab K a w){p:Addr}(hp:K p.block∨a.heap.size≤p.block)(u:Value):ab K a (w.setCell p u):=
 ⟨h.os,h.tape,h.output,by simpa [World.setCell] using h.size,fun i hi hn=>(Below.heap_setCell w p u i (by
  rintro rfl;rcases hp with hp|hp
  ·exact hn hp
  ·omega)).trans (h.block i hi hn)⟩
theorem ab.of_grown{row:Option Nat}(h:a.grownBy w row):ab (fun i=>row=some i) a w:=⟨h.os,h.tape,h.output,h.size,fun i hi hn=>h.block i hi (fun e=>hn e.symm)⟩
theorem ab.of_below(h:Below a.heap.size a w):ab K a w:=⟨h.os,h.tape,h.output,h.size,fun i hi _=>h.block i hi⟩
theorem ab.below{B:Nat}(h:ab K a w)(hB:B≤a.heap.size)(hK:∀i,K i→B≤i):Below B a w:=⟨h.os,h.tape,h.output,h.size,fun i hi=>h.block i oq (fun hk=>by have:=hK i hk;omega)⟩
theorem Blk.only{g:Nat}{t:TypeId}{cs:Array Value}(h:Blk a g t cs)(k:ab K a w)(hg:¬K g):Blk w g t cs:=(k.block g h.lt hg).trans h
theorem Own.only{base:Nat}{e:TypeId}{size:Nat}{A:Option Addr}{n c:Nat}{xs:List Value}(h:Own a base e size A n c xs)(k:ab K a w)(hA:∀g,aa A=some g→¬K g):Own w base e size A n c xs:=by
 refine⟨h.1,?_⟩;rcases h.2 with h0|⟨g,cap,cur,hv,hg,hh,r⟩
 ·exact .inl h0
 ·refine .inr ⟨g,cap,cur,hv,hg,?_,r⟩;injection hv with TI _ _
  rw[k.block g (lt_of_block hh) (hA g (by rw[TI];rfl))];exact hh
end
theorem bo{P:Program}{w:World}{ops:Array Oper}{o:Oper}{a:Act}{K:Act→World→Prop}{Q:Exit→Act→World→Prop}{E:Prop}(PB:o.guard=none){s x:Operand}{t:TypeId}(ho:o.op=.call {callee:=.builtin .append,args:=#[s,x],argTypes:=#[t,t]}){base:Nat}{e:TypeId}{size bytes:Nat}(hE:fH P t e size bytes){A:Option Addr}{n c:Nat}{xs:List Value}(hs:a.eval s=.slice A n c)(hown:Own w base e size A n c xs){B:Nat}{D:Option Addr}{m c2:Nat}{news:List Value}(hx:a.eval x=.slice D m c2)(hr:am w B size D m news)(h1:∀u∈news,u.oneCell'=true)(k:Nat)(hk:n+m=k)(ys:List Value)(hy:xs++news=ys)(TH:k≤maxLen)(OD:k*bytes≤140737488355328)(oF:base≤w.heap.size)(h:∀A' c' w',Own w' base e size A' k c' ys→w.grownBy w' (aa A)→(aa A'=aa A∨aa A'=some w.heap.size)→K (a.put o.dst (.slice A' k c')) w'):
  if Region.wanted o (yielded ops a.tmps)=true then Oper.wp P o a w K Q else E:=by
 have hw:Region.wanted o (yielded ops a.tmps)=true:=by simp[Region.wanted,PB]
 rw[if_pos hw];exact Ff ho hE hs hown hx hr h1 k hk ys hy TH OD oF h
theorem j8{P:Program}{t e:TypeId}{z:Value}{size bytes:Nat}(ht:P.underlying t=some (.slice e))(h:(P.info? e).map (fun i=>(i.zero,i.size,i.bytes))=some (some z,size,bytes))(kl kc:IntKind)(n:Nat)(hb:bytes*n≤281474976710656)(TH:n≤9223372036854775807)(w:World):
  (Instr.makeSlice t (.int kl (n:Int)) (.int kc (n:Int))).run P w=.ok (.slice (some ⟨w.heap.size,0,none⟩) n n) (w.alloc (.cells (madeCells z.cells (n*size)) e)):=by
 obtain⟨i,hi,h0,h1,h2⟩:=info_parts h;subst h1;subst h2
 have aT:(i.bytes:Int)*(n:Int)≤281474976710656:=by
  have hh:((i.bytes*n:Nat):Int)≤281474976710656:=oq
  rwa [Int.natCast_mul] at hh
 have hr:=run_make (P:=P) w t e i z ht hi h0 kl kc n n oq oq aT oq;simp only[Int.toNat_natCast] at hr;exact hr
theorem Own.made'{W:World}{n:Nat}(base:Nat)(e:TypeId)(size:Nat)(cs:Array Value)(k:Nat)(hn:W.heap.size=n)(hb:base≤n)(hm:k≤maxLen)(hs:cs.size=k*size):
  Own (W.alloc (.cells cs e)) base e size (some ⟨n,0,none⟩) k k cs.toList:=by
 subst hn;exact Own.made W base e size cs k hb hm hs
section
variable {w:World} {g:Nat} {t:TypeId}
theorem Blk.ce{cs:Array Value}(h:Blk w g t cs){k:Nat}{v:Value}(e:cs[k]?=some v:=by rfl):w.cell? ⟨g,k,none⟩=some v:=(h.cell k).trans e
theorem Blk.c0{x0:Value}{z:List Value}(h:Blk w g t (List.toArray (x0::z))):w.cell? ⟨g,0,none⟩=some x0:=h.ce
theorem Blk.c1{x0 x1:Value}{z:List Value}(h:Blk w g t (List.toArray (x0::x1::z))):w.cell? ⟨g,1,none⟩=some x1:=h.ce
theorem Blk.c2{x0 x1 x2:Value}{z:List Value}(h:Blk w g t (List.toArray (x0::x1::x2::z))):w.cell? ⟨g,2,none⟩=some x2:=h.ce
theorem Blk.c3{x0 x1 x2 x3:Value}{z:List Value}(h:Blk w g t (List.toArray (x0::x1::x2::x3::z))):w.cell? ⟨g,3,none⟩=some x3:=h.ce
theorem Blk.c4{x0 x1 x2 x3 x4:Value}{z:List Value}(h:Blk w g t (List.toArray (x0::x1::x2::x3::x4::z))):w.cell? ⟨g,4,none⟩=some x4:=h.ce
theorem Blk.c5{x0 x1 x2 x3 x4 x5:Value}{z:List Value}(h:Blk w g t (List.toArray (x0::x1::x2::x3::x4::x5::z))):w.cell? ⟨g,5,none⟩=some x5:=h.ce
theorem Blk.c6{x0 x1 x2 x3 x4 x5 x6:Value}{z:List Value}(h:Blk w g t (List.toArray (x0::x1::x2::x3::x4::x5::x6::z))):w.cell? ⟨g,6,none⟩=some x6:=h.ce
theorem Blk.c7{x0 x1 x2 x3 x4 x5 x6 x7:Value}{z:List Value}(h:Blk w g t (List.toArray (x0::x1::x2::x3::x4::x5::x6::x7::z))):w.cell? ⟨g,7,none⟩=some x7:=h.ce
theorem Blk.c8{x0 x1 x2 x3 x4 x5 x6 x7 x8:Value}{z:List Value}(h:Blk w g t (List.toArray (x0::x1::x2::x3::x4::x5::x6::x7::x8::z))):w.cell? ⟨g,8,none⟩=some x8:=h.ce
theorem Blk.c9{x0 x1 x2 x3 x4 x5 x6 x7 x8 x9:Value}{z:List Value}(h:Blk w g t (List.toArray (x0::x1::x2::x3::x4::x5::x6::x7::x8::x9::z))):w.cell? ⟨g,9,none⟩=some x9:=h.ce
end
section
variable {P:Program} {ops:Array Oper} {Q:Exit→Act→World→Prop} {md:Region.Mode} {S:World→Prop} {fuel:Nat} {listed:Array Bool} {a:Act} {w:World}
theorem dQ(i:Nat){o:Oper}(h:∀K':Act→World→Prop,Shut (∀a w,S w→(S w→wpAnyH P md ops Q S fuel (listed.setIfInBounds i true) a w)→K' a w)→if Region.wanted o (yielded ops a.tmps)=true then Oper.wp P o a w K' Q else K' (a.put o.dst undef) w)(ho:ops[i]?=some o:=by simp only[List.getElem?_toArray,List.getElem?_cons_succ,List.getElem?_cons_zero];rfl)(hr:Region.ready md ops listed=[i]:=by kernel_rfl):
  wpAnyH P md ops Q S (fuel+1) listed a w:=wpAnyH_ready hr (by simp) (AllReadyH.cons ho h AllReadyH.nil)
theorem jR(h:Q .normal a w)(hr:Region.ready md ops listed=[]:=by kernel_rfl):wpAnyH P md ops (NoPanic Q) S fuel listed a w:=wpAnyH_done hr (NoPanic.normal h) _
theorem cD(h:Q .normal a w)(hr:Region.ready md ops listed=[]:=by kernel_rfl):wpAny P md ops (NoPanic Q) fuel listed a w:=wpAny_done hr (NoPanic.normal h) _
end
section
variable {P:Program} {ops:Array Oper} {Q:Exit→Act→World→Prop} {md:Region.Mode} {S:World→Prop} {L:Nat}
def awaits(md:Region.Mode)(ops:Array Oper)(i:Nat):Nat→Nat→Bool
 |0,_=>false
 |n+1,j=>match ops[j]? with
  |none=>false
  |some o=>o.after.any fun e=>Region.binds md e&&(e.on==i||awaits md ops i n e.on)
def jF(md:Region.Mode)(ops:Array Oper)(listed:Array Bool):Prop:=∀k o,ops[k]?=some o→listed.getD k false=true→∀e∈o.after,Region.binds md e=true→listed.getD e.on false=true
def py(md:Region.Mode)(ops:Array Oper)(listed:Array Bool):Bool:=(List.range ops.size).all fun k=>!(listed.getD k false)||match ops[k]? with
 |none=>true
 |some o=>o.after.all fun e=>!(Region.binds md e)||listed.getD e.on false
theorem yZ{listed:Array Bool}(h:py md ops listed=true):jF md ops listed:=by
 intro k o hk hl e he hb;unfold py at h;rw[List.all_eq_true] at h;have h1:=h k (List.mem_range.2 (Array.getElem?_eq_some_iff.1 hk).1);rw[hl,hk] at h1;simp only[Bool.not_true,Bool.false_or] at h1;rw[Array.all_eq_true'] at h1;have h2:=h1 e he;rw[hb] at h2;simpa using h2
theorem jF.step{listed:Array Bool}{j:Nat}(h:jF md ops listed)(hj:j∈Region.ready md ops listed):jF md ops (listed.setIfInBounds j true):=by
 intro k o hk hl e he hb;refine getD_set_true ?_
 by_cases PO:j=k
 ·subst PO;obtain⟨_,oj,VO,lT⟩:=mem_ready.1 hj;rw[VO] at hk;injection hk with hk
  subst hk;exact lT e he hb
 ·rw[getD_set_ne false PO] at hl;exact h k o hk hl e he hb
theorem pL{listed:Array Bool}{i:Nat}(hg:jF md ops listed):∀(n j:Nat) (o:Oper),awaits md ops i n j=true→ops[j]?=some o→(∀e∈o.after,Region.binds md e=true→listed.getD e.on false=true)→listed.getD i false=true:=by
 intro n
 induction n with
 |zero=>intro j o h;simp[awaits] at h
 |succ n ih=>
  intro j o h hj lT;simp only[awaits,hj] at h;rw[Array.any_eq_true'] at h;obtain⟨e,he,h2⟩:=h;simp only[Bool.and_eq_true,Bool.or_eq_true,beq_iff_eq] at h2;obtain⟨hb,h3⟩:=h2;have hl:=lT e he hb;rcases h3 with h3|h3
  ·rw[←h3];exact hl
  ·cases hk:ops[e.on]? with
   |none=>
    cases n with
    |zero=>simp[awaits] at h3
    |succ n=>simp[awaits,hk] at h3
   |some o2=>exact ih e.on o2 h3 hk (fun e2 RU aT=>hg e.on o2 hk hl e2 RU aT)
theorem qk{listed:Array Bool}{i n:Nat}(hg:jF md ops listed)(ha:awaits md ops i n L=true)(Vl:listed.getD i true=false):¬L∈Region.ready md ops listed:=by
 intro h;obtain⟨_,o,ho,lT⟩:=mem_ready.1 h;have h1:=pL hg n L o ha ho lT;rcases Nat.lt_or_ge i listed.size with h'|h'
 ·simp[h'] at Vl h1;rw[Vl] at h1;cases h1
 ·simp[Array.getElem?_eq_none h'] at h1
def dy(P:Program)(md:Region.Mode)(ops:Array Oper)(Q:Exit→Act→World→Prop)(S:World→Prop)(L:Nat):Nat→Array Bool→Act→World→Prop
 |0,listed,a,w=>Region.ready md ops listed=[]∧Q .normal a w
 |fuel+1,listed,a,w=>
  (Region.ready md ops listed=[]→Q .normal a w)∧
  ∀i∈Region.ready md ops listed,wpOp P ops Q i (fun a' w'=>(i≠L→S w')∧dy P md ops Q S L fuel (listed.setIfInBounds i true) a' w') a w
theorem mV:∀(fuel:Nat) (listed:Array Bool) (a:Act) (w:World),dy P md ops Q S L fuel listed a w→wpAny P md ops Q fuel listed a w
 |0,_,_,_,h=>h
 |fuel+1,_,_,_,h=>⟨h.1,fun i hi=>wpOp_mono (fun a' w' h'=>mV fuel _ a' w' h'.2) (h.2 i hi)⟩
theorem qR{i n:Nat}{oi:Oper}{v:Value}(hi:ops[i]?=some oi)(SP:∀(j:Nat) (o:Oper) cs b,ops[j]?=some o→o.op≠.select cs b)(hQ:∀c a w,Q (.panic c) (a.put oi.dst v) w→Q (.panic c) a w)(ha:awaits md ops i n L=true):
  ∀(fuel:Nat) (listed:Array Bool) (a:Act) (w:World),jF md ops listed→
   (∀j oj,ops[j]?=some oj→j≠i→listed.getD j true=false→(∀e∈oj.after,Region.binds md e=true→e.on≠i)→oi.apart ops oj=true)→
   i∈Region.ready md ops listed→YieldsIf P ops S oi v a→S w→
   dy P md ops Q S L fuel (listed.setIfInBounds i true) (a.put oi.dst v) w→dy P md ops Q S L (fuel+1) listed a w:=by
 intro fuel
 induction fuel with
 |zero=>
  intro listed a w _ _ hr hy hS H;refine⟨fun h=>(by rw[h] at hr;cases hr),fun j hj=>?_⟩
  by_cases PQ:j=i
  ·subst PQ;exact hy.wpOp hi hS ⟨fun _=>hS,H⟩
  ·have:=ready_mono hj PQ;rw[H.1] at this;cases this
 |succ fuel ih=>
  intro listed a w hg hfree hr hy hS H;refine⟨fun h=>(by rw[h] at hr;cases hr),fun j hj=>?_⟩
  by_cases PQ:j=i
  ·subst PQ;exact hy.wpOp hi hS ⟨fun _=>hS,H⟩
  ·have hjL:j≠L:=by
    rintro rfl;exact qk hg ha (mem_ready.1 hr).1 hj
   have h1:=H.2 j (ready_mono hj PQ);obtain⟨TJ,oj,VO,lT⟩:=mem_ready.1 hj
   have Xu:∀e∈oj.after,Region.binds md e=true→e.on≠i:=fun e he hb heq=>by
    have h1:=lT e he hb;have h0:=(mem_ready.1 hr).1;rw[heq] at h1;rcases Nat.lt_or_ge i listed.size with h'|h'
    ·simp[h'] at h0 h1;rw[h0] at h1;cases h1
    ·simp[Array.getElem?_eq_none h'] at h1
   have h2:=wpOp_putIf VO (hfree j oj VO PQ TJ Xu) (fun cs b=>SP i oi cs b hi) (fun cs b=>SP j oj cs b VO) hQ hy h1
   have Qn:∀k ok,ops[k]?=some ok→k≠i→(listed.setIfInBounds j true).getD k true=false→
     (∀e∈ok.after,Region.binds md e=true→e.on≠i)→oi.apart ops ok=true:=fun k ok hk YR Vl Qc=>by
    refine hfree k ok hk YR ?_ Qc
    by_cases PO:j=k
    ·subst PO;exact TJ
    ·rw[getD_set_ne true PO] at Vl;exact Vl
   refine wpOp_mono (fun a' w' h3=>⟨h3.2.1,ih (listed.setIfInBounds j true) a' w' (hg.step hj) Qn (ready_mono hr (Ne.symm PQ)) h3.1 (h3.2.1 hjL) ?_⟩) h2;rw[Array.setIfInBounds_comm _ _ PQ];exact h3.2.2
theorem sA{i:Nat}{oi:Oper}{v:Value}{fuel:Nat}{listed:Array Bool}{a:Act}{w:World}(hi:ops[i]?=some oi)(hs:Region.noSelect ops=true)(hf:Region.free md ops listed i=true)(hr:(Region.ready md ops listed).contains i=true)(hga:(py md ops listed&&awaits md ops i ops.size L)=true)(hQ:∀c a w,Q (.panic c) (a.put oi.dst v) w→Q (.panic c) a w)(hy:YieldsIf P ops S oi v a)(hS:S w)(h:dy P md ops Q S L fuel (listed.setIfInBounds i true) (a.put oi.dst v) w):dy P md ops Q S L (fuel+1) listed a w:=by
 rw[Bool.and_eq_true] at hga;exact qR hi (Region.noSelect_spec hs) hQ hga.2 fuel listed a w (yZ hga.1) (Region.free_spec hi hf) (by simpa using hr) hy hS h
theorem wF{i:Nat}{o:Oper}{fuel:Nat}{listed:Array Bool}{a:Act}{w:World}(ho:ops[i]?=some o)(hr:Region.ready md ops listed=[i])(h:∀K':Act→World→Prop,Shut (∀a w,(i≠L→S w)→((i≠L→S w)→dy P md ops Q S L fuel (listed.setIfInBounds i true) a w)→K' a w)→if Region.wanted o (yielded ops a.tmps)=true then Oper.wp P o a w K' Q else K' (a.put o.dst undef) w):
  dy P md ops Q S L (fuel+1) listed a w:=by
 refine⟨fun h0=>(by rw[hr] at h0;cases h0),fun j hj=>?_⟩;rw[hr,List.mem_singleton] at hj;subst hj;exact wpOp_step ho (fun K' hK=>h K' (fun a w hS hW=>hK a w ⟨hS,hW hS⟩))
theorem sB{listed:Array Bool}{a:Act}{w:World}(hr:Region.ready md ops listed=[])(h:Q .normal a w):∀fuel,dy P md ops Q S L fuel listed a w
 |0=>⟨hr,h⟩
 |_+1=>⟨fun _=>h,by rw[hr];simp⟩
theorem aR{id:Nat}{a:Act}{w:World}(hm:P.follows .mixedOrders=true)(hS:S w.drew)(h:S w.drew→dy P .any ops Q S L ops.size (Array.replicate ops.size false) a w.drew):(Code.region id ops true).wp P Q a w:=
 wp_region_any hm (mV _ _ _ _ (h hS))
theorem dP(i:Nat){o:Oper}{fuel:Nat}{listed:Array Bool}{a:Act}{w:World}(h:∀K':Act→World→Prop,Shut (∀a w,(i≠L→S w)→((i≠L→S w)→dy P md ops Q S L fuel (listed.setIfInBounds i true) a w)→K' a w)→if Region.wanted o (yielded ops a.tmps)=true then Oper.wp P o a w K' Q else K' (a.put o.dst undef) w)(ho:ops[i]?=some o:=by simp only[List.getElem?_toArray,List.getElem?_cons_succ,List.getElem?_cons_zero];rfl)(hr:Region.ready md ops listed=[i]:=by kernel_rfl):dy P md ops Q S L (fuel+1) listed a w:=wF ho hr h
theorem me{fuel:Nat}{listed:Array Bool}{a:Act}{w:World}(h:Q .normal a w)(hr:Region.ready md ops listed=[]:=by kernel_rfl):dy P md ops (NoPanic Q) S L fuel listed a w:=sB hr (NoPanic.normal h) _
end
section
variable {P:Program} {ops:Array Oper} {Q:Exit→Act→World→Prop} {md:Region.Mode} {S:World→Prop} {L:Nat}
def bJ(P:Program)(md:Region.Mode)(ops:Array Oper)(Q:Exit→Act→World→Prop)(S:World→Prop)(L:Nat):Nat→Array Bool→Act→World→Prop
 |0,listed,a,w=>Region.ready md ops listed=[]∧Q .normal a w
 |fuel+1,listed,a,w=>
  (Region.ready md ops listed=[]→Q .normal a w)∧
  ∀i∈Region.ready md ops listed,wpOp P ops Q i (fun a' w'=>(i=L→wpAny P md ops Q fuel (listed.setIfInBounds i true) a' w')∧(i≠L→S w'∧bJ P md ops Q S L fuel (listed.setIfInBounds i true) a' w')) a w
theorem gP:∀(fuel:Nat) (listed:Array Bool) (a:Act) (w:World),bJ P md ops Q S L fuel listed a w→wpAny P md ops Q fuel listed a w
 |0,_,_,_,h=>h
 |fuel+1,_,_,_,h=>⟨h.1,fun i hi=>wpOp_mono (fun a' w' h'=>by
   by_cases e:i=L
   ·exact h'.1 e
   ·exact gP fuel _ a' w' (h'.2 e).2) (h.2 i hi)⟩
theorem qQ{i n:Nat}{oi:Oper}{v:Value}(hi:ops[i]?=some oi)(SP:∀(j:Nat) (o:Oper) cs b,ops[j]?=some o→o.op≠.select cs b)(hQ:∀c a w,Q (.panic c) (a.put oi.dst v) w→Q (.panic c) a w)(ha:awaits md ops i n L=true):
  ∀(fuel:Nat) (listed:Array Bool) (a:Act) (w:World),jF md ops listed→
   (∀j oj,ops[j]?=some oj→j≠i→listed.getD j true=false→(∀e∈oj.after,Region.binds md e=true→e.on≠i)→oi.apart ops oj=true)→
   i∈Region.ready md ops listed→YieldsIf P ops S oi v a→S w→
   bJ P md ops Q S L fuel (listed.setIfInBounds i true) (a.put oi.dst v) w→bJ P md ops Q S L (fuel+1) listed a w:=by
 intro fuel
 induction fuel with
 |zero=>
  intro listed a w _ _ hr hy hS H;refine⟨fun h=>(by rw[h] at hr;cases hr),fun j hj=>?_⟩
  by_cases PQ:j=i
  ·subst PQ;exact hy.wpOp hi hS ⟨fun _=>gP _ _ _ _ H,fun _=>⟨hS,H⟩⟩
  ·have:=ready_mono hj PQ;rw[H.1] at this;cases this
 |succ fuel ih=>
  intro listed a w hg hfree hr hy hS H;refine⟨fun h=>(by rw[h] at hr;cases hr),fun j hj=>?_⟩
  by_cases PQ:j=i
  ·subst PQ;exact hy.wpOp hi hS ⟨fun _=>gP _ _ _ _ H,fun _=>⟨hS,H⟩⟩
  ·have hjL:j≠L:=by
    rintro rfl;exact qk hg ha (mem_ready.1 hr).1 hj
   have h1:=H.2 j (ready_mono hj PQ);obtain⟨TJ,oj,VO,lT⟩:=mem_ready.1 hj
   have Xu:∀e∈oj.after,Region.binds md e=true→e.on≠i:=fun e he hb heq=>by
    have h1:=lT e he hb;have h0:=(mem_ready.1 hr).1;rw[heq] at h1;rcases Nat.lt_or_ge i listed.size with h'|h'
    ·simp[h'] at h0 h1;rw[h0] at h1;cases h1
    ·simp[Array.getElem?_eq_none h'] at h1
   have h2:=wpOp_putIf VO (hfree j oj VO PQ TJ Xu) (fun cs b=>SP i oi cs b hi) (fun cs b=>SP j oj cs b VO) hQ hy h1
   have Qn:∀k ok,ops[k]?=some ok→k≠i→(listed.setIfInBounds j true).getD k true=false→
     (∀e∈ok.after,Region.binds md e=true→e.on≠i)→oi.apart ops ok=true:=fun k ok hk YR Vl Qc=>by
    refine hfree k ok hk YR ?_ Qc
    by_cases PO:j=k
    ·subst PO;exact TJ
    ·rw[getD_set_ne true PO] at Vl;exact Vl
   refine wpOp_mono (fun a' w' h3=>⟨fun e=>absurd e hjL,fun _=>⟨(h3.2.2 hjL).1,ih (listed.setIfInBounds j true) a' w' (hg.step hj) Qn (ready_mono hr (Ne.symm PQ)) h3.1 (h3.2.2 hjL).1 ?_⟩⟩) h2;rw[Array.setIfInBounds_comm _ _ PQ];exact(h3.2.2 hjL).2
theorem lN{i:Nat}{oi:Oper}{v:Value}{fuel:Nat}{listed:Array Bool}{a:Act}{w:World}(hi:ops[i]?=some oi)(hs:Region.noSelect ops=true)(hf:Region.free md ops listed i=true)(hr:(Region.ready md ops listed).contains i=true)(hga:(py md ops listed&&awaits md ops i ops.size L)=true)(hQ:∀c a w,Q (.panic c) (a.put oi.dst v) w→Q (.panic c) a w)(hy:YieldsIf P ops S oi v a)(hS:S w)(h:bJ P md ops Q S L fuel (listed.setIfInBounds i true) (a.put oi.dst v) w):bJ P md ops Q S L (fuel+1) listed a w:=by
 rw[Bool.and_eq_true] at hga;exact qQ hi (Region.noSelect_spec hs) hQ hga.2 fuel listed a w (yZ hga.1) (Region.free_spec hi hf) (by simpa using hr) hy hS h
def pO(P:Program)(md:Region.Mode)(ops:Array Oper)(Q:Exit→Act→World→Prop)(S:World→Prop)(L fuel:Nat)(listed:Array Bool)(a:Act)(w:World)(i:Nat):Prop:=
 wpOp P ops Q i (fun a' w'=>(i=L→wpAny P md ops Q fuel (listed.setIfInBounds i true) a' w')∧(i≠L→S w'∧bJ P md ops Q S L fuel (listed.setIfInBounds i true) a' w')) a w
theorem pO.mk{i:Nat}{o:Oper}{fuel:Nat}{listed:Array Bool}{a:Act}{w:World}(ho:ops[i]?=some o)(hL:(i==L)=false)(h:∀K':Act→World→Prop,Shut (∀a w,S w→bJ P md ops Q S L fuel (listed.setIfInBounds i true) a w→K' a w)→if Region.wanted o (yielded ops a.tmps)=true then Oper.wp P o a w K' Q else K' (a.put o.dst undef) w):
  pO P md ops Q S L fuel listed a w i:=by
 have hL':i≠L:=by simpa using hL
 exact wpOp_step ho (fun K' hK=>h K' (fun a w hS hW=>hK a w ⟨fun e=>absurd e hL',fun _=>⟨hS,hW⟩⟩))
theorem pO.last{i:Nat}{o:Oper}{fuel:Nat}{listed:Array Bool}{a:Act}{w:World}(ho:ops[i]?=some o)(hL:(i==L)=true)(h:∀K':Act→World→Prop,Shut (∀a w,wpAny P md ops Q fuel (listed.setIfInBounds i true) a w→K' a w)→if Region.wanted o (yielded ops a.tmps)=true then Oper.wp P o a w K' Q else K' (a.put o.dst undef) w):
  pO P md ops Q S L fuel listed a w i:=by
 have hL':i=L:=by simpa using hL
 exact wpOp_step ho (fun K' hK=>h K' (fun a w hW=>hK a w ⟨fun _=>hW,fun e=>absurd hL' e⟩))
theorem mW{i:Nat}{fuel:Nat}{listed:Array Bool}{a:Act}{w:World}(hr:Region.ready md ops listed=[i])(h:pO P md ops Q S L fuel listed a w i):bJ P md ops Q S L (fuel+1) listed a w:=by
 refine⟨fun h0=>(by rw[hr] at h0;cases h0),fun j hj=>?_⟩;rw[hr,List.mem_singleton] at hj;subst hj;exact h
theorem eN{i j:Nat}{fuel:Nat}{listed:Array Bool}{a:Act}{w:World}(hr:Region.ready md ops listed=[i,j])(hi:pO P md ops Q S L fuel listed a w i)(hj:pO P md ops Q S L fuel listed a w j):bJ P md ops Q S L (fuel+1) listed a w:=by
 refine⟨fun h0=>(by rw[hr] at h0;cases h0),fun k hk=>?_⟩;rw[hr] at hk;rcases List.mem_cons.1 hk with rfl|hk
 ·exact hi
 ·rw[List.mem_singleton] at hk;subst hk;exact hj
theorem zU{i:Nat}{o:Oper}{fuel:Nat}{listed:Array Bool}{a:Act}{w:World}(hr:Region.ready md ops listed=[i])(ho:ops[i]?=some o)(h:∀K':Act→World→Prop,Shut (∀a w,wpAny P md ops Q fuel (listed.setIfInBounds i true) a w→K' a w)→if Region.wanted o (yielded ops a.tmps)=true then Oper.wp P o a w K' Q else K' (a.put o.dst undef) w):
  wpAny P md ops Q (fuel+1) listed a w:=by
 refine⟨fun h0=>(by rw[hr] at h0;cases h0),fun j hj=>?_⟩;rw[hr,List.mem_singleton] at hj;subst hj;exact wpOp_step ho (fun K' hK=>h K' hK)
theorem pC{i:Nat}{oi:Oper}{v:Value}(hi:ops[i]?=some oi)(SP:∀(j:Nat) (o:Oper) cs b,ops[j]?=some o→o.op≠.select cs b)(hQ:∀c a w,Q (.panic c) (a.put oi.dst v) w→Q (.panic c) a w):
  ∀(fuel:Nat) (listed:Array Bool) (a:Act) (w:World),(i=L→False)→S w→
   (∀j oj,ops[j]?=some oj→j≠i→listed.getD j true=false→(∀e∈oj.after,Region.binds md e=true→e.on≠i)→oi.apart ops oj=true)→
   i∈Region.ready md ops listed→Yields P ops oi v a→
   bJ P md ops Q S L fuel (listed.setIfInBounds i true) (a.put oi.dst v) w→bJ P md ops Q S L (fuel+1) listed a w:=by
 intro fuel
 induction fuel with
 |zero=>
  intro listed a w hiL hS _ hr hy H;refine⟨fun h=>(by rw[h] at hr;cases hr),fun j hj=>?_⟩
  by_cases PQ:j=i
  ·subst PQ;exact hy.wpOp hi ⟨fun e=>(hiL e).elim,fun _=>⟨hS,H⟩⟩
  ·have:=ready_mono hj PQ;rw[H.1] at this;cases this
 |succ fuel ih=>
  intro listed a w hiL hS hfree hr hy H;refine⟨fun h=>(by rw[h] at hr;cases hr),fun j hj=>?_⟩
  by_cases PQ:j=i
  ·subst PQ;exact hy.wpOp hi ⟨fun e=>(hiL e).elim,fun _=>⟨hS,H⟩⟩
  ·have h1:=H.2 j (ready_mono hj PQ);obtain⟨TJ,oj,VO,lT⟩:=mem_ready.1 hj
   have Xu:∀e∈oj.after,Region.binds md e=true→e.on≠i:=fun e he hb heq=>by
    have h1:=lT e he hb;have h0:=(mem_ready.1 hr).1;rw[heq] at h1;rcases Nat.lt_or_ge i listed.size with h'|h'
    ·simp[h'] at h0 h1;rw[h0] at h1;cases h1
    ·simp[Array.getElem?_eq_none h'] at h1
   have h2:=wpOp_put VO (hfree j oj VO PQ TJ Xu) (fun cs b=>SP i oi cs b hi) (fun cs b=>SP j oj cs b VO) hQ hy h1
   have Qn:∀k ok,ops[k]?=some ok→k≠i→(listed.setIfInBounds j true).getD k true=false→
     (∀e∈ok.after,Region.binds md e=true→e.on≠i)→oi.apart ops ok=true:=fun k ok hk YR Vl Qc=>by
    refine hfree k ok hk YR ?_ Qc
    by_cases PO:j=k
    ·subst PO;exact TJ
    ·rw[getD_set_ne true PO] at Vl;exact Vl
   refine wpOp_mono (fun a' w' h3=>⟨fun e=>wpAny_first hi SP hQ fuel (listed.setIfInBounds j true) a' w' Qn (ready_mono hr (Ne.symm PQ)) h3.1 ?_,fun hL=>⟨(h3.2.2 hL).1,ih (listed.setIfInBounds j true) a' w' hiL (h3.2.2 hL).1 Qn (ready_mono hr (Ne.symm PQ)) h3.1 ?_⟩⟩) h2
   ·rw[Array.setIfInBounds_comm _ _ PQ];exact h3.2.1 e
   ·rw[Array.setIfInBounds_comm _ _ PQ];exact(h3.2.2 hL).2
theorem qP{i:Nat}{oi:Oper}{v:Value}{fuel:Nat}{listed:Array Bool}{a:Act}{w:World}(hi:ops[i]?=some oi)(hs:Region.noSelect ops=true)(hf:Region.free md ops listed i=true)(hr:(Region.ready md ops listed).contains i=true)(hL:(i==L)=false)(hQ:∀c a w,Q (.panic c) (a.put oi.dst v) w→Q (.panic c) a w)(hy:Yields P ops oi v a)(hS:S w)(h:bJ P md ops Q S L fuel (listed.setIfInBounds i true) (a.put oi.dst v) w):bJ P md ops Q S L (fuel+1) listed a w:=
 pC hi (Region.noSelect_spec hs) hQ fuel listed a w (fun e=>by rw[e] at hL;simp at hL) hS (Region.free_spec hi hf) (by simpa using hr) hy h
theorem ag{id:Nat}{a:Act}{w:World}(hm:P.follows .mixedOrders=true)(hS:S w.drew)(h:S w.drew→bJ P .any ops Q S L ops.size (Array.replicate ops.size false) a w.drew):(Code.region id ops true).wp P Q a w:=
 wp_region_any hm (gP _ _ _ _ (h hS))
theorem rX{i:Nat}{o:Oper}{fuel:Nat}{listed:Array Bool}{a:Act}{w:World}(h:∀K':Act→World→Prop,Shut (∀a w,S w→bJ P md ops Q S L fuel (listed.setIfInBounds i true) a w→K' a w)→if Region.wanted o (yielded ops a.tmps)=true then Oper.wp P o a w K' Q else K' (a.put o.dst undef) w)(ho:ops[i]?=some o:=by simp only[List.getElem?_toArray,List.getElem?_cons_succ,List.getElem?_cons_zero];rfl)(hL:(i==L)=false:=by kernel_rfl):pO P md ops Q S L fuel listed a w i:=pO.mk ho hL h
theorem bO(i:Nat){o:Oper}{fuel:Nat}{listed:Array Bool}{a:Act}{w:World}(h:∀K':Act→World→Prop,Shut (∀a w,S w→bJ P md ops Q S L fuel (listed.setIfInBounds i true) a w→K' a w)→if Region.wanted o (yielded ops a.tmps)=true then Oper.wp P o a w K' Q else K' (a.put o.dst undef) w)(ho:ops[i]?=some o:=by simp only[List.getElem?_toArray,List.getElem?_cons_succ,List.getElem?_cons_zero];rfl)(hL:(i==L)=false:=by kernel_rfl)(hr:Region.ready md ops listed=[i]:=by kernel_rfl):bJ P md ops Q S L (fuel+1) listed a w:=mW hr (pO.mk ho hL h)
theorem iV(i:Nat){o:Oper}{fuel:Nat}{listed:Array Bool}{a:Act}{w:World}(h:∀K':Act→World→Prop,Shut (∀a w,wpAny P md ops Q fuel (listed.setIfInBounds i true) a w→K' a w)→if Region.wanted o (yielded ops a.tmps)=true then Oper.wp P o a w K' Q else K' (a.put o.dst undef) w)(ho:ops[i]?=some o:=by simp only[List.getElem?_toArray,List.getElem?_cons_succ,List.getElem?_cons_zero];rfl)(hL:(i==L)=true:=by kernel_rfl)(hr:Region.ready md ops listed=[i]:=by kernel_rfl):bJ P md ops Q S L (fuel+1) listed a w:=mW hr (pO.last ho hL h)
theorem Gc(i:Nat){o:Oper}{fuel:Nat}{listed:Array Bool}{a:Act}{w:World}(h:∀K':Act→World→Prop,Shut (∀a w,wpAny P md ops Q fuel (listed.setIfInBounds i true) a w→K' a w)→if Region.wanted o (yielded ops a.tmps)=true then Oper.wp P o a w K' Q else K' (a.put o.dst undef) w)(ho:ops[i]?=some o:=by simp only[List.getElem?_toArray,List.getElem?_cons_succ,List.getElem?_cons_zero];rfl)(hr:Region.ready md ops listed=[i]:=by kernel_rfl):wpAny P md ops Q (fuel+1) listed a w:=zU hr ho h
end
theorem od{p:Prop}(h:p:=by decide):p:=h
theorem ok'{p:Prop}(h:p:=by kernel_rfl):p:=h
theorem os'{p:Prop}(h:p:=by simp):p:=h
theorem nm{α:Type _}(a:α):∃b,b=a:=⟨a,rfl⟩
theorem gs{α:Type _}(l:List α)(i:Nat)(h:i<l.length:=by omega):∃v,l[i]?=some v:=⟨_,Oj h⟩
theorem i6{a:Int}(h: -9223372036854775808≤a:=by omega)(h2:a≤9223372036854775807:=by omega):IntKind.i64.wrap a=a:=Ol a ⟨h,h2⟩
theorem u6{p:Prop}(h:p:=by rw[On];omega):p:=h
theorem Ba{B:Nat}{w:World}{o:Obj}(h:B≤w.heap.size:=by exact Oi _):Below B w (w.alloc o):=(Oq _ _).alloc h _
theorem ms{h:Prop}(a:Hid h){p:Prop}(f:h→p:=by intro h;simp[intOf];omega):p:=f a.out
section
variable {P:Program} {ops:Array Oper} {Q:Exit→Act→World→Prop} {md:Region.Mode} {S:World→Prop} {L:Nat} {fuel:Nat} {listed:Array Bool} {a:Act} {w:World} {b:Prop}
theorem tH(i:Nat){oi:Oper}{v:Value}(h:b)(hi:ops[i]?=some oi:=by simp only[List.getElem?_toArray,List.getElem?_cons_succ,List.getElem?_cons_zero];rfl)(hs:Region.noSelect ops=true:=by kernel_rfl)(hf:Region.free md ops listed i=true:=by kernel_rfl)(hr:(Region.ready md ops listed).contains i=true:=by kernel_rfl)(hQ:∀c a w,Q (.panic c) (a.put oi.dst v) w→Q (.panic c) a w:=by exact fun _ _ _ h=>h)(hy:YieldsIf P ops S oi v a:=by exact Or.inl ⟨by kernel_rfl,by intro w hSw;(try dsimp only at hSw);go_simp;try with_reducible rfl⟩)(hS:S w:=by assumption)(f:Hid b→wpAnyH P md ops Q S fuel (listed.setIfInBounds i true) (a.put oi.dst v) w:=by intro h;(try go_simp);exact h.out):wpAnyH P md ops Q S (fuel+1) listed a w:=wpAnyH_take hi hs hf hr hQ hy hS (f (Oh h))
theorem tT(i:Nat){oi:Oper}{v:Value}(h:b)(hi:ops[i]?=some oi:=by simp only[List.getElem?_toArray,List.getElem?_cons_succ,List.getElem?_cons_zero];rfl)(hs:Region.noSelect ops=true:=by kernel_rfl)(hf:Region.free md ops listed i=true:=by kernel_rfl)(hr:(Region.ready md ops listed).contains i=true:=by kernel_rfl)(hg:(py md ops listed&&awaits md ops i ops.size L)=true:=by kernel_rfl)(hQ:∀c a w,Q (.panic c) (a.put oi.dst v) w→Q (.panic c) a w:=by exact fun _ _ _ h=>h)(hy:YieldsIf P ops S oi v a:=by exact Or.inl ⟨by kernel_rfl,by intro w hSw;(try dsimp only at hSw);go_simp;try with_reducible rfl⟩)(hS:S w:=by assumption)(f:Hid b→dy P md ops Q S L fuel (listed.setIfInBounds i true) (a.put oi.dst v) w:=by intro h;(try go_simp);exact h.out):dy P md ops Q S L (fuel+1) listed a w:=sA hi hs hf hr hg hQ hy hS (f (Oh h))
theorem tV(i:Nat){oi:Oper}{v:Value}(h:b)(hi:ops[i]?=some oi:=by simp only[List.getElem?_toArray,List.getElem?_cons_succ,List.getElem?_cons_zero];rfl)(hs:Region.noSelect ops=true:=by kernel_rfl)(hf:Region.free md ops listed i=true:=by kernel_rfl)(hr:(Region.ready md ops listed).contains i=true:=by kernel_rfl)(hg:(py md ops listed&&awaits md ops i ops.size L)=true:=by kernel_rfl)(hQ:∀c a w,Q (.panic c) (a.put oi.dst v) w→Q (.panic c) a w:=by exact fun _ _ _ h=>h)(hy:YieldsIf P ops S oi v a:=by exact Or.inl ⟨by kernel_rfl,by intro w hSw;(try dsimp only at hSw);go_simp;try with_reducible rfl⟩)(hS:S w:=by assumption)(f:Hid b→bJ P md ops Q S L fuel (listed.setIfInBounds i true) (a.put oi.dst v) w:=by intro h;(try go_simp);exact h.out):bJ P md ops Q S L (fuel+1) listed a w:=lN hi hs hf hr hg hQ hy hS (f (Oh h))
theorem cV(i:Nat){oi:Oper}{v:Value}(h:b)(hi:ops[i]?=some oi:=by simp only[List.getElem?_toArray,List.getElem?_cons_succ,List.getElem?_cons_zero];rfl)(hs:Region.noSelect ops=true:=by kernel_rfl)(hf:Region.free md ops listed i=true:=by kernel_rfl)(hr:(Region.ready md ops listed).contains i=true:=by kernel_rfl)(hg:(py md ops listed&&awaits md ops i ops.size L)=true:=by kernel_rfl)(hQ:∀c a w,Q (.panic c) (a.put oi.dst v) w→Q (.panic c) a w:=by exact fun _ _ _ h=>h)(hy:YieldsIf P ops S oi v a:=by exact Or.inl ⟨by kernel_rfl,by intro w hSw;clear hSw;go_simp;try with_reducible rfl⟩)(hS:S w:=by assumption)(f:Hid b→bJ P md ops Q S L fuel (listed.setIfInBounds i true) (a.put oi.dst v) w:=by intro h;(try go_simp);exact h.out):bJ P md ops Q S L (fuel+1) listed a w:=lN hi hs hf hr hg hQ hy hS (f (Oh h))
theorem fV(i:Nat){oi:Oper}{v:Value}(h:b)(hi:ops[i]?=some oi:=by simp only[List.getElem?_toArray,List.getElem?_cons_succ,List.getElem?_cons_zero];rfl)(hs:Region.noSelect ops=true:=by kernel_rfl)(hf:Region.free md ops listed i=true:=by kernel_rfl)(hr:(Region.ready md ops listed).contains i=true:=by kernel_rfl)(hg:(i==L)=false:=by kernel_rfl)(hQ:∀c a w,Q (.panic c) (a.put oi.dst v) w→Q (.panic c) a w:=by exact fun _ _ _ h=>h)(hy:Yields P ops oi v a:=by exact Or.inl ⟨by kernel_rfl,by intro w;go_simp;try with_reducible rfl⟩)(hS:S w:=by assumption)(f:Hid b→bJ P md ops Q S L fuel (listed.setIfInBounds i true) (a.put oi.dst v) w:=by intro h;(try go_simp);exact h.out):bJ P md ops Q S L (fuel+1) listed a w:=qP hi hs hf hr hg hQ hy hS (f (Oh h))
theorem aA(i:Nat){o:Oper}(h:b)(ho:ops[i]?=some o:=by simp only[List.getElem?_toArray,List.getElem?_cons_succ,List.getElem?_cons_zero];rfl)(hr:Region.ready md ops listed=[i]:=by kernel_rfl)(f:∀K':Act→World→Prop,Shut (∀a w,wpAny P md ops Q fuel (listed.setIfInBounds i true) a w→K' a w)→Hid b→if Region.wanted o (yielded ops a.tmps)=true then Oper.wp P o a w K' Q else K' (a.put o.dst undef) w:=by intro K hK h;go_simp;refine hK.out _ _ ?_;clear hK K;(try go_simp);exact h.out):wpAny P md ops Q (fuel+1) listed a w:=Gc i (fun K hK=>f K hK (Oh h)) ho hr
theorem aL(i:Nat){o:Oper}(h:b)(ho:ops[i]?=some o:=by simp only[List.getElem?_toArray,List.getElem?_cons_succ,List.getElem?_cons_zero];rfl)(hL:(i==L)=true:=by kernel_rfl)(hr:Region.ready md ops listed=[i]:=by kernel_rfl)(f:∀K':Act→World→Prop,Shut (∀a w,wpAny P md ops Q fuel (listed.setIfInBounds i true) a w→K' a w)→Hid b→if Region.wanted o (yielded ops a.tmps)=true then Oper.wp P o a w K' Q else K' (a.put o.dst undef) w:=by intro K hK h;go_simp;refine hK.out _ _ ?_;clear hK K;(try go_simp);exact h.out):bJ P md ops Q S L (fuel+1) listed a w:=iV i (fun K hK=>f K hK (Oh h)) ho hL hr
end
abbrev Cl(f:FuncId)(a:Array Value)(w:World)(Q:Ending→World→Prop):Prop:=Calls prog f a w Q
abbrev rz(v:Value):Array Value:=#[.int .i64 0,.int .i64 0,.bool false,.int .u64 0,.int .u64 0,.int .u64 0,.int .u64 0,v]
abbrev sz':Array Value:=#[.int .u8 0,.int .i64 0,.int .i64 0,.int .i64 0,.bool false,.int .i64 0,.int .i64 0]
abbrev i3'(a b c:Int):Array Value:=#[.int .i64 a,.int .i64 b,.int .i64 c]
abbrev nz:Array Value:=#[.nilFunc,.nilFunc,.nilFunc,.nilFunc,.nilFunc,.nilFunc,.nilFunc,.nilFunc,.nilFunc,.nilFunc,.nilFunc,.nilFunc]
abbrev bz:Array Value:=#[.bool false,.bool false,.bool false,.bool false,.bool false,.bool false,.bool false,.bool false,.bool false,.bool false,.bool false,.bool false]
abbrev j5(k:Int):Array Value:=#[.int .u8 k,.pointer none,.pointer none,.pointer none,.pointer none]
abbrev sp7(k lo hs d:Int)(gr:Bool)(ac sz:Int):Array Value:=#[.int .u8 k,.int .i64 lo,.int .i64 hs,.int .i64 d,.bool gr,.int .i64 ac,.int .i64 sz]
abbrev Rb(v:Value)(w:World)(e:Ending)(w':World):Prop:=e=.returned v∧Below w.heap.size w w'
abbrev Rs(v:Value)(w:World)(e:Ending)(w':World):Prop:=e=.returned v∧w'=w
abbrev Rt(v:Value)(w:World)(e:Ending)(w':World):Prop:=e=.returned v∧w=w'
abbrev Rq(v:Value)(w:World)(e:Ending)(w':World):Prop:=e=.returned v∧∃n,w'=w.drewN n
end Go.Proofs.YtmbippkpjdoojaaGreat
