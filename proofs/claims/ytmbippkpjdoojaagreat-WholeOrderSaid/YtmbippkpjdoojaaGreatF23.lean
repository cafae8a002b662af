/- Parts of a proof, merged. -/
import Derived.Test.YtmbippkpjdoojaaGreatF22
set_option maxRecDepth 100000
set_option maxHeartbeats 1600000
namespace Go.Proofs.YtmbippkpjdoojaaGreat.Mat
open Tryz
open Go.RowKit
section
open Mt
set_option maxHeartbeats 3200000 in
theorem Jw(g:Nat)(A:Option Addr)(c:Nat)(l:List UInt8)(Bm base:Nat)(a:Nat)(w:World)(h:Blk w g 447 #[.slice A l.length c,.map (some Bm)])(hb:Bts w w.heap.size A l)(hM:bx w Bm base l a)(hm:l.length≤16777216)(ha:a+3≤l.length)(hcl:l.length≤c):
  Cl 339 #[.pointer (some ⟨g,0,none⟩),.int .i64 (a:Int)] w (Rb (xD l[a].toNat (pN l a (ps l a l[a] l[a+1] l[a+2]).reverse (0,0))) w):=by
 obtain⟨v,Q9,RD⟩:=hM.look (by unfold maxLen;omega) l[a] l[a+1] l[a+2];obtain⟨A2,c2,hv⟩:=ja RD.1;subst hv;have OJ:(psI l a l[a] l[a+1] l[a+2]).length=(ps l a l[a] l[a+1] l[a+2]).length:=by simp[psI]
 have Lt:(ps l a l[a] l[a+1] l[a+2]).length≤16777216:=by have:=sv l a l[a] l[a+1] l[a+2];omega
 have hpa:∀p∈ps l a l[a] l[a+1] l[a+2],p<a:=fun p hp=>(xW.1 hp).1
 have QD:∀(j p:Nat),(ps l a l[a] l[a+1] l[a+2])[j]?=some p→∃b2 o2,A2=some ⟨b2,o2,none⟩∧b2<w.heap.size∧w.cell? ⟨b2,o2+j,none⟩=some (.int .i64 (p:Int)):=fun j p hj=>by
  obtain⟨b2,o2,e2,aT,Ql⟩:=(Own.reads (show Own w base 3 1 A2 _ c2 _ from RD.1)).2 (by
   rw[OJ];have:=(List.getElem?_eq_some_iff.1 hj).1;omega)
  exact⟨b2,o2,e2,aT,Ql j _ (by simp[psI,hj])⟩
 rw[OJ] at Q9
 have hBl:Bm<w.heap.size:=by
  obtain⟨D,⟨es,clock,XS,_⟩,_⟩:=hM;exact(Array.getElem?_eq_some_iff.1 XS).1
 have HPS:=Oh (fun(i k:Nat) W h hb hik Sb=>Hh g A c l (.map (some Bm)) i k W h hb hm hik Sb);have HH:=Oh h;have HB:=Oh hb;obtain⟨b,o,rfl,Ov,hcell⟩:=hb.at_ oq;have c0:=h.c0;have c1:=h.c1;have d0:=hcell a oq;have d1:=hcell (a+1) oq;have d2:=hcell (a+2) oq;rw[←Nat.add_assoc] at d1 d2;obtain⟨p3,Xq⟩:∃p3:Nat,(p3:Int)=(a:Int)+3:=⟨a+3,oq⟩;have e1:IntKind.i64.wrap ((a:Int)+3)=(p3:Int):=by rw[Xq];exact i6
 have h1:¬(l.length:Int)<(p3:Int):=oq;have h7:(a:Int)≤(p3:Int):=oq;have h8:(p3:Int)≤(c:Int):=oq;have h9:p3-a=3:=oq;have VQ:¬c=a:=oq;have h11:a≤p3:=oq;have h12:p3≤c:=oq;clear Xq;have hai:(a:Int)<(l.length:Int):=oq;have If:=h.lt;have a74:∀W:World,(Instr.arrayAt TK (.slice (some ⟨b,o+a,none⟩) 3 (c-a))).run prog W=.ok (.pointer (some ⟨b,o+a,none⟩)) W:=fun W=>run_arrayAt W TK _ 3 _ 3 (c-a) underlying493 (Oi _);generalize l[a]=x at*;generalize l[a+1]=y at*;generalize l[a+2]=z at*;obtain⟨L,hL⟩:=nm (ps l a x y z);rw[←hL] at Q9 QD Lt hpa ⊢;have Ty:=Oh QD;have HPA:=Oh hpa;obtain⟨R,hR⟩:=nm (pN l a L.reverse (0,0));rw[←hR];have HR:=Oh hR;clear h hb hcell hM RD OJ QD hpa hL hR;go_enter func339,ntmps339;go_wp2_with fail;have Qw:Below w.heap.size w ((w.alloc (.cells #[.int .u8 0,.int .i64 0,.int .i64 0] 379)).alloc (.cells #[.int .u8 (x.toNat:Int),.int .i64 0,.int .i64 0] 379)):=(Ba).alloc os' _;have f0:=(Qw.cell (p:=⟨g,0,none⟩) If).trans c0;have f1:=(Qw.cell (p:=⟨g,1,none⟩) If).trans c1;have f2:=(Qw.cell (p:=⟨b,o+a,none⟩) Ov).trans d0;have f3:=(Qw.cell (p:=⟨b,o+a+1,none⟩) Ov).trans d1;have f4:=(Qw.cell (p:=⟨b,o+a+2,none⟩) Ov).trans d2;refine wp_region_noPanic ?_;refine wp_region_held_drew (S:=(fun w'=>w'.cell? ⟨g,0,none⟩=some (.slice (some ⟨b,o,none⟩) l.length c)∧w'.cell? ⟨g,1,none⟩=some (.map (some Bm))∧w'.cell? ⟨b,o+a,none⟩=some (.int .u8 (x.toNat:Int))∧w'.cell? ⟨b,o+a+1,none⟩=some (.int .u8 (y.toNat:Int))∧w'.cell? ⟨b,o+a+2,none⟩=some (.int .u8 (z.toNat:Int))∧(Instr.lookup TM (.map (some Bm)) (.agg #[.int .u8 (x.toNat:Int),.int .u8 (y.toNat:Int),.int .u8 (z.toNat:Int)]) false).run prog w'=.ok (.slice A2 L.length c2) w')) ok' ⟨f0,f1,f2,f3,f4,Q9 _ (Qw.block Bm hBl)⟩ (fun hHeld=>?_);refine tH 0 ?_;refine tH 1 ?_;refine tH 2 ?_;refine tH 3 ?_;refine tH 4 ?_;refine tH 5 ?_;refine tH 6 ?_;refine tH 7 ?_;refine tH 8 ?_;refine tH 9 ?_;refine tH 10 ?_;refine tH 11 ?_;refine tH 12 ?_;refine tH 13 ?_;refine tH 14 ?_;refine tH 15 ?_;refine jR ?_;go_wp2_with fail
 have hT:Blk (((w.alloc (.cells #[.int .u8 0,.int .i64 0,.int .i64 0] 379)).alloc (.cells #[.int .u8 (x.toNat:Int),.int .i64 0,.int .i64 0] 379)).drew) (w.heap.size+1) 379 (pi x.toNat (0,0)):=by
  have:=Blk.new (w.alloc (.cells #[.int .u8 0,.int .i64 0,.int .i64 0] 379)) 379 #[.int .u8 (x.toNat:Int),.int .i64 0,.int .i64 0];rw[World.size_alloc] at this;exact this.drew
 have hZ:Blk (((w.alloc (.cells #[.int .u8 0,.int .i64 0,.int .i64 0] 379)).alloc (.cells #[.int .u8 (x.toNat:Int),.int .i64 0,.int .i64 0] 379)).drew) w.heap.size 379 #[.int .u8 0,.int .i64 0,.int .i64 0]:=((Blk.new w 379 _).alloc _).drew;have PZ:Below w.heap.size w (((w.alloc (.cells #[.int .u8 0,.int .i64 0,.int .i64 0] 379)).alloc (.cells #[.int .u8 (x.toNat:Int),.int .i64 0,.int .i64 0] 379)).drew):=Qw.drew;have HT:=Oh hT;have HZ:=Oh hZ;have fR:=Oh PZ;have WH:Hid (R=pN l a (L.take L.length).reverse (0,0)):=Oh (by rw[HR.out,List.take_length]);clear hT hZ PZ Qw f0 f1 f2 f3 f4 c0 c1 d0 d1 d2 Q9 hHeld a74 HR;go_loopw [7] (fun v wr=>∃(m:Nat) (t:Nat×Nat),m≤L.length∧v=.int .i64 ((m:Int)-1)∧R=pN l a (L.take m).reverse t∧Below w.heap.size w wr∧Blk wr (w.heap.size+1) 379 (pi x.toNat t)∧Blk wr w.heap.size 379 #[.int .u8 0,.int .i64 0,.int .i64 0]) (fun v _=>(intOf v+1).toNat)
 case atStart=>exact⟨L.length,(0,0),Oi _,rfl,WH.out,fR.out,HT.out,HZ.out⟩
 case round=>
  obtain⟨m,t,gE,rfl,RE,aC,hblk,WP⟩:=hrel;have t0:=hblk.c0;have t1:=hblk.c1;have t2:=hblk.c2;have z0:=WP.c0;have z1:=WP.c1;have z2:=WP.c2;have fz:=WP.free;have ft:=hblk.free;have Pg:=Oh aC;have Pw:=Oh hblk;have HZR:=Oh WP;have WQ:=Oh RE;clear aC hblk WP RE;rcases m with _|j
  ·obtain⟨iv,hiv⟩:=nm (((0:Nat):Int)-1:Int);rw[←hiv];have hd:decide (0≤iv)=false:=by rw[hiv];rfl
   clear hiv;go_wp2_with fail;refine bodyPost_ret (v:=xD x.toNat t) (results_cell_row results339 _ _ w.heap.size 379 (pi x.toNat t) (0,0) _ rfl ?_ underlying379 (by rfl) ok') ?_ ?_
   ·exact((HZR.out.put 0 _).put 1 _).put 2 _
   ·rfl
   ·exact⟨by rw[WQ.out];rfl,((Pg.out.setCell (Oi _) _).setCell (Oi _) _).setCell (Oi _) _⟩
  ·rw[show((j+1:Nat):Int)-1=(j:Int) by omega];obtain⟨p,hp⟩:∃p,L[j]?=some p:=⟨L[j],by simp⟩;obtain⟨b2,o2,TI,aT,Ql⟩:=Ty.out j p hp;subst TI;have hpa:=HPA.out p (Om hp)
   have RE:R=pN l a (p::(L.take j).reverse) t:=by
    rw[WQ.out,List.take_add_one,hp];simp
   have r1:wr.cell? ⟨b2,o2+j,none⟩=some (.int .i64 (p:Int)):=(Pg.out.cell (p:=⟨b2,o2+j,none⟩) aT).trans Ql;have hd:decide (0≤(j:Int))=true:=by simp
   have j0:(0:Int)≤(j:Int):=oq;have j1:(j:Int)<(L.length:Int):=oq;have p1:(p:Int)<(a:Int):=oq;obtain⟨q,hq⟩:∃q:Nat,(q:Int)=(a:Int)-(p:Int):=⟨a-p,oq⟩;have hqn:a-p=q:=oq;have e2:IntKind.i64.wrap ((a:Int)-(p:Int))=(q:Int):=by rw[hq];exact i6
   have HJ:=Oh gE;have HQ:=Oh hq;unfold pN at RE;rw[hqn] at RE;clear WQ gE hp Ql hq hqn
   by_cases h32:32768<q
   ·rw[if_pos h32] at RE;have aci:decide (q≤32768)=false:=sq;have acj:¬(q:Int)≤32768:=oq;have WQ:=Oh RE;clear RE;go_wp2_with fail;refine bodyPost_ret (v:=xD x.toNat t) (results_cell_row results339 _ _ w.heap.size 379 (pi x.toNat t) (0,0) _ rfl ?_ underlying379 (by rfl) ok') ?_ ?_
    ·exact((HZR.out.put 0 _).put 1 _).put 2 _
    ·rfl
    ·exact⟨by rw[WQ.out],((Pg.out.setCell (Oi _) _).setCell (Oi _) _).setCell (Oi _) _⟩
   ·rw[if_neg h32] at RE;have aci:decide (q≤32768)=true:=sq;have acj:(q:Int)≤32768:=oq;have aiA:=zJ l 258 p a;have HSM:Cl 394 #[.pointer (some ⟨g,0,none⟩),.int .i64 (p:Int),.int .i64 (a:Int)] wr (Rq (.int .i64 (sm l p a 258:Nat)) wr):=HPS.out p a wr (HH.out.below Pg.out If) (HB.out.at_below Pg.out) hpa oq;generalize sm l p a 258=n at*;have HS:=Oh HSM
    by_cases hlt:t.1<n
    ·rw[if_pos hlt] at RE;have SZ:0<n:=oq
     by_cases h8:n=258
     ·rw[if_pos h8] at RE;have e8:((n:Int)==258)=true:=sq;have WQ:=Oh RE;clear HSM RE h32 h8;go_wp2_with fail;refine HS.out.mono ?_;rintro e w2 ⟨rfl,nq,rfl⟩;go_wp2_with fail;refine bodyPost_ret (v:=xD x.toNat (n,q)) (results_cell_row results339 _ _ w.heap.size 379 (pi x.toNat (n,q)) (0,0) _ rfl ?_ underlying379 (by rfl) ok') ?_ ?_
      ·exact(by rw[←tk x.toNat (0,0) n q SZ];exact(((((HZR.out.drewN nq).far (p:=⟨w.heap.size+1,0,none⟩) os' _).far (p:=⟨w.heap.size+1,1,none⟩) os' _).far (p:=⟨w.heap.size+1,2,none⟩) os' _).put 0 _ |>.put 1 _).put 2 _)
      ·rfl
      ·exact⟨by rw[WQ.out],((((((ae Pg.out nq).setCell os' _).setCell os' _).setCell os' _).setCell (Oi _) _).setCell (Oi _) _).setCell (Oi _) _⟩
     ·rw[if_neg h8] at RE;have e8:((n:Int)==258)=false:=sq;have WQ:=Oh RE;clear HSM RE h32 h8;go_wp2_with fail;refine HS.out.mono ?_;rintro e w2 ⟨rfl,nq,rfl⟩;go_wp2_with fail;go_roundw
      case rel=>exact⟨j,(n,q),by have:=HJ.out;omega,rfl,WQ.out,(((ae Pg.out nq).setCell os' _).setCell os' _).setCell os' _,by rw[←tk x.toNat t n q SZ];exact(((Pw.out.drewN nq).put 0 _).put 1 _).put 2 _,(((HZR.out.drewN nq).far os' _).far os' _).far os' _⟩
      case measure=>simp[intOf]
    ·rw[if_neg hlt] at RE
     by_cases h8:t.1=258
     ·rw[if_pos h8] at RE;have e8:((t.1:Int)==258)=true:=sq;have WQ:=Oh RE;clear HSM RE h32 h8;go_wp2_with fail;refine HS.out.mono ?_;rintro e w2 ⟨rfl,nq,rfl⟩;go_wp2_with fail;refine bodyPost_ret (v:=xD x.toNat t) (results_cell_row results339 _ _ w.heap.size 379 (pi x.toNat t) (0,0) _ rfl ?_ underlying379 (by rfl) ok') ?_ ?_
      ·exact(((HZR.out.drewN nq).put 0 _).put 1 _).put 2 _
      ·rfl
      ·exact⟨by rw[WQ.out],(((ae Pg.out nq).setCell (Oi _) _).setCell (Oi _) _).setCell (Oi _) _⟩
     ·rw[if_neg h8] at RE;have e8:((t.1:Int)==258)=false:=sq;have WQ:=Oh RE;clear HSM RE h32 h8;go_wp2_with fail;refine HS.out.mono ?_;rintro e w2 ⟨rfl,nq,rfl⟩;go_wp2_with fail;go_roundw
      case rel=>exact⟨j,t,by have:=HJ.out;omega,rfl,WQ.out,ae Pg.out nq,Pw.out.drewN nq,HZR.out.drewN nq⟩
      case measure=>simp[intOf]
theorem My(g:Nat)(A:Option Addr)(c:Nat)(l:List UInt8)(Bm base:Nat)(a:Nat)(w:World)(h:Blk w g 447 #[.slice A l.length c,.map (some Bm)])(hb:Bts w w.heap.size A l)(hM:bx w Bm base l a)(hm:l.length≤16777216)(ha:a<l.length)(hcl:l.length≤c):
  Cl 339 #[.pointer (some ⟨g,0,none⟩),.int .i64 (a:Int)] w (Rb (xD (l.getD a 0).toNat (Mt.tok l a)) w):=by
 have gd:∀i (hi:i<l.length),l.getD i 0=l[i]:=fun i hi=>by simp[List.getD,hi]
 unfold Mt.tok
 by_cases h3:a+3≤l.length
 ·rw[if_pos h3,gd a ha,gd (a+1) oq,gd (a+2) oq];exact Jw g A c l Bm base a w h hb hM hm h3 hcl
 ·rw[if_neg h3,gd a ha];exact F3 g A c l _ a w h hb hm ha oq
def tcs:List Tk→List Value
 | []=>[]
 |t::l=>.int .u8 (t.1.toNat:Int)::.int .i64 (t.2.1:Nat)::.int .i64 (t.2.2:Nat)::tcs l
theorem wK(l m:List Tk):tcs (l++m)=tcs l++tcs m:=by
 induction l with
 |nil=>rfl
 |cons p l ih=>simp[tcs,ih]
theorem GB(l:List Tk):∀u∈tcs l,u.oneCell'=true:=by
 induction l with
 |nil=>intro u h;cases h
 |cons p l ih=>
  intro u h;simp only[tcs,List.mem_cons] at h;rcases h with rfl|rfl|rfl|h
  ·rfl
  ·rfl
  ·rfl
  ·exact ih u h
theorem GC{l:List Tk}{i:Nat}{t:Tk}(h:l[i]?=some t):(tcs l)[i*3]?=some (.int .u8 (t.1.toNat:Int))∧(tcs l)[i*3+1]?=some (.int .i64 (t.2.1:Nat))∧(tcs l)[i*3+2]?=some (.int .i64 (t.2.2:Nat)):=by
 induction l generalizing i with
 |nil=>simp at h
 |cons q l ih=>
  cases i with
  |zero=>
   simp at h;subst h;simp[tcs]
  |succ i=>
   have:=ih (i:=i) (by simpa using h);rw[show(i+1)*3=i*3+3 by omega];simpa [tcs] using this
theorem Es:fH prog 376 379 3 24:=cy underlying376 (z:=.agg #[.int .u8 0,.int .i64 0,.int .i64 0]) ok' od od
theorem Gu(w:World)(t:Tk):am (w.alloc (.cells #[.int .u8 (t.1.toNat:Int),.int .i64 (t.2.1:Nat),.int .i64 (t.2.2:Nat)] 379)) (w.alloc (.cells #[.int .u8 (t.1.toNat:Int),.int .i64 (t.2.1:Nat),.int .i64 (t.2.2:Nat)] 379)).heap.size 3 (some ⟨w.heap.size,0,none⟩) 1 (tcs [t]):=
 am.lit (bQ _ _) rfl rfl
def fP(w:World)(base:Nat)(A:Option Addr)(c:Nat)(L:List Tk):Prop:=Own w base 379 3 A L.length c (tcs L)
theorem Gv(l:List UInt8)(a:Nat):pi (l.getD a 0).toNat (Mt.tok l a)=#[.int .u8 ((mk l a).1.toNat:Int),.int .i64 ((mk l a).2.1:Nat),.int .i64 ((mk l a).2.2:Nat)]:=by
 rw[FC,Hz];unfold pi tb mk;split<;>rfl
theorem bx.isMap{w:World}{Bm base n:Nat}{l:List UInt8}(h:bx w Bm base l n):∃es clock,w.heap[Bm]?=some (.map es clock):=by
 obtain⟨D,⟨es,clock,hb,_⟩,_⟩:=h;exact⟨es,clock,hb⟩
theorem bx.below{w w':World}{Bm base n:Nat}{l:List UInt8}(h:bx w Bm base l n)(hb:Below w.heap.size w w'):bx w' Bm base l n:=
 h.grown ⟨hb.os,hb.tape,hb.output,hb.size,fun k hk _=>hb.block k hk⟩
theorem xY{w:World}{Bm base g n:Nat}{l:List UInt8}{t:TypeId}{cs:Array Value}(h:bx w Bm base l n)(hg:Blk w g t cs)(ht:t≠3):¬NK Bm base w g:=by
 obtain⟨es,clock,hm⟩:=h.isMap;rintro(rfl|⟨_,cs2,h2⟩)
 ·have h1:w.heap[g]?=some (.cells cs t (0,0)):=hg;rw[hm] at h1;cases h1
 ·exact hg.ne h2 ht rfl
theorem L8{w:World}{Bm base b2 n size k c:Nat}{l:List UInt8}{t:TypeId}{A:Option Addr}{xs:List Value}(h:bx w Bm base l n)(hg:Own w b2 t size A k c xs)(ht:t≠3):∀g,aa A=some g→¬NK Bm base w g:=by
 intro g hgA;rcases hg.2 with⟨hv,_⟩|⟨g',cap,cur,hv,_,hh,_⟩
 ·injection hv with hA _ _
  subst hA;cases hgA
 ·injection hv with hA _ _
  subst hA;obtain rfl:g'=g:=by simpa [aa] using hgA
  exact xY h (t:=t) (cs:=cur) hh ht
theorem yE{w:World}{b2 size k c:Nat}{t:TypeId}{A:Option Addr}{xs:List Value}(hg:Own w b2 t size A k c xs):∀g,aa A=some g→∃cs,Blk w g t cs:=by
 intro g hgA;rcases hg.2 with⟨hv,_⟩|⟨g',cap,cur,hv,_,hh,_⟩
 ·injection hv with hA _ _
  subst hA;cases hgA
 ·injection hv with hA _ _
  subst hA;obtain rfl:g'=g:=by simpa [aa] using hgA
  exact⟨cur,hh⟩
theorem bx.app{w w':World}{Bm base b2 n size k c:Nat}{l:List UInt8}{t:TypeId}{A:Option Addr}{xs:List Value}(h:bx w Bm base l n)(hg:Own w b2 t size A k c xs)(ht:3≠t)(Uc:w.grownBy w' (aa A)):bx w' Bm base l n:=by
 refine h.kept Uc ?_ (fun blk hb=>?_)
 ·intro e;obtain⟨cs,hc⟩:=yE hg Bm e.symm;exact xY h hc (fun e=>ht e.symm) (.inl rfl)
 ·obtain⟨cs,hc⟩:=yE hg blk hb;exact⟨t,cs,ht,hc⟩
theorem Dv{w w':World}{Bm base B:Nat}(h:ab (NK Bm base w) w w')(hB:B≤w.heap.size)(hm:B≤Bm)(hb:B≤base):Below B w w':=
 h.below hB fun i hi=>by
  rcases hi with rfl|⟨h1,_⟩
  ·exact hm
  ·omega
def Fd(w:World)(l:List UInt8)(e:Ending)(w':World):Prop:=∃A c,e=.returned (.slice A (fN l 0).length c)∧fP w' w.heap.size A c (fN l 0)∧Below w.heap.size w w'
set_option maxHeartbeats 3200000 in
theorem Mc(A:Option Addr)(c:Nat)(l:List UInt8)(w:World)(hb:Bts w w.heap.size A l)(hm:l.length≤1048576)(hcl:l.length≤c):
  Cl 267 #[.slice A l.length c] w (Fd w l):=by
 have HB:=Oh hb;clear hb;have hmm:= @run_makeMap prog;go_enter func267,ntmps267;go_wp2_with fail;have hM0:bx ((w.alloc (.map #[] 0)).alloc (.cells #[.slice A l.length c,.map (some w.heap.size)] 447)) w.heap.size (w.heap.size+1) l 0:=(bx.new w l).grown (World.grownBy_alloc _ _ none)
 have hG0:Blk ((w.alloc (.map #[] 0)).alloc (.cells #[.slice A l.length c,.map (some w.heap.size)] 447)) (w.heap.size+1) 447 #[.slice A l.length c,.map (some w.heap.size)]:=by
  have:=Blk.new (w.alloc (.map #[] 0)) 447 #[.slice A l.length c,.map (some w.heap.size)]
  rwa [World.size_alloc] at this
 have hB0:Below w.heap.size w ((w.alloc (.map #[] 0)).alloc (.cells #[.slice A l.length c,.map (some w.heap.size)] 447)):=(Ba).alloc os' _;have HM0:=Oh hM0;have HG0:=Oh hG0;have oK:=Oh hB0;clear hM0 hG0 hB0 hmm;go_loopw [4,5] (fun v i wr=>∃(at':Nat) (A2:Option Addr) (c2:Nat) (L:List Tk),at'≤l.length∧i=.int .i64 at'∧v=.slice A2 L.length c2∧L++fN l at'=fN l 0∧L.length≤at'∧fP wr w.heap.size A2 c2 L∧bx wr w.heap.size (w.heap.size+1) l at'∧Blk wr (w.heap.size+1) 447 #[.slice A l.length c,.map (some w.heap.size)]∧Below w.heap.size w wr) (fun _ i _=>l.length-(intOf i).toNat)
 case atStart=>exact⟨0,none,0,[],Nat.zero_le _,rfl,rfl,rfl,Oi _,Own.nil _ _ _ _,HM0.out,HG0.out,oK.out⟩
 case round=>
  obtain⟨k,A2,c2,L,hk,rfl,rfl,SM,hLk,hown,PI,hblk,aC⟩:=hrel
  by_cases hlt:k<l.length
  ·have YR:(k:Int)<(l.length:Int):=oq;have HBT:=fun W h hb hM=>My (w.heap.size+1) A c l w.heap.size (w.heap.size+1) k W h hb hM oq hlt hcl;have Zk:=Fk l hlt;have T5:=my l k;have SN:=lj hlt;rw[SN] at SM;have Qh:Hid ((L++[mk l k])++fN l (k+max 1 (Mt.tok l k).1)=fN l 0):=Oh (by rw[←SM];simp);have a7a:=FC l k;simp only[xD,Gv] at HBT;rw[←a7a] at Zk T5 Qh;generalize mk l k=t at*;have Te:=HB.out.at_below aC;have HT:=Oh (HBT _ hblk Te PI);have HO:=Oh hown;have HM:=Oh PI;have HG:=Oh hblk;have HW:=Oh aC;have HLK:=Oh hLk;have HK:=Oh hlt;clear HBT SN SM a7a Te hown PI hblk aC hLk hk hlt;go_wp2_with fail;refine HT.out.mono ?_;rintro e w2 ⟨rfl,aT⟩;have bY:=Oh aT;clear aT;obtain⟨t1,t2,t3⟩:=t;simp only at*;go_wp2_with (at_builtin;refine Hid.out ?_);have nE:=((HO.out.below bY.out).alloc (.cells #[.int .u8 (t1.toNat:Int),.int .i64 (t2:Int),.int .i64 (t3:Int)] 379)).alloc (.cells #[.int .u8 (t1.toNat:Int),.int .i64 (t2:Int),.int .i64 (t3:Int)] 379);have hM2:=((HM.out.below bY.out).grown (World.grownBy_alloc w2 (.cells #[.int .u8 (t1.toNat:Int),.int .i64 (t2:Int),.int .i64 (t3:Int)] 379) none)).grown (World.grownBy_alloc _ (.cells #[.int .u8 (t1.toNat:Int),.int .i64 (t2:Int),.int .i64 (t3:Int)] 379) none);have hG2:=((HG.out.below bY.out HG.out.lt).alloc (.cells #[.int .u8 (t1.toNat:Int),.int .i64 (t2:Int),.int .i64 (t3:Int)] 379)).alloc (.cells #[.int .u8 (t1.toNat:Int),.int .i64 (t2:Int),.int .i64 (t3:Int)] 379);have hT2:=(Blk.new w2 379 #[.int .u8 (t1.toNat:Int),.int .i64 (t2:Int),.int .i64 (t3:Int)]).alloc (.cells #[.int .u8 (t1.toNat:Int),.int .i64 (t2:Int),.int .i64 (t3:Int)] 379);have Pe:=fG (fG (ai HW.out bY.out) (.cells #[.int .u8 (t1.toNat:Int),.int .i64 (t2:Int),.int .i64 (t3:Int)] 379)) (.cells #[.int .u8 (t1.toNat:Int),.int .i64 (t2:Int),.int .i64 (t3:Int)] 379);have hN2:=Gu (w2.alloc (.cells #[.int .u8 (t1.toNat:Int),.int .i64 (t2:Int),.int .i64 (t3:Int)] 379)) (t1,t2,t3);simp only[World.size_alloc] at hN2;refine aj (xs:=tcs L) rfl rfl Es rfl nE rfl hN2 (GB _) (L.length+1) rfl (tcs (L++[(t1,t2,t3)])) (wK _ _).symm (by have:=HLK.out;have:=HK.out;unfold maxLen;omega) (by have:=HLK.out;have:=HK.out;omega) Pe.size ?_
   intro A3 c3 w3 o3 g3 q3;have hM3:=hM2.app nE od g3;have hG3:=hG2.grown g3 (fun e=>Own.ne_blk nE hG2 od e.symm)
   have hT3:=hT2.grown g3 (fun e=>by
    have h1:=(HO.out.block e.symm).2;have h2:=bY.out.size;omega)
   have hW3:=wD Pe nE g3 (Oi _) Pe.size
   have hz3:w.heap.size+2≤w3.heap.size:=by
    have h1:=hG3.lt;omega
   have f3:=hT3.c1;have sO:Hid (fP w3 w.heap.size A3 c3 (L++[(t1,t2,t3)])):=Oh (by unfold fP;rw[Ok];exact o3);have UG:=Oh hM3;have SC:=Oh hG3;have Wy:=Oh hW3;have HZ3:=Oh hz3;clear hN2 nE hM2 hG2 hT2 Pe o3 g3 q3 hM3 hG3 hT3 hW3 hz3 HO HM HG bY HT HW;obtain⟨n,hn⟩:=nm (max 1 t2);rw[←hn] at Zk Qh;rcases T5 with h0|h0
   ·have h0:=h0.1;subst h0;obtain rfl:n=1:=oq;clear hn;go_wp2_with fail;go_loopw [5,25] (fun i v wv=>∃j kk:Nat,j≤1∧kk=k+j∧i=.int .i64 (kk:Int)∧v=.int .i64 (j:Int)∧fP wv w.heap.size A3 c3 (L++[(t1,0,t3)])∧bx wv w.heap.size (w.heap.size+1) l kk∧Blk wv (w.heap.size+1) 447 #[.slice A l.length c,.map (some w.heap.size)]∧Below w.heap.size w wv∧w.heap.size+2≤wv.heap.size) (fun _ v _=>1-(intOf v).toNat)
    case atStart=>exact⟨0,k,Nat.zero_le _,rfl,rfl,rfl,sO.out,UG.out,SC.out,Wy.out,HZ3.out⟩
    case round=>
     obtain⟨j,kk,hj,OZ,rfl,rfl,hown,PI,hblk,aC,Is⟩:=hrel
     by_cases hjn:j<1
     ·have PQ:(j:Int)<(1:Int):=oq;exact tN
     ·obtain rfl:1=j:=oq;have HO:=Oh hown;have HM:=Oh PI;have HG:=Oh hblk;have HW:=Oh aC;have VX:=Oh OZ;clear hown PI hblk aC Is hj hjn OZ;go_wp2_with fail;go_roundw
      case rel=>exact⟨kk,A3,c3,L++[(t1,0,t3)],by rw[VX.out];exact Zk,rfl,by simp,by rw[VX.out];exact Qh.out,by have:=HLK.out;have:=VX.out;simp;omega,HO.out,HM.out,HG.out,HW.out⟩
      case measure=>have:=HK.out;have:=VX.out;simp[intOf];omega
   ·obtain rfl:n=t2:=oq;have h0i:(1:Int)<(n:Int):=oq;clear hn;go_wp2_with fail;go_loopw [5,25] (fun i v wv=>∃j kk:Nat,j≤n∧kk=k+j∧i=.int .i64 (kk:Int)∧v=.int .i64 (j:Int)∧fP wv w.heap.size A3 c3 (L++[(t1,n,t3)])∧bx wv w.heap.size (w.heap.size+1) l kk∧Blk wv (w.heap.size+1) 447 #[.slice A l.length c,.map (some w.heap.size)]∧Below w.heap.size w wv∧w.heap.size+2≤wv.heap.size) (fun _ v _=>n-(intOf v).toNat)
    case atStart=>exact⟨0,k,Nat.zero_le _,rfl,rfl,rfl,sO.out,UG.out,SC.out,Wy.out,HZ3.out⟩
    case round=>
     obtain⟨j,kk,hj,OZ,rfl,rfl,hown,PI,hblk,aC,Is⟩:=hrel
     by_cases hjn:j<n
     ·have PQ:(j:Int)<(n:Int):=oq;exact tN
     ·obtain rfl:n=j:=oq;have HO:=Oh hown;have HM:=Oh PI;have HG:=Oh hblk;have HW:=Oh aC;have VX:=Oh OZ;clear hown PI hblk aC Is hj hjn OZ;go_wp2_with fail;go_roundw
      case rel=>exact⟨kk,A3,c3,L++[(t1,n,t3)],by rw[VX.out];exact Zk,rfl,by simp,by rw[VX.out];exact Qh.out,by have:=HLK.out;have:=VX.out;simp;omega,HO.out,HM.out,HG.out,HW.out⟩
      case measure=>have:=HK.out;have:=VX.out;simp[intOf];omega
  ·obtain rfl:k=l.length:=oq;rw[nK (Oi _),List.append_nil] at SM;subst SM;clear hLk PI hblk hk hlt;go_wp2_with fail;go_ret;exact⟨A2,c2,rfl,hown,aC⟩
end
end Go.Proofs.YtmbippkpjdoojaaGreat.Mat
namespace Go.Proofs.YtmbippkpjdoojaaGreat
open Tryz
open Go.RowKit
namespace De
open Go.RowKit
open Bit Bt Mt Df Hu
def sl(p n:Nat):Value:=.slice (some ⟨p,0,none⟩) n n
structure Tb4 where
 a:Nat
 b:Nat
 c:Nat
 d:Nat
def Tb4.xs(P:Tb4):Dw.Xs:=⟨sl P.a 288,sl P.b 32,sl P.c 288,sl P.d 32⟩
structure DWr(P:Tb4)(w:World)(g:Nat)(A:Option Addr)(c:Nat)(L:List Bool):Prop where
 wr:Dw.Wri P.xs w g A c L
 t1:Blk w P.a 5 (bvs bf).toArray
 t2:Blk w P.b 5 (bvs aN).toArray
 t3:Blk w P.c 33 (iU rY).toArray
 t4:Blk w P.d 33 (iU jx).toArray
 l1:P.a<g
 l2:P.b<g
def dm(P:Tb4)(g:Nat)(A:Option Addr)(L:List Bool)(w w':World):Prop:=∃A' c',DWr P w' g A' c' L∧ab (WK g A) w w'∧(aa A'=aa A∨∃i,aa A'=some i∧w.heap.size≤i)
section
variable {P:Tb4} {w w' Wb:World} {g c:Nat} {A A':Option Addr} {L L':List Bool}
theorem DWr.out(h:DWr P w g A c L):P.a≠g∧P.b≠g∧P.c≠g∧P.d≠g∧aa A≠some P.a∧aa A≠some P.b∧aa A≠some P.c∧aa A≠some P.d:=by
 have ho:Own w g 5 1 A (bM L).length c (bvs (bM L)):=h.wr.2;have h1:=h.l1;have h2:=h.l2;refine⟨oq,oq,Blk.ne h.t3 h.wr.1 od,Blk.ne h.t4 h.wr.1 od,fun e=>?_,fun e=>?_,Own.ne_blk ho h.t3 od,Own.ne_blk ho h.t4 od⟩
 ·have:=(Own.block ho e).1;omega
 ·have:=(Own.block ho e).1;omega
theorem DWr.step(h:DWr P w g A c L)(k:Dw.br P.xs g A L' w w'):dm P g A L' w w':=by
 obtain⟨A',c',k1,k2,k3⟩:=k;obtain⟨n1,n2,n3,n4,m1,m2,m3,m4⟩:=h.out;have hK:∀i,i≠g→aa A≠some i→¬WK g A i:=fun i hi hb hk=>hk.elim hi hb;exact⟨A',c',⟨k1,h.t1.only k2 (hK _ n1 m1),h.t2.only k2 (hK _ n2 m2),h.t3.only k2 (hK _ n3 m3),h.t4.only k2 (hK _ n4 m4),h.l1,h.l2⟩,k2,k3⟩
theorem DWr.below(h:DWr P w g A c L)(hb:Below w.heap.size w w'):DWr P w' g A c L:=
 ⟨⟨h.wr.1.below hb h.wr.1.lt,Own.below (show Own w g 5 1 A (bM L).length c (bvs (bM L)) from h.wr.2) hb⟩,h.t1.below hb h.t1.lt,h.t2.below hb h.t2.lt,h.t3.below hb h.t3.lt,h.t4.below hb h.t4.lt,h.l1,h.l2⟩
theorem dm.then(h2:ab (WK g A) w w')(h3:aa A'=aa A∨∃i,aa A'=some i∧w.heap.size≤i)(k:dm P g A' L' w' Wb):dm P g A L' w Wb:=by
 obtain⟨A2,c2,k1,k2,k3⟩:=k;refine⟨A2,c2,k1,h2.step k2 (fun i hi=>?_),?_⟩
 ·rcases hi with rfl|hi
  ·exact .inl (.inl rfl)
  ·rcases h3 with h3|⟨j,hj,hw⟩
   ·exact .inl (.inr (h3▸hi))
   ·rw[hj] at hi;injection hi with hi
    exact .inr oq
 ·rcases k3 with k3|⟨j,hj,hw⟩
  ·rcases h3 with h3|⟨j,hj,hw⟩
   ·exact .inl (k3.trans h3)
   ·exact .inr ⟨j,k3.trans hj,hw⟩
  ·exact .inr ⟨j,hj,Oo h2.size hw⟩
theorem dm.pre{w0:World}(hb:Below w.heap.size w w0)(h:dm P g A L w0 w'):dm P g A L w w':=by
 obtain⟨A',c',h1,h2,h3⟩:=h;exact⟨A',c',h1,(ab.of_below hb).trans h2,h3.imp id (fun⟨i,hi,hw⟩=>⟨i,hi,Oo hb.size hw⟩)⟩
end
theorem jL(P:Tb4)(g:Nat)(A:Option Addr)(c:Nat)(L:List Bool)(s:Nat)(w:World)(h:DWr P w g A c L)(hs:s<288)(hL:L.length+32≤1000000000):
  Cl 269 #[.pointer (some ⟨g,0,none⟩),.int .i64 (s:Int)] w fun e w'=>e=.returned (.tuple #[])∧dm P g A (L++jP s) w w':=by
 obtain⟨f1,f2,_⟩:=FF hs;have Sn:s<rY.length:=by rw[vK];exact hs
 have Lt:s<bf.length:=by rw[iI];exact hs
 have k1:=h.wr.1.c2;have k2:=h.wr.1.c4
 have k3:w.cell? ⟨P.a,s,none⟩=some (.int .u8 ((bf.getD s 0).toNat:Int)):=by
  rw[h.t1.cell];simp[bvs,bv,List.getD_eq_getElem?_getD,Oj Lt]
 have k4:w.cell? ⟨P.c,s,none⟩=some (.int .u32 ((rY.getD s 0:Nat):Int)):=by
  rw[h.t3.cell];simp[iU,List.getD_eq_getElem?_getD,Oj Sn]
 unfold jP ro;generalize rY.getD s 0=n at*;generalize(bf.getD s 0).toNat=m at*;have hp:2^m≤512:=Oo (Nat.pow_le_pow_right od f2) od;have HC:=Oh (fun W A c (h:Dw.Wri P.xs W g A c L)=>Dw.FU g A c L n m W h oq oq (by rw[ib oq,Nat.div_eq_of_lt f1];rfl) hL);have HH:=Oh h;have hsi:(s:Int)<288:=oq;unfold sl at k1 k2;obtain⟨W,hW⟩:=nm ({w with drawn:=w.drawn+1}:World);have n1:W.cell? ⟨g,2,none⟩=some (.slice (some ⟨P.a,0,none⟩) 288 288):=by rw[hW];exact k1
 have n2:W.cell? ⟨g,4,none⟩=some (.slice (some ⟨P.c,0,none⟩) 288 288):=by rw[hW];exact k2
 have n3:W.cell? ⟨P.a,s,none⟩=some (.int .u8 (m:Int)):=by rw[hW];exact k3
 have n4:W.cell? ⟨P.c,s,none⟩=some (.int .u32 (n:Int)):=by rw[hW];exact k4
 have HB:Hid (Below w.heap.size w W):=Oh (by rw[hW];exact(Oq _ _).drew);have HHW:=Oh (HH.out.below HB.out);have HW:=Oh hW;have x9:IntKind.i64.wrap (m:Int)=(m:Int):=i6;clear h hW k1 k2 k3 k4 f1 Sn Lt hp HH;go_enter func269,ntmps269;refine wp_region_still_tail 18 ok' ok' ?_;simp only[List.take_succ_cons,List.take_zero,List.drop_succ_cons,List.drop_zero];rw[←HW.out]
 iterate 18 still_step
 refine wpStill_nil ?_;go_wp2_with fail;refine(HC.out _ _ _ HHW.out.wr).mono ?_;rintro e w2 ⟨rfl,h2⟩;have H2:=Oh ((HHW.out.step h2).pre HB.out);clear h2;go_wp2_with fail;exact bodyPost_end (v:=.tuple #[]) (results_none results269 _ _ _) rfl ⟨rfl,H2.out⟩
theorem J4(P:Tb4)(g:Nat)(A:Option Addr)(c:Nat)(L:List Bool)(s:Nat)(w:World)(h:DWr P w g A c L)(hs:s<32)(hL:L.length+32≤1000000000):
  Cl 343 #[.pointer (some ⟨g,0,none⟩),.int .i64 (s:Int)] w fun e w'=>e=.returned (.tuple #[])∧dm P g A (L++la s) w w':=by
 have f0:jx.getD s 0=s:=by simpa using List.all_eq_true.1 CL s (List.mem_range.2 hs)
 have f2:(aN.getD s 0).toNat=5:=by
  have h:∀i,i<32→(aN.getD i 0).toNat=5:=by decide
  exact h s hs
 have f1:jx.getD s 0<2^(aN.getD s 0).toNat:=by rw[f0,f2];omega
 replace f2:(aN.getD s 0).toNat≤9:=oq;clear f0;have Sn:s<jx.length:=by rw[pZ];exact hs
 have Lt:s<aN.length:=by have h:aN.length=32:=od;rw[h];exact hs
 have k1:=h.wr.1.c3;have k2:=h.wr.1.c5
 have k3:w.cell? ⟨P.b,s,none⟩=some (.int .u8 ((aN.getD s 0).toNat:Int)):=by
  rw[h.t2.cell];simp[bvs,bv,List.getD_eq_getElem?_getD,Oj Lt]
 have k4:w.cell? ⟨P.d,s,none⟩=some (.int .u32 ((jx.getD s 0:Nat):Int)):=by
  rw[h.t4.cell];simp[iU,List.getD_eq_getElem?_getD,Oj Sn]
 unfold la ro;generalize jx.getD s 0=n at*;generalize(aN.getD s 0).toNat=m at*;have hp:2^m≤512:=Oo (Nat.pow_le_pow_right od f2) od;have HC:=Oh (fun W A c (h:Dw.Wri P.xs W g A c L)=>Dw.FU g A c L n m W h oq oq (by rw[ib oq,Nat.div_eq_of_lt f1];rfl) hL);have HH:=Oh h;have hsi:(s:Int)<32:=oq;unfold sl at k1 k2;obtain⟨W,hW⟩:=nm ({w with drawn:=w.drawn+1}:World);have n1:W.cell? ⟨g,3,none⟩=some (.slice (some ⟨P.b,0,none⟩) 32 32):=by rw[hW];exact k1
 have n2:W.cell? ⟨g,5,none⟩=some (.slice (some ⟨P.d,0,none⟩) 32 32):=by rw[hW];exact k2
 have n3:W.cell? ⟨P.b,s,none⟩=some (.int .u8 (m:Int)):=by rw[hW];exact k3
 have n4:W.cell? ⟨P.d,s,none⟩=some (.int .u32 (n:Int)):=by rw[hW];exact k4
 have HB:Hid (Below w.heap.size w W):=Oh (by rw[hW];exact(Oq _ _).drew);have HHW:=Oh (HH.out.below HB.out);have HW:=Oh hW;have x9:IntKind.i64.wrap (m:Int)=(m:Int):=i6;clear h hW k1 k2 k3 k4 f1 Sn Lt hp HH;go_enter func343,ntmps343;refine wp_region_still_tail 18 ok' ok' ?_;simp only[List.take_succ_cons,List.take_zero,List.drop_succ_cons,List.drop_zero];rw[←HW.out]
 iterate 18 still_step
 refine wpStill_nil ?_;go_wp2_with fail;refine(HC.out _ _ _ HHW.out.wr).mono ?_;rintro e w2 ⟨rfl,h2⟩;have H2:=Oh ((HHW.out.step h2).pre HB.out);clear h2;go_wp2_with fail;exact bodyPost_end (v:=.tuple #[]) (results_none results343 _ _ _) rfl ⟨rfl,H2.out⟩
end De
namespace De
open Go.RowKit
open Bit Bt Mt Df Hu
theorem qa{s:Nat}(hs:s<32):(la s).length=5:=by
 unfold la ro;rw[List.length_reverse,ao];have h:∀i,i<32→(aN.getD i 0).toNat=5:=by decide
 exact h s hs
theorem kI(P:Tb4)(g:Nat)(A:Option Addr)(c:Nat)(L:List Bool)(n k:Nat)(w:World)(h:DWr P w g A c L)(hk:k≤32)(hn:n<2^k)(hL:L.length+32≤1000000000):
  Cl 266 #[.pointer (some ⟨g,0,none⟩),.int .u32 (n:Int),.int .i64 (k:Int)] w fun e w'=>e=.returned (.int .i64 0)∧dm P g A (L++gb n k) w w':=by
 have h2:2^k≤2^32:=Nat.pow_le_pow_right od hk;refine(Dw.ia g A c L n k w h.wr oq hk (by rw[ib hk,Nat.div_eq_of_lt hn];rfl) hL).mono ?_;rintro e w' ⟨rfl,h1⟩;exact⟨rfl,h.step h1⟩
theorem Gs(P:Tb4)(g:Nat)(A:Option Addr)(c:Nat)(L:List Bool)(b m n:Nat)(w:World)(h:DWr P w g A c L)(hb:b<256)(hr:n=0∨(1≤n∧n≤32768∧3≤m∧m≤258))(hL:L.length+128≤1000000000):
  Cl 268 #[.pointer (some ⟨g,0,none⟩),.agg #[.int .u8 (b:Int),.int .i64 (m:Int),.int .i64 (n:Int)]] w fun e w'=>e=.returned (.tuple #[])∧dm P g A (L++rW (b,m,n)) w w':=by
 have aS:Hid (Below w.heap.size w (w.alloc (.cells #[.int .u8 (b:Int),.int .i64 (m:Int),.int .i64 (n:Int)] 379))):=Oh (Ba);have Ub:Hid (Blk (w.alloc (.cells #[.int .u8 (b:Int),.int .i64 (m:Int),.int .i64 (n:Int)] 379)) w.heap.size 379 #[.int .u8 (b:Int),.int .i64 (m:Int),.int .i64 (n:Int)]):=Oh (Blk.new _ _ _);have HH1:=Oh (h.below aS.out);have HGN:Hid (g≠w.heap.size∧aa A≠some w.heap.size):=Oh ⟨fun e=>by have:=h.wr.1.lt;omega,fun e=>by have:=(Own.block (show Own w g 5 1 A (bM L).length c (bvs (bM L)) from h.wr.2) e).2;omega⟩
 by_cases hn:n=0
 ·subst hn;have e:rW (b,m,0)=jP b:=by unfold rW;rw[if_pos rfl]
  rw[e];have HL:=Oh (fun W A c (h:DWr P W g A c L)=>jL P g A c L b W h oq oq);have x0:IntKind.i64.wrap (b:Int)=(b:Int):=i6;clear e h hr Ub HGN;go_enter func268,ntmps268;go_wp2_with fail;refine(HL.out _ _ _ HH1.out).mono ?_;rintro e w2 ⟨rfl,h2⟩;have H2:=Oh (h2.pre aS.out);clear h2;go_wp2_with fail;exact bodyPost_ret (v:=.tuple #[]) (results_none results268 _ _ _) rfl ⟨rfl,H2.out⟩
 ·obtain⟨r1,r2,r3,r4⟩:=hr.resolve_left hn;obtain⟨l1,l2,l3,l4,_,_⟩:=nj r3 r4;obtain⟨s1,s2,s3,s4⟩:=tq r1 r2;obtain⟨s5,_⟩:=zg s1;have e:rW (b,m,n)=jP (aG m).1++gb (aG m).2.2 (aG m).2.1++la (de n).1++gb (de n).2.2 (de n).2.1:=by unfold rW;rw[if_neg hn]
  have q1:(de n).2.1≤13:=by rw[s3];exact s5
  have q2:(de n).2.2<2^(de n).2.1:=by rw[s3];exact s4
  have TX:=Oh (fun W=>DN m r3 r4 W);have HSN:=Oh (fun W=>KI n r1 r2 W);have y1:((n:Int)==0)=false:=by rw[beq_eq_false_iff_ne];omega
  unfold pr3 at TX HSN;rw[e];clear e s2 s3 s4 s5 hr hn hb;generalize(aG m).1=a1 at*;generalize(aG m).2.1=a2 at*;generalize(aG m).2.2=a3 at*;generalize(de n).1=b1 at*;generalize(de n).2.1=b2 at*;generalize(de n).2.2=b3 at*;have t1:(jP a1).length≤9:=kC oq;have t2:(gb a3 a2).length≤5:=by rw[ao];exact l3
  have t3:(la b1).length=5:=qa oq;have p1:a3<32:=Nat.lt_of_lt_of_le l4 (Oo (Nat.pow_le_pow_right od l3) od);have p2:b3<8192:=Nat.lt_of_lt_of_le q2 (Oo (Nat.pow_le_pow_right od q1) od);have Tt:=Oh (fun W A c (h:DWr P W g A c L)=>jL P g A c L a1 W h oq oq);have X8:=Oh (fun W A c (h:DWr P W g A c (L++jP a1))=>kI P g A c (L++jP a1) a3 a2 W h oq l4 (by rw[Ok];omega));have HC3:=Oh (fun W A c (h:DWr P W g A c (L++jP a1++gb a3 a2))=>J4 P g A c (L++jP a1++gb a3 a2) b1 W h oq (by rw[Ok,Ok];omega));have HC4:=Oh (fun W A c (h:DWr P W g A c (L++jP a1++gb a3 a2++la b1))=>kI P g A c (L++jP a1++gb a3 a2++la b1) b3 b2 W h oq q2 (by rw[Ok,Ok,Ok];omega));have x1:IntKind.u32.wrap (a3:Int)=(a3:Int):=by rw[IntKind.wrap_u32];omega
  have x2:IntKind.u32.wrap (b3:Int)=(b3:Int):=by rw[IntKind.wrap_u32];omega
  clear h l1 l2 l3 l4 q1 q2 t1 t2 t3 s1;go_enter func268,ntmps268;go_wp2_with fail;refine(TX.out _).mono ?_;rintro e w2 ⟨rfl,hw⟩;obtain rfl:=hw.symm;go_wp2_with fail;refine(Tt.out _ _ _ HH1.out).mono ?_;rintro e w2 ⟨rfl,h2⟩;have H2:=Oh h2;clear h2;go_wp2_with fail;obtain⟨A2,c2,d2,k2,q2⟩:=H2.out;refine(X8.out _ _ _ d2).mono ?_;rintro e w3 ⟨rfl,h3⟩;have H3:=Oh (dm.then k2 q2 h3);clear h3 d2 k2 q2 H2;have hk:¬WK g A w.heap.size:=fun h=>h.elim (fun e=>HGN.out.1 e.symm) HGN.out.2
  have k0:w3.cell? ⟨w.heap.size,2,none⟩=some (.int .i64 (n:Int)):=by
   obtain⟨_,_,_,k3,_⟩:=H3.out;rw[(Ub.out.only k3 hk).cell];rfl
  clear hk;go_wp2_with fail;refine(HSN.out _).mono ?_;rintro e w4 ⟨rfl,hw⟩;obtain rfl:=hw.symm;clear k0;go_wp2_with fail;obtain⟨A3,c3,d3,k3,q3⟩:=H3.out;refine(HC3.out _ _ _ d3).mono ?_;rintro e w4 ⟨rfl,h4⟩;have H4:=Oh (dm.then k3 q3 h4);clear h4 d3 k3 q3 H3;go_wp2_with fail;obtain⟨A4,c4,d4,k4,q4⟩:=H4.out;refine(HC4.out _ _ _ d4).mono ?_;rintro e w5 ⟨rfl,h5⟩;have H5:=Oh ((dm.then k4 q4 h5).pre aS.out);clear h5 d4 k4 q4 H4;go_wp2_with fail;refine bodyPost_end (v:=.tuple #[]) (results_none results268 _ _ _) rfl ⟨rfl,?_⟩;have h:=H5.out;simp only[List.append_assoc] at h ⊢;exact h
end De
namespace De
open Go.RowKit
open Bit Bt Mt Df Hu
structure DW0(w v:World)(g a b:Nat):Prop where
 wr:Blk v g 373 #[.slice none 0 0,.int .i64 0,sl a 288,sl b 32,.slice none 0 0,.slice none 0 0]
 t1:Blk v a 5 (bvs bf).toArray
 t2:Blk v b 5 (bvs aN).toArray
 l1:a<g
 l2:b<g
 base:w.heap.size≤g∧w.heap.size≤a∧w.heap.size≤b
 bel:Below w.heap.size w v
section
variable {w v v':World} {g a b:Nat}
theorem DW0.below(h:DW0 w v g a b)(k:Below v.heap.size v v'):DW0 w v' g a b:=⟨h.wr.below k h.wr.lt,h.t1.below k h.t1.lt,h.t2.below k h.t2.lt,h.l1,h.l2,h.base,h.bel.trans (k.mono h.bel.size)⟩
theorem DW0.c2(h:DW0 w v g a b):v.cell? ⟨g,2,none⟩=some (.slice (some ⟨a,0,none⟩) 288 288):=h.wr.ce
theorem DW0.c3(h:DW0 w v g a b):v.cell? ⟨g,3,none⟩=some (.slice (some ⟨b,0,none⟩) 32 32):=h.wr.ce
theorem zv{L:List UInt8}(h:Blk v a 5 (bvs L).toArray):Bts v v.heap.size (some ⟨a,0,none⟩) L:=Bts.lit h rfl
theorem DW0.b2(h:DW0 w v g a b):Blk v b 5 (bvs aN).toArray:=h.t2
end
def FI(P:Tb4)(w:World)(g:Nat)(L:List Bool)(W:World):Prop:=∃A c,DWr P W g A c L∧Below w.heap.size w W
theorem FI.step{P:Tb4}{w W W':World}{g c:Nat}{A:Option Addr}{L L':List Bool}(h:DWr P W g A c L)(hg:w.heap.size≤g)(hb:Below w.heap.size w W)(k:dm P g A L' W W'):FI P w g L' W':=by
 obtain⟨A',c',k1,k2,_⟩:=k;refine⟨A',c',k1,hb.trans (k2.below hb.size (fun i hi=>?_))⟩;rcases hi with rfl|hi
 ·exact hg
 ·exact Oo hg (Own.block (show Own W g 5 1 A (bM L).length c (bvs (bM L)) from h.wr.2) hi).1
theorem zZ{P:Tb4}{W W':World}{g c b2 c2:Nat}{A B:Option Addr}{L L':List Bool}{T:List Tk}(h:DWr P W g A c L)(ht:Mat.fP W b2 B c2 T)(k:dm P g A L' W W'):Mat.fP W' b2 B c2 T:=by
 obtain⟨_,_,_,k2,_⟩:=k;have ht':Own W b2 379 3 B T.length c2 (Mat.tcs T):=ht;refine Own.only ht' k2 (fun i hi hk=>?_);rcases hk with rfl|hk
 ·exact Own.ne_blk ht' h.wr.1 od hi
 ·obtain⟨cs,hcs⟩:=qj (show Own W g 5 1 A (bM L).length c (bvs (bM L)) from h.wr.2) hk;exact Own.ne_blk ht' hcs od hi
theorem Cv(t:Tk)(hr:t.2.2=0∨(1≤t.2.2∧t.2.2≤32768∧3≤t.2.1∧t.2.1≤258)):(rW (t.1.toNat,t.2.1,t.2.2)).length≤32:=by
 unfold rW;split
 ·have:=kC (show t.1.toNat<288 by have:=t.1.toNat_lt;omega);dsimp only;omega
 ·rename_i hn;obtain⟨r1,r2,r3,r4⟩:=hr.resolve_left hn;obtain⟨l1,l2,l3,_⟩:=nj r3 r4;obtain⟨s1,s2,s3,s4⟩:=tq r1 r2;obtain⟨s5,_⟩:=zg s1;have h1:=kC (show(aG t.2.1).1<288 by omega);have h3:=qa (show(de t.2.2).1<32 by omega);dsimp only;rw[Ok,Ok,Ok,ao,ao,h3,s3];dsimp only;omega
theorem KB{l:List UInt8}(hm:l.length≤1048576):∀t∈fN l 0,t.2.2=0∨(1≤t.2.2∧t.2.2≤32768∧3≤t.2.1∧t.2.1≤258):=by
 have H:∀(T:List Tk) (b:List UInt8),yd b T→∀t∈T,t.2.2=0∨(1≤t.2.2∧t.2.2≤32768∧3≤t.2.1∧t.2.1≤258):=by
  intro T
  induction T with
  |nil=>intro b _ t ht;cases ht
  |cons a T ih=>
   intro b hb t ht;rcases List.mem_cons.1 ht with rfl|ht
   ·rcases hb.1 with h|h
    ·exact .inl h.2.1
    ·exact .inr ⟨h.2.1,h.2.2.1,h.2.2.2.2.1,h.2.2.2.2.2.1⟩
   ·exact ih _ hb.2 t ht
 exact H _ _ (wI hm 0 (Nat.zero_le _))
theorem wJ{T:List Tk}{k:Nat}{t:Tk}(h:T[k]?=some t):fu (T.take (k+1))=fu (T.take k)++rW (t.1.toNat,t.2.1,t.2.2):=by
 unfold fu;rw[List.take_add_one,h,List.flatMap_append];simp
theorem tj(T:List Tk)(h:∀t∈T,t.2.2=0∨(1≤t.2.2∧t.2.2≤32768∧3≤t.2.1∧t.2.1≤258)):(fu T).length≤32*T.length:=by
 induction T with
 |nil=>simp[fu]
 |cons t T ih=>
  have h1:=Cv t (h t os');have h2:=ih (fun t ht=>h t (by simp[ht]));have e:fu (t::T)=rW (t.1.toNat,t.2.1,t.2.2)++fu T:=rfl;rw[e,Ok,List.length_cons];omega
theorem qW:∀x∈bf,x.toNat≤15:=by decide+kernel
theorem pE:∀x∈aN,x.toNat≤15:=by decide+kernel
theorem pG:lV bf=32768:=by decide+kernel
theorem mR:lV aN=32768:=by decide+kernel
theorem qV:(io bf).length≠1:=by decide+kernel
theorem pD:(io aN).length≠1:=by decide+kernel
theorem ET(W:World)(a:Nat)(h:Blk W a 5 (bvs bf).toArray):Cl 265 #[.slice (some ⟨a,0,none⟩) 288 288] W fun e w'=>∃p,e=.returned (.slice (some ⟨p,0,none⟩) 288 288)∧W.heap.size≤p∧Blk w' p 33 (iU rY).toArray∧Below W.heap.size W w':=by
 have hc:=wk (some ⟨a,0,none⟩) 288 bf W (zv h) qW (by rw[iI];omega) pG qV;rw[iI] at hc;refine hc.mono ?_;rintro e w' ⟨p,rfl,h1,h2,h3⟩;exact⟨p,by rw[show fS bf=rY from rfl,vK],h1,h2,h3⟩
theorem ES(W:World)(a:Nat)(h:Blk W a 5 (bvs aN).toArray):Cl 265 #[.slice (some ⟨a,0,none⟩) 32 32] W fun e w'=>∃p,e=.returned (.slice (some ⟨p,0,none⟩) 32 32)∧W.heap.size≤p∧Blk w' p 33 (iU jx).toArray∧Below W.heap.size W w':=by
 have hl:aN.length=32:=by decide
 have hc:=wk (some ⟨a,0,none⟩) 32 aN W (zv h) pE (by rw[hl];omega) mR pD;rw[hl] at hc;refine hc.mono ?_;rintro e w' ⟨p,rfl,h1,h2,h3⟩;exact⟨p,by rw[show fS aN=jx from rfl,pZ],h1,h2,h3⟩
theorem EH(A:Option Addr)(c:Nat)(l:List UInt8)(w:World)(hb:Bts w w.heap.size A l)(hm:l.length≤65535)(hcl:l.length≤c):
  Cl 184 #[.slice A l.length c] w (cY w (jj l)):=by
 have HF:=Oh (fun W=>IT W);have HS:=Oh (fun W=>GM W);have HB:=Oh hb;have HM:=Oh (And.intro hm hcl);clear hb hm hcl;go_enter func184,ntmps184;go_wp2_with fail;refine(HF.out _).mono ?_;rintro e w1 ⟨a,rfl,Ug,PU,Vw⟩;have HA:=Oh (And.intro Ug (And.intro PU Vw));clear Ug PU Vw;go_wp2_with fail;refine(HS.out _).mono ?_;rintro e w2 ⟨b,rfl,eQ,aT,dO⟩;have TD:Hid (DW0 w (w2.alloc (.cells #[.slice none 0 0,.int .i64 0,.slice (some ⟨a,0,none⟩) 288 288,.slice (some ⟨b,0,none⟩) 32 32,.slice none 0 0,.slice none 0 0] 373)) w2.heap.size a b):=Oh ⟨Blk.new _ _ _,(HA.out.2.1.below dO HA.out.2.1.lt).alloc _,aT.alloc _,Nat.lt_of_lt_of_le HA.out.2.1.lt dO.size,aT.lt,⟨Oo HA.out.2.2.size dO.size,HA.out.1,Oo HA.out.2.2.size eQ⟩,(HA.out.2.2.trans (dO.mono HA.out.2.2.size)).alloc (Oo HA.out.2.2.size dO.size) _⟩;clear eQ aT dO HA;have Tt:=Oh (fun W (h:Blk W a 5 (bvs bf).toArray)=>ET W a h);have X8:=Oh (fun W (h:Blk W b 5 (bvs aN).toArray)=>ES W b h);go_upto_region 2 with(fail);obtain⟨g,hg⟩:=nm (w2.heap.size);rw[←hg] at TD ⊢;clear hg;generalize w2.alloc (.cells #[.slice none 0 0,.int .i64 0,.slice (some ⟨a,0,none⟩) 288 288,.slice (some ⟨b,0,none⟩) 32 32,.slice none 0 0,.slice none 0 0] 373)=W1 at*;have hS:W1.cell? ⟨g,2,none⟩=some (.slice (some ⟨a,0,none⟩) 288 288)∧W1.cell? ⟨g,3,none⟩=some (.slice (some ⟨b,0,none⟩) 32 32):=⟨TD.out.c2,TD.out.c3⟩;refine wp_region_noPanic ?_;refine ag (S:=(fun(V:World)=>V.cell? ⟨g,2,none⟩=some (.slice (some ⟨a,0,none⟩) 288 288)∧V.cell? ⟨g,3,none⟩=some (.slice (some ⟨b,0,none⟩) 32 32))) (L:=11) ok' hS (fun hHeld=>?_);have HD:Hid (Blk W1.drew a 5 (bvs bf).toArray∧∀v,Below W1.drew.heap.size W1.drew v→DW0 w v g a b):=Oh ⟨TD.out.t1.drew,fun v hv=>TD.out.below ((Oq _ _).drew.trans hv)⟩;clear TD;generalize W1.drew=Wd at*;refine fV 0 ?_;refine fV 1 ?_;refine tV 2 ?_;refine tV 3 ?_;refine tV 4 ?_;refine tV 5 ?_;refine tV 7 ?_;refine tV 8 ?_;refine tV 9 ?_;refine tV 10 ?_;refine bO 6 fun K hK=>?_;go_simp;refine(Tt.out _ HD.out.1).mono ?_;rintro e v1 ⟨p3,rfl,Xq,QP,dO⟩;have QG:=Oh (HD.out.2 v1 dO)
 have H3:=Oh (And.intro Xq QP);clear Xq QP dO HD Tt;replace hHeld:=(show(fun(V:World)=>V.cell? ⟨g,2,none⟩=some (.slice (some ⟨a,0,none⟩) 288 288)∧V.cell? ⟨g,3,none⟩=some (.slice (some ⟨b,0,none⟩) 32 32)) v1 from⟨QG.out.c2,QG.out.c3⟩);refine hK.out _ _ hHeld ?_;clear hK K;try go_simp
 refine iV 11 fun K hK=>?_;go_simp;refine(X8.out _ QG.out.b2).mono ?_;rintro e v2 ⟨p4,rfl,hp4,Xj,QT⟩;have Pn:=Oh (QG.out.below QT);have H4:=Oh (And.intro Xj (H3.out.2.below QT H3.out.2.lt));have c4:=Pn.out.wr.c4;have c5:=Pn.out.wr.c5;have fr:=Pn.out.wr.free;clear hp4 Xj QT QG X8 H3;refine hK.out _ _ ?_;clear hK K;try go_simp
 refine aA 12 ?_;refine aA 13 ?_;refine aA 14 ?_;refine aA 15 ?_;refine aA 16 ?_;refine aA 17 ?_;refine cD ?_
 have QW:Hid (DWr ⟨a,b,p3,p4⟩ ((v2.setCell ⟨g,4,none⟩ (.slice (some ⟨p3,0,none⟩) 288 288)).setCell ⟨g,5,none⟩ (.slice (some ⟨p4,0,none⟩) 32 32)) g none 0 []):=Oh (by
  have h2:=Pn.out;have n1:a≠g:=by have:=h2.l1;omega
  have n2:b≠g:=by have:=h2.l2;omega
  have n3:p3≠g:=Blk.ne H4.out.2 h2.wr od;have n4:p4≠g:=Blk.ne H4.out.1 h2.wr od;refine⟨⟨?_,Own.nil _ _ _ _⟩,?_,?_,?_,?_,h2.l1,h2.l2⟩
  ·exact(h2.wr.put 4 (.slice (some ⟨p3,0,none⟩) 288 288)).put 5 (.slice (some ⟨p4,0,none⟩) 32 32)
  ·exact(h2.t1.far (p:=⟨g,4,none⟩) n1 _).far (p:=⟨g,5,none⟩) n1 _
  ·exact(h2.t2.far (p:=⟨g,4,none⟩) n2 _).far (p:=⟨g,5,none⟩) n2 _
  ·exact(H4.out.2.far (p:=⟨g,4,none⟩) n3 _).far (p:=⟨g,5,none⟩) n3 _
  ·exact(H4.out.1.far (p:=⟨g,4,none⟩) n4 _).far (p:=⟨g,5,none⟩) n4 _)
 have Pg:Hid (Below w.heap.size w ((v2.setCell ⟨g,4,none⟩ (.slice (some ⟨p3,0,none⟩) 288 288)).setCell ⟨g,5,none⟩ (.slice (some ⟨p4,0,none⟩) 32 32))):=Oh ((Pn.out.bel.setCell Pn.out.base.1 _).setCell Pn.out.base.1 _);have HG:Hid (w.heap.size≤g):=Oh Pn.out.base.1;clear Pn H4 c4 c5 fr HF HS;generalize(v2.setCell ⟨g,4,none⟩ (.slice (some ⟨p3,0,none⟩) 288 288)).setCell ⟨g,5,none⟩ (.slice (some ⟨p4,0,none⟩) 32 32)=W3 at*;generalize(⟨a,b,p3,p4⟩:Tb4)=P at*;go_wp2_with fail;refine(kI P g none 0 [] 1 1 _ QW.out oq oq os').mono ?_;rintro e w4 ⟨rfl,h4⟩;have HI4:Hid (FI P w g (gb 1 1) w4):=Oh (FI.step QW.out HG.out Pg.out (by simpa using h4));clear h4 QW Pg;go_wp2_with fail;obtain⟨A4,c4,d4,b4⟩:=HI4.out;refine(kI P g A4 c4 _ 1 2 _ d4 oq oq (by simp[ao])).mono ?_;rintro e w5 ⟨rfl,h5⟩;have HI5:Hid (FI P w g (gb 1 1++gb 1 2) w5):=Oh (FI.step d4 HG.out b4 h5);clear h5 d4 b4 HI4;go_wp2_with fail;obtain⟨A5,c5,d5,b5⟩:=HI5.out;refine(Mat.Mc A c l _ (HB.out.at_below b5) (by have:=HM.out;omega) HM.out.2).mono ?_;rintro e w6 ⟨TA,Tc,rfl,o6,k6⟩;have HI6:Hid (FI P w g (gb 1 1++gb 1 2++fu ((fN l 0).take 0)) w6):=Oh ⟨A5,c5,by rw[List.take_zero,show fu []=[] from rfl,List.append_nil];exact d5.below k6,b5.trans (k6.mono b5.size)⟩;have SS:Hid (Mat.fP w6 w.heap.size TA Tc (fN l 0)):=Oh (Own.mono (show Own w6 w5.heap.size 379 3 TA (fN l 0).length Tc (Mat.tcs (fN l 0)) from o6) b5.size)
 have Sg:(fN l 0).length≤65535:=by
  have:=sC (b:=l) 0 (Nat.zero_le _);have:=HM.out.1;omega
 have HTR:=Oh (KB (l:=l) (by have:=HM.out.1;omega));have HFX:Hid (jj l=bM (gb 1 1++gb 1 2++fu (fN l 0)++jP 256)):=Oh rfl;clear o6 k6 d5 b5 HI5;generalize fN l 0=T at*;go_wp2_with fail;go_loopw [37] (fun v wr=>∃k:Nat,k≤T.length∧v=.int .i64 (k:Int)∧FI P w g (gb 1 1++gb 1 2++fu (T.take k)) wr∧Mat.fP wr w.heap.size TA Tc T) (fun v _=>T.length-(intOf v).toNat)
 case atStart=>exact⟨0,oq,rfl,HI6.out,SS.out⟩
 case round=>
  obtain⟨k,hk,rfl,hfi,hown⟩:=hrel;have Rj:=Oh hfi;have HTO:=Oh hown;clear hfi hown HI6 SS
  by_cases hlt:k<T.length
  ·obtain⟨t,ht⟩:=gs T k hlt;obtain⟨gt,rfl,_,_,_,RI,_⟩:=Own.form (show Own wr w.heap.size 379 3 TA T.length Tc (Mat.tcs T) from HTO.out) oq;obtain⟨q1,q2,q3⟩:=Mat.GC ht;have m1:=RI _ _ q1;have m2:=RI _ _ q2;have m3:=RI _ _ q3;have OZ:(k:Int)<(T.length:Int):=oq;have hr:=HTR.out t (Om ht);have PE:=Oh (wJ ht);obtain⟨A7,c7,d7,b7⟩:=Rj.out
   have Lt:(gb 1 1++gb 1 2++fu (T.take k)).length+128≤1000000000:=by
    have:=tj (T.take k) (fun t ht=>HTR.out t (List.mem_of_mem_take ht));rw[List.length_take] at this;rw[Ok,Ok,ao,ao];omega
   have YT:=Oh d7;have Qx:=Oh b7;have Qh:=Oh (fun W (h:DWr P W g A7 c7 (gb 1 1++gb 1 2++fu (T.take k)))=>Gs P g A7 c7 _ t.1.toNat t.2.1 t.2.2 W h t.1.toNat_lt hr Lt);have HL:=Oh hlt;have hb8:=(Oq wr.heap.size wr).alloc (Oi _) (.cells #[.int .u8 (t.1.toNat:Int),.int .i64 (t.2.1:Int),.int .i64 (t.2.2:Int)] 379);have Qg:=Oh hb8;clear RI q1 q2 q3 ht hr d7 b7 Lt hlt hk Rj hb8;go_wp2_with fail;refine(Qh.out _ (YT.out.below Qg.out)).mono ?_;rintro e w9 ⟨rfl,h9⟩;have HI9:=Oh (FI.step (YT.out.below Qg.out) HG.out (Qx.out.trans (Qg.out.mono Qx.out.size)) h9);have WX:=Oh (zZ (YT.out.below Qg.out) (Own.below (show Own wr w.heap.size 379 3 (some ⟨gt,0,none⟩) T.length Tc (Mat.tcs T) from HTO.out) Qg.out) h9);clear h9 YT Qx Qh;go_wp2_with fail;go_roundw
   case rel=>exact⟨k+1,HL.out,by go_num,by rw[PE.out,←List.append_assoc];exact HI9.out,WX.out⟩
   case measure=>exact ms HL
  ·obtain rfl:k=T.length:=oq;rw[List.take_length] at Rj
   have Lt:(gb 1 1++gb 1 2++fu T).length≤10000000:=by
    have:=tj T HTR.out;rw[Ok,Ok,ao,ao];omega
   have OB:=Oh Lt;clear hlt hk Lt HTO;go_wp2_with fail;obtain⟨A7,c7,d7,b7⟩:=Rj.out;refine(jL P g A7 c7 _ 256 _ d7 oq (by have:=OB.out;omega)).mono ?_;rintro e w8 ⟨rfl,h8⟩;have HI8:=Oh (FI.step d7 HG.out b7 h8);clear h8 d7 b7 Rj;go_wp2_with fail;obtain⟨A8,c8,d8,b8⟩:=HI8.out;refine(Dw.rU g A8 c8 _ _ d8.wr (by have:=OB.out;have:=kC (show 256<288 by omega);rw[Ok];omega)).mono ?_;rintro e w9 ⟨A9,c9,rfl,o9,k9⟩;have Xo:Hid (ak w9 w.heap.size A9 c9 (jj l)):=Oh (by rw[HFX.out];exact Own.mono (show Own w9 w8.heap.size 5 1 A9 _ c9 (bvs _) from o9) b8.size);have QF:=Oh (b8.trans (k9.mono b8.size));clear o9 k9 d8 b8 HI8;go_wp2_with fail;go_ret;exact⟨A9,c9,by rw[HFX.out];simp only[List.append_assoc];rfl,Xo.out,QF.out⟩
end De
namespace De
open Go.RowKit
open Bit Bt Mt Df Hu
theorem Gj(n:Nat)(h:n<65536):bits .xor .u32 (n:Int) 65535=((65535-n:Nat):Int):=by
 rw[show(65535:Int)=((65535:Nat):Int) from rfl,u32_xor_nat _ _ oq oq]
 congr 1
 apply Nat.eq_of_testBit_eq
 intro i;rw[Nat.testBit_xor,show(65535:Nat)-n=2^16-(n+1) by omega,Nat.testBit_two_pow_sub_succ (show n<2^16 from h),show(65535:Nat)=2^16-1 by decide,Nat.testBit_two_pow_sub_one]
 by_cases hi:i<16
 ·simp[hi]
 ·have:n.testBit i=false:=Nat.testBit_lt_two_pow (Nat.lt_of_lt_of_le (show n<2^16 from h) (Nat.pow_le_pow_right (n:=2) od (show 16≤i by omega)));simp[hi,this]
theorem xC{L:List Bool}(h:L.length%8=0):dl L=L:=by
 unfold dl ML;rw[show 8*((L.length+7)/8)-L.length=0 by omega];simp
theorem wM{l:List UInt8}(h:l.length≤65535):dp l=bM (dl (gb 1 1++gb 0 2)++gb l.length 16++gb (65535-l.length) 16++dH l):=by
 unfold dp;rw[show(17:Nat)=16+1 from rfl,kQ,if_pos h];rfl
def GI(w:World)(g:Nat)(L:List Bool)(W:World):Prop:=∃A c,Wri W g A c L∧Below w.heap.size w W
theorem GI.step{w W W':World}{g c:Nat}{A:Option Addr}{L L':List Bool}(h:Wri W g A c L)(hg:w.heap.size≤g)(hb:Below w.heap.size w W)(k:Bit.br g A L' W W'):GI w g L' W':=by
 obtain⟨A',c',k1,k2,_⟩:=k;refine⟨A',c',k1,hb.trans (k2.below hb.size (fun i hi=>?_))⟩;rcases hi with rfl|hi
 ·exact hg
 ·exact Oo hg (Own.block (show Own W g 5 1 A (bM L).length c (bvs (bM L)) from h.2) hi).1
theorem BQ(A:Option Addr)(c:Nat)(l:List UInt8)(w:World)(hb:Bts w w.heap.size A l)(hm:l.length<65535)(hcl:l.length≤c):
  Cl 185 #[.slice A l.length c] w (cY w (dp l)):=by
 have HB:=Oh hb;have HM:=Oh (And.intro hm hcl);have y0:(l.length:Int)<65535:=oq;have y2:=Gj l.length oq;obtain⟨M,hM⟩:=nm (65535-l.length);rw[←hM] at y2;have hmn:∀(W:World) (ts:Array TypeId) (t:TypeId),(Builtin.min_ ts t #[.int .i64 (l.length:Int),.int .i64 65535]).run prog W=.ok (.int .i64 (l.length:Int)) W:=fun W ts t=>by rw[run_min_int2,if_neg oq]
 have y3:IntKind.u32.wrap (l.length:Int)=(l.length:Int):=by rw[IntKind.wrap_u32];omega
 have RS:∀W:World,(Instr.slice 24 (.slice A l.length c) none (some (.int .i64 (l.length:Int))) none).run prog W=.ok (.slice A l.length c) W:=fun W=>by
  have hu:prog.underlying 24=some (.slice (prog.elem 24)):=by rw[fL];exact underlying24
  rw[run_slice_h (w:=W) 24 A l.length c hu .i64 (l.length:Int) oq oq,fL,mB];cases A<;>simp[Result.andThen,sliced,Addr.add]
 have SB:∃v,∀W:World,(Instr.slice 24 (.slice A l.length c) (some (.int .i64 (l.length:Int))) none none).run prog W=.ok v W:=by
  refine⟨sliced A l.length l.length c 1,fun W=>?_⟩;have hu:prog.underlying 24=some (.slice (prog.elem 24)):=by rw[fL];exact underlying24
  rw[run_slice_l (w:=W) 24 A l.length c hu .i64 (l.length:Int) oq oq,fL,mB];rfl
 obtain⟨v0,SB⟩:=SB;have HX:Hid (dp l=bM (dl (gb 1 1++gb 0 2)++gb l.length 16++gb M 16++dH l)):=Oh (by rw[hM];exact wM oq);have HMM:Hid (M<65536):=Oh oq;have HI0:Hid (GI w w.heap.size [] (w.alloc (.cells #[.slice none 0 0,.int .i64 0] 371))):=Oh ⟨none,0,⟨Blk.new _ _ _,Own.nil _ _ _ _⟩,Ba⟩;clear hb hm hcl hM;go_enter func185,ntmps185;go_wp2_with fail;generalize w.alloc (.cells #[.slice none 0 0,.int .i64 0] 371)=w1 at*;go_loopw [0] (fun v wr=>v=.slice A l.length c∧wr=w1) (fun _ _=>0)
 case atStart=>exact⟨rfl,rfl⟩
 case round=>
  obtain⟨rfl,rfl⟩:=hrel;go_wp2_with fail;obtain⟨A1,c1,d1,b1⟩:=HI0.out;refine(ia w.heap.size A1 c1 [] 1 1 _ d1 oq oq od os').mono ?_;rintro e w2 ⟨rfl,h2⟩;have HI2:Hid (GI w w.heap.size (gb 1 1) w2):=Oh (GI.step d1 (Oi _) b1 (by simpa using h2));clear h2 d1 b1 HI0;go_wp2_with fail;obtain⟨A2,c2,d2,b2⟩:=HI2.out;refine(ia w.heap.size A2 c2 _ 0 2 _ d2 oq oq od (by simp[ao])).mono ?_;rintro e w3 ⟨rfl,h3⟩;have HI3:Hid (GI w w.heap.size (gb 1 1++gb 0 2) w3):=Oh (GI.step d2 (Oi _) b2 h3);clear h3 d2 b2 HI2;go_wp2_with fail;obtain⟨A3,c3,d3,b3⟩:=HI3.out;refine(Co w.heap.size A3 c3 _ _ d3 (by simp[ao])).mono ?_;rintro e w4 ⟨rfl,h4⟩;have HI4:Hid (GI w w.heap.size (dl (gb 1 1++gb 0 2)) w4):=Oh (GI.step d3 (Oi _) b3 h4);have UB:(dl (gb 1 1++gb 0 2)).length=8:=by rw[cG,Ok,ao,ao]
  clear h4 d3 b3 HI3;generalize dl (gb 1 1++gb 0 2)=L1 at*;have HAL:=Oh UB;clear UB;go_wp2_with fail;obtain⟨A4,c4,d4,b4⟩:=HI4.out;refine(ia w.heap.size A4 c4 _ l.length 16 _ d4 (by have:=HM.out;omega) oq (by rw[ib oq,Nat.div_eq_of_lt (by have:=HM.out;omega)];rfl) (by rw[HAL.out];omega)).mono ?_;rintro e w5 ⟨rfl,h5⟩;have HI5:Hid (GI w w.heap.size (L1++gb l.length 16) w5):=Oh (GI.step d4 (Oi _) b4 h5);clear h5 d4 b4 HI4;go_wp2_with fail;obtain⟨A5,c5,d5,b5⟩:=HI5.out;refine(ia w.heap.size A5 c5 _ M 16 _ d5 (by have:=HMM.out;omega) oq (by rw[ib oq,Nat.div_eq_of_lt (by have:=HMM.out;omega)];rfl) (by rw[Ok,ao,HAL.out];omega)).mono ?_;rintro e w6 ⟨rfl,h6⟩;have HI6:Hid (GI w w.heap.size (L1++gb l.length 16++gb M 16) w6):=Oh (GI.step d5 (Oi _) b5 h6);clear h6 d5 b5 HI5;go_wp2_with fail;obtain⟨A6,c6,d6,b6⟩:=HI6.out;refine(Bit.sd w.heap.size A6 c6 _ A c l _ d6 (HB.out.at_below b6) (by rw[Ok,Ok,ao,ao,HAL.out];omega) (by have:=HM.out;omega)).mono ?_;rintro e w7 ⟨rfl,h7⟩;rw[xC (by rw[Ok,Ok,ao,ao,HAL.out])] at h7;have HI7:Hid (GI w w.heap.size (L1++gb l.length 16++gb M 16++dH l) w7):=Oh (GI.step d6 (Oi _) b6 h7);clear h7 d6 b6 HI6;go_wp2_with fail;obtain⟨A7,c7,d7,b7⟩:=HI7.out;refine(rU w.heap.size A7 c7 _ _ d7 (by rw[Ok,Ok,Ok,ao,ao,dM,HAL.out];have:=HM.out;omega)).mono ?_;rintro e w8 ⟨A8,c8,rfl,o8,k8⟩;rw[←HX.out] at o8 ⊢;have Vb:Hid (ak w8 w.heap.size A8 c8 (dp l)):=Oh (Own.mono (show Own w8 w7.heap.size 5 1 A8 _ c8 (bvs _) from o8) b7.size);have Qg:=Oh (b7.trans (k8.mono b7.size));clear o8 k8 d7 b7 HI7;go_wp2_with fail;go_ret;exact⟨A8,c8,rfl,Vb.out,Qg.out⟩
theorem Jg(A:Option Addr)(c:Nat)(l:List UInt8)(w:World)(hb:Bts w w.heap.size A l)(hm:l.length<65535)(hcl:l.length≤c):
  Cl 116 #[.slice A l.length c] w (cY w (pA l)):=by
 have HF:=Oh (EH A c l w hb oq hcl);have HS:=Oh (fun W (h:Below w.heap.size w W)=>BQ A c l W (hb.at_below h) hm hcl);have HX:Hid (pA l=if(dp l).length<(jj l).length then dp l else jj l):=Oh rfl;generalize dp l=S at*;generalize jj l=F at*;clear hb hm hcl;go_enter func116,ntmps116;go_wp2_with fail;refine HF.out.mono ?_;rintro e w1 ⟨A1,c1,rfl,o1,b1⟩;have aS:=Oh b1;have IF:=Oh o1;clear o1 b1 HF;go_wp2_with fail;refine(HS.out _ aS.out).mono ?_;rintro e w2 ⟨A2,c2,rfl,o2,b2⟩;have bY:=Oh (ai aS.out b2);have aco:Hid (ak w2 w.heap.size A1 c1 F):=Oh (Own.below (show Own w1 w.heap.size 5 1 A1 F.length c1 (bvs F) from IF.out) b2);have nO:Hid (ak w2 w.heap.size A2 c2 S):=Oh (Own.mono (show Own w2 w1.heap.size 5 1 A2 S.length c2 (bvs S) from o2) aS.out.size);clear o2 b2 HS IF
 by_cases h:S.length<F.length
 ·rw[if_pos h] at HX;have hi:(S.length:Int)<(F.length:Int):=oq;clear h;go_wp2_with fail;go_ret;exact⟨A2,c2,by rw[HX.out];rfl,by rw[HX.out];exact nO.out,bY.out⟩
 ·rw[if_neg h] at HX;have hi:¬(S.length:Int)<(F.length:Int):=oq;clear h;go_wp2_with fail;go_ret;exact⟨A1,c1,by rw[HX.out];rfl,by rw[HX.out];exact aco.out,bY.out⟩
end De
end Go.Proofs.YtmbippkpjdoojaaGreat
namespace Go.Proofs.YtmbippkpjdoojaaGreat.Ad
open Tryz
open Go.RowKit
def st(p:Int×Int)(x:Int):Int×Int:=((p.1+x)%65521,(p.2+(p.1+x)%65521)%65521)
def of(s:Int):Int×Int:=(s%65536%65521,s/65536%65521)
def bs(l:List UInt8):List Int:=l.map fun b=>(b.toNat:Int)
def run(p:Int×Int)(l:List UInt8):Int×Int:=(bs l).foldl st p
def sum(p:Int×Int):Int:=65536*p.2+p.1
def m7(s:Int)(l:List UInt8):Int:=sum (run (of s) l)
def ok(p:Int×Int):Prop:=0≤p.1∧p.1≤65520∧0≤p.2∧p.2≤65520
theorem Nd(p:Int×Int)(x:Int):ok (st p x):=by unfold ok st;omega
theorem JV(s:Int):ok (of s):=by unfold ok of;omega
theorem Dq(l:List Int):∀p,ok p→ok (l.foldl st p):=by
 induction l with
 |nil=>intro p h;exact h
 |cons x l ih=>intro p _;exact ih _ (Nd p x)
theorem FA(p:Int×Int)(l:List UInt8)(h:ok p):ok (run p l):=Dq _ _ h
theorem D0(p:Int×Int)(l:List UInt8)(k:Nat)(hk:k<l.length):run p (l.take (k+1))=st (run p (l.take k)) (l[k].toNat:Int):=by
 simp only[run,bs];rw[List.take_succ_eq_append_getElem hk,List.map_append,List.foldl_append];rfl
theorem xe(s:Int)(l:List UInt8):0≤m7 s l∧m7 s l≤4294967295:=by
 have:=FA (of s) l (JV s);unfold ok at this;unfold m7 sum;omega
theorem MX(a b x:Int):st (a,b) x=((a+x)%65521,(b+(a+x))%65521):=by unfold st;simp only;congr 1;omega
end Go.Proofs.YtmbippkpjdoojaaGreat.Ad
namespace Go.Proofs.YtmbippkpjdoojaaGreat.Adl
open Tryz
open Go.RowKit
theorem zM(g:Nat)(a b x:Int)(w:World)(hb:Blk w g 365 #[.int .u64 a,.int .u64 b])(Gt:0≤a)(Ug:a≤65520)(QC:0≤b)(eQ:b≤65520)(U7:0≤x)(TG:x≤255):
  Cl 261 #[.pointer (some ⟨g,0,none⟩),.int .u8 x] w fun e w'=>e=.returned (.tuple #[])∧Blk w' g 365 #[.int .u64 (Ad.st (a,b) x).1,.int .u64 (Ad.st (a,b) x).2]∧w.grownBy w' (some g):=by
 have c0:=hb.c0;have c1:=hb.c1;have f0:=hb.free 0;have f1:=hb.free 1;have hg:=hb.lt;have HB:=Oh hb;clear hb;go_enter func261,ntmps261;go_wp2;go_region;go_end0;refine⟨rfl,?_,?_⟩
 ·rw[Ad.MX];exact((HB.out.put 0 _).put 1 _)
 ·exact⟨rfl,rfl,rfl,by simp[World.setCell],fun k hk hne=>by
   show(World.setCell (World.setCell w _ _) _ _).heap[k]?=_;have:k≠g:=fun e=>hne (by rw[e]);rw[Below.heap_setCell _ _ _ _ this,Below.heap_setCell _ _ _ _ this]⟩
theorem Jx(s:Int)(h0:0≤s)(h1:s≤4294967295):bits .and .u32 s 65535=s%65536:=by
 rw[u32_and s 65535 h0 oq oq oq];rw[show(65535:Int).toNat=65535 from rfl,nat_mask16];omega
theorem Ho(a b:Int)(Gt:0≤a)(Ug:a≤65520)(QC:0≤b)(eQ:b≤65520):bits .or .u64 (b*65536) a=b*65536+a:=by
 rw[u64_or _ _ oq oq oq oq,nat_join 16 _ _ oq oq];omega
theorem JJ(s:Int)(w:World)(h0:0≤s)(h1:s≤4294967295):
  Cl 260 #[.int .u32 s] w (Rb (.agg #[.int .u64 (Ad.of s).1,.int .u64 (Ad.of s).2]) w):=by
 have hand:=Jx s h0 h1;have k0:0≤s%65536:=oq;have k1:s%65536≤65535:=oq;go_enter func260,ntmps260;go_wp2;exact bodyPost_ret (v:=.agg #[.int .u64 (s%65536%65521),.int .u64 (s/65536%65521)]) (by simp[results,results260,go_sem]) rfl ⟨rfl,Ba⟩
theorem mj(a b:Int)(w:World)(Gt:0≤a)(Ug:a≤65520)(QC:0≤b)(eQ:b≤65520):
  Cl 262 #[.agg #[.int .u64 a,.int .u64 b]] w (Rb (.int .u32 (Ad.sum (a,b))) w):=by
 have XP:=Ho a b Gt Ug QC eQ;have e:b*65536+a=Ad.sum (a,b):=by unfold Ad.sum;simp only;omega
 go_enter func262,ntmps262;go_wp2;go_ret;exact⟨rfl,Ba⟩
theorem xZ(s:Int)(A:Option Addr)(c:Nat)(l:List UInt8)(w:World)(h0:0≤s)(h1:s≤4294967295)(hl:l.length≤maxLen)(hr:Bts w w.heap.size A l):
  Cl 183 #[.int .u32 s,.slice A l.length c] w (Rb (.int .u32 (Ad.m7 s l)) w):=by
 unfold maxLen at hl;have HR:=Oh hr;clear hr;go_enter func183,ntmps183;go_wp2_with fail;refine(JJ _ _ h0 h1).mono ?_;rintro e w1 ⟨rfl,eQ⟩;go_wp2_with fail;obtain⟨G,hG⟩:=nm (w1.heap.size);rw[←hG];have oF:w.heap.size≤G:=by have:=eQ.size;omega
 have hblk:Blk (w1.alloc (.cells #[.int .u64 (Ad.of s).1,.int .u64 (Ad.of s).2] 365)) G 365 #[.int .u64 (Ad.of s).1,.int .u64 (Ad.of s).2]:=by rw[hG];exact Blk.new _ _ _
 have aC:Below w.heap.size w (w1.alloc (.cells #[.int .u64 (Ad.of s).1,.int .u64 (Ad.of s).2] 365)):=eQ.alloc eQ.size _;clear hG eQ;generalize w1.alloc (.cells #[.int .u64 (Ad.of s).1,.int .u64 (Ad.of s).2] 365)=W at*;have HB:=Oh hblk;clear hblk;go_loopw [14] (fun i wr=>∃k:Nat,k≤l.length∧i=.int .i64 k∧Blk wr G 365 #[.int .u64 (Ad.run (Ad.of s) (l.take k)).1,.int .u64 (Ad.run (Ad.of s) (l.take k)).2]∧Below w.heap.size w wr) (fun i _=>l.length-(intOf i).toNat)
 case atStart=>exact⟨0,Nat.zero_le _,rfl,by simpa [Ad.run,Ad.bs] using HB.out,aC⟩
 case round=>
  obtain⟨k,hk,rfl,hblk,aC⟩:=hrel;have okp:=Ad.FA (Ad.of s) (l.take k) (Ad.JV s);unfold Ad.ok at okp;obtain⟨p0,p1,p2,p3⟩:=okp
  by_cases hlt:k<l.length
  ·obtain⟨b,o,rfl,OO,hcell⟩:=HR.out.at_ oq;have hc:=(aC.cell (p:=⟨b,o+k,none⟩) OO).trans (hcell k hlt);have hx:=l[k].toNat_lt;have HS:=Oh (Ad.D0 (Ad.of s) l k hlt);clear hcell;have hlt':(k:Int)<(l.length:Int):=oq;go_wp2_with fail;refine(zM G _ _ (l[k].toNat:Int) _ hblk p0 p1 p2 p3 oq oq).mono ?_;rintro e w2 ⟨rfl,a7f,PK⟩;have VC:Below w.heap.size w w2:=aC.grown PK aC.size (fun k e=>by injection e with e;omega);go_wp2;go_roundw
   case rel=>exact⟨k+1,oq,by go_num,by rw[HS.out];exact a7f,VC⟩
   case measure=>simp[intOf];omega
  ·have c0:=hblk.c0;have c1:=hblk.c1;have hk':l.take k=l:=List.take_of_length_le oq;have HK:=Oh hk';clear hk' hblk;go_wp2_with fail;refine(mj _ _ _ p0 p1 p2 p3).mono ?_;rintro e w2 ⟨rfl,aT⟩;go_wp2;go_ret;exact⟨by rw[HK.out];rfl,aC.trans (aT.mono aC.size)⟩
theorem MA(A:Option Addr)(c:Nat)(l:List UInt8)(w:World)(hl:l.length≤maxLen)(hr:Bts w w.heap.size A l):
  Cl 115 #[.slice A l.length c] w (Rb (.int .u32 (Ad.m7 1 l)) w):=by
 have HR:=Oh hr;clear hr;go_enter func115,ntmps115;go_wp2_with fail;refine(xZ 1 A c l _ oq oq hl HR.out).mono ?_;rintro e w1 ⟨rfl,eQ⟩;go_wp2;go_ret;exact⟨rfl,eQ⟩
end Go.Proofs.YtmbippkpjdoojaaGreat.Adl
