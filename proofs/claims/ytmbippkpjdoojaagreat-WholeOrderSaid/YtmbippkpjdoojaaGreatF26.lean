/- Parts of a proof, merged. -/
import Derived.Test.YtmbippkpjdoojaaGreatF25
set_option maxRecDepth 100000
set_option maxHeartbeats 1600000
namespace Go.Proofs.YtmbippkpjdoojaaGreat
open Tryz
open Go.RowKit
theorem dqk{p:Prop}(h:p:=by decide+kernel):p:=h
section
open Wi
theorem FW(v:Int)(A:Option Addr)(c b0:Nat)(w:World)(h:jD w b0 A c [v]):
  Cl 219 #[.slice A 1 c,.int .i64 v] w (Rs (.tuple #[.int .i64 0,.bool true]) w):=by
 have TE:=Oh ov;obtain⟨g,rfl,_,_,_,hc,_⟩:=Own.form h os';have d0:w.cell? ⟨g,0,none⟩=some (.int .i64 v):=hc 0 _ rfl;have z1:(v==v)=true:=by simp
 clear hc h;go_enter func219,ntmps219;go_wp2_with fail;refine wp_loop_rounds 2 ?_;rw[rounds_succ];go_wp2_with fail;refine(TE.out v v w).mono ?_;rw[show decide (v<v)=false by simp];rintro e w1 ⟨rfl,iF⟩;obtain rfl:=iF.symm;go_wp2_with fail;rw[rounds_succ];go_wp2_with fail;go_ret2;exact⟨rfl,rfl⟩
theorem xj{w:World}{x k:Nat}{S:Option Addr}{cS:Nat}{r0 r1:KR}(v:Int)(h:Stk w x S cS [r0,r1] ⟨k,[[v],[v]],3,0⟩):
  Cl 148 #[.pointer (some ⟨x,0,none⟩),.int .i64 v] w (Rs (.tuple #[.int .u64 0,.int .u64 3]) w):=by
 have hl:=h.is;simp only[List.map_cons,List.map_nil,List.cons.injEq,and_true] at hl;have h0:=h.rows r0 os';have h1:=h.rows r1 os';obtain⟨A0,c0,l0⟩:=r0;obtain⟨A1,c1,l1⟩:=r1;obtain⟨e0,e1⟩:=hl;dsimp only at e0 e1 h0 h1;subst e0;subst e1;obtain⟨g,rfl,d0⟩:=h.top.at_ (i:=0) rfl;obtain⟨g',hg,d1⟩:=h.top.at_ (i:=1) rfl;have Uq:g=g':=by injection hg with hg;injection hg
 subst Uq;dsimp only[List.length_cons,List.length_nil] at d0 d1;have oK:=Oh (FW v A0 c0 0 w h0);have aS:=Oh (FW v A1 c1 0 w h1);obtain⟨g0,rfl,_,_,_,hc0,_⟩:=Own.form h0 os';obtain⟨g1,rfl,_,_,_,Wm,_⟩:=Own.form h1 os';have k0:w.cell? ⟨g0,0,none⟩=some (.int .i64 v):=hc0 0 _ rfl;have k1:w.cell? ⟨g1,0,none⟩=some (.int .i64 v):=Wm 0 _ rfl;have cc1:=h.c1;have z1:(v==v)=true:=by simp
 dsimp only[List.length_cons,List.length_nil] at cc1;clear hc0 Wm h h0 h1 hg;go_enter func148,ntmps148;go_wp2_with fail;refine wp_loop_rounds 3 ?_;rw[rounds_succ];go_wp2_with fail;refine oK.out.mono ?_;rintro e w1 ⟨rfl,iF⟩;obtain rfl:=iF.symm;go_wp2_with fail;refine wp_loop_rounds 2 ?_;rw[rounds_succ];go_wp2_with fail;rw[rounds_succ];go_wp2_with fail;rw[rounds_succ];go_wp2_with fail;refine aS.out.mono ?_;rintro e w1 ⟨rfl,iF⟩;obtain rfl:=iF.symm;go_wp2_with fail;refine wp_loop_rounds 2 ?_;rw[rounds_succ];go_wp2_with fail;rw[rounds_succ];go_wp2_with fail;rw[rounds_succ];go_wp2_with fail;go_ret2;exact⟨rfl,rfl⟩
theorem IH{w:World}{S A0 A1:Option Addr}{n0 n1 c0 c1 cS:Nat}{xs0 YA:List Value}{b0:Nat}(h:Own w b0 192 1 S 2 cS [.slice A0 n0 c0,.slice A1 n1 c1])(h0:Own w b0 2 1 A0 n0 c0 xs0)(h1:Own w b0 2 1 A1 n1 c1 YA)(o0:∀u∈xs0,u.oneCell'=true)(o1:∀u∈YA,u.oneCell'=true):
  fX w w.heap.size 1 S [⟨A0,n0,c0,xs0⟩,⟨A1,n1,c1,YA⟩]:=by
 refine⟨Own.reads h,?_⟩;intro q hq;simp only[List.mem_cons,List.not_mem_nil,or_false] at hq;rcases hq with rfl|rfl
 ·exact⟨Own.reads h0,o0⟩
 ·exact⟨Own.reads h1,o1⟩
theorem Ni{w:World}{x k:Nat}{S:Option Addr}{cS:Nat}{R:List KR}(v:Int)(h:Stk w x S cS R ⟨k,[[v],[v]],3,0⟩):
  Cl 208 #[.pointer (some ⟨x,0,none⟩),.int .u64 1,.int .u64 2] w (Rb (.tuple #[.int .i64 v,.int .u64 0,.int .i64 0]) w):=by
 obtain⟨r0,r1,rfl⟩:∃r0 r1,R=[r0,r1]:=by
  have hl:=h.len;simp at hl;rcases R with _|⟨a,_|⟨b,_|⟨c,R⟩⟩⟩
  ·simp at hl
  ·simp at hl
  ·exact⟨a,b,rfl⟩
  ·simp at hl
 have HRK:=Oh (fun W=>xT 1 2 3 W oq oq oq oq oq oq);rw[show max 1 (df (1*3) 2)=2 from rfl] at HRK;have HBT:=Oh (fun W (h:Stk W x S cS [r0,r1] ⟨k,[[v],[v]],3,0⟩)=>xj v h)
 have VL:=Oh (fun W (h:Stk W x S cS [r0,r1] ⟨k,[[v],[v]],3,0⟩)=>BZ S cS _ W (IH h.top (h.rows r0 os') (h.rows r1 os') (kX _) (kX _)) os' (by
  have hl:=h.is;simp only[List.map_cons,List.map_nil,List.cons.injEq,and_true] at hl;simp only[aw,hl.1,hl.2];simp))
 have Rl:aw [⟨r0.A,r0.l.length,r0.c,ivs r0.l⟩,⟨r1.A,r1.l.length,r1.c,ivs r1.l⟩]=2:=by
  have hl:=h.is;simp only[List.map_cons,List.map_nil,List.cons.injEq,and_true] at hl;simp only[aw,hl.1,hl.2];simp
 have YB:bZ [⟨r0.A,r0.l.length,r0.c,ivs r0.l⟩,⟨r1.A,r1.l.length,r1.c,ivs r1.l⟩]=ivs [v,v]:=by
  have hl:=h.is;simp only[List.map_cons,List.map_nil,List.cons.injEq,and_true] at hl;simp only[bZ,hl.1,hl.2];rfl
 rw[Rl,YB] at VL;have HH:=Oh h;have c1:=h.c1;have c2:=h.c2;dsimp only[List.length_cons,List.length_nil] at c1 c2;clear h Rl YB;go_enter func208,ntmps208;go_wp2_with fail;refine(HRK.out _).mono ?_;rintro e w1 ⟨rfl,b1⟩;have aS:=Oh b1;have H1:=Oh (HH.out.below b1);clear b1 c1 c2 HH;have c1:=H1.out.c1;dsimp only[List.length_cons,List.length_nil] at c1;go_wp2_with fail;refine(VL.out _ H1.out).mono ?_;rintro e w2 ⟨A,c,rfl,o2,b2⟩;have bY:=Oh (ai aS.out b2);have H2:=Oh (H1.out.below b2);have nO:Hid (iy w2 w1.heap.size A c [v,v]):=Oh o2;have HZ2:Hid (∀i,SF x S [r0,r1] i→i<w1.heap.size):=Oh H1.out.lt;clear o2 b2 c1 H1 VL;go_wp2_with fail;refine(tu A c w1.heap.size [v,v] w2 nO.out os').mono ?_;rintro e w3 ⟨rfl,L',hp,o3,k3⟩;have hL:L'=[v,v]:=List.eq_replicate_of_mem (a:=v) (l:=L') (fun b hb=>by simpa using hp.mem_iff.1 hb) |>.trans (by rw[hp.length_eq];rfl);subst hL;have sO:=Oh o3;have H3:=Oh (H2.out.only k3 (fun i hi e=>by have h1:=HZ2.out i hi;have h2:=(Own.block nO.out e).1;omega));have fR:Hid (Below w.heap.size w w3):=Oh (bY.out.trans (k3.below bY.out.size (fun i hi=>by have h2:=(Own.block nO.out hi).1;have:=aS.out.size;omega)));clear hp o3 k3 nO H2 bY;obtain⟨g,rfl,_,_,_,hc,_⟩:=Own.form sO.out os';have d0:w3.cell? ⟨g,0,none⟩=some (.int .i64 v):=hc 0 _ rfl;have c3:=H3.out.c3;dsimp only at c3;clear hc;go_wp2_with fail;refine wp_loop_rounds 2 ?_;rw[rounds_succ];go_wp2_with fail;refine(HBT.out _ H3.out).mono ?_;rintro e w4 ⟨rfl,Po⟩;obtain rfl:=Po.symm;go_wp2_with fail;rw[rounds_succ];go_wp2_with fail;go_quiet (fail);go_wp2_with fail;go_ret3;exact⟨rfl,ae fR.out _⟩
end
section
open Pl Wi
def DgE(s:DgS)(e:Ent):Prop:=∃p x W,e=mkE p (zC x) (fun w=>Dig w x W s) (DF x W)∧¬DF x W p
section
variable {w:World} {s:DgS} {e:Ent}
theorem Ja(he:DgE s e)(hh:ar e.I e.F w):
  Cl 74 #[.pointer (some ⟨e.p,0,none⟩)] w fun o w'=>o=.returned (.agg (spC 3 0 0 0 false 0 s.d))∧Below w.heap.size w w':=by
 obtain⟨p,x,W,rfl,hn⟩:=he;obtain⟨hb,hx⟩:=hh.it;exact Lz hb s.d (Oh fun V hv=>wj (hx.below hv))
theorem Jc(d:Nat)(w:World)(h0:10≤d)(h1:d≤1000):
  Cl 65 #[.agg (spC 3 0 0 0 false 0 d)] w (eH (DgE ⟨d,[],[],0,0,0⟩) w):=by
 refine LJ 0 0 0 false 0 d w _ (Oh fun W p hb hblk hp=>?_) (Oh fun W f hf hh=>Ja hf hh);refine(NY hblk 0 0 0 false 0 d (fun x w'=>Dig w' x ⟨none,0,none,0⟩ ⟨d,[],[],0,0,0⟩∧W.heap.size≤x) (Oh fun V hv=>(zl d V h0 h1).mono ?_)).mono ?_
 ·rintro e w' ⟨x,rfl,a1,hs,aT⟩;have:=hv.size;exact⟨x,rfl,⟨hs,oq⟩,aT⟩
 ·rintro e w' ⟨rfl,x,V,⟨hs,a1⟩,hV,rfl⟩
  have hF:∀i,DF x ⟨none,0,none,0⟩ i→W.heap.size≤i:=by
   rintro i (rfl|h|h)
   ·exact a1
   ·cases h
   ·cases h
  exact⟨rfl,_,rfl,⟨p,x,_,rfl,jh hblk hF⟩,fI hblk hV hs.held hF rfl⟩
theorem Ml(he:DgE s e)(hh:ar e.I e.F w)(v:Int)(n:Nat)(hn:1≤n)(hc:s.n+n≤281474976710656)(hw:s.wt.length+1<s.d)(hd:s.d≤1000)(co:Value):
  Cl 67 #[.pointer (some ⟨e.p,0,none⟩),.int .i64 v,.int .u64 (n:Int),co] w fun o w'=>o=.returned (.int .i64 0)∧cT (DgE (xN s v n)) e.p e.F w w':=by
 obtain⟨p,x,W,rfl,Pa⟩:=he;obtain⟨hb,hx⟩:=hh.it;refine Nk hb v n co 0 (fun w'=>cT (DgE (xN s v n)) p (mkE p (zC x) (fun w=>Dig w x W s) (DF x W)).F w w') ((J9 hx v n hn hc hw hd).mono ?_);rintro o w' ⟨rfl,A',c',hs,k⟩;exact⟨rfl,jr hb Pa hs.held k ⟨p,x,_,rfl,mJ hb Pa k⟩⟩
theorem EG(he:DgE s e)(hh:ar e.I e.F w):
  Cl 72 #[.pointer (some ⟨e.p,0,none⟩)] w fun o w'=>o=.returned (.int .u64 (s.n:Int))∧Below w.heap.size w w':=by
 obtain⟨p,x,W,rfl,Pa⟩:=he;obtain⟨hb,hx⟩:=hh.it;refine Ip hb s.n (fun w'=>Below w.heap.size w w') ((BT hx).mono ?_);rintro o w' ⟨rfl,rfl⟩;exact⟨rfl,Oq _ _⟩
theorem zm(he:DgE s e)(hh:ar e.I e.F w)(hd:s.d≤1000)(hl:s.l.length≤100000)(hw:s.wt.length≤100000)(hln:∀p∈s.l,p.2<18446744073709551616)(VY:∀p∈s.wt,p.2<18446744073709551616):
  Cl 29 #[.pointer (some ⟨e.p,0,none⟩)] w fun o w'=>∃A c,o=.returned (.slice A (tdF s).length c)∧ak w' w.heap.size A c (tdF s)∧Below w.heap.size w w':=by
 obtain⟨p,x,W,rfl,Pa⟩:=he;obtain⟨hb,hx⟩:=hh.it;exact Ls hb _ (pT hx hd hl hw hln VY)
theorem Mj(he:DgE dg7 e)(hh:ar e.I e.F w):
  Cl 70 #[.pointer (some ⟨e.p,0,none⟩),.int .u64 ((1:Nat):Int),.int .u64 ((2:Nat):Int)] w fun o w'=>o=.returned (.tuple #[.agg #[.int .i64 7,.bool false,.int .u64 ((0:Nat):Int)],.int .i64 0])∧Below w.heap.size w w':=by
 obtain⟨p,x,W,rfl,Pa⟩:=he;obtain⟨hb,hx⟩:=hh.it;exact jAt 1 2 7 false 0 (Oh fun W hw=>O7 (hb.below hw hb.lt) 1 2 7 (Oh fun V PF=>Mi ((hx.below hw).below PF)))
theorem Jb(hok:Cg s)(a0l:s.l.length≤65536)(RT:InI s.lo)(hi2:InI s.hi)(A:Option Addr)(c:Nat)(w:World)(ht:Bts w w.heap.size A (tdF s)):
  Cl 27 #[.int .u8 3,.slice A (tdF s).length c] w (eH (DgE s) w):=by
 have hlen:=yj hok
 have hn:∀p∈s.l++s.wt,p.2<18446744073709551616:=fun p hp=>by
  have h1:=aW hp;have h2:=hok.tot;have h3:=hok.n;omega
 refine LF A c _ w _ ht oq (Oh fun W p A' c' hw hblk hp ho=>?_) (Oh fun W f OT hh=>zm OT hh hok.d1 hok.ln (by have:=hok.wt;have:=hok.d1;omega) (fun p hp=>hn p (List.mem_append_left _ hp)) (fun p hp=>hn p (List.mem_append_right _ hp)));refine(NV hblk A' (tdF s).length c' (fun x w'=>∃W2,Dig w' x W2 s∧∀i,DF x W2 i→W.heap.size≤i) (Oh ((Cx s hok a0l RT hi2 A' c' W (ak.reads (show ak W w.heap.size A' c' (tdF s) from ho))).mono ?_))).mono ?_
 ·rintro e w' ⟨x,W2,rfl,hs,a1,aT⟩;exact⟨x,rfl,⟨W2,hs,a1⟩,aT⟩
 ·rintro e w' ⟨rfl,x,V,⟨W2,hs,hF⟩,hV,rfl⟩;exact⟨rfl,_,rfl,⟨p,x,W2,rfl,jh hblk hF⟩,fI hblk hV hs.held hF rfl⟩
end
def KlE(s:KS)(e:Ent):Prop:=∃p x S cS R,e=mkE p (xK x) (fun w=>Stk w x S cS R s) (SF x S R)∧¬SF x S R p
def KlN(k:Nat)(e:Ent):Prop:=∃p x,e=mkE p (xK x) (fun w=>Stk w x none 0 [] ⟨k,[],0,0⟩) (SF x none [])∧¬SF x none [] p
section
variable {w:World} {s:KS} {e:Ent}
theorem KlN.any{k:Nat}(he:KlN k e):KlE ⟨k,[],0,0⟩ e:=by
 obtain⟨p,x,h1,h2⟩:=he;exact⟨p,x,none,0,[],h1,h2⟩
theorem Ij(he:KlE s e)(hh:ar e.I e.F w):
  Cl 74 #[.pointer (some ⟨e.p,0,none⟩)] w fun o w'=>o=.returned (.agg (spC 4 0 0 0 false 0 s.k))∧Below w.heap.size w w':=by
 obtain⟨p,x,S,cS,R,rfl,hn⟩:=he;obtain⟨hb,hx⟩:=hh.it;exact Ly hb s.k (Oh fun V hv=>yU (hx.below hv))
theorem Il(k:Nat)(w:World)(h0:8≤k)(h1:k≤4096):
  Cl 65 #[.agg (spC 4 0 0 0 false 0 k)] w (eH (KlN k) w):=by
 refine LI 0 0 0 false 0 k w _ (Oh fun W p hb hblk hp=>?_) (Oh fun W f hf hh=>Ij hf.any hh);refine(NX hblk 0 0 0 false 0 k (fun x w'=>Stk w' x none 0 [] ⟨k,[],0,0⟩∧W.heap.size≤x) (Oh fun V hv=>(FK k V h0 h1).mono ?_)).mono ?_
 ·rintro e w' ⟨x,rfl,a1,hs,aT⟩;have:=hv.size;exact⟨x,rfl,⟨hs,oq⟩,aT⟩
 ·rintro e w' ⟨rfl,x,V,⟨hs,a1⟩,hV,rfl⟩
  have hF:∀i,SF x none [] i→W.heap.size≤i:=by
   rintro i (rfl|h|⟨r,h,_⟩)
   ·exact a1
   ·cases h
   ·cases h
  exact⟨rfl,_,rfl,⟨p,x,rfl,jh hblk hF⟩,fI hblk hV hs.held hF rfl⟩
theorem Im{k:Nat}(he:KlN k e)(hh:ar e.I e.F w)(h0:8≤k)(h1:k≤4096)(v:Int)(co:Value):
  Cl 67 #[.pointer (some ⟨e.p,0,none⟩),.int .i64 v,.int .u64 ((3:Nat):Int),co] w fun o w'=>o=.returned (.int .i64 0)∧cT (KlE ⟨k,[[v],[v]],3,0⟩) e.p e.F w w':=by
 obtain⟨p,x,rfl,Pa⟩:=he;obtain⟨hb,hx⟩:=hh.it;refine Nj hb v 3 co 0 (fun w'=>cT (KlE ⟨k,[[v],[v]],3,0⟩) p (mkE p (xK x) (fun w=>Stk w x none 0 [] ⟨k,[],0,0⟩) (SF x none [])).F w w') ((Ln hx h0 h1 v co).mono ?_);rintro o w' ⟨rfl,S,cS,R,hs,kk⟩;exact⟨rfl,jr hb Pa hs.held kk ⟨p,x,S,cS,R,rfl,mJ hb Pa kk⟩⟩
theorem DT(he:KlE s e)(hh:ar e.I e.F w):
  Cl 72 #[.pointer (some ⟨e.p,0,none⟩)] w fun o w'=>o=.returned (.int .u64 (s.n:Int))∧Below w.heap.size w w':=by
 obtain⟨p,x,S,cS,R,rfl,Pa⟩:=he;obtain⟨hb,hx⟩:=hh.it;refine Io hb s.n (fun w'=>Below w.heap.size w w') ((DP hx).mono ?_);rintro o w' ⟨rfl,rfl⟩;exact⟨rfl,Oq _ _⟩
theorem yW(he:KlE s e)(hh:ar e.I e.F w)(hf:MQ s):
  Cl 29 #[.pointer (some ⟨e.p,0,none⟩)] w fun o w'=>∃A c,o=.returned (.slice A (dR s).length c)∧ak w' w.heap.size A c (dR s)∧Below w.heap.size w w':=by
 obtain⟨p,x,S,cS,R,rfl,Pa⟩:=he;obtain⟨hb,hx⟩:=hh.it;exact Lr hb _ (vM hx hf)
theorem Lj{k:Nat}(v:Int)(he:KlE ⟨k,[[v],[v]],3,0⟩ e)(hh:ar e.I e.F w):
  Cl 70 #[.pointer (some ⟨e.p,0,none⟩),.int .u64 ((1:Nat):Int),.int .u64 ((2:Nat):Int)] w fun o w'=>o=.returned (.tuple #[.agg #[.int .i64 v,.bool false,.int .u64 ((0:Nat):Int)],.int .i64 0])∧Below w.heap.size w w':=by
 obtain⟨p,x,S,cS,R,rfl,Pa⟩:=he;obtain⟨hb,hx⟩:=hh.it;exact jAt 1 2 v false 0 (Oh fun W hw=>O1 (hb.below hw hb.lt) 1 2 v 0 (Oh fun V PF=>Ni v ((hx.below hw).below PF)))
theorem Ik(hok:KOk s)(QO:∀l∈s.L,∀v∈l,InI v)(A:Option Addr)(c:Nat)(w:World)(ht:Bts w w.heap.size A (dR s)):
  Cl 27 #[.int .u8 4,.slice A (dR s).length c] w (eH (KlE s) w):=by
 have hlen:=vP hok;refine LD A c _ w _ ht oq (Oh fun W p A' c' hw hblk hp ho=>?_) (Oh fun W f OT hh=>yW OT hh hok.fit);refine(NU hblk A' (dR s).length c' (fun x w'=>∃S cS R,Stk w' x S cS R s∧∀i,SF x S R i→W.heap.size≤i) (Oh ((Ig s hok QO A' c' W (ak.reads (show ak W w.heap.size A' c' (dR s) from ho))).mono ?_))).mono ?_
 ·rintro e w' ⟨x,S,cS,R,rfl,hs,a1,aT⟩;exact⟨x,rfl,⟨S,cS,R,hs,a1⟩,aT⟩
 ·rintro e w' ⟨rfl,x,V,⟨S,cS,R,hs,hF⟩,hV,rfl⟩;exact⟨rfl,_,rfl,⟨p,x,S,cS,R,rfl,jh hblk hF⟩,fI hblk hV hs.held hF rfl⟩
end
end
section
open Pl Sc Wi
structure KA(sp:Array Value)(S0 S1:Ent→Prop)(b:List UInt8)(vg:Bool):Prop where
 make:∀w,Cl 65 #[.agg sp] w (eH S0 w)
 add:∀w e co,S0 e→ar e.I e.F w→Cl 67 #[.pointer (some ⟨e.p,0,none⟩),.int .i64 7,.int .u64 ((3:Nat):Int),co] w fun o w'=>o=.returned (.int .i64 0)∧cT S1 e.p e.F w w'
 wrap:∀w e,S1 e→ar e.I e.F w→Cl 17 #[.pointer (some ⟨e.p,0,none⟩),.int .i64 ((2:Nat):Int)] w fun o w'=>∃A c,o=.returned (.tuple #[.slice A b.length c,.int .i64 0])∧ak w' w.heap.size A c b∧Below w.heap.size w w'
 opn:∀w A c,Bts w w.heap.size A b→b.length≤c→Cl 16 #[.slice A b.length c,.int .i64 ((1000:Nat):Int)] w (eH S1 w)
 at_:∀w e,S1 e→ar e.I e.F w→Cl 70 #[.pointer (some ⟨e.p,0,none⟩),.int .u64 ((1:Nat):Int),.int .u64 ((2:Nat):Int)] w fun o w'=>o=.returned (.tuple #[.agg #[.int .i64 7,.bool vg,.int .u64 ((0:Nat):Int)],.int .i64 0])∧Below w.heap.size w w'
 total:∀w e,S1 e→ar e.I e.F w→Cl 72 #[.pointer (some ⟨e.p,0,none⟩)] w fun o w'=>o=.returned (.int .u64 ((3:Nat):Int))∧Below w.heap.size w w'
def h7:List Pr:=[(7,3)]
theorem ya:fl h7:=⟨by unfold Srt;decide,by unfold Pos;decide,dqk,dqk,dqk⟩
theorem rM:Kj 1 2000 3 1 2000 h7:=⟨ya,dqk,dqk,dqk,dqk,dqk,dqk,dqk,dqk,dqk,dqk,dqk,dqk,dqk,dqk,dqk,dqk,dqk⟩
def t1:List UInt8:=bD 1 2000 3 true (hwF 3 1 2000 (an h7))
theorem xQ:t1.length≤1000:=by
 have:=(fo 1 2000 3 true 2000 h7 dqk dqk dqk).2;have h:h7.length=1:=rfl;unfold t1;omega
theorem ka1:KA (spC 1 1 2000 3 true 0 0) (jE 1 2000 3 (Hdr.uOf 1) (Hdr.mOf 3) true 1 []) (jE 1 2000 3 (Hdr.uOf 1) (Hdr.mOf 3) true 1 h7) (ip 1 t1) false:=by
 have hm:=Hdr.eL (D:=3) dqk dqk;have lE:=rM.um;refine⟨fun w=>?_,fun w e co he hh=>?_,fun w e he hh=>?_,fun w A c hb hc=>?_,fun w e he hh=>?_,fun w e he hh=>?_⟩
 ·have h:=vS 1 3 2000 true w dqk dqk dqk dqk dqk lE;rw[show 1+Hdr.Hd.bk (Hdr.uOf 1) (Hdr.mOf 3) (2000:Int).toNat=1 by decide+kernel] at h;exact h
 ·have h:=yY he hh (⟨Srt.nil,Pos.nil,(fun p hp=>by cases hp),dqk,dqk⟩:fl []) oq hm.2 lE dqk dqk 7 3 dqk dqk (.inl rfl) dqk co;rw[show max 1 (1+Hdr.Hd.bk (Hdr.uOf 1) (Hdr.mOf 3) 7)=1 by decide+kernel,show put [] (Hdr.Hd.idx (Hdr.uOf 1) (Hdr.mOf 3) 7:Nat) 3=h7 by decide+kernel] at h;exact h
 ·have RU:=he;obtain⟨p,q,gm,bm,rfl,Pa⟩:=RU;exact gp hh.it.1 1 rfl dqk dqk t1 (by have:=xQ;omega) 2 (.inr (.inl rfl)) (Oh fun V hv=>oz true he (hh.below hv) ya lE dqk dqk dqk dqk dqk 2000 rM.reach dqk (Oo (fo 1 2000 3 true 2000 h7 dqk dqk dqk).1 dqk))
 ·exact zK _ 1 t1 A c 1000 w dqk dqk hb hc (by have:=xQ;omega) xQ dqk (Oh fun W A' c' Zl=>Ef rM A' c' W Zl)
 ·have h:=LV he hh ya oq hm.2 lE 1 2 (7,3) 7 dqk dqk dqk dqk dqk dqk dqk rfl dqk;rw[show(JN (Hdr.uOf 1) (Hdr.mOf 3) 7:Nat)=7 by decide+kernel] at h;exact h
 ·exact Bu he hh
theorem Mo:7≤(aB 500).length:=dqk
theorem pe:Few h7 1 500:=⟨⟨by unfold Srt;decide,by unfold Pos;decide,by unfold eD;decide,dqk,dqk⟩,dqk,dqk,fun p hp=>by
 have:=Mo;rw[List.mem_singleton.1 hp];dsimp only;omega⟩
theorem yb:ah h7 ((50:Nat):Int)=(h7,0):=dqk
theorem zq:dW 500 50 h7=iX 500 50 h7 0:=by
 unfold dW;rw[yb]
theorem Jk:fU (dW 500 50 h7)=some (500,50,h7,0):=by
 rw[zq];obtain⟨h1,h2,h3,h4⟩:=ly pe (m:=50) dqk;rw[yb] at h1 h2 h3 h4;exact wX h1 h2 h3 h4 dqk dqk dqk dqk
theorem Jj:((aB 500)[6]?).map (·.2.1)=some 7:=dqk
theorem ka2:KA (spC 2 0 0 0 false 500 50) (DdE 500 50 []) (DdE 500 50 h7) (ip 2 (dW 500 50 h7)) (lU h7 ((50:Nat):Int) (max 1 (df (1*tot h7) 2))):=by
 have hlen:(dW 500 50 h7).length≤1000:=by rw[zq];decide+kernel
 refine⟨fun w=>?_,fun w e co he hh=>?_,fun w e he hh=>?_,fun w A c hb hc=>?_,fun w e he hh=>?_,fun w e he hh=>?_⟩
 ·exact zp 500 50 w dqk dqk dqk dqk
 ·have h:=FSq he hh 7 3 dqk dqk aV.nil dqk dqk dqk dqk dqk dqk co;rw[show cq [] (jQ 500 7) 3 0=(h7,0) by decide+kernel] at h;exact h
 ·have HT:=Oh (fun V (hv:Below w.heap.size w V)=>rQ he (hh.below hv) dqk dqk dqk pe);have RU:=he;obtain⟨p,x,q,As,cs,g,gl,A,c,rfl,Pa⟩:=RU;exact gp hh.it.1 2 rfl dqk dqk (dW 500 50 h7) (Nat.lt_of_le_of_lt hlen dqk) 2 (.inr (.inl rfl)) HT
 ·exact zK _ 2 _ A c 1000 w dqk dqk hb hc (Oo hlen dqk) hlen dqk (Oh fun W A' c' Zl=>Jf _ h7 0 1 Jk rfl pe (Oo hlen dqk) dqk dqk dqk A' c' W Zl)
 ·obtain⟨s,hs,h7'⟩:∃s,(aB 500)[6]?=some s∧s.2.1=7:=by
   have h:=Jj
   cases hc:(aB 500)[6]? with
   |none=>rw[hc] at h;cases h
   |some s=>rw[hc] at h;exact⟨s,rfl,by simpa using h⟩
  have h:=Nv he hh pe.fine 1 2 6 s dqk dqk dqk dqk dqk dqk (by rw[yb];decide) hs;rw[h7'] at h;exact h
 ·exact EJ he hh pe.fine
theorem Mm:Cg dg7:=⟨dqk,dqk,dqk,dqk,dqk,dqk,dqk,by unfold dg7;simp,dqk⟩
theorem ka3:KA (spC 3 0 0 0 false 0 20) (DgE ⟨20,[],[],0,0,0⟩) (DgE dg7) (ip 3 (tdF dg7)) false:=by
 have hlen:(tdF dg7).length≤1000:=dqk
 refine⟨fun w=>?_,fun w e co he hh=>?_,fun w e he hh=>?_,fun w A c hb hc=>?_,fun w e he hh=>?_,fun w e he hh=>?_⟩
 ·exact Jc 20 w dqk dqk
 ·exact Ml he hh 7 3 dqk dqk dqk dqk co
 ·have HT:=Oh (fun V (hv:Below w.heap.size w V)=>zm he (hh.below hv) dqk dqk dqk dqk dqk);have RU:=he;obtain⟨p,x,W,rfl,Pa⟩:=RU;exact gp hh.it.1 3 rfl dqk dqk (tdF dg7) (Nat.lt_of_le_of_lt hlen dqk) 2 (.inr (.inl rfl)) HT
 ·exact zK _ 3 _ A c 1000 w dqk dqk hb hc (Oo hlen dqk) hlen dqk (Oh fun W A' c' Zl=>Jb Mm dqk (by unfold InI;decide) (by unfold InI;decide) A' c' W Zl)
 ·exact Mj he hh
 ·exact EG he hh
def ks7:KS:=⟨8,[[7],[7]],3,0⟩
theorem FJ:KOk ks7:=⟨dqk,dqk,dqk,dqk,dqk,by
  intro l h;obtain rfl:[7]=l:=by simpa [ks7] using h
  decide,by
  intro i l h;have hi:i<2:=(List.getElem?_eq_some_iff.1 h).1;obtain rfl|rfl:i=0∨i=1:=oq
  ·obtain rfl:[7]=l:=by simpa [ks7] using h
   decide+kernel
  ·obtain rfl:[7]=l:=by simpa [ks7] using h
   decide+kernel,by unfold ks7;simp,dqk,dqk⟩
theorem ka4:KA (spC 4 0 0 0 false 0 8) (KlN 8) (KlE ks7) (ip 4 (dR ks7)) false:=by
 have hlen:(dR ks7).length≤1000:=dqk
 refine⟨fun w=>?_,fun w e co he hh=>?_,fun w e he hh=>?_,fun w A c hb hc=>?_,fun w e he hh=>?_,fun w e he hh=>?_⟩
 ·exact Il 8 w dqk dqk
 ·exact Im he hh dqk dqk 7 co
 ·have HT:=Oh (fun V (hv:Below w.heap.size w V)=>yW he (hh.below hv) FJ.fit);have RU:=he;obtain⟨p,x,S,cS,R,rfl,Pa⟩:=RU;exact gp hh.it.1 4 rfl dqk dqk (dR ks7) (Nat.lt_of_le_of_lt hlen dqk) 2 (.inr (.inl rfl)) HT
 ·exact zK _ 4 _ A c 1000 w dqk dqk hb hc (Oo hlen dqk) hlen dqk (Oh fun W A' c' Zl=>Ik FJ (by unfold InI;decide) A' c' W Zl)
 ·exact Lj 7 he hh
 ·exact DT he hh
end
def fx(w:World)(base:Nat)(A:Option Addr)(c:Nat)(L:List Int):Prop:=Own w base 33 1 A L.length c (L.map (fun v=>.int .u32 v))
theorem DM(x y:Int)(w:World):Cl 128 #[.int .u32 x,.int .u32 y] w (Rs (.bool (decide (x<y))) w):=by
 have HN:=Oh (show∀w:World,Cl 193 #[.int .u32 x] w (Rs (.bool false) w) by
  intro w;go_enter func193,ntmps193;go_wp2_with fail;go_ret;exact⟨by simp,rfl⟩)
 go_enter func128,ntmps128;exact tM
theorem Iy(A:Option Addr)(c base:Nat)(L:List Int)(w:World)(h:fx w base A c L)(hl:L.length≤1000):
  Cl 122 #[.slice A L.length c,.int .i64 0,.int .i64 (L.length:Int)] w fun e w'=>e=.returned (.tuple #[])∧∃L',L'.Perm L∧fx w' base A c L'∧ab (fun i=>aa A=some i) w w':=by
 have TE:=Oh DM;have HH:=Oh h;have HL:=Oh hl;have Lt:(L.length:Int)≤1000:=oq;clear h hl;go_enter func122,ntmps122;go_wp2_with fail;go_loopw [6] (fun u wr=>∃(i:Nat) (L':List Int),1≤i∧i≤L.length+1∧u=.int .i64 (i:Int)∧L'.Perm L∧fx wr base A c L'∧ab (fun i=>aa A=some i) w wr) (fun u _=>L.length+1-(intOf u).toNat)
 case atStart=>exact⟨1,L,Oi _,oq,rfl,List.Perm.refl _,HH.out,ab.refl _ _⟩
 case round=>
  obtain⟨i,L1,RT,hi2,rfl,hp,ho,hk⟩:=hrel;have HP:=Oh hp;have HO:=Oh ho;have HK:=Oh hk;have HI:=Oh (And.intro RT hi2);clear ho hk hp
  by_cases hlt:i<L.length
  ·have t1:(i:Int)<(L.length:Int):=oq;have oR:=Oh hlt;clear hlt RT hi2;go_wp2_with fail;go_loopw [7] (fun u wr=>∃(j:Nat) (L':List Int),j≤i∧u=.int .i64 (j:Int)∧L'.Perm L∧fx wr base A c L'∧ab (fun i=>aa A=some i) w wr) (fun u _=>(intOf u).toNat)
   case atStart=>exact⟨i,L1,Oi _,rfl,HP.out,HO.out,HK.out⟩
   case round=>
    obtain⟨j,L2,hj,rfl,hp,ho,hk⟩:=hrel;have Qz:=Oh hp;have nO:=Oh ho;have OC:=Oh hk;have HJ:=Oh hj;have PT:L2.length=L.length:=hp.length_eq;clear ho hk hp HP HO HK
    by_cases hz:j=0
    ·exact uq
    ·obtain⟨q,hq⟩:∃q,j=q+1:=⟨j-1,oq⟩;have Qi:j<L2.length:=by have:=oR.out;omega
     obtain⟨x,hx⟩:=gs L2 j Qi;obtain⟨y,hy⟩:=gs L2 q;obtain⟨g,rfl,_,If,_,hc,hfz⟩:=Own.form nO.out oq;have d0:=hc j (.int .u32 x) (by simp[hx]);have d1:=hc q (.int .u32 y) (by simp[hy]);have z1:decide ((0:Int)<(j:Int))=true:=sq;have z2:decide (0<j)=true:=sq;have z3:wrap64 ((j:Int)-1)=(q:Int):=by unfold wrap64;omega
     have z4:IntKind.i64.wrap ((j:Int)-1)=(q:Int):=by rw[show(j:Int)-1=(q:Int) by omega];exact i6
     have z5:(j:Int)<(L.length:Int):=oq;have z6:(q:Int)<(L.length:Int):=oq;have z7:(j:Int)-1=(q:Int):=oq;have z9:IntKind.i64.wrap (q:Int)=(q:Int):=i6;have HXY:=Oh (And.intro hx hy);have HQ:=Oh hq;have HG:=Oh (And.intro If hfz);clear hx hy hq hc Qi hz hj PT If hfz
     by_cases UH:x<y
     ·have z8:decide (x<y)=true:=sq;have OB:=Oh (TE.out x y);rw[z8] at OB;clear UH z8;go_upto_region 4 with(fail);go_quiet ((go_at_call 128;exact Calls.quiet_of_same (OB.out _)));obtain⟨wq,RO⟩:=nm (wr.drewN nq);rw[←RO];have sO:Hid (fx wq base (some ⟨g,0,none⟩) c L2):=Oh (by rw[RO];exact Own.below nO.out (ae (Oq _ _) _));have Pb:Hid (ab (fun i=>aa (some ⟨g,0,none⟩)=some i) w wq):=Oh (by rw[RO];exact OC.out.drewN _);have e0:wq.cell? ⟨g,j,none⟩=some (.int .u32 x):=by rw[RO];exact d0
      have e1:wq.cell? ⟨g,q,none⟩=some (.int .u32 y):=by rw[RO];exact d1
      have ef:∀i,wq.frozen? ⟨g,i,none⟩=false:=fun i=>by rw[RO];exact HG.out.2 i
      clear RO d0 d1 nO OC;go_upto_region 6 with(fail);refine wp_region_noPanic ?_;refine ag (S:=(fun(V:World)=>V.cell? ⟨g,j,none⟩=some (.int .u32 x)∧V.cell? ⟨g,q,none⟩=some (.int .u32 y))) (L:=15) ok' ⟨e0,e1⟩ (fun hHeld=>?_);refine tV 0 ?_;refine tV 1 ?_;refine fV 2 ?_;refine fV 3 ?_;refine fV 4 ?_;refine tV 5 ?_;refine tV 6 ?_;refine tV 7 ?_;refine tV 8 ?_;refine tV 9 ?_;refine fV 10 ?_;refine fV 11 ?_;refine fV 12 ?_;refine tV 13 ?_;refine tV 14 ?_;refine aL 15 ?_;refine aA 16 ?_;refine aA 17 ?_;refine cD ?_;clear hHeld;obtain⟨wn,VY⟩:=nm (((wq.setCell ⟨g,j,none⟩ (.int .u32 y)).setCell ⟨g,q,none⟩ (.int .u32 x)).drew);rw[←VY];have HPN:Hid (((L2.set j y).set q x).Perm L):=Oh ((pY L2 j q x y HXY.out.1 HXY.out.2).trans Qz.out)
      have Sr:Hid (fx wn base (some ⟨g,0,none⟩) c ((L2.set j y).set q x)):=Oh (by
       have h:=Own.stored (Own.stored (show Own wq base 33 1 (some ⟨g,0,none⟩) L2.length c (L2.map (fun v=>.int .u32 v)) from sO.out) j (.int .u32 y)) q (.int .u32 x);rw[VY];unfold fx;simp only[List.length_set,List.map_set];exact Own.drew h)
      exact uf
     ·have z8:decide (x<y)=false:=sq;have OB:=Oh (TE.out x y);rw[z8] at OB;clear UH z8;go_upto_region 4 with(fail);go_quiet ((go_at_call 128;exact Calls.quiet_of_same (OB.out _)));exact vr
  ·exact ut
theorem Hj(A:Option Addr)(c base:Nat)(L:List Int)(lim:Int)(w:World)(h:fx w base A c L)(hl:L.length≤12):
  Cl 62 #[.slice A L.length c,.int .i64 0,.int .i64 (L.length:Int),.int .i64 lim] w fun e w'=>e=.returned (.tuple #[])∧∃L',L'.Perm L∧fx w' base A c L'∧ab (fun i=>aa A=some i) w w':=by
 have HI:=Oh (Iy A c base L w h oq);have x1:(L.length:Int)≤12:=oq;have x2:decide ((L.length:Int)≤12)=true:=sq;clear h hl;go_enter func62,ntmps62;exact tX
theorem CP(A:Option Addr)(c base:Nat)(L:List Int)(w:World)(h:fx w base A c L)(hl:L.length≤12):
  Cl 35 #[.slice A L.length c] w fun e w'=>e=.returned (.tuple #[])∧∃L',L'.Perm L∧fx w' base A c L'∧ab (fun i=>aa A=some i) w w':=by
 have HP:=Oh (fun lim=>Hj A c base L lim w h hl);have TX:=Oh (show∃n:Int,Cl 63 #[.int .u64 (L.length:Int)] w (Rs (.int .i64 n) w) from⟨_,yS (L.length:Int) w oq oq⟩);have x1:IntKind.u64.wrap (L.length:Int)=(L.length:Int):=u6;have x2:(L.length:Int)≤12:=oq;clear h hl;go_enter func35,ntmps35;exact uU
section
open Go.Maps Go.Sort Go.Proofs
structure zP(Ks:List Int)(left:Lit→Bool)(ss:List Int):Prop where
 nodup:ss.Nodup
 mem:∀h:Int,h∈ss↔h∈Ks∧left (.int .u32 h)=false
theorem zP.step{Ks ss:List Int}{left:Lit→Bool}{x:Int}(h:zP Ks left ss)(hl:left (.int .u32 x)=true)(hx:x∈Ks):zP Ks (fun z=>left z&&!z.sameKey (.int .u32 x)) (ss++[x]):=by
 refine⟨?_,fun q=>?_⟩
 ·exact ui
 ·rw[List.mem_append,h.mem,List.mem_singleton]
  by_cases e:q=x
  ·subst e;constructor
   ·intro _;exact⟨hx,by simp[Lit.sameKey]⟩
   ·intro _;exact .inr rfl
  ·constructor
   ·rintro(⟨h1,h2⟩|h1)
    ·exact⟨h1,by simp[h2]⟩
    ·exact absurd h1 e
   ·rintro⟨h1,h2⟩;refine .inl ⟨h1,?_⟩;simpa [Lit.sameKey,e] using h2
theorem jK:∀{ss L:List Int},ss.Nodup→(∀p∈ss,p∈L)→ss.length≤L.length
 | [],_,_,_=>Nat.zero_le _
 |p::l,L,hn,h=>by
  have h1:=List.nodup_cons.1 hn;have h2:=jK (L:=L.erase p) h1.2 (fun q hq=>(List.mem_erase_of_ne (show q≠p from fun e=>h1.1 (by rw[←e];exact hq))).2 (h q (List.mem_cons_of_mem _ hq)));exact vp
theorem zX{x:Int}(h:(Lit.int .u32 x).wf=true):0≤x∧x<4294967296:=by
 have h1:IntKind.u32.min=0:=rfl;have h2:IntKind.u32.max=4294967295:=rfl;simp only[Lit.wf,Bool.and_eq_true,decide_eq_true_eq] at h;omega
def jU(M:List (Nat×Nat)):List Int:=M.map fun q=>(q.1:Int)
theorem qr(M:List (Nat×Nat))(h:Nat):(M.lookup h).isSome=true↔(h:Int)∈jU M:=by
 induction M with
 |nil=>simp[jU]
 |cons q M ih=>
  rw[List.lookup_cons]
  by_cases e:h=q.1
  ·subst e;simp[jU]
  ·have:(h==q.1)=false:=by simpa using e
   rw[this];show(M.lookup h).isSome=true↔(h:Int)∈(q.1:Int)::jU M;rw[ih,List.mem_cons];constructor
   ·exact .inr
   ·rintro(h1|h1)
    ·omega
    ·exact h1
theorem BJ:fH prog 73 33 1 4:=cy underlying73 (z:=.int .u32 0) ok' od od
def hvs(l:List Int):List Value:=l.map fun v=>.int .u32 v
theorem IC(l:List Int):∀u∈hvs l,u.oneCell'=true:=by
 intro u hu;obtain⟨_,_,rfl⟩:=List.mem_map.1 hu;rfl
theorem Np(w:World)(x:Int):am (w.alloc (.cells #[.int .u32 x] 33)) (w.alloc (.cells #[.int .u32 x] 33)).heap.size 1 (some ⟨w.heap.size,0,none⟩) 1 (hvs [x]):=
 am.lit (bQ _ _) rfl rfl
theorem Bv{w:World}{x m c:Nat}{A:Option Addr}{Q:List (Option Ent)}{M:List (Nat×Nat)}(h:Sui w x m A c Q M)(hM:M.length≤12)(hn:(jU M).Nodup):
  Cl 21 #[.pointer (some ⟨x,0,none⟩)] w fun e w'=>∃A' c',e=.returned (.slice A' M.length c')∧Below w.heap.size w w':=by
 have c0:=h.c0;obtain⟨D,hD,hO⟩:=h.mp;have HO:=Oh hO;have HD:=Oh hD;have Ov:m<w.heap.size:=h.mp.lt;have HN:=Oh hn;have Sb:(jU M).length=M.length:=by simp[jU]
 have Z3:=Oh Sb;clear h hn hO hD Sb;go_enter func21,ntmps21;go_wp2_with (at_range;refine wpList_range_own _ rfl _ 75 rfl 33 3 Ce underlying75 _ m M.length D rfl HO.out ?_;intro w0 Yj hg0 hs0);go_frame
 go_loopw [3] (fun z wr=>∃(left:Lit→Bool) (cnt:Nat) (ss:List Int) (A:Option Addr) (c:Nat),z=.slice A ss.length c∧wr.ranges (H:=Unit) prog 33 (plainElem prog 3) m w.heap.size M.length D left cnt∧zP (jU M) left ss∧fx wr w.heap.size A c ss∧Below w.heap.size w wr)
  (fun _ wr=>wr.rangeLeft m w.heap.size)
 case atStart=>
  refine⟨_,_,[],none,0,rfl,Yj,⟨List.nodup_nil,fun p=>⟨fun h=>(by cases h),fun⟨h,e⟩=>?_⟩⟩,Own.nil _ _ _ _,(Oq _ _).grown hg0 (Oi _) (fun j hj=>by cases hj)⟩;obtain⟨q,hq,rfl⟩:=List.mem_map.1 h;rw[HD.out.has,(qr M q.1).2 h] at e;cases e
 case round=>
  obtain⟨left,cnt,ss,A,c,rfl,hrg,Qb,hown,aC⟩:=hrel;have hlen:ss.length≤M.length:=by rw[←Z3.out];exact jK Qb.nodup fun p hp=>((Qb.mem p).1 hp).1
  have HC:=Oh Qb;have HW:=Oh hown;have HB:=Oh aC;clear Qb hown aC Yj hg0 hs0;go_wp2_with (at_next;refine wpList_next_ranges_ii _ rfl _ rfl 33 3 .u32 .i64 Ce underlying33 underlying3 m w.heap.size M.length _ _ _ rfl hrg ?_ ?_)
  ·intro _ UT;have QE:ss.Perm (jU M):=(List.perm_ext_iff_of_nodup HC.out.nodup HN.out).2 fun p=>by rw[HC.out.mem];simp[UT]
   have hle:=QE.length_eq;rw[Z3.out] at hle;have V7:=Oh (CP A c w.heap.size ss wr HW.out oq);have Qy:=Oh hle;clear UT QE hrg hlen hle hM;go_wp2_with fail;refine V7.out.mono ?_;rintro e w1 ⟨rfl,L',_,_,hk⟩;have Ub:=Oh hk;clear hk;go_wp2_with fail;go_ret;exact⟨A,c,by rw[Qy.out];rfl,HB.out.trans (Ub.out.below HB.out.size (fun i hi=>(Own.block HW.out hi).1))⟩
  ·intro x v w1 a2P hwx hwv hlx hat Yk hlt Px RS hen
   have hxi:x∈jU M:=by
    have hr:=zX hwx;obtain⟨n,rfl⟩:∃n:Nat,x=(n:Int):=⟨x.toNat,oq⟩;rw[←qr,←HD.out.has];exact Go.Maps.has_true_of_atKey hat
   have Uf:=HC.out.step hlx hxi;have Qs:(ss++[x]).length≤M.length:=by rw[←Z3.out];exact jK Uf.nodup fun p hp=>((Uf.mem p).1 hp).1
   have Va:=Go.row_ne_iter (show wr.ownsRow w.heap.size 33 1 (.slice A ss.length c) ss.length (hvs ss) from HW.out) hrg;rw[ay] at Va;have hown1:fx w1 w.heap.size A c ss:=Own.kept HW.out Px (.inr (fun e=>Va e.symm));have eQ:=HB.out.grown Px HB.out.size (fun j hj=>by cases hj;exact Oi _);have Tt:=Oh Uf;have TD:=Oh hown1;have aS:=Oh eQ;have PT:ss.length+1≤M.length:=by simpa using Qs
   clear Uf hown1 eQ HC HW HB hwx hwv hlx hat RS Va Px Qs hxi;go_wp2_with (at_builtin;refine Hid.out ?_);have nE:=Own.alloc (show Own w1 w.heap.size 33 1 A ss.length c (hvs ss) from TD.out) (.cells #[.int .u32 x] 33);refine aj (xs:=hvs ss) (news:=hvs [x]) rfl rfl BJ rfl nE rfl (Np w1 x) (IC _) (ss.length+1) rfl (hvs (ss++[x])) (by simp[hvs]) (by unfold maxLen;omega) oq (by have:=aS.out.size;simp;omega) ?_;intro A2 c2 w2 o2 g2 q2;have Va:=Go.row_ne_iter (show w1.ownsRow w.heap.size 33 1 (.slice A ss.length c) ss.length (hvs ss) from TD.out) Yk;rw[ay] at Va
   have Yl:=(Yk.alloc (.cells #[.int .u32 x] 33)).kept g2 (fun e=>by
    have:=(Own.block nE e.symm).1;omega) (fun e=>Va e)
   have Qw:Below w.heap.size w w2:=(aS.out.alloc aS.out.size _).grown g2 (by have:=aS.out.size;simp;omega) (fun i hi=>(Own.block nE hi).1);have nO:Hid (fx w2 w.heap.size A2 c2 (ss++[x])):=Oh (by unfold fx;rw[Ok];exact o2);have bY:=Oh Qw;clear o2 g2 q2 nE Va Qw;go_wp2_with fail;go_roundw
   case rel=>exact⟨_,a2P,ss++[x],A2,c2,by simp,Yl,Tt.out,nO.out,bY.out⟩
   case measure=>rw[Yl.left_eq,hrg.left_eq];exact hlt
end
structure AS(w W:World)(x m:Nat)(A:Option Addr)(c:Nat)(Q:List (Option Ent))(M:List (Nat×Nat))(G:Nat→Prop)(P:World→Prop):Prop where
 sui:Sui W x m A c Q M
 held:ar P G W
 apart:∀i,G i→¬SG x m A Q i
 new:∀i,SG x m A Q i→w.heap.size≤i
 below:Below w.heap.size w W
section
variable {w W W':World} {x m c:Nat} {A:Option Addr} {Q:List (Option Ent)} {M:List (Nat×Nat)} {G:Nat→Prop} {P:World→Prop}
theorem AS.next(h:AS w W x m A c Q M G P)(hb:Below W.heap.size W W'):AS w W' x m A c Q M G P:=⟨h.sui.below hb,h.held.below hb,h.apart,h.new,ai h.below hb⟩
theorem AS.turn{A':Option Addr}{c':Nat}{Q':List (Option Ent)}{M':List (Nat×Nat)}(h:AS w W x m A c Q M G P)(hs:Sui W' x m A' c' Q' M')(ht:aD (SG x m A Q) (SG x m A' Q') W W'):AS w W' x m A' c' Q' M' G P:=by
 obtain⟨h1,h2⟩:=h.held.other h.apart ht;exact⟨hs,h1,h2,fun i hi=>(ht.new i hi).elim (h.new i) fun h3=>Oo h.below.size h3,h.below.trans (ht.below h.below.size h.new)⟩
theorem AS.named{S:Ent→Prop}{H:Nat}(h:AS w W x m A c Q M G P)(k:rp S x m A Q M H W W'):∃f A' c',S f∧AS w W' x m A' c' (Q++[some f]) (M++[(H,Q.length)]) G P:=by
 obtain⟨f,A',c',hf,hs,ht⟩:=k;exact⟨f,A',c',hf,h.turn hs ht⟩
theorem AS.turn1{S:Ent→Prop}{i:Nat}(h:AS w W x m A c Q M G P)(k:zN S x m A c Q M i W W'):∃f,S f∧AS w W' x m A c (Q.set i (some f)) M G P:=by
 obtain⟨f,hf,hs,ht⟩:=k;exact⟨f,hf,h.turn hs ht⟩
theorem AS.add{P2:World→Prop}{G2:Nat→Prop}(h:AS w W x m A c Q M G P)(k:ar P2 G2 W)(hd:∀i,G2 i→¬SG x m A Q i):AS w W x m A c Q M (fun i=>G i∨G2 i) (fun w=>P w∧P2 w):=
 ⟨h.sui,h.held.and k,fun i hi=>hi.elim (h.apart i) (hd i),h.new,h.below⟩
theorem AS.keep{P2:World→Prop}{G2:Nat→Prop}(h:AS w W x m A c Q M G P)(k:ar P2 G2 W)(hg:∀i,G2 i→G i):AS w W x m A c Q M G2 P2:=⟨h.sui,k,fun i hi=>h.apart i (hg i hi),h.new,h.below⟩
theorem AS.alloc{t:TypeId}{cs:Array Value}(h:AS w W x m A c Q M G P):AS w (W.alloc (.cells cs t)) x m A c Q M (fun i=>G i∨i=W.heap.size) (fun w'=>P w'∧Blk w' W.heap.size t cs):=by
 have hb:Below W.heap.size W (W.alloc (.cells cs t)):=Ba;refine(h.next hb).add (ar.blk (Blk.new W t cs)) fun i hi e=>?_;have:=h.sui.lt i e;omega
theorem AS.res{t:TypeId}{z cs:Array Value}(h:AS w W x m A c Q M G P):AS w ((W.alloc (.cells z t)).setRow W.heap.size cs) x m A c Q M (fun i=>G i∨i=W.heap.size) (fun w'=>P w'∧Blk w' W.heap.size t cs):=by
 have hb:Below W.heap.size W ((W.alloc (.cells z t)).setRow W.heap.size cs):=below_setRow (Ba) (Oi _) _;refine(h.next hb).add (ar.blk (setRow_heap _ _ _ _ _ _ (Blk.new W t z))) fun i hi e=>?_;have:=h.sui.lt i e;omega
theorem AS.bytes{A2:Option Addr}{c2:Nat}{l:List UInt8}(h:AS w W x m A c Q M G P)(hb:Below W.heap.size W W')(ho:ak W' W.heap.size A2 c2 l):AS w W' x m A c Q M (fun i=>G i∨aa A2=some i) (fun w'=>P w'∧ak w' W.heap.size A2 c2 l):=by
 refine(h.next hb).add (ar.own ho) fun i hi e=>?_;have h1:=(Own.block (show Own W' W.heap.size 5 1 A2 l.length c2 (bvs l) from ho) hi).1;have:=h.sui.lt i e;omega
end
def eA:Array Value:=#[.int .u8 1,.int .i64 1,.int .i64 2000,.int .i64 3,.bool true,.int .i64 0,.int .i64 0,.int .u8 2,.int .i64 0,.int .i64 0,.int .i64 0,.bool false,.int .i64 500,.int .i64 50,.int .u8 3,.int .i64 0,.int .i64 0,.int .i64 0,.bool false,.int .i64 0,.int .i64 20,.int .u8 4,.int .i64 0,.int .i64 0,.int .i64 0,.bool false,.int .i64 0,.int .i64 8]
structure RF(i sk:Nat)(lo hi d:Int)(gr:Bool)(ac sz:Int)(S0 S1:Ent→Prop)(b:List UInt8)(vg:Bool):Prop where
 ka:KA (spC sk lo hi d gr ac sz) S0 S1 b vg
 q0:eA[i*7]?=some (.int .u8 (sk:Int))
 q1:eA[i*7+1]?=some (.int .i64 lo)
 q2:eA[i*7+2]?=some (.int .i64 hi)
 q3:eA[i*7+3]?=some (.int .i64 d)
 q4:eA[i*7+4]?=some (.bool gr)
 q5:eA[i*7+5]?=some (.int .i64 ac)
 q6:eA[i*7+6]?=some (.int .i64 sz)
theorem NT(i:Nat)(hi:i<4):∃sk lo hi d gr ac sz S0 S1 b vg,RF i sk lo hi d gr ac sz S0 S1 b vg:=by
 obtain rfl|rfl|rfl|rfl:i=0∨i=1∨i=2∨i=3:=oq
 ·exact⟨_,_,_,_,_,_,_,_,_,_,_,ka1,rfl,rfl,rfl,rfl,rfl,rfl,rfl⟩
 ·exact⟨_,_,_,_,_,_,_,_,_,_,_,ka2,rfl,rfl,rfl,rfl,rfl,rfl,rfl⟩
 ·exact⟨_,_,_,_,_,_,_,_,_,_,_,ka3,rfl,rfl,rfl,rfl,rfl,rfl,rfl⟩
 ·exact⟨_,_,_,_,_,_,_,_,_,_,_,ka4,rfl,rfl,rfl,rfl,rfl,rfl,rfl⟩
def Ms:Nat→List (Nat×Nat)
 |0=>[]
 |i+1=>Ms i++[(i,2*i)]++[(i+10,2*i+1)]
theorem Fa(i:Nat)(hi:i<4):(Ms i).lookup i=none∧(Ms i++[(i,2*i)]).lookup i=some (2*i)∧(Ms i++[(i,2*i)]).lookup (i+10)=none∧(Ms (i+1)).lookup (i+10)=some (2*i+1)∧(Ms i).length=2*i:=by
 obtain rfl|rfl|rfl|rfl:i=0∨i=1∨i=2∨i=3:=oq
 all_goals decide
theorem Jy(w:World):Cl 8 #[] w (Rb (.bool true) w):=by
 go_enter func8,ntmps8;go_wp2_with fail;refine(Fp w).mono ?_;rintro e w1 ⟨x,m,rfl,hx,hm,s1,b1⟩
 have h1:AS w w1 x m none 0 [] [] (fun _=>False) (fun _=>True):=⟨s1,ar.pure trivial,fun _ h=>h.elim,(fun i hi=>by
  rcases hi with rfl|rfl|hi|⟨e,he,_⟩
  ·exact hx
  ·exact hm
  ·cases hi
  ·cases he),b1⟩
 have h0:=h1.alloc (t:=29) (cs:=eA);obtain⟨gs,Sq⟩:∃g,g=w1.heap.size:=⟨_,rfl⟩;rw[←Sq] at h0;have H0:Hid (AS w (w1.alloc (.cells #[.int .u8 1,.int .i64 1,.int .i64 2000,.int .i64 3,.bool true,.int .i64 0,.int .i64 0,.int .u8 2,.int .i64 0,.int .i64 0,.int .i64 0,.bool false,.int .i64 500,.int .i64 50,.int .u8 3,.int .i64 0,.int .i64 0,.int .i64 0,.bool false,.int .i64 0,.int .i64 20,.int .u8 4,.int .i64 0,.int .i64 0,.int .i64 0,.bool false,.int .i64 0,.int .i64 8] 29)) x m none 0 [] (Ms 0) (fun i=>i=gs) (fun w'=>Blk w' gs 29 eA)):=Oh (h0.keep (ar.blk h0.held.it.2) fun i hi=>.inr hi);clear s1 b1 hx hm h1 h0;go_wp2_with fail;rw[←Sq];generalize w1.alloc (.cells #[.int .u8 1,.int .i64 1,.int .i64 2000,.int .i64 3,.bool true,.int .i64 0,.int .i64 0,.int .u8 2,.int .i64 0,.int .i64 0,.int .i64 0,.bool false,.int .i64 500,.int .i64 50,.int .u8 3,.int .i64 0,.int .i64 0,.int .i64 0,.bool false,.int .i64 0,.int .i64 20,.int .u8 4,.int .i64 0,.int .i64 0,.int .i64 0,.bool false,.int .i64 0,.int .i64 8] 29)=W0 at*;clear Sq;go_loopw [3] (fun u wr=>∃(i:Nat) (A:Option Addr) (c:Nat) (Q:List (Option Ent)),u=.int .i64 (i:Int)∧i≤4∧Q.length=2*i∧(∀o∈Q,o≠none)∧AS w wr x m A c Q (Ms i) (fun i=>i=gs) (fun w'=>Blk w' gs 29 eA)) (fun u _=>4-(intOf u).toNat)
 case atStart=>exact⟨0,none,0,[],rfl,oq,rfl,(fun o ho=>by cases ho),H0.out⟩
 case round=>
  obtain⟨i,A,c,Q,rfl,hi,hq,Qc,has⟩:=hrel;have YQ:=Oh has;have HQ:=Oh (And.intro hq Qc);clear has hq Qc
  by_cases hi4:i<4
  ·have aiV:(i:Int)<4:=oq;obtain⟨sk,lo,hi',d,gr,ac,sz,S0,S1,b,vg,rf⟩:=NT i hi4;obtain⟨m1,m2,m3,m4,m5⟩:=Fa i hi4;have hblk:Blk wr gs 29 eA:=YQ.out.held.it;have n0:wr.cell? ⟨gs,i*7,none⟩=some (.int .u8 (sk:Int)):=by rw[hblk.cell];exact rf.q0
   have n1:wr.cell? ⟨gs,i*7+1,none⟩=some (.int .i64 lo):=by rw[hblk.cell];exact rf.q1
   have n2:wr.cell? ⟨gs,i*7+2,none⟩=some (.int .i64 hi'):=by rw[hblk.cell];exact rf.q2
   have n3:wr.cell? ⟨gs,i*7+3,none⟩=some (.int .i64 d):=by rw[hblk.cell];exact rf.q3
   have n4:wr.cell? ⟨gs,i*7+4,none⟩=some (.bool gr):=by rw[hblk.cell];exact rf.q4
   have n5:wr.cell? ⟨gs,i*7+5,none⟩=some (.int .i64 ac):=by rw[hblk.cell];exact rf.q5
   have n6:wr.cell? ⟨gs,i*7+6,none⟩=some (.int .i64 sz):=by rw[hblk.cell];exact rf.q6
   obtain⟨K,hK⟩:∃K,K=i+10:=⟨_,rfl⟩;have z1:IntKind.u32.wrap (i:Int)=(i:Int):=by rw[IntKind.wrap_u32];omega
   have z2:IntKind.u32.wrap ((i:Int)+10)=(K:Int):=by rw[IntKind.wrap_u32];omega
   have Qd:(0:Int)≤(i:Int):=oq;have Uo:Hid ((Ms i).lookup i=none):=Oh m1;have PW:Hid ((Ms i++[(i,2*i)]).lookup i=some (2*i)):=Oh m2;have UG:Hid ((Ms i++[(i,2*i)]).lookup K=none):=Oh (by rw[hK];exact m3);have UW:Hid ((Ms i++[(i,2*i)]++[(K,2*i+1)]).lookup K=some (2*i+1)):=Oh (by rw[hK];exact m4);have HM5:Hid (Ms (i+1)=Ms i++[(i,2*i)]++[(K,2*i+1)]):=Oh (by rw[hK];rfl);have HML:Hid ((Ms i).length=2*i):=Oh m5;have Xt:Hid (K<4294967296∧i<4294967296∧i<4):=Oh oq;have ZT:=Oh rf;have QG:=Oh (fun(V:World) A c Q (h:Sui V x m A c Q (Ms i)) (hl:Q.length=2*i) (ha:∀o∈Q,o≠none)=>show Cl 11 #[.pointer (some ⟨x,0,none⟩),.agg #[.int .u8 1,.int .u32 (i:Int),.int .u32 0,.int .u8 (sk:Int),.int .i64 lo,.int .i64 hi',.int .i64 d,.bool gr,.int .i64 ac,.int .i64 sz,.int .i64 0,.int .u64 0,.int .u64 0,.int .u64 0,.slice none 0 0,.slice none 0 0,.int .i64 0,.int .i64 0,.slice none 0 0]] V _ from qA (a:=(⟨1,i,0,sk,lo,hi',d,gr,ac,sz,0,0,0,0,none,0,0,none,0,0,0,0,none,0,0⟩:Ac)) h rfl Xt.out.2.1 Uo.out (by rw[HML.out];have:=Xt.out.2.2;omega) (by have:=Xt.out.2.2;omega) ha S0 (Oh fun W _=>ZT.out.ka.make W));have Pn:=Oh (fun(V:World) A c Q e (h:Sui V x m A c Q (Ms i++[(i,2*i)])) (hq:Q[2*i]?=some (some e)) (he:S0 e)=>show Cl 11 #[.pointer (some ⟨x,0,none⟩),.agg #[.int .u8 2,.int .u32 (i:Int),.int .u32 0,.int .u8 0,.int .i64 0,.int .i64 0,.int .i64 0,.bool false,.int .i64 0,.int .i64 0,.int .i64 7,.int .u64 3,.int .u64 0,.int .u64 0,.slice none 0 0,.slice none 0 0,.int .i64 0,.int .i64 0,.slice none 0 0]] V _ from qy (a:=(⟨2,i,0,0,0,0,0,false,0,0,7,3,0,0,none,0,0,none,0,0,0,0,none,0,0⟩:Ac)) h rfl Xt.out.2.1 PW.out hq rfl rfl S1 0 (Oh fun W g hw=>ZT.out.ka.add W e _ he ((h.held e (Om hq)).below hw)));have QW:=Oh (fun(V:World) A c Q e (h:Sui V x m A c Q (Ms i++[(i,2*i)])) (hq:Q[2*i]?=some (some e)) (he:S1 e)=>show Cl 11 #[.pointer (some ⟨x,0,none⟩),.agg #[.int .u8 7,.int .u32 (i:Int),.int .u32 0,.int .u8 0,.int .i64 0,.int .i64 0,.int .i64 0,.bool false,.int .i64 0,.int .i64 0,.int .i64 0,.int .u64 0,.int .u64 0,.int .u64 0,.slice none 0 0,.slice none 0 0,.int .i64 2,.int .i64 0,.slice none 0 0]] V _ from qz (a:=(⟨7,i,0,0,0,0,0,false,0,0,0,0,0,0,none,0,0,none,0,0,2,0,none,0,0⟩:Ac)) h rfl Xt.out.2.1 PW.out hq b (Oh fun W hw=>ZT.out.ka.wrap W e he ((h.held e (Om hq)).below hw)))
   have HD4:=Oh (fun(V:World) A c Q A9 c9 (h:Sui V x m A c Q (Ms i++[(i,2*i)])) (hl:Q.length=2*i+1) (ha:∀o∈Q,o≠none) (hb:Bts V V.heap.size A9 b) (hc:b.length≤c9)=>show Cl 11 #[.pointer (some ⟨x,0,none⟩),.agg #[.int .u8 8,.int .u32 (K:Int),.int .u32 0,.int .u8 0,.int .i64 0,.int .i64 0,.int .i64 0,.bool false,.int .i64 0,.int .i64 0,.int .i64 0,.int .u64 0,.int .u64 0,.int .u64 0,.slice A9 b.length c9,.slice none 0 0,.int .i64 0,.int .i64 1000,.slice none 0 0]] V _ from J5 (a:=(⟨8,K,0,0,0,0,0,false,0,0,0,0,0,0,A9,b.length,c9,none,0,0,0,1000,none,0,0⟩:Ac)) h rfl Xt.out.1 UG.out (by rw[Ok,HML.out];have:=Xt.out.2.2;simp;omega) (by have:=Xt.out.2.2;omega) ha S1 (Oh fun W hw=>ZT.out.ka.opn W A9 c9 (hb.at_below hw) hc));have Up:=Oh (fun(V:World) A c Q e (h:Sui V x m A c Q (Ms i++[(i,2*i)]++[(K,2*i+1)])) (hq:Q[2*i+1]?=some (some e)) (he:S1 e)=>show Cl 11 #[.pointer (some ⟨x,0,none⟩),.agg #[.int .u8 4,.int .u32 (K:Int),.int .u32 0,.int .u8 0,.int .i64 0,.int .i64 0,.int .i64 0,.bool false,.int .i64 0,.int .i64 0,.int .i64 0,.int .u64 0,.int .u64 1,.int .u64 2,.slice none 0 0,.slice none 0 0,.int .i64 0,.int .i64 0,.slice none 0 0]] V _ from Ex (a:=(⟨4,K,0,0,0,0,0,false,0,0,0,0,1,2,none,0,0,none,0,0,0,0,none,0,0⟩:Ac)) h rfl Xt.out.1 UW.out hq 7 vg 0 (Oh fun W hw=>ZT.out.ka.at_ W e he ((h.held e (Om hq)).below hw)));have WV:=Oh (fun(V:World) A c Q e (h:Sui V x m A c Q (Ms i++[(i,2*i)]++[(K,2*i+1)])) (hq:Q[2*i+1]?=some (some e)) (he:S1 e)=>show Cl 11 #[.pointer (some ⟨x,0,none⟩),.agg #[.int .u8 6,.int .u32 (K:Int),.int .u32 0,.int .u8 0,.int .i64 0,.int .i64 0,.int .i64 0,.bool false,.int .i64 0,.int .i64 0,.int .i64 0,.int .u64 0,.int .u64 0,.int .u64 0,.slice none 0 0,.slice none 0 0,.int .i64 0,.int .i64 0,.slice none 0 0]] V _ from Ez (a:=(⟨6,K,0,0,0,0,0,false,0,0,0,0,0,0,none,0,0,none,0,0,0,0,none,0,0⟩:Ac)) h rfl Xt.out.1 UW.out hq 3 (Oh fun W hw=>ZT.out.ka.total W e he ((h.held e (Om hq)).below hw)));clear m1 m2 m3 m4 m5 rf hblk hK hi hi4;go_wp2_with fail;refine(QG.out wr A c Q YQ.out.sui HQ.out.1 HQ.out.2).mono ?_
   rintro e w2 ⟨rfl,nm⟩;obtain⟨f0,A1,c1,hf0,h2⟩:=YQ.out.named nm;rw[HQ.out.1] at h2;have H2:=Oh h2;have HF0:=Oh hf0;clear nm h2 hf0 n0 n1 n2 n3 n4 n5 n6;go_wp2_with (first|(refine wpList_store_row rfl 39 _ _ rfl w2.heap.size (ap 0) rfl rfl 39 (ap 0) (Blk.new w2 _ _) aF rfl aP ?_)|fail);obtain⟨r1,U3⟩:∃r,r=w2.heap.size:=⟨_,rfl⟩;have h3:=AS.res (t:=39) (z:=(rz (.slice none 0 0))) (cs:=(ap 0)) H2.out;rw[←U3] at h3;rw[←U3];have H3:=Oh h3;generalize(w2.alloc (.cells (rz (.slice none 0 0)) 39)).setRow r1 (ap 0)=W3 at*;clear h3 U3;have hqa:(Q++[some f0])[2*i]?=some (some f0):=by rw[List.getElem?_append_right (by have:=HQ.out.1;omega),HQ.out.1];simp
   refine(Pn.out W3 A1 c1 (Q++[some f0]) f0 H3.out.sui hqa HF0.out).mono ?_;rintro e w4 ⟨rfl,nm⟩;obtain⟨f1,Xc,h4⟩:=H3.out.turn1 nm;have Pf:=Oh Xc;obtain⟨Q2,hQ2⟩:∃Q2,Q2=(Q++[some f0]).set (2*i) (some f1):=⟨_,rfl⟩
   have Vq:Hid (Q2.length=2*i+1∧(∀o∈Q2,o≠none)∧Q2[2*i]?=some (some f1)):=Oh ⟨by rw[hQ2,List.length_set,Ok,HQ.out.1];rfl,fun o ho=>by
    rw[hQ2] at ho;rcases List.mem_or_eq_of_mem_set ho with h|rfl
    ·rcases List.mem_append.1 h with h|h
     ·exact HQ.out.2 o h
     ·rw[List.mem_singleton.1 h];simp
    ·simp,by rw[hQ2,List.getElem?_set_self (by rw[Ok,HQ.out.1];simp)]⟩
   rw[←hQ2] at h4;have H4:=Oh h4;clear nm h4 Xc hqa hQ2;go_wp2_with (first|(refine wpList_store_row rfl 39 _ _ rfl w4.heap.size (ap 0) rfl rfl 39 (ap 0) (Blk.new w4 _ _) aF rfl aP ?_)|fail);obtain⟨r2,QZ⟩:∃r,r=w4.heap.size:=⟨_,rfl⟩;have h5:=AS.res (t:=39) (z:=(rz (.slice none 0 0))) (cs:=(ap 0)) H4.out;rw[←QZ] at h5;rw[←QZ];have H5:=Oh h5;generalize(w4.alloc (.cells (rz (.slice none 0 0)) 39)).setRow r2 (ap 0)=W5 at*;clear h5 QZ;refine(QW.out W5 A1 c1 Q2 f1 H5.out.sui Vq.out.2.2 Pf.out).mono ?_;rintro e w6 ⟨A9,c9,rfl,ho,hb⟩;have H6:=Oh (H5.out.bytes hb ho);have HC9:Hid (b.length≤c9):=Oh (kx ho);have y:((w6.alloc (.cells (rz (.slice none 0 0)) 39)).setRow w6.heap.size (bC 0 0 false 0 0 0 0 (.slice A9 b.length c9))).cell? ⟨w6.heap.size,7,none⟩=some (.slice A9 b.length c9):=by rw[(AS.res (t:=39) (z:=(rz (.slice none 0 0))) (cs:=bC 0 0 false 0 0 0 0 (.slice A9 b.length c9)) H6.out).held.it.2.cell];rfl
   clear ho hb;go_wp2_with (first|(refine wpList_store_row rfl 39 _ _ rfl w6.heap.size (bC 0 0 false 0 0 0 0 (.slice A9 b.length c9)) rfl rfl 39 (ap 0) (Blk.new w6 _ _) aF rfl aP ?_)|fail);clear y;obtain⟨r3,SL⟩:∃r,r=w6.heap.size:=⟨_,rfl⟩;have h7:=AS.res (t:=39) (z:=(rz (.slice none 0 0))) (cs:=(bC 0 0 false 0 0 0 0 (.slice A9 b.length c9))) H6.out;rw[←SL] at h7;rw[←SL];have H7:=Oh h7;generalize(w6.alloc (.cells (rz (.slice none 0 0)) 39)).setRow r3 (bC 0 0 false 0 0 0 0 (.slice A9 b.length c9))=W7 at*;clear h7 SL;refine(HD4.out W7 A1 c1 Q2 A9 c9 H7.out.sui Vq.out.1 Vq.out.2.1 (ak.reads H7.out.held.it.1.2) HC9.out).mono ?_;rintro e w8 ⟨rfl,nm⟩;obtain⟨f4,A4,c4,hf4,h8⟩:=H7.out.named nm;rw[Vq.out.1] at h8;have XW:=Oh hf4;obtain⟨Q4,hQ4⟩:∃Q4,Q4=Q2++[some f4]:=⟨_,rfl⟩
   have HQ4:Hid (Q4.length=2*(i+1)∧(∀o∈Q4,o≠none)∧Q4[2*i+1]?=some (some f4)):=Oh ⟨by rw[hQ4,Ok,Vq.out.1];simp;omega,fun o ho=>by
    rw[hQ4] at ho;rcases List.mem_append.1 ho with h|h
    ·exact Vq.out.2.1 o h
    ·rw[List.mem_singleton.1 h];simp,by rw[hQ4,List.getElem?_append_right (by have:=Vq.out.1;omega),Vq.out.1];simp⟩
   rw[←hQ4] at h8;have H8:=Oh h8;clear nm h8 hf4 hQ4;go_wp2_with (first|(refine wpList_store_row rfl 39 _ _ rfl w8.heap.size (ap 0) rfl rfl 39 (ap 0) (Blk.new w8 _ _) aF rfl aP ?_)|fail);obtain⟨r4,Vm⟩:∃r,r=w8.heap.size:=⟨_,rfl⟩;have h9:=AS.res (t:=39) (z:=(rz (.slice none 0 0))) (cs:=(ap 0)) H8.out;rw[←Vm] at h9;rw[←Vm];have H9:=Oh h9;generalize(w8.alloc (.cells (rz (.slice none 0 0)) 39)).setRow r4 (ap 0)=W9 at*;clear h9 Vm;refine(Up.out W9 A4 c4 Q4 f4 H9.out.sui HQ4.out.2.2 XW.out).mono ?_;rintro e Qr ⟨rfl,hb⟩;have H10:=Oh (H9.out.next hb);clear hb;go_wp2_with (first|(refine wpList_store_row rfl 39 _ _ rfl Qr.heap.size (bC 0 7 vg 0 0 0 0 (.slice none 0 0)) rfl rfl 39 (ap 0) (Blk.new Qr _ _) aF rfl aP ?_)|fail);obtain⟨r5,VN⟩:∃r,r=Qr.heap.size:=⟨_,rfl⟩;have h11:=AS.res (t:=39) (z:=(rz (.slice none 0 0))) (cs:=(bC 0 7 vg 0 0 0 0 (.slice none 0 0))) H10.out;rw[←VN] at h11;rw[←VN];have Zo:=Oh h11;generalize(Qr.alloc (.cells (rz (.slice none 0 0)) 39)).setRow r5 (bC 0 7 vg 0 0 0 0 (.slice none 0 0))=W11 at*;clear h11 VN;refine(WV.out W11 A4 c4 Q4 f4 Zo.out.sui HQ4.out.2.2 XW.out).mono ?_;rintro e Tn ⟨rfl,hb⟩;have H12:=Oh (Zo.out.next hb);clear hb;obtain⟨WF,hWF⟩:∃WF,WF=(Tn.alloc (.cells (rz (.slice none 0 0)) 39)).setRow Tn.heap.size (bC 0 0 false 0 0 0 3 (.slice none 0 0)):=⟨_,rfl⟩;have hf:=AS.res (t:=39) (z:=(rz (.slice none 0 0))) (cs:=bC 0 0 false 0 0 0 3 (.slice none 0 0)) H12.out;rw[←hWF] at hf;have y6:WF.cell? ⟨Tn.heap.size,6,none⟩=some (.int .u64 3):=by rw[hf.held.it.2.cell];rfl
   have y5:WF.cell? ⟨r5,1,none⟩=some (.int .i64 7):=by rw[hf.held.it.1.2.cell];rfl
   have y5b:WF.cell? ⟨r5,0,none⟩=some (.int .i64 0):=by rw[hf.held.it.1.2.cell];rfl
   have y4:WF.cell? ⟨r4,0,none⟩=some (.int .i64 0):=by rw[hf.held.it.1.1.2.cell];rfl
   have y3:WF.cell? ⟨r3,0,none⟩=some (.int .i64 0):=by rw[hf.held.it.1.1.1.2.cell];rfl
   have y2:WF.cell? ⟨r2,0,none⟩=some (.int .i64 0):=by rw[hf.held.it.1.1.1.1.1.2.cell];rfl
   have y1:WF.cell? ⟨r1,0,none⟩=some (.int .i64 0):=by rw[hf.held.it.1.1.1.1.1.1.2.cell];rfl
   have HN:Hid (AS w WF x m A4 c4 Q4 (Ms (i+1)) (fun i=>i=gs) (fun w'=>Blk w' gs 29 eA)):=Oh (by
    rw[HM5.out];exact hf.keep (ar.blk hf.held.it.1.1.1.1.1.1.1) fun j hj=>.inl (.inl (.inl (.inl (.inl (.inl (.inl hj)))))))
   clear hf;subst hWF;go_wp2_with (first|(refine wpList_store_row rfl 39 _ _ rfl Tn.heap.size (bC 0 0 false 0 0 0 3 (.slice none 0 0)) rfl rfl 39 (ap 0) (Blk.new Tn _ _) aF rfl aP ?_)|fail);go_roundw
   case rel=>exact⟨i+1,A4,c4,Q4,by go_num,by have:=Xt.out.2.2;omega,HQ4.out.1,HQ4.out.2.1,HN.out⟩
   case measure=>have:=Xt.out.2.2;simp[intOf];omega
  ·obtain rfl:i=4:=oq;have HH:=Oh (Bv YQ.out.sui od od);clear hi hi4;go_wp2_with fail;refine HH.out.mono ?_;rintro e w2 ⟨A',c',rfl,hb⟩;have HB:=Oh (ai YQ.out.below hb);clear hb;go_wp2_with fail;go_ret;exact⟨rfl,HB.out⟩
theorem ng{R:Ending→World→Prop}{b:Act}{W:World}{g:Nat}{cs:Array Value}(h8:b.tmps.getD 8 undef=.pointer (some ⟨g,0,none⟩))(hd:b.defers=[])(hb:Blk W g 29 cs)(hs:cs.size=7)(hR:R (.returned (.agg cs)) W):bodyPost prog Tryz.f9 R .ret b W:=
 bodyPost_ret (v:=.agg cs) (results_cell_row results9 _ _ g 29 cs (0,0) _ h8 hb underlying29 (by rfl) (by rw[hs];kernel_rfl)) hd hR
theorem DI(a b:Nat)(w:World)(ha:a<65536)(hb:b<65536):
  Cl 9 #[.int .u8 0,.int .u16 (a:Int),.int .u16 (b:Int),.bool true] w (Rb (.agg (spC 1 ((1+a%50:Nat):Int) ((2*(1+a%50)+b:Nat):Int) ((1+a%3:Nat):Int) true 0 0)) w):=by
 obtain⟨p,hp⟩:=nm (a%50);obtain⟨q,hq⟩:=nm (a%3);have Ts:p<50:=oq;have RQ:q<3:=oq;have e1:(a:Int)%50=(p:Int):=oq;have e2:(a:Int)%3=(q:Int):=oq;have e3:Int.tmod (a:Int) 50=(p:Int):=by rw[Int.tmod_eq_emod_of_nonneg oq];exact e1
 have e4:Int.tmod (a:Int) 3=(q:Int):=by rw[Int.tmod_eq_emod_of_nonneg oq];exact e2
 rw[←hp,←hq];clear hp hq;rw[show((1+p:Nat):Int)=1+(p:Int) by omega,show((2*(1+p)+b:Nat):Int)=2*(1+(p:Int))+(b:Int) by omega,show((1+q:Nat):Int)=1+(q:Int) by omega];go_enter func9,ntmps9;go_wp2_with fail;exact ng rfl rfl (Blk.new w _ _) rfl ⟨rfl,Ba⟩
theorem DH(a b:Nat)(w:World)(ha:a<65536)(hb:b<65536):
  Cl 9 #[.int .u8 1,.int .u16 (a:Int),.int .u16 (b:Int),.bool true] w (Rb (.agg (spC 2 0 0 0 false ((500+a%46*100:Nat):Int) ((2+b%20:Nat):Int))) w):=by
 obtain⟨p,hp⟩:=nm (a%46);obtain⟨q,hq⟩:=nm (b%20);have Ts:p<46:=oq;have RQ:q<20:=oq;have e1:(a:Int)%46=(p:Int):=oq;have e2:(b:Int)%20=(q:Int):=oq;have e3:Int.tmod (a:Int) 46=(p:Int):=by rw[Int.tmod_eq_emod_of_nonneg oq];exact e1
 have e4:Int.tmod (b:Int) 20=(q:Int):=by rw[Int.tmod_eq_emod_of_nonneg oq];exact e2
 rw[←hp,←hq];clear hp hq;rw[show((500+p*100:Nat):Int)=500+(p:Int)*100 by omega,show((2+q:Nat):Int)=2+(q:Int) by omega];go_enter func9,ntmps9;go_wp2_with fail;exact ng rfl rfl (Blk.new w _ _) rfl ⟨rfl,Ba⟩
theorem qT(A B:Option Addr)(c c2:Nat)(l:List UInt8)(w:World)(hA:Bts w w.heap.size A l)(hB:Bts w w.heap.size B l):
  Cl 25 #[.agg (bC 0 0 false 0 0 0 0 (.slice A l.length c)),.agg (bC 0 0 false 0 0 0 0 (.slice B l.length c2))] w (Rb (.bool true) w):=by
 show Cl 25 #[.agg (rz (.slice A l.length c)),.agg (rz (.slice B l.length c2))] w _;have hb:Below w.heap.size w ((w.alloc (.cells (rz (.slice A l.length c)) 39)).alloc (.cells (rz (.slice B l.length c2)) 39)):=(Ba).alloc os' _;have RS:(convert 24 9 (.slice A l.length c)).run prog ((w.alloc (.cells (rz (.slice A l.length c)) 39)).alloc (.cells (rz (.slice B l.length c2)) 39))=.ok (.string (str l)) ((w.alloc (.cells (rz (.slice A l.length c)) 39)).alloc (.cells (rz (.slice B l.length c2)) 39)):=yt underlying24 underlying5 underlying9 (hA.at_below hb);have SB:(convert 24 9 (.slice B l.length c2)).run prog ((w.alloc (.cells (rz (.slice A l.length c)) 39)).alloc (.cells (rz (.slice B l.length c2)) 39))=.ok (.string (str l)) ((w.alloc (.cells (rz (.slice A l.length c)) 39)).alloc (.cells (rz (.slice B l.length c2)) 39)):=yt underlying24 underlying5 underlying9 (hB.at_below hb);have R4:((str l).toList==(str l).toList)=true:=by simp
 have b1:Blk ((w.alloc (.cells (rz (.slice A l.length c)) 39)).alloc (.cells (rz (.slice B l.length c2)) 39)) w.heap.size 39 (rz (.slice A l.length c)):=(Blk.new _ _ _).alloc _
 have b2:Blk ((w.alloc (.cells (rz (.slice A l.length c)) 39)).alloc (.cells (rz (.slice B l.length c2)) 39)) (w.heap.size+1) 39 (rz (.slice B l.length c2)):=by
  exact uB
 have HB:=Oh hb;have aS:=Oh b1;have bY:=Oh b2;clear hA hB hb b1 b2;go_enter func25,ntmps25;go_upto_region 1 with(fail);generalize((w.alloc (.cells (rz (.slice A l.length c)) 39)).alloc (.cells (rz (.slice B l.length c2)) 39))=W at*;have x0:=aS.out.c0;have x1:=aS.out.c1;have x2:=aS.out.c2;have x3:=aS.out.c3;have x4:=aS.out.c4;have x5:=aS.out.c5;have x6:=aS.out.c6;have x7:=aS.out.c7;have y0:=bY.out.c0;have y1:=bY.out.c1;have y2:=bY.out.c2;have y3:=bY.out.c3;have y4:=bY.out.c4;have y5:=bY.out.c5;have y6:=bY.out.c6;have y7:=bY.out.c7;go_wp2_with fail;go_ret;exact⟨rfl,HB.out⟩
theorem Ft(A B:Option Addr)(c c2:Nat)(l:List UInt8)(w:World)(hA:Bts w w.heap.size A l)(hB:Bts w w.heap.size B l):
  Cl 12 #[.agg (bC 0 0 false 0 0 0 0 (.slice A l.length c)),.agg (bC 0 0 false 0 0 0 0 (.slice B l.length c2))] w (Rb (.bool true) w):=by
 show Cl 12 #[.agg (rz (.slice A l.length c)),.agg (rz (.slice B l.length c2))] w _;have hb:Below w.heap.size w ((w.alloc (.cells (rz (.slice A l.length c)) 39)).alloc (.cells (rz (.slice B l.length c2)) 39)):=(Ba).alloc os' _;have HS:=Oh (qT A B c c2 l ((w.alloc (.cells (rz (.slice A l.length c)) 39)).alloc (.cells (rz (.slice B l.length c2)) 39)) (hA.at_below hb) (hB.at_below hb));have b1:Blk ((w.alloc (.cells (rz (.slice A l.length c)) 39)).alloc (.cells (rz (.slice B l.length c2)) 39)) w.heap.size 39 (rz (.slice A l.length c)):=(Blk.new _ _ _).alloc _
 have b2:Blk ((w.alloc (.cells (rz (.slice A l.length c)) 39)).alloc (.cells (rz (.slice B l.length c2)) 39)) (w.heap.size+1) 39 (rz (.slice B l.length c2)):=by
  exact uB
 have HB:=Oh hb;have aS:=Oh b1;have bY:=Oh b2;clear hA hB hb b1 b2;go_enter func12,ntmps12;go_upto_region 1 with(fail);generalize((w.alloc (.cells (rz (.slice A l.length c)) 39)).alloc (.cells (rz (.slice B l.length c2)) 39))=W at*;go_wp2_with (first|(refine wpList_load_row rfl 39 _ rfl w.heap.size rfl 39 (rz (.slice A l.length c)) (0,0) _ aS.out underlying39 (by rfl) aF ?_)|(refine wpList_load_row rfl 39 _ rfl (w.heap.size+1) rfl 39 (rz (.slice B l.length c2)) (0,0) _ bY.out underlying39 (by rfl) aF ?_)|fail);refine HS.out.mono ?_;rintro e w1 ⟨rfl,eQ⟩;have acD:=Oh (ai HB.out eQ);clear eQ;go_wp2_with fail;go_ret;exact⟨rfl,acD.out⟩
end Go.Proofs.YtmbippkpjdoojaaGreat
