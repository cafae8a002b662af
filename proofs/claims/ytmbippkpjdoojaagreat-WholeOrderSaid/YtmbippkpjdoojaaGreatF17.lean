/- Parts of a proof, merged. -/
import Derived.Test.YtmbippkpjdoojaaGreatF16
set_option maxRecDepth 100000
set_option maxHeartbeats 1600000
namespace Go.Proofs.YtmbippkpjdoojaaGreat
open Tryz
open Go.RowKit
namespace Wi
theorem gK(x:UInt8):by8 x.toNat=x:=UInt8.toNat_inj.1 (by rw[dF x.toNat_lt])
theorem lC(i m:Nat)(x:UInt8)(l:List UInt8):ci i m (x::l)=if i=9∧1<x.toNat then(21,0,0) else if 127<x.toNat then ci (i+1) (m+x.toNat%128*128^i) l else if x.toNat=0∧0<i then(21,0,0) else(0,m+x.toNat%128*128^i,i+1):=rfl
theorem BR{i m n:Nat}(l:List UInt8)(h:n<128)(h9:i=9→n≤1)(h0:0<i→0<n):ci i m (by8 n::l)=(0,m+n*128^i,i+1):=by
 rw[lC,dF oq,if_neg (by rintro⟨h1,h2⟩;have:=h9 h1;omega),if_neg oq,if_neg (by rintro⟨h1,h2⟩;have:=h0 h2;omega),Nat.mod_eq_of_lt h]
theorem qE{i m n:Nat}(l:List UInt8)(hi:i<9):ci i m (by8 (128+n%128)::l)=ci (i+1) (m+n%128*128^i) l:=by
 rw[lC,dF oq,if_neg oq,if_pos oq,show(128+n%128)%128=n%128 by omega]
theorem Cd(i:Nat):128^(i+1)=128*128^i:=by rw[Nat.pow_succ,Nat.mul_comm]
theorem rP{m n i:Nat}:m+n%128*128^i+n/128*128^(i+1)=m+n*128^i:=by
 have e:n=n%128+n/128*128:=oq;rw[Cd,←Nat.mul_assoc,Nat.add_assoc,←Nat.add_mul,←e]
def room(i n:Nat):Prop:=n<128^(9-i)*2
theorem qf{i n:Nat}(hi:i≤9)(h:room i n)(hn:128≤n):i<9∧room (i+1) (n/128):=by
 unfold room at*;rcases Nat.lt_or_ge i 9 with h9|h9
 ·refine⟨h9,?_⟩;rw[show 9-i=(9-(i+1))+1 by omega,Cd] at h;omega
 ·rw[show 9-i=0 by omega] at h;omega
theorem gi:∀(d i m n:Nat),9-i=d→i≤9→room i n→(0<i→0<n)→∀rest,ci i m (leb n++rest)=(0,m+n*128^i,i+(leb n).length)
 |d,i,m,n,hd,hi,hr,h0,rest=>by
  rcases Nat.lt_or_ge n 128 with h|h
  ·rw[gD h];exact BR rest h (fun h9=>by subst h9;unfold room at hr;omega) h0
  ·obtain⟨h9,QZ⟩:=qf hi hr h;rw[gC h,List.cons_append,qE _ h9]
   cases d with
   |zero=>omega
   |succ d=>
    rw[gi d (i+1) _ (n/128) oq oq QZ oq,rP,List.length_cons]
    congr 2
    omega
theorem oI:∀(d i m n:Nat),9-i=d→i≤9→room i n→∀k,k<(leb n).length→ci i m ((leb n).take k)=(20,0,0)
 |d,i,m,n,hd,hi,hr,k,hk=>by
  cases k with
  |zero=>rfl
  |succ k=>
   rcases Nat.lt_or_ge n 128 with h|h
   ·rw[gD h] at hk;simp at hk
   ·obtain⟨h9,QZ⟩:=qf hi hr h;rw[gC h,List.length_cons] at hk;rw[gC h,List.take_succ_cons,qE _ h9]
    cases d with
    |zero=>omega
    |succ d=>exact oI d (i+1) _ (n/128) oq oq QZ k oq
theorem oH:∀(l:List UInt8) (i m v k:Nat),ci i m l=(0,v,k)→∃n,v=m+n*128^i∧(0<i→0<n)∧i<k∧k-i≤l.length∧leb n=l.take (k-i)
 | [],i,m,v,k,h=>by simp[ci] at h
 |x::l,i,m,v,k,h=>by
  have hx:=x.toNat_lt;rw[lC] at h;split at h
  ·simp at h
  ·split at h
   ·rename_i a02;obtain⟨n,h1,h2,h3,h4,h5⟩:=oH l (i+1) _ v k h;have hn:=h2 oq;refine⟨x.toNat%128+128*n,?_,oq,oq,by rw[List.length_cons];omega,?_⟩
    ·exact uy
    ·rw[gC oq,show k-i=(k-(i+1))+1 by omega,List.take_succ_cons,show(x.toNat%128+128*n)%128=x.toNat%128 by omega,show(x.toNat%128+128*n)/128=n by omega,h5,
      show 128+x.toNat%128=x.toNat by omega,gK]
   ·rename_i a02;split at h
    ·simp at h
    ·rename_i h0;injection h with _ h
     injection h with h1 h2
     refine⟨x.toNat,?_,oq,oq,by rw[List.length_cons];omega,?_⟩
     ·rw[←h1,Nat.mod_eq_of_lt oq]
     ·rw[gD oq,show k-i=0+1 by omega,List.take_succ_cons,gK];rfl
theorem sj{n:Nat}(h:n<18446744073709551616):room 0 n:=by unfold room;exact Nat.lt_of_lt_of_le h od
theorem eR(i m:Nat)(x:UInt8)(l:List UInt8):cO i m (x::l)=if i=8 then(if x.toNat=0 then(21,0,0) else(0,cM (m+x.toNat*128^8),i+1)) else if 127<x.toNat then cO (i+1) (m+x.toNat%128*128^i) l else if x.toNat=0∧0<i then(21,0,0) else(0,cM (m+x.toNat%128*128^i),i+1):=rfl
theorem nA:∀(d i m n:Nat),8-i=d→i≤8→n<128^d*256→(0<i→0<n)→∀rest,cO i m (eF d n++rest)=(0,cM (m+n*128^i),i+(eF d n).length)
 |0,i,m,n,hd,hi,hr,h0,rest=>by
  obtain rfl:i=8:=oq;have hn:=h0 od;rw[eF,List.singleton_append,eR,if_pos rfl,dF oq,if_neg oq];rfl
 |d+1,i,m,n,hd,hi,hr,h0,rest=>by
  rw[eF];rcases Nat.lt_or_ge n 128 with h|h
  ·rw[if_pos h,List.singleton_append,eR,if_neg oq,dF oq,if_neg oq,if_neg (by rintro⟨h1,h2⟩;have:=h0 h2;omega),Nat.mod_eq_of_lt h];rfl
  ·rw[if_neg oq,List.cons_append,eR,if_neg oq,dF oq,if_pos oq,show(128+n%128)%128=n%128 by omega];rw[nA d (i+1) _ (n/128) oq oq (by rw[Cd] at hr;omega) oq,rP,List.length_cons]
   congr 2
   omega
theorem qD:∀(d i m n:Nat),8-i=d→i≤8→n<128^d*256→∀k,k<(eF d n).length→cO i m ((eF d n).take k)=(20,0,0)
 |_,_,_,_,_,_,_,0,_=>rfl
 |0,i,m,n,hd,hi,hr,k+1,hk=>by rw[eF] at hk;simp at hk
 |d+1,i,m,n,hd,hi,hr,k+1,hk=>by
  rw[eF] at hk ⊢;rcases Nat.lt_or_ge n 128 with h|h
  ·rw[if_pos h] at hk;simp at hk
  ·rw[if_neg oq,List.length_cons] at hk;rw[if_neg oq,List.take_succ_cons,eR,if_neg oq,dF oq,if_pos oq];exact qD d (i+1) _ (n/128) oq oq (by rw[Cd] at hr;omega) k oq
theorem qB:∀(l:List UInt8) (d i m v k:Nat),8-i=d→i≤8→cO i m l=(0,v,k)→∃n,v=cM (m+n*128^i)∧n<128^d*256∧(0<i→0<n)∧i<k∧k-i≤l.length∧eF d n=l.take (k-i)
 | [],d,i,m,v,k,_,_,h=>by simp[cO] at h
 |x::l,d,i,m,v,k,hd,hi,h=>by
  have hx:=x.toNat_lt;rw[eR] at h;split at h
  ·rename_i h8;subst h8;obtain rfl:d=0:=oq;split at h
   ·simp at h
   ·rename_i h0;injection h with _ h
    injection h with h1 h2
    refine⟨x.toNat,h1.symm,oq,oq,oq,by rw[List.length_cons];omega,?_⟩;rw[eF,show k-8=0+1 by omega,List.take_succ_cons,gK];rfl
  ·rename_i h8;obtain⟨e,rfl⟩:∃e,d=e+1:=⟨d-1,oq⟩;split at h
   ·rename_i a02;obtain⟨n,h1,h6,h2,h3,h4,h5⟩:=qB l e (i+1) _ v k oq oq h;have hn:=h2 oq;refine⟨x.toNat%128+128*n,?_,by rw[Cd];omega,oq,oq,by rw[List.length_cons];omega,?_⟩
    ·exact uy
    ·rw[eF,if_neg oq,show k-i=(k-(i+1))+1 by omega,List.take_succ_cons,show(x.toNat%128+128*n)%128=x.toNat%128 by omega,show(x.toNat%128+128*n)/128=n by omega,h5,
      show 128+x.toNat%128=x.toNat by omega,gK]
   ·rename_i a02;split at h
    ·simp at h
    ·rename_i h0;injection h with _ h
     injection h with h1 h2
     have hp:0<128^e:=Nat.pow_pos od;refine⟨x.toNat,?_,by rw[Cd];omega,oq,oq,by rw[List.length_cons];omega,?_⟩
     ·rw[←h1,Nat.mod_eq_of_lt oq]
     ·rw[eF,if_pos oq,show k-i=0+1 by omega,List.take_succ_cons,gK];rfl
theorem rG:∀(k n:Nat),n<256^k→lov (low k n)=n
 |0,n,h=>by rw[Nat.pow_zero] at h;simp[low,lov];omega
 |k+1,n,h=>by
  rw[Nat.pow_succ] at h;rw[low,lov,rG k (n/256) oq,dF oq];omega
theorem rE:∀l:List UInt8,low l.length (lov l)=l
 | []=>rfl
 |x::l=>by
  have hx:=x.toNat_lt;rw[List.length_cons,low,lov,show(x.toNat+256*lov l)%256=x.toNat by omega,show(x.toNat+256*lov l)/256=lov l by omega,rE l,gK]
end Wi
open Wi
theorem ze{f:Frm}{n k:Nat}(hk:f.2.1=k)(h0:0<k)(hn:n<18446744073709551616)(h:bW f n=true):n<256^k:=by
 subst hk;unfold bW at h;rw[Bool.or_eq_true,Bool.or_eq_true,decide_eq_true_iff,decide_eq_true_iff,decide_eq_true_iff] at h;rcases h with(h|h)|h
 ·omega
 ·rw[h];exact Nat.lt_of_lt_of_le hn od
 ·exact h
structure Okf(f:Frm):Prop where
 back:∀n,n<18446744073709551616→bW f n=true→∀rest,ij f (jB f n++rest)=(0,n,(jB f n).length)
 one:∀l n k,ij f l=(0,n,k)→n<18446744073709551616∧bW f n=true∧k≤l.length∧jB f n=l.take k
 cut:∀n,n<18446744073709551616→∀k,k<(jB f n).length→ij f ((jB f n).take k)=(20,0,0)
theorem kU(x k:Nat)(h0:0<k)(h8:k≤8):Okf (x,k,323,324) where
 back:=fun n hn hf rest=>by
  have h:=ze (k:=k) rfl h0 hn hf;show(if(low k n++rest).length<k then(20,0,0) else(0,lov ((low k n++rest).take k),k))=(0,n,(low k n).length);rw[if_neg (by rw[Ok,aJ];omega),List.take_left' (aJ k n),rG k n h,aJ]
 one:=fun l n j h=>by
  have hl:=jX (x,k,323,324) l h8;rw[h] at hl;replace h:(if l.length<k then(20,0,0) else(0,lov (l.take k),k))=(0,n,j):=h;split at h
  ·simp at h
  ·injection h with _ h
   injection h with h1 h2
   subst h2;have hlen:(l.take k).length=k:=by rw[List.length_take];omega
   have hlt:=lY (l.take k);rw[hlen,h1] at hlt;refine⟨hl,?_,oq,?_⟩
   ·unfold bW;rw[decide_eq_true (show n<256^k from hlt),Bool.or_true]
   ·show low k n=_;rw[←h1];have:=rE (l.take k);rw[hlen] at this;exact this
 cut:=fun n _ j hj=>by
  replace hj:j<(low k n).length:=hj;rw[aJ] at hj;show(if((low k n).take j).length<k then(20,0,0) else(0,lov (((low k n).take j).take k),k))=(20,0,0);rw[if_pos (by rw[List.length_take,aJ];omega)]
theorem oh(x k:Nat)(h0:0<k)(h8:k≤8):Okf (x,k,325,326) where
 back:=fun n hn hf rest=>by
  have h:=ze (k:=k) rfl h0 hn hf;show(if(eG k n++rest).length<k then(20,0,0) else(0,hov ((eG k n++rest).take k),k))=(0,n,(eG k n).length);rw[if_neg (by rw[Ok,eh];omega),List.take_left' (eh k n),hov,eG,List.reverse_reverse,rG k n h,List.length_reverse,aJ]
 one:=fun l n j h=>by
  have hl:=jX (x,k,325,326) l h8;rw[h] at hl;replace h:(if l.length<k then(20,0,0) else(0,hov (l.take k),k))=(0,n,j):=h;split at h
  ·simp at h
  ·injection h with _ h
   injection h with h1 h2
   subst h2;have hlen:(l.take k).reverse.length=k:=by rw[List.length_reverse,List.length_take];omega
   have hlt:=lY (l.take k).reverse;unfold hov at h1;rw[hlen,h1] at hlt;refine⟨hl,?_,oq,?_⟩
   ·unfold bW;rw[decide_eq_true (show n<256^k from hlt),Bool.or_true]
   ·show eG k n=_;rw[←h1];have:=rE (l.take k).reverse;rw[hlen] at this;rw[eG,this,List.reverse_reverse]
 cut:=fun n _ j hj=>by
  replace hj:j<(eG k n).length:=hj;rw[eh] at hj;show(if((eG k n).take j).length<k then(20,0,0) else(0,hov (((eG k n).take j).take k),k))=(20,0,0);rw[if_pos (by rw[List.length_take,eh];omega)]
theorem mI:Okf (118,0,327,328) where
 back:=fun n hn _ rest=>by
  show ci 0 0 (leb n++rest)=(0,n,(leb n).length);rw[gi 9 0 0 n rfl od (sj hn) oq];simp
 one:=fun l n j h=>by
  have hl:=jX (118,0,327,328) l (Nat.zero_le _);rw[h] at hl;obtain⟨m,h1,_,_,h4,h5⟩:=oH l 0 0 n j h;have e:m=n:=by rw[h1];simp
  subst e;exact⟨hl,rfl,oq,h5⟩
 cut:=fun n hn j hj=>oI 9 0 0 n rfl od (sj hn) j hj
theorem rD:Okf (122,0,329,330) where
 back:=fun n hn _ rest=>by
  show jC (leb (bG n)++rest)=(0,n,(leb (bG n)).length);unfold jC;rw[gi 9 0 0 (bG n) rfl od (sj (bK hn)) oq];simp[iC hn]
 one:=fun l n j h=>by
  have hl:=jX (122,0,329,330) l (Nat.zero_le _);rw[h] at hl;replace h:jC l=(0,n,j):=h;have hv:=l6 l 0 0 od od;unfold jC at h;generalize hd:ci 0 0 l=r at*;obtain⟨re,rn,rk⟩:=r;injection h with h1 h
  injection h with h2 h3
  dsimp only at*;subst h1;subst h3;obtain⟨m,g1,_,_,g4,g5⟩:=oH l 0 0 rn rk hd;have e:m=rn:=by rw[g1];simp
  subst e;refine⟨hl,rfl,oq,?_⟩;show leb (bG n)=_;rw[←h2,lQ hv];exact g5
 cut:=fun n hn j hj=>by
  show jC ((leb (bG n)).take j)=(20,0,0);unfold jC;rw[oI 9 0 0 (bG n) rfl od (sj (bK hn)) j hj];rfl
theorem vB:Okf (110,0,331,332) where
 back:=fun n hn _ rest=>by
  show cO 0 0 (eF 8 (bG n)++rest)=(0,n,(eF 8 (bG n)).length);rw[nA 8 0 0 (bG n) rfl od (Nat.lt_of_lt_of_le (bK hn) od) oq];simp[iC hn]
 one:=fun l n j h=>by
  have hl:=jX (110,0,331,332) l (Nat.zero_le _);rw[h] at hl;obtain⟨m,h1,h2,_,_,h4,h5⟩:=qB l 8 0 0 n j rfl od h;have e:0+m*128^0=m:=by simp
  rw[e] at h1;refine⟨hl,rfl,oq,?_⟩;show eF 8 (bG n)=_;rw[h1,lQ (Nat.lt_of_lt_of_le h2 od)];exact h5
 cut:=fun n hn j hj=>qD 8 0 0 (bG n) rfl od (Nat.lt_of_lt_of_le (bK hn) od) j hj
theorem okf{k:Nat}{f:Frm}(hf:di[k]?=some f):Okf f:=by
 have h2:=Om hf;simp only[di,List.mem_cons,List.not_mem_nil,or_false] at h2;rcases h2 with rfl|rfl|rfl|rfl|rfl|rfl|rfl|rfl|rfl|rfl
 ·exact kU _ _ od od
 ·exact kU _ _ od od
 ·exact oh _ _ od od
 ·exact kU _ _ od od
 ·exact oh _ _ od od
 ·exact kU _ _ od od
 ·exact oh _ _ od od
 ·exact mI
 ·exact rD
 ·exact vB
theorem L0{x:UInt8}(h:okL x=true):∃f,di[fi x.toNat]?=some f:=by
 have h2:fi x.toNat<10:=of_decide_eq_true h;exact⟨_,Oj h2⟩
theorem xU:∀(pt:List UInt8) (ns:List Nat) (S T:List UInt8),pt.all okL=true→pt.length=ns.length→(∀n∈ns,n<18446744073709551616)→et pt ns S=(0,T)→
  ∃B,T=S++B∧(∀rest acc p,goL pt (B++rest) acc p=(0,acc++ns,p+B.length))∧∀cut acc p,cut<B.length→goL pt (B.take cut) acc p=(20,[],0)
 | [],[],S,T,_,_,_,h=>by
  injection h with _ h
  exact⟨[],by simp[h],fun rest acc p=>by simp[goL],fun cut acc p hc=>by simp at hc⟩
 | [],n::ns,S,T,_,hl,_,h=>by simp at hl
 |x::pt,[],S,T,_,hl,_,h=>by simp at hl
 |x::pt,n::ns,S,T,ha,hl,hn,h=>by
  rw[List.all_cons,Bool.and_eq_true] at ha;obtain⟨f,hf⟩:=L0 ha.1;have SZ:=hn n os';have hk:=okf hf;rw[et,hf] at h;dsimp only at h;split at h
  ·rename_i PL;obtain⟨B,h1,h2,h3⟩:=xU pt ns _ T ha.2 (by simpa using hl) (fun m hm=>hn m (by simp[hm])) h;refine⟨jB f n++B,by rw[h1,List.append_assoc],fun rest acc p=>?_,fun cut acc p hc=>?_⟩
   ·have e:=hk.back n SZ PL (B++rest);rw[goL,mP hf,List.append_assoc,e];dsimp only;rw[if_pos rfl,List.drop_left' rfl,h2 rest,List.append_assoc,Ok,Nat.add_assoc];rfl
   ·rcases Nat.lt_or_ge cut (jB f n).length with h4|h4
    ·rw[goL,mP hf,List.take_append_of_le_length oq,hk.cut n SZ cut h4];rfl
    ·rw[Ok] at hc
     have e:(jB f n++B).take cut=jB f n++B.take (cut-(jB f n).length):=by
      rw[List.take_append,List.take_of_length_le h4]
     have e2:=hk.back n SZ PL (B.take (cut-(jB f n).length));rw[goL,mP hf,e,e2];dsimp only;rw[if_pos rfl,List.drop_left' rfl];exact h3 _ _ _ oq
  ·injection h with h _
   cases h
section
open Pl Sc Wi
def s6:List PanicEntry:=[{v:=.iface 427 (.agg #[]),recovered:=false}]
def eU(g:Nat):Value:=.func (Fn.func 223) #[.pointer (some ⟨g,0,none⟩)] #[]
theorem L3(base g:Nat)(A:Option Addr)(c:Nat)(l:List UInt8)(p lo hi n k:Nat)(w:World)(h:Rdr w base g A c l p)(hp:p≤l.length)(hl:l.length≤100000000)(hd:ci 0 0 (l.drop p)=(0,n,k))(h0:lo≤n)(h1:n≤hi):
  Cl 243 #[.agg #[eU g],.int .u8 118,.int .u64 (lo:Int),.int .u64 (hi:Int)] w fun e w'=>e=.returned (.int .u64 (n:Nat))∧Rdr w' base g A c l (p+k)∧ab (RK g) w w':=by
 have HN:=Oh (fun W (h:Rdr W base g A c l p)=>jg base g A c l p 118 W h hp hl rj);rw[show ij (118,0,327,328) (l.drop p)=ci 0 0 (l.drop p) from rfl,hd] at HN;have HH:=Oh h;have e1:decide ((n:Int)<(lo:Int))=false:=sq;have e2:decide ((hi:Int)<(n:Int))=false:=sq;have e1b:decide (n<lo)=false:=sq;have e2b:decide (hi<n)=false:=sq;clear h hp hl hd h0 h1;unfold eU;go_enter func243,ntmps243;go_wp2_with fail;have eQ:Below w.heap.size w (w.alloc (.cells #[.func (Fn.func 223) #[.pointer (some ⟨g,0,none⟩)] #[]] 337)):=Ba;refine(HN.out _ (HH.out.below eQ)).mono ?_;rintro e w2 ⟨rfl,r2,o2⟩;have R2:=Oh r2;have O2:Hid (ab (RK g) w w2):=Oh ((ab.of_below eQ).trans o2);clear r2 o2 eQ;dsimp only;go_wp2_with fail;go_ret;exact⟨rfl,R2.out,O2.out⟩
theorem L4(base g:Nat)(A:Option Addr)(c:Nat)(l:List UInt8)(p lo hi:Nat)(r:Nat×Nat×Nat)(w:World)(h:Rdr w base g A c l p)(hp:p≤l.length)(hl:l.length≤100000000)(hd:ci 0 0 (l.drop p)=r)(h0:r.1≠0∨r.2.1<lo∨hi<r.2.1):
  Cl 243 #[.agg #[eU g],.int .u8 118,.int .u64 (lo:Int),.int .u64 (hi:Int)] w fun e w'=>e=.panicked s6∧ab (RK g) w w':=by
 have HN:=Oh (fun W (h:Rdr W base g A c l p)=>jg base g A c l p 118 W h hp hl rj);rw[show ij (118,0,327,328) (l.drop p)=ci 0 0 (l.drop p) from rfl,hd] at HN;have HH:=Oh h;clear h hp hl hd;obtain⟨er,n,k⟩:=r;dsimp only at h0 HN
 have hc:((er:Int)==0)=false∧(er==0)=false∨er=0∧decide ((n:Int)<(lo:Int))=true∧decide (n<lo)=true∨er=0∧decide ((n:Int)<(lo:Int))=false∧decide (n<lo)=false∧decide ((hi:Int)<(n:Int))=true∧decide (hi<n)=true:=by
  by_cases e0:er=0
  ·by_cases e1:n<lo
   ·exact .inr (.inl ⟨e0,by simp;omega,by simp;omega⟩)
   ·exact .inr (.inr ⟨e0,by simp;omega,by simp;omega,by simp;omega,by simp;omega⟩)
  ·exact .inl ⟨by simp;omega,by simp;omega⟩
 clear h0;unfold eU;rcases hc with⟨e1,e2⟩|⟨rfl,e1,e2⟩|⟨rfl,e1,e2,e3,e4⟩
 all_goals
  go_enter func243,ntmps243;go_wp2_with fail;have eQ:Below w.heap.size w (w.alloc (.cells #[.func (Fn.func 223) #[.pointer (some ⟨g,0,none⟩)] #[]] 337)):=Ba;refine(HN.out _ (HH.out.below eQ)).mono ?_;rintro e w2 ⟨rfl,r2,o2⟩;have O2:Hid (ab (RK g) w w2):=Oh ((ab.of_below eQ).trans o2);clear r2 o2 eQ;dsimp only;go_wp2_with fail
  all_goals first
   |exact(show([]:List _)=[]∧Ending.panicked s6=Ending.panicked s6∧ab (RK g) w w2 from⟨rfl,rfl,O2.out⟩)
   |(exfalso;simp_all;done)
theorem lS(p:Addr)(w:World):
  CallsD prog 242 #[.pointer (some p)] .returning w fun e u' w'=>e=.returned (.tuple #[])∧u'=.returning∧w'=w:=by
 refine callsD_of_wpS func242 rfl fun c₀ cs hu=>?_
 apply wpS_seq
 apply wpS_region
 simp[wpOpsS,go_sem,recoverD,hu,ntmps242,Exit.thenS];refine wpS_of_wp ?_;rw[show(#[Value.pointer (some p)]++(Array.replicate 12 undef).setIfInBounds 4 (Value.nilIface))=#[.pointer (some p),undef,undef,undef,undef,Value.nilIface,undef,undef,undef,undef,undef,undef,undef] from rfl];go_wp2_with fail;cases c₀
 simp_all [bodyPostS,results,results242]
theorem sZ(b:Nat)(x:Int)(w:World)(hb:Blk w b 34 #[.int .i64 x]):
  CallsD prog 242 #[.pointer (some ⟨b,0,none⟩)] (.panicking s6) w fun e u' w'=>
   e=.returned (.tuple #[])∧u'=.panicking [{v:=.iface 427 (.agg #[]),recovered:=true}]∧w'=(w.alloc (.cells #[] 427)).setCell ⟨b,0,none⟩ (.int .i64 9):=by
 have aT:=hb.alloc (.cells #[] 427);have Ql:=aT.c0;have UE:=aT.free 0;clear hb aT;have hta:∀w,(Instr.typeAssert (.iface 427 (.agg #[])) 20 427 true).run prog w=.ok (.tuple #[.agg #[],.bool true]) w:=fun w=>by first|rfl|kernel_rfl
 refine callsD_of_wpS func242 rfl fun c₀ cs hu=>?_
 apply wpS_seq
 apply wpS_region
 simp[wpOpsS,go_sem,recoverD,hu,s6,ntmps242,Exit.thenS];refine wpS_of_wp ?_;rw[show(#[Value.pointer (some ⟨b,0,none⟩)]++(Array.replicate 12 undef).setIfInBounds 4 (Value.iface 427 (.agg #[])))=#[.pointer (some ⟨b,0,none⟩),undef,undef,undef,undef,Value.iface 427 (.agg #[]),undef,undef,undef,undef,undef,undef,undef] from rfl];go_wp2_with fail;cases c₀
 simp_all [bodyPostS,results,results242]
theorem D7(be:Nat)(ps:Value)(w:World)(hb:Blk w be 34 #[.int .i64 0]):
  CallsD prog 241 #[.pointer (some ⟨be,0,none⟩),ps] .returning w fun e u' w'=>e=.returned (.tuple #[])∧u'=.returning∧w'=w:=by
 have hc:=hb.c0;clear hb;refine callsD_of_wpS func241 rfl fun c₀ cs hu=>?_;refine wpS_of_wp ?_;rw[show(#[Value.pointer (some ⟨be,0,none⟩),ps]++Array.replicate (Tryz.f241.ntmps-#[Value.pointer (some ⟨be,0,none⟩),ps].size) undef)=#[.pointer (some ⟨be,0,none⟩),ps,undef,undef] from rfl];go_wp2_with fail;cases c₀
 simp_all [bodyPostS,results,results241]
theorem tJ(be bs:Nat)(x:Int)(y:Value)(w:World)(hb:Blk w be 34 #[.int .i64 x])(hx:x≠0)(hs:Blk w bs 99 #[y])(hbs:be≠bs):
  CallsD prog 241 #[.pointer (some ⟨be,0,none⟩),.pointer (some ⟨bs,0,none⟩)] .returning w fun e u' w'=>e=.returned (.tuple #[])∧u'=.returning∧w'=(w.setCell ⟨bs,0,none⟩ (.pointer none)).setCell ⟨be,0,none⟩ (.int .i64 9):=by
 have hc:=hb.c0;have hcs:=hs.c0;have aT:=hb.far (p:=⟨bs,0,none⟩) hbs (.pointer none);have Zr:=aT.c0;have hfs:=hs.free 0;have hfe:=aT.free 0;have TG:(x==0)=false:=by simpa using hx
 have hx2:(x !=0)=true:=by simpa using hx
 clear hb hs aT hbs hx;refine callsD_of_wpS func241 rfl fun c₀ cs hu=>?_;refine wpS_of_wp ?_;rw[show(#[Value.pointer (some ⟨be,0,none⟩),.pointer (some ⟨bs,0,none⟩)]++Array.replicate (Tryz.f241.ntmps-#[Value.pointer (some ⟨be,0,none⟩),.pointer (some ⟨bs,0,none⟩)].size) undef)=#[.pointer (some ⟨be,0,none⟩),.pointer (some ⟨bs,0,none⟩),undef,undef] from rfl];go_wp2_with fail;cases c₀
 simp_all [bodyPostS,results,results241]
end
section
open Pl Wi
theorem bL{l X R:List UInt8}{p:Nat}(h:l.drop p=X++R):l.drop (p+X.length)=R:=by
 rw[←List.drop_drop,h,List.drop_left]
theorem rO{l X R:List UInt8}{p:Nat}(h:l.drop p=X++R)(hX:0<X.length):p≤l.length:=by
 have:=congrArg List.length h;rw[List.length_drop,Ok] at this;omega
theorem dn{l X R:List UInt8}{p:Nat}(h:l.drop p=X++R)(hX:0<X.length):p+X.length≤l.length:=by
 have:=congrArg List.length h;rw[List.length_drop,Ok] at this;omega
def lZ(base g:Nat)(A:Option Addr)(c:Nat)(l:List UInt8)(p n:Nat)(w:World)(e:Ending)(w':World):Prop:=
 e=.returned (.int .u64 (n:Int))∧Rdr w' base g A c l p∧ab (RK g) w w'
theorem Fm(x:Nat)(f:Frm)(hf:di[fi x]?=some f)(X R l:List UInt8)(n:Nat)(base g:Nat)(A:Option Addr)(c p:Nat)(w:World)(h:Rdr w base g A c l p)(hd:l.drop p=X++R)(hX:0<X.length)(Rz:ij f (X++R)=(0,n,X.length))(hl:l.length≤100000000):
  Cl 247 #[.agg #[.pointer (some ⟨g,0,none⟩)],.int .u8 (x:Int)] w (lZ base g A c l (p+X.length) n w):=by
 have hp:=rO hd hX;have HN:=Oh (fun W (h:Rdr W base g A c l p)=>jg base g A c l p x W h hp hl hf);rw[hd,Rz] at HN;have HH:=Oh h;clear h hf hd hX Rz hl hp;go_enter func247,ntmps247;go_wp2_with fail;have b1:Below w.heap.size w (w.alloc (.cells #[.pointer (some ⟨g,0,none⟩)] 344)):=Ba;refine(HN.out _ (HH.out.below b1)).mono ?_;rintro e w2 ⟨rfl,h2,k2⟩;have H2:=Oh (And.intro h2 ((ab.of_below b1).trans k2));clear h2 k2 b1;go_wp2_with fail;go_ret;exact⟨rfl,H2.out.1,H2.out.2⟩
section
variable {base g:Nat} {A:Option Addr} {c p:Nat} {l R:List UInt8} {w:World}
theorem sf(n:Nat)(hn:n<18446744073709551616)(h:Rdr w base g A c l p)(hd:l.drop p=leb n++R)(hl:l.length≤100000000):
  Cl 247 #[.agg #[.pointer (some ⟨g,0,none⟩)],.int .u8 118] w (lZ base g A c l (p+(leb n).length) n w):=
 Fm 118 _ rj (leb n) R l n base g A c p w h hd (bT n) (mI.back n hn (by unfold bW;simp) R) hl
theorem se(n:Nat)(hn:n<18446744073709551616)(h:Rdr w base g A c l p)(hd:l.drop p=leb (bG n)++R)(hl:l.length≤100000000):
  Cl 247 #[.agg #[.pointer (some ⟨g,0,none⟩)],.int .u8 122] w (lZ base g A c l (p+(leb (bG n)).length) n w):=
 Fm 122 _ zL (leb (bG n)) R l n base g A c p w h hd (bT _) (rD.back n hn (by unfold bW;simp) R) hl
theorem tm(n:Nat)(hn:n≤65536)(h:Rdr w base g A c l p)(hd:l.drop p=leb n++R)(hR:n≤R.length)(hl:l.length≤100000000):
  Cl 319 #[.agg #[.pointer (some ⟨g,0,none⟩)]] w fun e w'=>e=.returned (.int .i64 (n:Int))∧Rdr w' base g A c l (p+(leb n).length)∧ab (RK g) w w':=by
 have HN:=Oh (fun W (h:Rdr W base g A c l p)=>sf n oq h hd hl);have Re:=congrArg List.length hd;rw[List.length_drop,Ok] at Re;have Qk:=bT n;have HL:=Oh (fun W (h:Rdr W base g A c l (p+(leb n).length))=>fj base g A c l (p+(leb n).length) R.length W h oq hl);have x1:decide ((65536:Int)<(n:Int))=false:=sq;have x2:IntKind.u64.wrap (R.length:Int)=(R.length:Int):=u6;have x3:decide (R.length<n)=false:=sq;have x4:IntKind.i64.wrap (n:Int)=(n:Int):=i6;have HH:=Oh h;clear h hd hn hR hl Re Qk;generalize p+(leb n).length=P at*;go_enter func319,ntmps319;go_wp2_with fail;have aS:Hid (Below w.heap.size w (w.alloc (.cells #[.pointer (some ⟨g,0,none⟩)] 344))):=Oh (Ba);have hm:=Blk.new w 344 #[.pointer (some ⟨g,0,none⟩)];refine(HN.out _ (HH.out.below aS.out)).mono ?_;rintro e w2 ⟨rfl,h2,k2⟩;have H2:=Oh h2;have OC:=Oh ((ab.of_below aS.out).trans k2)
 have m0:w2.cell? ⟨w.heap.size,0,none⟩=some (.pointer (some ⟨g,0,none⟩)):=by
  rw[(hm.only k2 (fun e=>by have:=HH.out.1.lt;have e2:w.heap.size=g:=e;omega)).cell];rfl
 clear h2 k2 hm;go_wp2_with fail;refine(HL.out _ H2.out).mono ?_;rintro e w3 ⟨rfl,q3,rfl⟩;go_wp2_with fail;go_ret;exact⟨rfl,H2.out.below (ae (Oq _ _) _),OC.out.drewN _⟩
theorem Cm{L:List Pr}{i:Nat}{p:Pr}(h:L[i]?=some p):wtB (L.drop i)=mnB none p++wtB (L.drop (i+1)):=by
 rw[jc h];rfl
theorem vI{L:List Pr}{i:Nat}{p:Pr}(h:L[i]?=some p)(pv:Option Int):lsB pv (L.drop i)=mnB pv p++lsB (some p.1) (L.drop (i+1)):=by
 rw[jc h];rfl
def InI(v:Int):Prop:= -9223372036854775808≤v∧v≤9223372036854775807
theorem oW{v:Int}(h:InI v):IntKind.i64.wrap (zk v:Int)=v:=by
 unfold zk InI at*;rw[IntKind.wrap_i64];omega
def G0(base g:Nat)(A:Option Addr)(c:Nat)(l R:List UInt8)(L:List Pr)(w:World)(e:Ending)(w':World):Prop:=
 ∃p' A' c',e=.returned (.slice A' L.length c')∧Rdr w' base g A c l p'∧l.drop p'=R∧p'≤l.length∧dk w' w.heap.size A' c' L∧ab (RK g) w w'
theorem Ko(L:List Pr):L.length≤(wtB L).length:=by
 induction L with
 |nil=>exact Nat.zero_le _
 |cons p L ih=>
  have h1:=bT p.2;rw[show wtB (p::L)=mnB none p++wtB L from rfl,Ok,List.length_cons];unfold mnB;rw[Ok];omega
theorem FE:∀(L:List Pr) (pv:Option Int),L.length≤(lsB pv L).length
 | [],_=>Nat.zero_le _
 |p::L,pv=>by
  have h1:=bT p.2;have ih:=FE L (some p.1);rw[show lsB pv (p::L)=mnB pv p++lsB (some p.1) L from rfl,Ok,List.length_cons];unfold mnB;rw[Ok];omega
theorem Cw(L:List Pr)(hL:L.length≤65536)(hn:∀p∈L,p.2<18446744073709551616∧InI p.1)(h:Rdr w base g A c l p)(hd:l.drop p=leb L.length++(wtB L++R))(hl:l.length≤100000000):
  Cl 249 #[.agg #[.pointer (some ⟨g,0,none⟩)]] w (G0 base g A c l R L w):=by
 have hge:=Ko L;have HMA:=Oh (fun W (h:Rdr W base g A c l p)=>tm L.length hL h hd (by rw[Ok];omega) hl);have Xm:=Oh (fun n hn W p R (h:Rdr W base g A c l p) hd=>se (A:=A) (base:=base) (g:=g) (c:=c) (p:=p) (l:=l) (R:=R) (w:=W) n hn h hd hl);have Xl:=Oh (fun n hn W p R (h:Rdr W base g A c l p) hd=>sf (A:=A) (base:=base) (g:=g) (c:=c) (p:=p) (l:=l) (R:=R) (w:=W) n hn h hd hl);have Uk:Hid (p+(leb L.length).length≤l.length):=Oh (dn hd (bT _));have HD0:Hid (l.drop (p+(leb L.length).length)=wtB L++R):=Oh (bL hd);have HH:=Oh h;have HN:=Oh hn;have hLl:(L.length:Int)≤65536:=oq;clear h hd hl hL hn hge;generalize p+(leb L.length).length=P0 at*;go_enter func249,ntmps249;go_wp2_with fail;have aS:Hid (Below w.heap.size w (w.alloc (.cells #[.pointer (some ⟨g,0,none⟩)] 344))):=Oh (Ba);have hm:=Blk.new w 344 #[.pointer (some ⟨g,0,none⟩)];have HG:=Oh HH.out.1.lt;refine(HMA.out _ (HH.out.below aS.out)).mono ?_;rintro e w2 ⟨rfl,h2,k2⟩;have Qa:=Oh h2;have OC:=Oh ((ab.of_below aS.out).trans k2);have P9:=Oh (hm.only k2 (fun e=>by have:=HG.out;have e2:w.heap.size=g:=e;omega));clear h2 k2 hm HMA;go_wp2_with fail;go_loopw [3,7] (fun u v wr=>∃(i P:Nat) (AA:Option Addr) (cc:Nat),i≤L.length∧u=.slice AA (L.take i).length cc∧v=.int .i64 (i:Int)∧Rdr wr base g A c l P∧l.drop P=wtB (L.drop i)++R∧P≤l.length∧dk wr w.heap.size AA cc (L.take i)∧ab (RK g) w wr∧Blk wr w.heap.size 344 #[.pointer (some ⟨g,0,none⟩)]) (fun _ v _=>L.length-(intOf v).toNat)
 case atStart=>exact⟨0,P0,none,0,Nat.zero_le _,rfl,rfl,Qa.out,by rw[List.drop_zero];exact HD0.out,Uk.out,Own.nil _ _ _ _,OC.out,P9.out⟩
 case round=>
  obtain⟨i,P,AA,cc,hi,rfl,rfl,hr,RA,OJ,ho,hk,hx⟩:=hrel;have RG:=Oh OJ;clear OJ Uk;have HR:=Oh hr;have HD:=Oh RA;have P5:=Oh ho;have HK:=Oh hk;have HX:=Oh hx;clear hr RA ho hk hx Qa OC P9
  by_cases hlt:i<L.length
  ·obtain⟨⟨v,n⟩,hp⟩:∃p,L[i]?=some p:=⟨_,Oj hlt⟩;obtain⟨Sz,Vv⟩:=HN.out _ (Om hp);dsimp only at Sz Vv;have Sl:=HD.out;rw[Cm hp] at Sl;have UJ:Hid (l.drop P=leb (bG (zk v))++(leb n++(wtB (L.drop (i+1))++R))):=Oh (by rw[Sl];simp only[mnB,zb,List.append_assoc]);have Qh:Hid (L.take (i+1)=L.take i++[(v,n)]):=Oh (by rw[List.take_add_one,hp];rfl);have hv:=oW Vv;have OG:=Oh Sz;have t1:(i:Int)<(L.length:Int):=oq;have oR:=Oh hlt;have Qf:Hid ((L.take i).length≤65536):=Oh (by rw[List.length_take];omega);obtain⟨T,hT⟩:=nm (L.take i);rw[←hT] at Qh P5 Qf ⊢;have m0:=HX.out.c0;clear Sl Sz Vv hp hlt hi hT;go_wp2_with fail;refine(Xm.out (zk v) (cu v) _ P _ HR.out UJ.out).mono ?_;rintro e w2 ⟨rfl,h2,k2⟩;have Qa:=Oh h2;have Pn:=Oh (bL UJ.out);have Tm:Hid (dk w2 w.heap.size AA cc T):=Oh (Own.only P5.out k2 (fun j hj e=>by have e2:j=g:=e;have:=(Own.block P5.out hj).1;have:=HG.out;omega));have OC:=Oh (HK.out.trans k2);have P9:=Oh (HX.out.only k2 (fun e=>by have e2:w.heap.size=g:=e;have:=HG.out;omega));clear h2 k2 m0;have m0:=P9.out.c0;go_wp2_with fail;refine(Xl.out n OG.out _ _ _ Qa.out Pn.out).mono ?_;rintro e w3 ⟨rfl,h2,k2⟩;obtain⟨P3,Ra⟩:=nm (P+(leb (bG (zk v))).length+(leb n).length);rw[←Ra] at h2;have Oz:=Oh h2;have QW:Hid (l.drop P3=wtB (L.drop (i+1))++R):=Oh (by rw[Ra];exact bL Pn.out);have UU:Hid (P3≤l.length):=Oh (by rw[Ra];exact dn Pn.out (bT _));have TR:Hid (dk w3 w.heap.size AA cc T):=Oh (Own.only Tm.out k2 (fun j hj e=>by have e2:j=g:=e;have:=(Own.block Tm.out hj).1;have:=HG.out;omega));have Pb:=Oh (OC.out.trans k2);have PA:=Oh (P9.out.only k2 (fun e=>by have e2:w.heap.size=g:=e;have:=HG.out;omega));clear h2 k2 m0 Ra;go_wp2_with (at_builtin;refine Hid.out ?_);have nE:=Own.alloc (show Own _ w.heap.size 186 2 AA T.length cc (pcs T) from TR.out) (.cells #[.int .i64 v,.int .u64 (n:Int)] 186);refine aj (xs:=pcs T) (news:=pcs [(v,n)]) rfl rfl fK rfl nE rfl (kz _ v n) (aI _) (T.length+1) rfl (pcs (T++[(v,n)])) (au _ _).symm (by have:=Qf.out;unfold maxLen;omega) (by have:=Qf.out;omega) (by have:=Pb.out.size;simp;omega) ?_
   intro A6 c6 w6 o6 g6 q6;have Ow:Hid (dk w6 w.heap.size A6 c6 (T++[(v,n)])):=Oh (by unfold dk;rw[Ok];exact o6);have Vo:ab (fun i=>w.heap.size≤i) w3 w6:=(ab.of_below (Ba)).step (ab.of_grown g6) (fun i hi=>.inl (Own.block nE hi).1)
   have TS:Hid (Rdr w6 base g A c l P3):=Oh (by
    have hne:=Own.ne_own nE (Own.alloc Oz.out.2 (.cells #[.int .i64 v,.int .u64 (n:Int)] 186)) od;refine⟨(Oz.out.1.alloc _).grown g6 (fun e=>Own.ne_blk nE (Oz.out.1.alloc _) od e.symm),Own.kept (Own.alloc Oz.out.2 _) g6 ?_⟩;rcases ha:aa A with _|j
    ·exact .inl rfl
    ·exact .inr (fun e=>hne j e.symm ha))
   have X7:Hid (ab (RK g) w w6):=Oh (Pb.out.step Vo (fun i hi=>.inr hi));have VU:Hid (Blk w6 w.heap.size 344 #[.pointer (some ⟨g,0,none⟩)]):=Oh ((PA.out.alloc _).grown g6 (fun e=>Own.ne_blk nE (PA.out.alloc _) od e.symm));clear o6 g6 q6 nE Vo;go_wp2_with fail;go_roundw
   case rel=>exact⟨i+1,P3,A6,c6,oR.out,by rw[Qh.out];simp,by go_num,TS.out,QW.out,UU.out,by rw[Qh.out];exact Ow.out,X7.out,VU.out⟩
   case measure=>exact ms oR
  ·exact uh
theorem Cz(L:List Pr)(hL:L.length≤65536)(hn:∀p∈L,p.2<18446744073709551616∧InI p.1)(h:Rdr w base g A c l p)(hd:l.drop p=leb L.length++(lsB none L++R))(hl:l.length≤100000000)(hsr:L.Pairwise (fun p q=>p.1≤q.1)):
  Cl 248 #[.agg #[.pointer (some ⟨g,0,none⟩)]] w (G0 base g A c l R L w):=by
 have hge:=FE L none;have HMA:=Oh (fun W (h:Rdr W base g A c l p)=>tm L.length hL h hd (by rw[Ok];omega) hl);have Xm:=Oh (fun n hn W p R (h:Rdr W base g A c l p) hd=>se (A:=A) (base:=base) (g:=g) (c:=c) (p:=p) (l:=l) (R:=R) (w:=W) n hn h hd hl);have Xl:=Oh (fun n hn W p R (h:Rdr W base g A c l p) hd=>sf (A:=A) (base:=base) (g:=g) (c:=c) (p:=p) (l:=l) (R:=R) (w:=W) n hn h hd hl);have Uk:Hid (p+(leb L.length).length≤l.length):=Oh (dn hd (bT _));have HD0:Hid (l.drop (p+(leb L.length).length)=lsB none L++R):=Oh (bL hd);have HH:=Oh h;have HN:=Oh hn;have Ze:=Oh hsr;have hLl:(L.length:Int)≤65536:=oq;clear h hd hl hL hn hge hsr;generalize p+(leb L.length).length=P0 at*;go_enter func248,ntmps248;go_wp2_with fail;have aS:Hid (Below w.heap.size w (w.alloc (.cells #[.pointer (some ⟨g,0,none⟩)] 344))):=Oh (Ba);have hm:=Blk.new w 344 #[.pointer (some ⟨g,0,none⟩)];have HG:=Oh HH.out.1.lt;refine(HMA.out _ (HH.out.below aS.out)).mono ?_;rintro e w2 ⟨rfl,h2,k2⟩;have Qa:=Oh h2;have OC:=Oh ((ab.of_below aS.out).trans k2);have P9:=Oh (hm.only k2 (fun e=>by have:=HG.out;have e2:w.heap.size=g:=e;omega));clear h2 k2 hm HMA;go_wp2_with fail;go_loopw [3,9] (fun u v wr=>∃(i P:Nat) (AA:Option Addr) (cc:Nat),i≤L.length∧u=.slice AA (L.take i).length cc∧v=.int .i64 (i:Int)∧Rdr wr base g A c l P∧l.drop P=lsB (if i=0 then none else(L[i-1]?).map (·.1)) (L.drop i)++R∧P≤l.length∧dk wr w.heap.size AA cc (L.take i)∧ab (RK g) w wr∧Blk wr w.heap.size 344 #[.pointer (some ⟨g,0,none⟩)]) (fun _ v _=>L.length-(intOf v).toNat)
 case atStart=>exact⟨0,P0,none,0,Nat.zero_le _,rfl,rfl,Qa.out,by rw[List.drop_zero,if_pos rfl];exact HD0.out,Uk.out,Own.nil _ _ _ _,OC.out,P9.out⟩
 case round=>
  obtain⟨i,P,AA,cc,hi,rfl,rfl,hr,RA,OJ,ho,hk,hx⟩:=hrel;have RG:=Oh OJ;clear OJ Uk;have HR:=Oh hr;have HD:=Oh RA;have P5:=Oh ho;have HK:=Oh hk;have HX:=Oh hx;clear hr RA ho hk hx Qa OC P9
  by_cases hlt:i<L.length
  ·obtain⟨⟨v,n⟩,hp⟩:∃p,L[i]?=some p:=⟨_,Oj hlt⟩;obtain⟨Sz,Vv⟩:=HN.out _ (Om hp);dsimp only at Sz Vv;have HP5:Hid ((L[i]?).map (·.1)=some v):=Oh (by rw[hp];rfl);have Qh:Hid (L.take (i+1)=L.take i++[(v,n)]):=Oh (by rw[List.take_add_one,hp];rfl);have hv:=oW Vv;have OG:=Oh Sz;have t1:(i:Int)<(L.length:Int):=oq;have oR:=Oh hlt;have Qf:Hid ((L.take i).length≤65536):=Oh (by rw[List.length_take];omega)
   have Tv:Hid (∀j,i=j+1→∃q:Pr,L[j]?=some q∧(L.take i)[j]?=some q∧q.1≤v):=Oh (fun j hj=>by
    obtain⟨q,hq⟩:=gs L j;have h1:=List.getElem?_eq_some_iff.1 hq;have h2:=List.getElem?_eq_some_iff.1 hp;have h3:=List.pairwise_iff_getElem.1 Ze.out j i h1.1 h2.1 oq;rw[h1.2,h2.2] at h3;exact⟨q,hq,by rw[List.getElem?_take,if_pos oq];exact hq,h3⟩)
   obtain⟨T,hT⟩:=nm (L.take i);rw[←hT] at Qh P5 Qf Tv ⊢;have HTI:Hid (T.length=i):=Oh (by rw[hT,List.length_take];omega);have m0:=HX.out.c0;have Sl:=HD.out
   by_cases hz:i=0
   ·rw[if_pos hz,vI hp] at Sl;have UJ:Hid (l.drop P=leb (bG (zk v))++(leb n++(lsB (some v) (L.drop (i+1))++R))):=Oh (by rw[Sl];simp only[mnB,zb,List.append_assoc]);have z1:((i:Int)==0)=true:=by rw[beq_iff_eq];omega
    clear Sl Sz Vv hp hlt hi hT hz Tv HTI;go_wp2_with fail;refine(Xm.out (zk v) (cu v) _ P _ HR.out UJ.out).mono ?_;rintro e w2 ⟨rfl,h2,k2⟩;have Qa:=Oh h2;have Pn:=Oh (bL UJ.out);have Tm:Hid (dk w2 w.heap.size AA cc T):=Oh (Own.only P5.out k2 (fun j hj e=>by have e2:j=g:=e;have:=(Own.block P5.out hj).1;have:=HG.out;omega));have OC:=Oh (HK.out.trans k2);have P9:=Oh (HX.out.only k2 (fun e=>by have e2:w.heap.size=g:=e;have:=HG.out;omega));clear h2 k2 m0;have m0:=P9.out.c0;go_wp2_with fail;refine(Xl.out n OG.out _ _ _ Qa.out Pn.out).mono ?_;rintro e w3 ⟨rfl,h2,k2⟩;obtain⟨P3,Ra⟩:=nm (P+(leb (bG (zk v))).length+(leb n).length);rw[←Ra] at h2;have Oz:=Oh h2;have QW:Hid (l.drop P3=lsB (some v) (L.drop (i+1))++R):=Oh (by rw[Ra];exact bL Pn.out);have UU:Hid (P3≤l.length):=Oh (by rw[Ra];exact dn Pn.out (bT _));have TR:Hid (dk w3 w.heap.size AA cc T):=Oh (Own.only Tm.out k2 (fun j hj e=>by have e2:j=g:=e;have:=(Own.block Tm.out hj).1;have:=HG.out;omega));have Pb:=Oh (OC.out.trans k2);have PA:=Oh (P9.out.only k2 (fun e=>by have e2:w.heap.size=g:=e;have:=HG.out;omega));clear h2 k2 m0 Ra;go_wp2_with (at_builtin;refine Hid.out ?_);have nE:=Own.alloc (show Own _ w.heap.size 186 2 AA T.length cc (pcs T) from TR.out) (.cells #[.int .i64 v,.int .u64 (n:Int)] 186);exact uX
   ·obtain⟨j,hj⟩:∃j,i=j+1:=⟨i-1,oq⟩;obtain⟨q,hq,RQ,hqv⟩:=Tv.out j hj;rw[if_neg hz,show i-1=j by omega,hq,vI hp] at Sl;have UJ:Hid (l.drop P=leb (zk (v-q.1))++(leb n++(lsB (some v) (L.drop (i+1))++R))):=Oh (by rw[Sl];simp only[mnB,Option.map,List.append_assoc]);have z1:((i:Int)==0)=false:=by rw[beq_eq_false_iff_ne];omega
    have z2:IntKind.i64.wrap ((i:Int)-1)=(j:Int):=by rw[show(i:Int)-1=(j:Int) by omega];exact i6
    have z3:(j:Int)<(T.length:Int):=by rw[HTI.out];omega
    have z4:=da q.1;have z5:IntKind.u64.wrap ((zk q.1:Int)+(zk (v-q.1):Int))=(zk v:Int):=by rw[On];unfold zk;omega
    have z6:decide (v<q.1)=false:=sq;have HJ:=Oh (And.intro RQ (show 0<T.length by rw[HTI.out];omega));clear Sl Sz Vv hp hlt hi hT hz Tv HTI hj hq RQ hqv;have HDV:=Oh (cu (v-q.1));generalize zk (v-q.1)=DV at*;generalize zk q.1=ZQ at*;go_wp2_with fail;refine(Xl.out DV HDV.out _ P _ HR.out UJ.out).mono ?_;rintro e w2 ⟨rfl,h2,k2⟩;have Qa:=Oh h2;have Pn:=Oh (bL UJ.out);have Tm:Hid (dk w2 w.heap.size AA cc T):=Oh (Own.only P5.out k2 (fun j hj e=>by have e2:j=g:=e;have:=(Own.block P5.out hj).1;have:=HG.out;omega));have OC:=Oh (HK.out.trans k2);have P9:=Oh (HX.out.only k2 (fun e=>by have e2:w.heap.size=g:=e;have:=HG.out;omega));clear h2 k2 m0;have m0:=P9.out.c0;obtain⟨b0,o0,hA0,QC,Pt⟩:=Prs.at_ (show Prs w2 w2.heap.size AA T from Own.reads Tm.out) HJ.out.2;subst hA0;have q0:=(Pt j q HJ.out.1).1;clear Pt QC;go_wp2_with fail;refine(Xl.out n OG.out _ _ _ Qa.out Pn.out).mono ?_;rintro e w3 ⟨rfl,h2,k2⟩;obtain⟨P3,Ra⟩:=nm (P+(leb DV).length+(leb n).length);rw[←Ra] at h2;have Oz:=Oh h2;have QW:Hid (l.drop P3=lsB (some v) (L.drop (i+1))++R):=Oh (by rw[Ra];exact bL Pn.out);have UU:Hid (P3≤l.length):=Oh (by rw[Ra];exact dn Pn.out (bT _));have TR:Hid (dk w3 w.heap.size (some ⟨b0,o0,none⟩) cc T):=Oh (Own.only Tm.out k2 (fun j hj e=>by have e2:j=g:=e;have:=(Own.block Tm.out hj).1;have:=HG.out;omega));have Pb:=Oh (OC.out.trans k2);have PA:=Oh (P9.out.only k2 (fun e=>by have e2:w.heap.size=g:=e;have:=HG.out;omega));clear h2 k2 m0 Ra q0 z1 z2 z3 z4 z5 z6;go_wp2_with (at_builtin;refine Hid.out ?_);have nE:=Own.alloc (show Own _ w.heap.size 186 2 (some ⟨b0,o0,none⟩) T.length cc (pcs T) from TR.out) (.cells #[.int .i64 v,.int .u64 (n:Int)] 186);exact uX
  ·exact uh
end
theorem Gz(p q:Addr)(w:World):
  CallsD prog 246 #[.pointer (some p),.pointer (some q)] .returning w fun e u' w'=>e=.returned (.tuple #[])∧u'=.returning∧w'=w:=by
 refine callsD_of_wpS func246 rfl fun c₀ cs hu=>?_
 apply wpS_seq
 apply wpS_region
 simp[wpOpsS,go_sem,recoverD,hu,ntmps246,Exit.thenS];refine wpS_of_wp ?_;rw[show(#[Value.pointer (some p),Value.pointer (some q)]++(Array.replicate 9 undef).setIfInBounds 3 (Value.nilIface))=#[.pointer (some p),.pointer (some q),undef,undef,undef,Value.nilIface,undef,undef,undef,undef,undef] from rfl];go_wp2_with fail;cases c₀
 simp_all [bodyPostS,results,results246]
structure RsG(t:TypeId)(w W:World)(v:Value)(z:Int):Prop where
 s:Blk W w.heap.size t #[v]
 e:Blk W (w.heap.size+1) 34 #[.int .i64 z]
 below:Below w.heap.size w W
section
variable {t:TypeId} {w W W':World} {v:Value} {z:Int}
theorem RsG.next(h:RsG t w W v z)(k:Below W.heap.size W W'):RsG t w W' v z:=
 ⟨h.s.below k h.s.lt,h.e.below k h.e.lt,h.below.trans (k.mono h.below.size)⟩
theorem RsG.drewN(h:RsG t w W v z)(n:Nat):RsG t w (W.drewN n) v z:=⟨h.s,h.e,ae h.below n⟩
theorem RsG.c2(h:RsG t w W v z):W.cell? ⟨w.heap.size,0,none⟩=some v:=h.s.ce
theorem RsG.c3(h:RsG t w W v z):W.cell? ⟨w.heap.size+1,0,none⟩=some (.int .i64 z):=h.e.ce
theorem RsG.setE(h:RsG t w W v z)(y:Int):RsG t w (W.setCell ⟨w.heap.size+1,0,none⟩ (.int .i64 y)) v y:=
 ⟨h.s.far (p:=⟨w.heap.size+1,0,none⟩) os' _,h.e.put 0 _,h.below.setCell os' _⟩
theorem RsG.setS(h:RsG t w W v z)(y:Value):RsG t w (W.setCell ⟨w.heap.size,0,none⟩ y) y z:=
 ⟨h.s.put 0 _,h.e.far (p:=⟨w.heap.size,0,none⟩) os' _,h.below.setCell (Oi _) _⟩
theorem RsG.step{K:Nat→Prop}(h:RsG t w W v z)(k:ab K W W')(hK:∀i,K i→w.heap.size+1<i):RsG t w W' v z:=
 ⟨h.s.only k (fun e=>by have:=hK _ e;omega),h.e.only k (fun e=>by have:=hK _ e;omega),h.below.trans (k.below h.below.size (fun i hi=>by have:=hK i hi;omega))⟩
theorem RsG.start(w:World):RsG t w ((w.alloc (.cells #[v] t)).alloc (.cells #[.int .i64 0] 34)) v 0:=by
 have h1:=Blk.new w t #[v];have h2:=Blk.new (w.alloc (.cells #[v] t)) 34 #[.int .i64 0];simp only[World.size_alloc] at h2;exact⟨h1.alloc _,h2,(Ba).alloc os' _⟩
end
def tdD(n:Nat):List Deferred:=[{target:=.fn (Fn.func 246) #[.pointer (some ⟨n,0,none⟩),.pointer (some ⟨n+1,0,none⟩)],args:=#[]}]
theorem GA{w W:World}{p:Option Addr}(h:RsG 100 w W (.pointer p) 0)(tmps:Array Value)(h2:tmps.getD 2 undef=.pointer (some ⟨w.heap.size,0,none⟩))(h3:tmps.getD 3 undef=.pointer (some ⟨w.heap.size+1,0,none⟩))(R:Ending→World→Prop)(hR:R (.returned (.tuple #[.pointer p,.int .i64 0])) W):Leaves prog Tryz.f168 tmps R (tdD w.heap.size) .returning W:=by
 unfold tdD;refine leaves_cons (f:=246) (args:=#[.pointer (some ⟨w.heap.size,0,none⟩),.pointer (some ⟨w.heap.size+1,0,none⟩)]) os' (by simp[go_sem]) ?_;refine(Gz _ _ W).mono ?_;rintro e u' w' ⟨rfl,rfl,rfl⟩;have cs:=h.c2;have ce:=h.c3;simp only[Array.getD_eq_getD_getElem?] at h2 h3;refine⟨_,?_,hR⟩;simp only[results,results168];simp[go_sem,h2,h3,cs,ce]
theorem Fo{s:DgS}(h:Cg s):tdF s=leb s.d++(leb (bG (zk s.lo))++(leb (bG (zk s.hi))++(leb s.l.length++(lsB none s.l++(leb s.wt.length++(wtB s.wt++[])))))):=by
 have h1:loF s=s.lo:=by unfold loF;split;exact((h.zero (by assumption)).1).symm;rfl
 have h2:hiF s=s.hi:=by unfold hiF;split;exact((h.zero (by assumption)).2).symm;rfl
 unfold tdF zb;rw[h1,h2];simp only[List.append_assoc,List.append_nil]
theorem yj{s:DgS}(h:Cg s):(tdF s).length≤3000000:=by
 have e:=congrArg List.length (Fo h)
 have hp:∀p∈s.l++s.wt,p.2<18446744073709551616:=fun p hp=>by
  have h1:=aW hp;have h2:=h.tot;have h3:=h.n;omega
 have h1:=mM s.l none (fun p h=>hp p (by simp[h]));have h2:=rq s.wt (fun p h=>hp p (by simp[h]));have h3:=af (show s.d<18446744073709551616 by have:=h.d1;omega);have h4:=af (bK (cu s.lo));have h5:=af (bK (cu s.hi));have h6:=af (show s.l.length<18446744073709551616 by have:=h.ln;omega);have h7:=af (show s.wt.length<18446744073709551616 by have:=h.wt;have:=h.d1;omega);have h8:=h.ln;have h9:=h.wt;have VQ:=h.d1;simp only[Ok,List.length_nil] at e;omega
theorem Cx(s:DgS)(hok:Cg s)(a0l:s.l.length≤65536)(RT:InI s.lo)(hi2:InI s.hi)(A0:Option Addr)(c0:Nat)(w:World)(hA:Bts w w.heap.size A0 (tdF s)):
  Cl 168 #[.slice A0 (tdF s).length c0] w fun e w'=>∃x W,e=.returned (.tuple #[.pointer (some ⟨x,0,none⟩),.int .i64 0])∧Dig w' x W s∧(∀i,DF x W i→w.heap.size≤i)∧Below w.heap.size w w':=by
 have X0:∀p∈s.l++s.wt,p.2<18446744073709551616∧InI p.1:=fun p hp=>by
  have h1:=aW hp;have h2:=hok.tot;have h3:=hok.n;have h4:=hok.pos p hp;unfold InI at*;omega
 have hlen:=yj hok;have hwl:s.wt.length≤1000:=by have:=hok.wt;have:=hok.d1;omega
 have R5:=Oh (fun W (hb:Bts W W.heap.size A0 (tdF s))=>ir A0 c0 (tdF s) W hb oq);have HLD:=Oh (fun Al cl Aw cw W (h1:Prs W W.heap.size Al s.l) (h2:Prs W W.heap.size Aw s.wt)=>EC s Al Aw cl cw W h1 h2 hok);have Uw:=Oh (fun W x V (h:Dig W x V s)=>pT h hok.d1 hok.ln oq (fun p hp=>(X0 p (by simp[hp])).1) (fun p hp=>(X0 p (by simp[hp])).1));have TY:=Oh (fun A c W (hb:Bts W W.heap.size A (tdF s)) (ha:Bts W W.heap.size A0 (tdF s))=>ju A A0 c c0 (tdF s) (tdF s) W hb ha oq);rw[show(tdF s==tdF s)=true by simp] at TY;have htd:=Fo hok;obtain⟨l,hl⟩:=nm (tdF s);rw[←hl] at R5 Uw TY htd hlen hA ⊢;have HP:=Oh X0;have OH:l.drop 0=leb s.d++(leb (bG (zk s.lo))++(leb (bG (zk s.hi))++(leb s.l.length++(lsB none s.l++(leb s.wt.length++(wtB s.wt++[])))))):=by rw[List.drop_zero];exact htd
 have uP:=bL OH;have Rk:=bL uP;have Zj:=bL Rk;have OG:=Oh (fun base g A c W (h:Rdr W base g A c l 0)=>sf s.d (by have:=hok.d1;omega) h OH oq);have Tz:=Oh (fun base g A c W (h:Rdr W base g A c l (0+(leb s.d).length))=>se (zk s.lo) (cu _) h uP oq);have SW:=Oh (fun base g A c W (h:Rdr W base g A c l (0+(leb s.d).length+(leb (bG (zk s.lo))).length))=>se (zk s.hi) (cu _) h Rk oq);have TE:=Oh (fun base g A c W (h:Rdr W base g A c l (0+(leb s.d).length+(leb (bG (zk s.lo))).length+(leb (bG (zk s.hi))).length))=>Cz s.l a0l (fun p hp=>X0 p (by simp[hp])) h Zj oq hok.srt);have HWT:=Oh (fun base g A c p W (h:Rdr W base g A c l p) hd=>Cw (R:=[]) s.wt oq (fun p hp=>X0 p (by simp[hp])) h hd oq);have Xp:=Oh (fun base g A c p k W (h:Rdr W base g A c l p) (hk:p+k=l.length)=>fj base g A c l p k W h hk oq);have x1:=oW RT;have x2:=oW hi2;have x3:IntKind.i64.wrap (s.d:Int)=(s.d:Int):=Ol _ ⟨oq,by have:=hok.d1;omega⟩;have x4:decide ((1000:Int)<(s.d:Int))=false:=by have:=hok.d1;simp;omega
 have x5:decide (1000<s.d)=false:=by have:=hok.d1;simp;omega
 have SX:∀(fn:Fn) (first cap:Array Value) (w:World),(Instr.makeFunc fn first cap).run prog w=.ok (.func fn first cap) w:=fun _ _ _ _=>rfl;have HA:=Oh hA;clear X0 hlen hwl hl htd OH uP Rk Zj hok a0l RT hi2 hA;generalize zk s.lo=ZL at*;generalize zk s.hi=ZH at*;generalize 0+(leb s.d).length+(leb (bG ZL)).length+(leb (bG ZH)).length=P3 at*;generalize 0+(leb s.d).length+(leb (bG ZL)).length=P2 at*;generalize 0+(leb s.d).length=P1 at*;go_enter_defers func168,ntmps168;go_wp2_with fail;have AC:=Oh (RsG.start (t:=100) (v:=.pointer none) w);refine(R5.out _ (HA.out.at_below AC.out.below)).mono ?_;rintro e w2 ⟨g,A2,c2,rfl,hg,r2,b2⟩;have uN:=Oh (AC.out.next b2);have Qa:=Oh r2;have HG:Hid (w.heap.size+1<g):=Oh (by have:=hg;simp at this;omega);clear hg r2 b2;generalize((w.alloc (.cells #[.pointer none] 100)).alloc (.cells #[.int .i64 0] 34))=W0 at*;go_upto_region 3 with(fail);have b3:Below w2.heap.size w2 (w2.alloc (.cells #[.pointer (some ⟨g,0,none⟩)] 344)):=Ba;have Pp:=Oh (uN.out.next b3);have Oz:=Oh (Qa.out.below b3);have PA:=Oh (Blk.new w2 344 #[.pointer (some ⟨g,0,none⟩)]);have WI:Hid (w2.heap.size≠g∧w.heap.size+1<w2.heap.size):=Oh ⟨fun e=>by have:=Qa.out.1.lt;omega,uN.out.e.lt⟩;clear b3 uN Qa;obtain⟨N,hN⟩:=nm (w2.heap.size);obtain⟨w3,OU⟩:=nm (w2.alloc (.cells #[.pointer (some ⟨g,0,none⟩)] 344));rw[←OU] at Pp Oz PA ⊢;rw[←hN] at PA WI ⊢;clear OU hN AC;have m0:=PA.out.c0;refine wp_region_noPanic ?_;refine ag (S:=(fun w2=>w2.cell? ⟨N,0,none⟩=some (.pointer (some ⟨g,0,none⟩)))) (L:=10) ok' m0 (fun hHeld=>?_);have a6I:Hid (Rdr w3.drew _ _ _ _ _ _):=Oh (Oz.out.below (Oq _ _).drew);have a6J:Hid (RsG 100 w w3.drew (.pointer none) 0):=Oh (Pp.out.drewN 1);have a6K:=Oh PA.out.drew;clear Oz Pp PA;refine tV 0 ?_;refine tV 2 ?_;refine tV 5 ?_;refine bO 1 fun K hK=>?_;go_simp;refine(OG.out _ _ _ _ _ a6I.out).mono ?_;rintro e v4 ⟨rfl,h2,k2⟩;have VB:=Oh h2;have OX:=Oh (a6J.out.step k2 (fun i hi=>by have e2:i=g:=hi;have:=HG.out;omega));have Xk:=Oh (a6K.out.only k2 WI.out.1);have m4:=Xk.out.c0
 clear h2 k2;replace hHeld:=m4;refine hK.out _ _ hHeld ?_;clear hK K;try go_simp
 refine bO 3 fun K hK=>?_;go_simp;refine(Tz.out _ _ _ _ _ VB.out).mono ?_;rintro e v5 ⟨rfl,h2,k2⟩;have YE:=Oh h2;have RJ:=Oh (OX.out.step k2 (fun i hi=>by have e2:i=g:=hi;have:=HG.out;omega));have HX5:=Oh (Xk.out.only k2 WI.out.1);have m5:=HX5.out.c0;clear h2 k2;replace hHeld:=m5;refine hK.out _ _ hHeld ?_;clear hK K;try go_simp
 refine tV 4 ?_;refine bO 6 fun K hK=>?_;go_simp;refine(SW.out _ _ _ _ _ YE.out).mono ?_;rintro e v6 ⟨rfl,h2,k2⟩;have TS:=Oh h2;have QU:=Oh (RJ.out.step k2 (fun i hi=>by have e2:i=g:=hi;have:=HG.out;omega));have VU:=Oh (HX5.out.only k2 WI.out.1);have m6:=VU.out.c0;clear h2 k2;replace hHeld:=m6;refine hK.out _ _ hHeld ?_;clear hK K;try go_simp
 refine tV 7 ?_;refine tV 8 ?_;refine tV 9 ?_;refine aL 10 ?_;refine cD ?_;clear hHeld m4 m5;go_upto_region 4 with(fail);refine wp_region_noPanic ?_;refine ag (S:=(fun w2=>w2.cell? ⟨N,0,none⟩=some (.pointer (some ⟨g,0,none⟩)))) (L:=5) ok' m6 (fun hHeld=>?_);refine tV 0 ?_;refine tV 1 ?_;refine tV 2 ?_;refine tV 3 ?_;refine tV 4 ?_;refine aL 5 ?_;refine cD ?_;clear hHeld;have Zh:Hid (Rdr v6.drew _ _ _ _ _ _):=Oh (TS.out.below (Oq _ _).drew);have Xn:Hid (RsG 100 w v6.drew (.pointer none) 0):=Oh (QU.out.drewN 1);have WW:=Oh VU.out.drew;clear TS QU VU m6 m0 a6J a6K a6I VB OX Xk YE RJ HX5 OG Tz SW;generalize v6.drew=w7 at*;go_wp2_with fail;refine(TE.out _ _ _ _ _ Zh.out).mono ?_;rintro e w8 ⟨p8,A8,c8,rfl,r8,d8,pl8,o8,k8⟩;have HR8:=Oh r8;have HD8:=Oh d8;have HS8:=Oh (Xn.out.step k8 (fun i hi=>by have e2:i=g:=hi;have:=HG.out;omega));have HX8:=Oh (WW.out.only k8 WI.out.1);have Vb:Hid (dk w8 (w.heap.size+2) A8 c8 s.l):=Oh (Own.mono o8 (by have:=Xn.out.e.lt;omega));have Z9:Hid (g<w7.heap.size):=Oh Zh.out.1.lt;have Sf:Hid (∀i,aa A8=some i→w7.heap.size≤i):=Oh (fun i hi=>(Own.block o8 hi).1);clear r8 d8 pl8 o8 k8 Zh Xn WW TE;go_wp2_with fail;refine(HWT.out _ _ _ _ _ _ HR8.out HD8.out).mono ?_;rintro e w9 ⟨p9,A9,c9,rfl,r9,d9,pl9,o9,k9⟩;have Z8:=Oh r9;have HE9:Hid (p9+0=l.length):=Oh (by have:=congrArg List.length d9;rw[List.length_drop,List.length_nil] at this;omega);have Tl:=Oh (HS8.out.step k9 (fun i hi=>by have e2:i=g:=hi;have:=HG.out;omega));have SR:=Oh (HX8.out.only k9 WI.out.1);have Xo:Hid (dk w9 (w.heap.size+2) A8 c8 s.l):=Oh (Own.only Vb.out k9 (fun i hi e=>by have e2:i=g:=e;have:=Sf.out i hi;have:=Z9.out;omega));have HP9:Hid (dk w9 (w.heap.size+2) A9 c9 s.wt):=Oh (Own.mono o9 (by have:=HS8.out.e.lt;omega));have m9:=SR.out.c0;clear r9 d9 pl9 o9 k9 HR8 HS8 HX8 Vb Sf Z9 HD8 HWT;go_wp2_with fail;refine(Xp.out _ _ _ _ _ 0 _ Z8.out HE9.out).mono ?_;rintro e Qr ⟨rfl,q10,Vd⟩;have QQ:Hid (RsG 100 w Qr (.pointer none) 0):=Oh (by rw[Vd];exact Tl.out.drewN _)
 have a3r:Hid (Prs Qr Qr.heap.size A8 s.l∧Prs Qr Qr.heap.size A9 s.wt):=Oh (by
  rw[Vd];exact⟨Prs.at_below (Own.reads Xo.out) (ae (Oq _ _) _),Prs.at_below (Own.reads HP9.out) (ae (Oq _ _) _)⟩)
 clear Vd Z8 Tl SR Xo HP9 m9 HE9;go_wp2_with fail;refine(HLD.out _ _ _ _ _ a3r.out.1 a3r.out.2).mono ?_;rintro e Qe ⟨x,V,rfl,hx,hD,hF,VT⟩;have OI:=Oh (QQ.out.next VT);have UR:=Oh hD;have HFF:Hid (∀i,DF x V i→w.heap.size+1<i):=Oh (fun i hi=>by have:=hF i hi;have:=QQ.out.e.lt;omega);have t2:=OI.out.c2;have t2f:=OI.out.s.free 0;have t3:=OI.out.c3;have Ul:=OI.out.e.free 0;clear hx hD hF VT QQ a3r;go_upto_region 10 with(fail);have QR:=Oh ((OI.out.setS (.pointer (some ⟨x,0,none⟩))).setE 0);have a3s:Hid (Dig ((Qe.setCell ⟨w.heap.size,0,none⟩ (.pointer (some ⟨x,0,none⟩))).setCell ⟨w.heap.size+1,0,none⟩ (.int .i64 0)) x V s):=Oh (UR.out.only (((ab.refl (fun i=>i=w.heap.size∨i=w.heap.size+1) _).set (p:=⟨w.heap.size,0,none⟩) (.inl (.inl rfl)) _).set (p:=⟨w.heap.size+1,0,none⟩) (.inl (.inr rfl)) _) (fun i hi h=>by have:=HFF.out i hi;omega));generalize((Qe.setCell ⟨w.heap.size,0,none⟩ (.pointer (some ⟨x,0,none⟩))).setCell ⟨w.heap.size+1,0,none⟩ (.int .i64 0))=Tn at*;clear OI UR t2 t2f t3 Ul;have t2:=QR.out.c2;have t3:=QR.out.c3;go_wp2_with fail;refine(Uw.out _ _ _ a3s.out).mono ?_;rintro e RV ⟨A,c,rfl,oB,bB⟩;have WJ:=Oh (QR.out.next bB);have a6L:=Oh (a3s.out.below bB);have Zq:Hid (Bts RV RV.heap.size A l):=Oh oB.reads;clear oB bB t2 t3 QR a3s;go_wp2_with fail;refine(TY.out _ _ _ Zq.out (HA.out.at_below WJ.out.below)).mono ?_;rintro e YW ⟨rfl,q14,Ve⟩;have YF:Hid (RsG 100 w YW (.pointer (some ⟨x,0,none⟩)) 0):=Oh (by rw[Ve];exact WJ.out.drewN _);have abw:Hid (Dig YW x V s):=Oh (by rw[Ve];exact a6L.out.drewN _);clear Ve WJ a6L Zq;have t2:=YF.out.c2;have t2f:=YF.out.s.free 0;have t3:=YF.out.c3;have Ul:=YF.out.e.free 0;go_wp2_with fail;have a6M:RsG 100 w ((YW.setCell ⟨w.heap.size,0,none⟩ (.pointer (some ⟨x,0,none⟩))).setCell ⟨w.heap.size+1,0,none⟩ (.int .i64 0)) (.pointer (some ⟨x,0,none⟩)) 0:=(YF.out.setS _).setE 0;have abx:Dig ((YW.setCell ⟨w.heap.size,0,none⟩ (.pointer (some ⟨x,0,none⟩))).setCell ⟨w.heap.size+1,0,none⟩ (.int .i64 0)) x V s:=abw.out.only (((ab.refl (fun i=>i=w.heap.size∨i=w.heap.size+1) _).set (p:=⟨w.heap.size,0,none⟩) (.inl (.inl rfl)) _).set (p:=⟨w.heap.size+1,0,none⟩) (.inl (.inr rfl)) _) (fun i hi h=>by have:=HFF.out i hi;omega)
 exact GA a6M _ rfl rfl _ ⟨x,V,rfl,abx,fun i hi=>by have:=HFF.out i hi;omega,a6M.below⟩
end
section
open Wi
theorem Hn{w:World}{b:Nat}{e:TypeId}{s:Nat}{A:Option Addr}{n c:Nat}{xs:List Value}(h:Own w b e s A n c xs):n≤c:=by
 rcases h.2 with⟨hv,h0⟩|⟨g,cap,cur,hv,_,_,Sm,_⟩
 ·omega
 ·injection hv with _ _ hc
  omega
theorem sd(base g:Nat)(A:Option Addr)(c:Nat)(l:List UInt8)(p k:Nat)(w:World)(h:Rdr w base g A c l p)(hk:p+k≤l.length)(hl:l.length≤100000000):
  Cl 82 #[.pointer (some ⟨g,0,none⟩),.int .i64 (k:Int)] w fun e w'=>∃A' c',e=.returned (.tuple #[.slice A' k c',.int .i64 0])∧ak w' w.heap.size A' c' ((l.drop p).take k)∧Rdr w' base g A c l (p+k)∧ab (RK g) w w':=by
 have OA:=Hn h.2;have HL:=Oh (fun W (h:Rdr W base g A c l p)=>fj base g A c l p (l.length-p) W h oq hl);obtain⟨Q,hQ⟩:=nm (p+k);rw[←hQ];have St:=fun W=>An A l.length c p Q oq oq W;rw[show Q-p=k by omega] at St;have x1:decide ((k:Int)<0)=false:=by simp
 have x2:decide (((l.length-p:Nat):Int)<(k:Int))=false:=sq;have x2b:decide (l.length-p<k)=false:=sq;have x3:IntKind.i64.wrap ((p:Int)+(k:Int))=(Q:Int):=by rw[show(p:Int)+(k:Int)=(Q:Int) by omega];exact i6
 have x4:IntKind.i64.wrap ((Q:Int)-(k:Int))=(p:Int):=by rw[show(Q:Int)-(k:Int)=(p:Int) by omega];exact i6
 have HB:Hid (∀W B,Bts W B A l→Bts W B (il A c p) ((l.drop p).take k)):=Oh (fun W B hb=>by
  have:=lp hb c p Q oq OA
  rwa [show Q-p=k by omega] at this)
 have Sb:((l.drop p).take k).length=k:=by rw[List.length_take,List.length_drop];omega
 have HC:=Oh (fun W (hb:Bts W W.heap.size A l)=>oO (il A c p) k (c-p) (bvs ((l.drop p).take k)) W (by have:=HB.out W _ hb;unfold Bts at this;rwa [Sb] at this) (aO _) oq);have HH:=Oh h;have Z3:=Oh Sb;clear h OA hk hl hQ Sb;generalize l.length-p=R at*;go_enter func82,ntmps82;go_wp2_with fail;refine(HL.out _ HH.out).mono ?_;rintro e w1 ⟨rfl,q,iF⟩;have H1:Hid (Rdr w1 base g A c l p):=Oh (by rw[iF];exact HH.out.below (ae (Oq _ _) _));have Ub:Hid (ab (RK g) w w1):=Oh (by rw[iF];exact(ab.refl _ _).drewN _);clear iF HL;have c1:=H1.out.1.c1;have fr:=H1.out.1.free;go_upto_region 4 with(fail);have R3:ab (RK g) w1 (w1.setCell ⟨g,1,none⟩ (.int .i64 (Q:Int))):=(ab.refl (RK g) w1).set (p:=⟨g,1,none⟩) (.inl rfl) _;have H2:Hid (Rdr (w1.setCell ⟨g,1,none⟩ (.int .i64 (Q:Int))) base g A c l Q):=Oh (H1.out.moved (H1.out.1.put 1 _) R3);have OC:Hid (ab (RK g) w (w1.setCell ⟨g,1,none⟩ (.int .i64 (Q:Int)))):=Oh (Ub.out.trans R3);clear R3;generalize w1.setCell ⟨g,1,none⟩ (.int .i64 (Q:Int))=w2 at*;clear c1 fr H1 Ub;have d0:=H2.out.1.c0;have d1:=H2.out.1.c1;refine wp_region_noPanic ?_;refine ag (S:=(fun(V:World)=>V.cell? ⟨g,0,none⟩=some (.slice A l.length c)∧V.cell? ⟨g,1,none⟩=some (.int .i64 (Q:Int)))) (L:=15) ok' ⟨d0,d1⟩ (fun hHeld=>?_);have H2d:Hid (Rdr w2.drew base g A c l Q):=Oh (H2.out.below (Oq _ _).drew);have a6N:Hid (ab (RK g) w w2.drew):=Oh (OC.out.drewN 1);refine tV 0 ?_;refine tV 1 ?_;refine tV 2 ?_;refine tV 3 ?_;refine tV 4 ?_;refine tV 5 ?_;refine tV 6 ?_;refine tV 7 ?_;refine tV 8 ?_;refine tV 9 ?_;refine tV 10 ?_;refine tV 11 ?_;refine tV 12 ?_;refine tV 13 ?_;refine tV 14 ?_;refine iV 15 fun K hK=>?_;go_simp;refine(HC.out _ (ak.reads H2d.out.2)).mono ?_;rintro e v3 ⟨A3,c3,rfl,o3,b3⟩;have H3:=Oh (H2d.out.below b3);have sO:Hid (ak v3 w.heap.size A3 c3 ((l.drop p).take k)):=Oh (by unfold ak;rw[Z3.out];exact Own.mono o3 a6N.out.size);have Pb:Hid (ab (RK g) w v3):=Oh (a6N.out.trans (ab.of_below b3));clear o3 b3;refine hK.out _ _ ?_;clear hK K;try go_simp
 refine aA 16 ?_;refine aA 17 ?_;refine cD ?_;clear hHeld;go_wp2_with fail;go_ret2;exact⟨A3,c3,rfl,sO.out,H3.out,Pb.out⟩
theorem jV(w:World):Cl 76 #[.bool true] w (Rs (.tuple #[]) w):=by
 go_enter func76,ntmps76;go_wp2_with fail;go_end0;exact⟨rfl,rfl⟩
def xE(g:Nat)(ver:Int)(k:Nat)(pk:Bool)(tx:Value):Array Value:=#[.pointer (some ⟨g,0,none⟩),.int .i64 ver,.int .u8 (k:Int),.bool pk,tx]
structure Ltr(w:World)(x base g:Nat)(A:Option Addr)(c:Nat)(l:List UInt8)(p:Nat)(ver:Int)(k:Nat)(pk:Bool)(tx:Value):Prop where
 blk:Blk w x 120 (xE g ver k pk tx)
 rd:Rdr w base g A c l p
theorem Ltr.ne{w:World}{x base g:Nat}{A:Option Addr}{c:Nat}{l:List UInt8}{p:Nat}{ver:Int}{k:Nat}{pk:Bool}{tx:Value}(h:Ltr w x base g A c l p ver k pk tx):x≠g:=Blk.ne h.blk h.rd.1 od
section
variable {w w':World} {x base g c p k:Nat} {A:Option Addr} {l R:List UInt8} {ver:Int} {pk:Bool} {tx:Value}
theorem Ltr.below(h:Ltr w x base g A c l p ver k pk tx)(hb:Below w.heap.size w w'):Ltr w' x base g A c l p ver k pk tx:=⟨h.blk.below hb h.blk.lt,h.rd.below hb⟩
theorem Ltr.put(h:Ltr w x base g A c l p ver k pk tx)(j:Nat)(u:Value)(a6O:Int)(k':Nat)(pk':Bool)(tx':Value)(e:(xE g ver k pk tx).setIfInBounds j u=xE g a6O k' pk' tx'):Ltr (w.setCell ⟨x,j,none⟩ u) x base g A c l p a6O k' pk' tx':=
 ⟨by rw[←e];exact h.blk.put j u,⟨h.rd.1.far (p:=⟨x,j,none⟩) (fun e=>h.ne e.symm) u,Own.setOther h.rd.2 (p:=⟨x,j,none⟩) (Own.ne_blk h.rd.2 h.blk od) u⟩⟩
theorem yP(h:Ltr w x base g A c l p ver k pk tx)(ch:Nat)(f:Frm)(hf:di[fi ch]?=some f)(X:List UInt8)(n:Nat)(hd:l.drop p=X++R)(hX:0<X.length)(Rz:ij f (X++R)=(0,n,X.length))(hl:l.length≤100000000):
  Cl 155 #[.pointer (some ⟨x,0,none⟩),.int .u8 (ch:Int)] w fun e w'=>e=.returned (.int .u64 (n:Int))∧Ltr w' x base g A c l (p+X.length) ver k pk tx∧ab (RK g) w w':=by
 have hp:=rO hd hX;have HN:=Oh (jg base g A c l p ch w h.rd hp hl hf);rw[hd,Rz] at HN;have c0:=h.blk.c0;have HH:=Oh h;clear h hf hd hX Rz hl hp;go_enter func155,ntmps155;go_wp2_with fail;refine HN.out.mono ?_;rintro e w2 ⟨rfl,h2,k2⟩;have H2:Hid (Ltr w2 x base g A c l (p+X.length) ver k pk tx):=Oh ⟨HH.out.blk.only k2 HH.out.ne,h2⟩;have K2:=Oh k2;clear h2 k2;go_wp2_with fail;refine(jV _).mono ?_;rintro e w3 ⟨rfl,OU⟩;obtain rfl:=OU.symm;go_wp2_with fail;go_ret;exact⟨rfl,H2.out,K2.out⟩
theorem yQ(h:Ltr w x base g A c l p ver k pk tx)(n:Nat)(hn:n<256)(hd:l.drop p=low 1 n++R)(hl:l.length≤100000000):
  Cl 155 #[.pointer (some ⟨x,0,none⟩),.int .u8 98] w fun e w'=>e=.returned (.int .u64 (n:Int))∧Ltr w' x base g A c l (p+(low 1 n).length) ver k pk tx∧ab (RK g) w w':=
 yP h 98 _ Kd (low 1 n) n hd (by rw[aJ];omega) ((kU 98 1 od od).back n oq (by unfold bW;simp;omega) R) hl
theorem I3(h:Ltr w x base g A c l p ver k pk tx)(n:Nat)(hn:n<18446744073709551616)(hd:l.drop p=leb n++R)(hl:l.length≤100000000):
  Cl 155 #[.pointer (some ⟨x,0,none⟩),.int .u8 118] w fun e w'=>e=.returned (.int .u64 (n:Int))∧Ltr w' x base g A c l (p+(leb n).length) ver k pk tx∧ab (RK g) w w':=
 yP h 118 _ rj (leb n) n hd (bT n) (mI.back n hn (by unfold bW;simp) R) hl
theorem DD(h:Ltr w x base g A c l p ver k pk tx)(t:List UInt8)(s:List UInt8)(hd:l.drop p=t++s)(hs:s.length=4)(hp:p≤l.length)(hl:l.length≤100000000):
  Cl 156 #[.pointer (some ⟨x,0,none⟩),.int .u64 (t.length:Int)] w fun e w'=>∃A' c',e=.returned (.slice A' t.length c')∧ak w' w.heap.size A' c' t∧Ltr w' x base g A c l (p+t.length) ver k pk tx∧ab (RK g) w w':=by
 have hlen:p+(t.length+4)=l.length:=by
  have:=congrArg List.length hd;rw[List.length_drop,Ok] at this;omega
 have Xp:=Oh (fun W (h:Rdr W base g A c l p)=>fj base g A c l p (t.length+4) W h hlen hl);have TP:=Oh (fun W (h:Rdr W base g A c l p)=>sd base g A c l p t.length W h oq hl);rw[hd,List.take_left] at TP;have x1:decide ((4:Int)≤((t.length+4:Nat):Int))=true:=sq;have x1b:decide (4≤t.length+4)=true:=by simp
 have x2:IntKind.i64.wrap (((t.length+4:Nat):Int)-4)=(t.length:Int):=by rw[show((t.length+4:Nat):Int)-4=(t.length:Int) by omega];exact i6
 have x3:IntKind.u64.wrap (t.length:Int)=(t.length:Int):=u6;have x4:IntKind.i64.wrap (t.length:Int)=(t.length:Int):=i6;have c0:=h.blk.c0;have HH:=Oh h;clear h hd hs hp hl hlen;obtain⟨M,hM⟩:=nm (t.length+4);rw[←hM] at Xp x1 x1b x2;clear hM;go_enter func156,ntmps156;go_wp2_with fail;refine(Xp.out _ HH.out.rd).mono ?_;rintro e w1 ⟨rfl,q1,iF⟩;have H1:Hid (Ltr w1 x base g A c l p ver k pk tx):=Oh (by rw[iF];exact HH.out.below (ae (Oq _ _) _));have K1:Hid (ab (RK g) w w1):=Oh (by rw[iF];exact(ab.refl _ _).drewN _);clear iF c0;have c0:=H1.out.blk.c0;go_wp2_with fail;refine(Xp.out _ H1.out.rd).mono ?_;rintro e w2 ⟨rfl,q2,Ox⟩;have H2:Hid (Ltr w2 x base g A c l p ver k pk tx):=Oh (by rw[Ox];exact H1.out.below (ae (Oq _ _) _));have K2:Hid (ab (RK g) w w2):=Oh (by rw[Ox];exact K1.out.drewN _);clear Ox c0 H1 K1 Xp;have c0:=H2.out.blk.c0;go_wp2_with fail;refine(jV _).mono ?_;rintro e w3 ⟨rfl,OU⟩;obtain rfl:=OU.symm;go_wp2_with fail;refine(TP.out _ H2.out.rd).mono ?_;rintro e w4 ⟨A4,c4,rfl,o4,r4,k4⟩;have H4:Hid (Ltr w4 x base g A c l (p+t.length) ver k pk tx):=Oh ⟨H2.out.blk.only k4 H2.out.ne,r4⟩;have Pk:Hid (ak w4 w.heap.size A4 c4 t):=Oh (Own.mono (show Own w4 _ 5 1 A4 t.length c4 (bvs t) from o4) K2.out.size);have K4:Hid (ab (RK g) w w4):=Oh (K2.out.trans k4);clear o4 r4 k4 c0;go_wp2_with fail;refine(jV _).mono ?_;rintro e w5 ⟨rfl,R7⟩;obtain rfl:=R7.symm;go_wp2_with fail;go_ret;exact⟨A4,c4,rfl,Pk.out,H4.out,K4.out⟩
end
end
end Go.Proofs.YtmbippkpjdoojaaGreat
