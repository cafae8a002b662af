/- Parts of a proof, merged. -/
import Derived.Test.YtmbippkpjdoojaaGreatF20
set_option maxRecDepth 100000
set_option maxHeartbeats 1600000
namespace Go.Proofs.YtmbippkpjdoojaaGreat.Bt
open Tryz
open Go.RowKit
abbrev W32:=BitVec 32
def bS(k:Nat)(m x:W32):W32:=((x>>>k)&&& m)|||((x&&& m)<<<k)
def m1:W32:=0x55555555#32
def m2:W32:=0x33333333#32
def m3:W32:=0x0f0f0f0f#32
def m4:W32:=0x00ff00ff#32
def zz(x:W32):W32:=(bS 8 m4 x>>>16)|||(bS 8 m4 x<<<16)
def pr(x:W32):W32:=zz (bS 4 m3 (bS 2 m2 (bS 1 m1 x)))
theorem j7(k:Nat)(m x:W32)(i:Nat):(bS k m x).getLsbD i=((x.getLsbD (k+i)&&m.getLsbD i)||(decide (i<32)&&!decide (i<k)&&(x.getLsbD (i-k)&&m.getLsbD (i-k)))):=by
 unfold bS;rw[BitVec.getLsbD_or,BitVec.getLsbD_and,BitVec.getLsbD_ushiftRight,BitVec.getLsbD_shiftLeft,BitVec.getLsbD_and]
def sg1(j:Nat):Nat:=if j/1%2=0 then j+1 else j-1
theorem wR(x:W32)(j:Nat)(hj:j<32):(bS 1 m1 x).getLsbD j=x.getLsbD (sg1 j):=by
 have hm:∀j,j<32→m1.getLsbD j=decide (j/1%2=0):=by decide
 unfold sg1;rw[j7,hm j hj]
 by_cases h:j/1%2=0
 ·rw[if_pos h,decide_eq_true h,Nat.add_comm 1 j]
  by_cases h0:j<1
  ·simp[h0]
  ·rw[hm (j-1) oq,decide_eq_false (show¬(j-1)/1%2=0 by omega)];simp
 ·rw[if_neg h,decide_eq_false h,hm (j-1) oq,decide_eq_true (show(j-1)/1%2=0 by omega),decide_eq_true hj,decide_eq_false (show¬j<1 by omega)];simp
def sg2(j:Nat):Nat:=if j/2%2=0 then j+2 else j-2
theorem wQ(x:W32)(j:Nat)(hj:j<32):(bS 2 m2 x).getLsbD j=x.getLsbD (sg2 j):=by
 have hm:∀j,j<32→m2.getLsbD j=decide (j/2%2=0):=by decide
 unfold sg2;rw[j7,hm j hj]
 by_cases h:j/2%2=0
 ·rw[if_pos h,decide_eq_true h,Nat.add_comm 2 j]
  by_cases h0:j<2
  ·simp[h0]
  ·rw[hm (j-2) oq,decide_eq_false (show¬(j-2)/2%2=0 by omega)];simp
 ·rw[if_neg h,decide_eq_false h,hm (j-2) oq,decide_eq_true (show(j-2)/2%2=0 by omega),decide_eq_true hj,decide_eq_false (show¬j<2 by omega)];simp
def sg4(j:Nat):Nat:=if j/4%2=0 then j+4 else j-4
theorem wP(x:W32)(j:Nat)(hj:j<32):(bS 4 m3 x).getLsbD j=x.getLsbD (sg4 j):=by
 have hm:∀j,j<32→m3.getLsbD j=decide (j/4%2=0):=by decide
 unfold sg4;rw[j7,hm j hj]
 by_cases h:j/4%2=0
 ·rw[if_pos h,decide_eq_true h,Nat.add_comm 4 j]
  by_cases h0:j<4
  ·simp[h0]
  ·rw[hm (j-4) oq,decide_eq_false (show¬(j-4)/4%2=0 by omega)];simp
 ·rw[if_neg h,decide_eq_false h,hm (j-4) oq,decide_eq_true (show(j-4)/4%2=0 by omega),decide_eq_true hj,decide_eq_false (show¬j<4 by omega)];simp
def sg8(j:Nat):Nat:=if j/8%2=0 then j+8 else j-8
theorem wO(x:W32)(j:Nat)(hj:j<32):(bS 8 m4 x).getLsbD j=x.getLsbD (sg8 j):=by
 have hm:∀j,j<32→m4.getLsbD j=decide (j/8%2=0):=by decide
 unfold sg8;rw[j7,hm j hj]
 by_cases h:j/8%2=0
 ·rw[if_pos h,decide_eq_true h,Nat.add_comm 8 j]
  by_cases h0:j<8
  ·simp[h0]
  ·rw[hm (j-8) oq,decide_eq_false (show¬(j-8)/8%2=0 by omega)];simp
 ·rw[if_neg h,decide_eq_false h,hm (j-8) oq,decide_eq_true (show(j-8)/8%2=0 by omega),decide_eq_true hj,decide_eq_false (show¬j<8 by omega)];simp
def JI(j:Nat):Nat:=if j<16 then j+16 else j-16
theorem D6(x:W32)(j:Nat)(hj:j<32):(zz x).getLsbD j=(bS 8 m4 x).getLsbD (JI j):=by
 unfold zz JI;rw[BitVec.getLsbD_or,BitVec.getLsbD_ushiftRight,BitVec.getLsbD_shiftLeft]
 by_cases h:j<16
 ·rw[if_pos h,Nat.add_comm 16 j];simp[h]
 ·rw[if_neg h,BitVec.getLsbD_of_ge _ _ oq];simp[hj];intro h2;omega
theorem AJ(x:W32)(i:Nat)(hi:i<32):(pr x).getLsbD i=x.getLsbD (31-i):=by
 have b16:∀j,j<32→JI j<32:=by decide
 have b8:∀j,j<32→sg8 j<32:=by decide
 have b4:∀j,j<32→sg4 j<32:=by decide
 have b2:∀j,j<32→sg2 j<32:=by decide
 have hp:∀j,j<32→sg1 (sg2 (sg4 (sg8 (JI j))))=31-j:=by decide
 unfold pr;have c16:=b16 i hi;have c8:=b8 _ c16;have c4:=b4 _ c8;have c2:=b2 _ c4;rw[D6 _ _ hi,wO _ _ c16,wP _ _ c8,wQ _ _ c4,wR _ _ c2,hp i hi]
theorem D5(n c:Nat)(h1:1≤c)(h2:c≤32):(pr (BitVec.ofNat 32 n)).toNat/2^(32-c)=l9 n c:=by
 apply Nat.eq_of_testBit_eq
 intro i;rw[Nat.testBit_div_two_pow,BitVec.testBit_toNat];have hg:=FP (l9 n c) c i;rw[zc] at hg
 by_cases hi:i<c
 ·rw[if_pos hi,List.getElem?_reverse (by rw[ao];exact hi),ao,FP,if_pos oq] at hg;rw[←Option.some.inj hg,AJ _ _ oq,BitVec.getLsbD_ofNat,decide_eq_true oq,Bool.true_and]
  congr 1
  omega
 ·rw[BitVec.getLsbD_of_ge _ _ oq];exact(Nat.testBit_lt_two_pow (Nat.lt_of_lt_of_le (nH n c) (Nat.pow_le_pow_right od oq))).symm
theorem bi(x:W32):x.toNat<4294967296:=x.isLt
open Go in
theorem gR(k:Nat)(p:Int)(hp:p=((2^k:Nat):Int))(m x:W32):bits .or .u32 (bits .and .u32 ((x.toNat:Int)/p) (m.toNat:Int)) (bits .and .u32 (x.toNat:Int) (m.toNat:Int)*p%4294967296)=((bS k m x).toNat:Int):=by
 have e1:((x.toNat:Int)/p)=((x>>>k).toNat:Int):=by
  rw[BitVec.toNat_ushiftRight,Nat.shiftRight_eq_div_pow,hp];rfl
 have e2:bits .and .u32 ((x>>>k).toNat:Int) (m.toNat:Int)=(((x>>>k)&&& m).toNat:Int):=by
  rw[u32_and_nat _ _ (bi _) (bi _),BitVec.toNat_and]
 have e3:bits .and .u32 (x.toNat:Int) (m.toNat:Int)=((x&&& m).toNat:Int):=by
  rw[u32_and_nat _ _ (bi _) (bi _),BitVec.toNat_and]
 have e4:((x&&& m).toNat:Int)*p%4294967296=(((x&&& m)<<<k).toNat:Int):=by
  rw[BitVec.toNat_shiftLeft,Nat.shiftLeft_eq,hp];have:(2:Nat)^32=4294967296:=by decide
  rw[this];simp
 rw[e1,e2,e3,e4,u32_or_nat _ _ (bi _) (bi _),←BitVec.toNat_or];rfl
open Go in
theorem AI(x y:W32)(hy:y=bS 8 m4 x):bits .or .u32 ((y.toNat:Int)/65536) ((y.toNat:Int)*65536%4294967296)=((zz x).toNat:Int):=by
 have e1:((y.toNat:Int)/(65536:Int))=((y>>>16).toNat:Int):=by
  rw[BitVec.toNat_ushiftRight,Nat.shiftRight_eq_div_pow];rfl
 have e4:(y.toNat:Int)*(65536:Int)%(4294967296:Int)=((y<<<16).toNat:Int):=by
  rw[BitVec.toNat_shiftLeft,Nat.shiftLeft_eq];have:(2:Nat)^32=4294967296:=by decide
  rw[this];simp
 rw[e1,e4,u32_or_nat _ _ (bi _) (bi _),←BitVec.toNat_or,hy];rfl
end Go.Proofs.YtmbippkpjdoojaaGreat.Bt
namespace Go.Proofs.YtmbippkpjdoojaaGreat.Bit
open Tryz
open Go.RowKit
section
open Bt
theorem pc(n:Nat)(c:Int)(w:World)(hn:n<4294967296)(h0: -9223372036854775808≤c)(h1:c≤9223372036854775807):
  Cl 337 #[.int .u32 (n:Int),.int .i64 c] w (Rt (.bool (eV n c)) w):=by
 by_cases h:c<0∨32<c
 ·rw[Bt.rN h];rcases h with h|h
  ·have hd:decide (0≤c)=false:=sq;clear h;go_enter func337,ntmps337;go_wp2_with fail;go_ret;exact⟨rfl,rfl⟩
  ·have hd:decide (0≤c)=true:=sq;have Rk:decide (c≤32)=false:=sq;have h2:0≤c:=oq;go_enter func337,ntmps337;go_wp2_with fail;go_ret;exact⟨rfl,rfl⟩
 ·obtain⟨k,rfl⟩:=Int.eq_ofNat_of_zero_le (show 0≤c by omega);rw[ib oq];have hk:(k:Int)≤32:=oq;have hd:decide (0≤(k:Int))=true:=by simp
  have Rk:decide (k≤32)=true:=sq;have Ud:(n:Int)<4294967296:=oq;clear h h0 h1;go_enter func337,ntmps337;go_wp2_with fail;go_ret;refine⟨?_,rfl⟩
  have:((n:Int)/2^k==0)=(n/2^k==0):=by
   have e:(n:Int)/2^k=((n/2^k:Nat):Int):=by simp
   rw[e,Bool.eq_iff_iff,beq_iff_eq,beq_iff_eq];generalize n/2^k=z;omega
  rw[this];rfl
theorem wW(x:W32)(w:World):
  Cl 437 #[.int .u32 (x.toNat:Int)] w (Rt (.int .u32 ((zz x).toNat:Int)) w):=by
 have h4:=gR 8 256 od m4 x;have h5:=AI x _ rfl;have em:(m4.toNat:Int)=16711935:=by decide
 have hx:=bi x;have hy:=bi (bS 8 m4 x);rw[em] at h4;generalize(bS 8 m4 x).toNat=y at*;generalize(zz x).toNat=z at*;generalize x.toNat=x0 at*;have hxi:(x0:Int)<4294967296:=oq;have hyi:(y:Int)<4294967296:=oq;clear em;go_enter func437,ntmps437;go_wp2_with fail;go_ret;exact⟨rfl,rfl⟩
theorem N6(x:W32)(w:World):
  Cl 429 #[.int .u32 (x.toNat:Int)] w (Rt (.int .u32 ((pr x).toNat:Int)) w):=by
 have h1:=gR 1 2 od m1 x;have h2:=gR 2 4 od m2 (bS 1 m1 x);have h3:=gR 4 16 od m3 (bS 2 m2 (bS 1 m1 x));have em1:(m1.toNat:Int)=1431655765:=by decide
 have em2:(m2.toNat:Int)=858993459:=by decide
 have em3:(m3.toNat:Int)=252645135:=by decide
 have b0:=bi x;have b1:=bi (bS 1 m1 x);have b2:=bi (bS 2 m2 (bS 1 m1 x));have HB:=Oh (fun W=>wW (bS 4 m3 (bS 2 m2 (bS 1 m1 x))) W);rw[em1] at h1;rw[em2] at h2;rw[em3] at h3;unfold pr;generalize(zz (bS 4 m3 (bS 2 m2 (bS 1 m1 x)))).toNat=z at*;generalize(bS 4 m3 (bS 2 m2 (bS 1 m1 x))).toNat=x3 at*;generalize(bS 2 m2 (bS 1 m1 x)).toNat=x2 at*;generalize(bS 1 m1 x).toNat=x1 at*;generalize x.toNat=x0 at*;have i0:(x0:Int)<4294967296:=oq;have i1:(x1:Int)<4294967296:=oq;have i2:(x2:Int)<4294967296:=oq;clear em1 em2 em3;go_enter func429,ntmps429;go_wp2_with fail;refine(HB.out _).mono ?_;rintro e w1 ⟨rfl,rfl⟩;go_wp2_with fail;go_ret;exact⟨rfl,rfl⟩
def pp(n:Nat)(c:Int):Nat:=if 1≤c∧c≤32 then l9 n c.toNat else 0
theorem nI(n c:Nat)(h:c≤32):pp n (c:Int)=l9 n c:=by
 unfold pp
 by_cases h1:1≤c
 ·rw[if_pos oq];rfl
 ·obtain rfl:c=0:=oq;rfl
theorem Ct(n:Nat)(c:Int):pp n c<4294967296:=by
 unfold pp;split
 ·have h1:=nH n c.toNat;exact Nat.lt_of_lt_of_le h1 (Oo (Nat.pow_le_pow_right od (show c.toNat≤32 by omega)) od)
 ·decide
theorem Kx(n:Nat)(c:Int)(w:World)(hn:n<4294967296)(h0: -9223372036854775808≤c)(h1:c≤9223372036854775807):
  Cl 398 #[.int .u32 (n:Int),.int .i64 c] w (Rt (.int .u32 (pp n c:Nat)) w):=by
 by_cases h:1≤c∧c≤32
 ·obtain⟨k,rfl⟩:=Int.eq_ofNat_of_zero_le (show 0≤c by omega);have hr:=D5 n k oq oq;have HR:=fun W=>N6 (BitVec.ofNat 32 n) W;have hx:(BitVec.ofNat 32 n).toNat=n:=by rw[BitVec.toNat_ofNat];omega
  have hy:=bi (pr (BitVec.ofNat 32 n));rw[hx] at HR;rw[nI n k oq];generalize(pr (BitVec.ofNat 32 n)).toNat=y at*;rw[←hr];obtain⟨q,hq⟩:=nm (32-k);have eq1:(32:Int)-(k:Int)=(q:Int):=oq;have eq2:IntKind.i64.wrap ((32:Int)-(k:Int))=(q:Int):=by rw[eq1];exact i6
  rw[←hq];have ail:(q:Int)≤32:=oq;have hd:decide ((k:Int)<1)=false:=sq;have Rk:decide ((32:Int)<(k:Int))=false:=sq;have Zj:decide (32<k)=false:=sq;have hd4:decide (k<1)=false:=sq;have hyi:(y:Int)<4294967296:=oq;replace HR:=Oh HR;clear hr h h0 h1 hx hq;go_enter func398,ntmps398;go_wp2_with fail;refine(HR.out _).mono ?_;rintro e w1 ⟨rfl,rfl⟩;go_wp2_with fail;go_ret;exact⟨mD os',rfl⟩
 ·have ht:pp n c=0:=by unfold pp;rw[if_neg h]
  rw[ht]
  by_cases h2:c<1
  ·have hd:decide (c<1)=true:=sq;clear h;go_enter func398,ntmps398;go_wp2_with fail;go_ret;exact⟨rfl,rfl⟩
  ·have hd:decide (c<1)=false:=sq;have h3:32<c:=oq;clear h;go_enter func398,ntmps398;go_wp2_with fail;go_ret;exact⟨rfl,rfl⟩
theorem br.then{g:Nat}{A:Option Addr}{L:List Bool}{w w' Wb:World}{A':Option Addr}(ho:ab (WK g A) w w')(hl:aa A'=aa A∨∃i,aa A'=some i∧w.heap.size≤i)(h:br g A' L w' Wb):br g A L w Wb:=by
 exact oc
theorem ia(g:Nat)(A:Option Addr)(c:Nat)(L:List Bool)(n k:Nat)(w:World)(h:Wri w g A c L)(hn:n<4294967296)(hk:k≤32)(hf:eV n (k:Int)=true)(hL:L.length+32≤1000000000):
  Cl 266 #[.pointer (some ⟨g,0,none⟩),.int .u32 (n:Int),.int .i64 (k:Int)] w fun e w'=>e=.returned (.int .i64 0)∧br g A (L++gb n k) w w':=by
 have HF:=fun W=>pc n (k:Int) W hn oq oq;rw[hf] at HF;replace HF:=Oh HF;have H:=Oh h;have Ud:(n:Int)<4294967296:=oq;clear hf h;go_enter func266,ntmps266;go_wp2_with fail;refine(HF.out _).mono ?_;rintro e w1 ⟨rfl,rfl⟩;go_wp2_with fail;go_loopw [16] (fun v wr=>∃i:Nat,i≤k∧v=.int .i64 (i:Int)∧br g A (L++gb n i) w wr) (fun v _=>k-(intOf v).toNat)
 case atStart=>exact⟨0,Nat.zero_le _,rfl,A,c,by simpa [gb] using H.out,ab.refl _ _,.inl rfl⟩
 case round=>
  obtain⟨i,hi,rfl,A1,c1,iF,RP,Qs⟩:=hrel
  by_cases hlt:i<k
  ·exact uu
  ·obtain rfl:k=i:=oq;have HW:=Oh (show br g A (L++gb n k) w wr from⟨A1,c1,iF,RP,Qs⟩);clear hi hlt iF RP Qs;go_wp2_with fail;go_ret;exact⟨rfl,HW.out⟩
theorem mX(g:Nat)(A:Option Addr)(n c:Nat)(m:Int)(w:World)(h:Blk w g 371 #[.slice A n c,.int .i64 m])(hn:n≤1000000000):
  Cl 271 #[.pointer (some ⟨g,0,none⟩)] w fun e w'=>e=.returned (.tuple #[])∧w'=w.setCell ⟨g,1,none⟩ (.int .i64 (8*(n:Int))):=by
 have c0:=h.c0;have c1:=h.c1;have fr:=h.free;have hni:(n:Int)≤1000000000:=oq;clear h;go_enter func271,ntmps271;go_wp2_with fail;exact bodyPost_end (v:=.tuple #[]) (results_none results271 _ _ _) rfl ⟨rfl,rfl⟩
theorem Co(g:Nat)(A:Option Addr)(c:Nat)(L:List Bool)(w:World)(h:Wri w g A c L)(hL:L.length≤1000000000):
  Cl 271 #[.pointer (some ⟨g,0,none⟩)] w fun e w'=>e=.returned (.tuple #[])∧br g A (dl L) w w':=by
 obtain⟨hb,ho⟩:=h;have OJ:=aU L;refine(mX g A (bM L).length c _ w hb oq).mono ?_;rintro e w' ⟨rfl,rfl⟩;refine⟨rfl,A,c,⟨?_,?_⟩,(ab.refl _ w).set (p:=⟨g,1,none⟩) (.inl (.inl rfl)) _,.inl rfl⟩
 ·have h1:=hb.put 1 (.int .i64 (8*((bM L).length:Int)));rw[jJ,cG,←OJ];simpa using h1
 ·unfold ak at ho ⊢;rw[jJ];exact ho.setOther (p:=⟨g,1,none⟩) (Own.ne_blk ho hb od) _
theorem sd(g:Nat)(A:Option Addr)(c:Nat)(L:List Bool)(B:Option Addr)(d:Nat)(l:List UInt8)(w:World)(h:Wri w g A c L)(hb:Bts w w.heap.size B l)(hL:L.length≤100000000)(hl:l.length≤100000000):
  Cl 272 #[.pointer (some ⟨g,0,none⟩),.slice B l.length d] w fun e w'=>e=.returned (.tuple #[])∧br g A (dl L++dH l) w w':=by
 obtain⟨EQ,ho⟩:=h;unfold ak at ho;have OJ:=aU L;have c0:=EQ.c0;have If:=EQ.lt;have HK:=Oh EQ;have HO:=Oh ho;have HB:=Oh hb;have hpm:(bM L).length≤20000000:=oq;clear EQ ho hb OJ;go_enter func272,ntmps272;go_wp2_with (at_builtin;refine Hid.out ?_);refine aj (xs:=bvs (bM L)) rfl rfl bu rfl HO.out rfl HB.out (aO _) ((bM L).length+l.length) rfl (bvs (bM L++l)) (aE _ _).symm (by unfold maxLen;omega) oq oq ?_;intro A3 c3 w3 o3 g3 q3;have dO:=HK.out.grown g3 (fun e=>Own.ne_blk HO.out HK.out od e.symm);have Xz:=dO.free;have WY:=dO.c0;have RW:ab (WK g A) w w3:=(ab.refl (WK g A) w).step (ab.of_grown g3) (fun i hi=>.inl (.inr hi));have hbn:aa A3≠some g:=Own.ne_blk o3 dO od;have oN:=Oh (dO.put 0 (.slice A3 ((bM L).length+l.length) c3));have Pk:=Oh (Own.setOther o3 (p:=⟨g,0,none⟩) hbn (.slice A3 ((bM L).length+l.length) c3));have RH:=Oh (RW.set (p:=⟨g,0,none⟩) (.inl (.inl rfl)) (.slice A3 ((bM L).length+l.length) c3));have YX:Hid (aa A3=aa A∨∃i,aa A3=some i∧w.heap.size≤i):=Oh (q3.imp id (fun e=>⟨_,e,Oi _⟩));have HBN:=Oh hbn;clear o3 g3 q3 dO RW hbn c0;go_wp2_with fail;refine(mX g A3 _ c3 _ _ oN.out oq).mono ?_;rintro e w5 ⟨rfl,rfl⟩;clear WY Xz;go_wp2_with fail;have hpk:bM (dl L++dH l)=bM L++l:=by rw[Bb _ _ (by rw[cG];omega),jJ]
 refine bodyPost_end (v:=.tuple #[]) (results_none results272 _ _ _) rfl ⟨rfl,A3,c3,⟨?_,?_⟩,RH.out.set (p:=⟨g,1,none⟩) (.inl (.inl rfl)) _,YX.out⟩
 ·have h1:=oN.out.put 1 (.int .i64 (8*((bM L).length+l.length:Nat)));rw[hpk,Ok,Ok,cG,dM,←aU];have e:((8*(bM L).length+8*l.length:Nat):Int)=8*(((bM L).length+l.length:Nat):Int):=oq;rw[e];simpa using h1
 ·have h1:=Own.setOther Pk.out (p:=⟨g,1,none⟩) HBN.out (.int .i64 (8*((bM L).length+l.length:Nat)));unfold ak;rw[hpk,Ok];exact h1
def cY(w:World)(l:List UInt8)(e:Ending)(w':World):Prop:=∃A c,e=.returned (.slice A l.length c)∧ak w' w.heap.size A c l∧Below w.heap.size w w'
theorem l7(A:Option Addr)(c:Nat)(l:List UInt8)(w:World)(hb:Bts w w.heap.size A l)(hl:l.length≤100000000):
  Cl 50 #[.slice A l.length c] w (cY w l):=by
 exact ve
theorem rU(g:Nat)(A:Option Addr)(c:Nat)(L:List Bool)(w:World)(h:Wri w g A c L)(hL:L.length≤100000000):
  Cl 270 #[.pointer (some ⟨g,0,none⟩)] w (cY w (bM L)):=by
 obtain⟨EQ,ho⟩:=h;have OJ:=aU L;have c0:=EQ.c0;have HC:=Oh (l7 A c (bM L) w (ak.reads ho) oq);clear EQ ho OJ;go_enter func270,ntmps270;exact iM
end
end Go.Proofs.YtmbippkpjdoojaaGreat.Bit
namespace Go.Proofs.YtmbippkpjdoojaaGreat.Mt
open Tryz
open Go.RowKit
def sm(b:List UInt8):Nat→Nat→Nat→Nat
 |_,_,0=>0
 |i,k,f+1=>if k<b.length∧b[i]?=b[k]? then sm b (i+1) (k+1) f+1 else 0
theorem zJ(b:List UInt8)(f i k:Nat):sm b i k f≤f:=by
 induction f generalizing i k with
 |zero=>simp[sm]
 |succ f ih=>
  unfold sm;split
  ·have:=ih (i+1) (k+1);omega
  ·omega
theorem MY(b:List UInt8)(f i k:Nat):sm b i k f=0∨k+sm b i k f≤b.length:=by
 induction f generalizing i k with
 |zero=>simp[sm]
 |succ f ih=>
  unfold sm;split
  ·rename_i h;rcases ih (i+1) (k+1) with h2|h2<;>omega
  ·exact .inl rfl
theorem si{b:List UInt8}{f i k n:Nat}(h:n<sm b i k f):b[i+n]?=b[k+n]?∧k+n<b.length:=by
 induction f generalizing i k n with
 |zero=>simp[sm] at h
 |succ f ih=>
  unfold sm at h;split at h
  ·rename_i h2
   cases n with
   |zero=>exact⟨h2.2,h2.1⟩
   |succ n=>
    have:=ih (i:=i+1) (k:=k+1) (n:=n) oq;rw[show i+(n+1)=i+1+n by omega,show k+(n+1)=k+1+n by omega];exact this
  ·omega
theorem MZ{b:List UInt8}{f i k n:Nat}(hf:n≤f)(h:∀j,j<n→b[i+j]?=b[k+j]?∧k+j<b.length):n≤sm b i k f:=by
 induction f generalizing i k n with
 |zero=>omega
 |succ f ih=>
  cases n with
  |zero=>exact Nat.zero_le _
  |succ n=>
   have h0:=h 0 oq;unfold sm;rw[if_pos ⟨h0.2,h0.1⟩]
   have:=ih (i:=i+1) (k:=k+1) (n:=n) oq (fun j hj=>by
    have:=h (j+1) oq;rw[show i+(j+1)=i+1+j by omega,show k+(j+1)=k+1+j by omega] at this;exact this)
   omega
theorem GQ{b:List UInt8}{f i k n:Nat}(hn:n<f)(h1:k+n<b.length)(h2:b[i+n]?=b[k+n]?)(h:n+sm b (i+n) (k+n) (f-n)=sm b i k f):n+1+sm b (i+(n+1)) (k+(n+1)) (f-(n+1))=sm b i k f:=by
 rw[←h,show f-n=f-(n+1)+1 by omega,sm,if_pos ⟨h1,h2⟩,show i+n+1=i+(n+1) by omega,show k+n+1=k+(n+1) by omega];omega
theorem xR{b:List UInt8}{f i k n:Nat}(hx:n=f∨¬k+n<b.length∨b[i+n]?≠b[k+n]?)(h:n+sm b (i+n) (k+n) (f-n)=sm b i k f):n=sm b i k f:=by
 rw[←h]
 have:sm b (i+n) (k+n) (f-n)=0:=by
  cases hc:f-n with
  |zero=>rfl
  |succ m=>
   unfold sm;rw[if_neg];rintro⟨h1,h2⟩;rcases hx with h3|h3|h3
   ·omega
   ·exact h3 h1
   ·exact h3 h2
 omega
def at3(b:List UInt8)(i:Nat)(x y z:UInt8):Bool:=b[i]?==some x&&b[i+1]?==some y&&b[i+2]?==some z
def ps(b:List UInt8)(n:Nat)(x y z:UInt8):List Nat:=(List.range n).filter fun i=>at3 b i x y z
theorem xW{b:List UInt8}{n p:Nat}{x y z:UInt8}:p∈ps b n x y z↔p<n∧b[p]?=some x∧b[p+1]?=some y∧b[p+2]?=some z:=by
 simp[ps,at3,and_assoc]
theorem rC(b:List UInt8)(n:Nat)(x y z:UInt8):ps b (n+1) x y z=if at3 b n x y z then ps b n x y z++[n] else ps b n x y z:=by
 unfold ps;rw[List.range_succ,List.filter_append]
 by_cases h:at3 b n x y z
 ·simp[h]
 ·simp[h]
theorem sv(b:List UInt8)(n:Nat)(x y z:UInt8):(ps b n x y z).length≤n:=by
 have:=List.length_filter_le (fun i=>at3 b i x y z) (List.range n);simpa [ps] using this
theorem AW(b:List UInt8)(n:Nat)(x y z:UInt8):(ps b n x y z).Pairwise (· < ·):=List.Pairwise.filter _ List.pairwise_lt_range
def pN(b:List UInt8)(a:Nat):List Nat→Nat×Nat→Nat×Nat
 | [],t=>t
 |p::r,t=>if 32768<a-p then t else
   if(if t.1<sm b p a 258 then(sm b p a 258,a-p) else t).1=258 then(if t.1<sm b p a 258 then(sm b p a 258,a-p) else t) else pN b a r (if t.1<sm b p a 258 then(sm b p a 258,a-p) else t)
def JP(b:List UInt8)(a:Nat)(P:Nat→Prop)(t:Nat×Nat):Prop:=
 (t=(0,0)∧∀p,P p→sm b p a 258=0)∨∃p,P p∧0<t.1∧t=(sm b p a 258,a-p)∧∀p',P p'→sm b p' a 258≤t.1∧(p<p'→sm b p' a 258<t.1)
theorem AD{b:List UInt8}{a:Nat}{L:List Nat}{t:Nat×Nat}{P:Nat→Prop}(hL:L.Pairwise (· > ·))(ha:∀p∈L,p<a)(hP:∀p,P p→∀q∈L,q<p)(h:JP b a P t)(ht:t.1<258):
  JP b a (fun p=>P p∨(p∈L∧a-p≤32768)) (pN b a L t):=by
 induction L generalizing t P with
 |nil=>
  simp only[pN];refine h.imp (fun⟨e,h⟩=>⟨e,fun p hp=>?_⟩) (fun⟨p,hp,h0,e,h⟩=>⟨p,.inl hp,h0,e,fun p' hp'=>?_⟩)
  ·rcases hp with hp|⟨hp,_⟩
   ·exact h p hp
   ·simp at hp
  ·rcases hp' with hp'|⟨hp',_⟩
   ·exact h p' hp'
   ·simp at hp'
 |cons p r ih=>
  have hpr:=List.pairwise_cons.1 hL;unfold pN
  by_cases hw:32768<a-p
  ·rw[if_pos hw]
   have Qc:∀q,q∈p::r→¬a-q≤32768:=fun q hq=>by
    rcases List.mem_cons.1 hq with rfl|hq
    ·omega
    ·have:=hpr.1 q hq;have:=ha p os';omega
   refine h.imp (fun⟨e,h⟩=>⟨e,fun q hq=>?_⟩) (fun⟨p0,hp,h0,e,h⟩=>⟨p0,.inl hp,h0,e,fun q hq=>?_⟩)
   ·rcases hq with hq|⟨hq,RQ⟩
    ·exact h q hq
    ·exact absurd RQ (Qc q hq)
   ·rcases hq with hq|⟨hq,RQ⟩
    ·exact h q hq
    ·exact absurd RQ (Qc q hq)
  ·rw[if_neg hw]
   have SN:JP b a (fun q=>P q∨q=p) (if t.1<sm b p a 258 then(sm b p a 258,a-p) else t):=by
    by_cases hlt:t.1<sm b p a 258
    ·rw[if_pos hlt];refine .inr ⟨p,.inr rfl,by simp only;omega,rfl,fun q hq=>?_⟩;rcases hq with hq|rfl
     ·have hpq:=hP q hq p os'
      have:sm b q a 258≤t.1:=by
       rcases h with⟨rfl,h⟩|⟨p0,_,_,_,h⟩
       ·rw[h q hq];exact Nat.zero_le _
       ·exact(h q hq).1
      simp only;omega
     ·exact⟨Oi _,fun hh=>absurd hh (Nat.lt_irrefl _)⟩
    ·rw[if_neg hlt];rcases h with⟨rfl,h⟩|⟨p0,hp0,h0,e,h⟩
     ·refine .inl ⟨rfl,fun q hq=>?_⟩;rcases hq with hq|rfl
      ·exact h q hq
      ·simp only at hlt;omega
     ·refine .inr ⟨p0,.inl hp0,h0,e,fun q hq=>?_⟩;rcases hq with hq|rfl
      ·exact h q hq
      ·have:=hP p0 hp0 q os';exact⟨oq,fun hh=>by omega⟩
   generalize(if t.1<sm b p a 258 then(sm b p a 258,a-p) else t)=t2 at*
   by_cases hm:t2.1=258
   ·rw[if_pos hm];rcases SN with⟨rfl,_⟩|⟨p0,hp0,h0,e,h2⟩
    ·simp at hm
    ·refine .inr ⟨p0,hp0.imp id (fun e=>⟨by simp[e],by subst e;omega⟩),h0,e,fun q hq=>?_⟩;have hle:=zJ b 258 q a;rcases hq with hq|⟨hq,RQ⟩
     ·exact h2 q (.inl hq)
     ·rcases List.mem_cons.1 hq with rfl|hq
      ·exact h2 q (.inr rfl)
      ·refine⟨oq,fun hh=>?_⟩;have h5:=hpr.1 q hq;rcases hp0 with hp0|rfl
       ·have:=hP p0 hp0 q (by simp[hq]);omega
       ·omega
   ·rw[if_neg hm]
    have hle:t2.1<258:=by
     rcases SN with⟨rfl,_⟩|⟨p0,_,_,e,_⟩
     ·simp
     ·have:=zJ b 258 p0 a;rw[e] at hm ⊢;simp only at hm ⊢;omega
    have hih:=ih (t:=t2) (P:=fun q=>P q∨q=p) hpr.2 (fun q hq=>ha q (by simp[hq])) (fun q hq q' hq'=>by
     rcases hq with hq|rfl
     ·exact hP q hq q' (by simp[hq'])
     ·exact hpr.1 q' hq') SN hle
    have ac9:∀q,((P q∨q=p)∨(q∈r∧a-q≤32768))↔(P q∨(q∈p::r∧a-q≤32768)):=fun q=>by
     constructor
     ·rintro((h|rfl)|⟨h,h2⟩)
      ·exact .inl h
      ·exact .inr ⟨by simp,oq⟩
      ·exact .inr ⟨by simp[h],h2⟩
     ·rintro(h|⟨h,h2⟩)
      ·exact .inl (.inl h)
      ·rcases List.mem_cons.1 h with rfl|h
       ·exact .inl (.inr rfl)
       ·exact .inr ⟨h,h2⟩
    rw[show(fun q=>(P q∨q=p)∨(q∈r∧a-q≤32768))=(fun q=>P q∨(q∈p::r∧a-q≤32768)) from funext fun q=>propext (ac9 q)] at hih;exact hih
def tok(b:List UInt8)(a:Nat):Nat×Nat:=if a+3≤b.length then pN b a (ps b a (b.getD a 0) (b.getD (a+1) 0) (b.getD (a+2) 0)).reverse (0,0) else(0,0)
theorem tw{b:List UInt8}{p a:Nat}(ha:a+3≤b.length)(_:p<a):3≤sm b p a 258↔(b[p]?=some (b.getD a 0)∧b[p+1]?=some (b.getD (a+1) 0)∧b[p+2]?=some (b.getD (a+2) 0)):=by
 have e:∀j,j<3→b[a+j]?=some (b.getD (a+j) 0):=fun j hj=>by
  rw[Oj oq,List.getD_eq_getElem?_getD,Oj oq];rfl
 constructor
 ·intro h;have h0:=si (b:=b) (f:=258) (i:=p) (k:=a) (n:=0) oq;have h1:=si (b:=b) (f:=258) (i:=p) (k:=a) (n:=1) oq;have h2:=si (b:=b) (f:=258) (i:=p) (k:=a) (n:=2) oq;exact⟨h0.1.trans (e 0 oq),h1.1.trans (e 1 oq),h2.1.trans (e 2 oq)⟩
 ·rintro⟨h0,h1,h2⟩;refine MZ oq fun j hj=>⟨?_,oq⟩;rw[e j hj]
  match j,hj with
  |0,_=>exact h0
  |1,_=>exact h1
  |2,_=>exact h2
theorem Cu{b:List UInt8}{a:Nat}(ha:a+3≤b.length):JP b a (fun p=>p<a∧a-p≤32768∧3≤sm b p a 258) (tok b a):=by
 unfold tok;rw[if_pos ha]
 have h:=AD (b:=b) (a:=a) (L:=(ps b a (b.getD a 0) (b.getD (a+1) 0) (b.getD (a+2) 0)).reverse) (t:=(0,0)) (P:=fun _=>False)
  (by rw[List.pairwise_reverse];exact AW _ _ _ _ _) (fun p hp=>(xW.1 (by simpa using hp)).1) (fun _ h=>h.elim) (.inl ⟨rfl,fun _ h=>h.elim⟩) os'
 have e:(fun p=>False∨(p∈(ps b a (b.getD a 0) (b.getD (a+1) 0) (b.getD (a+2) 0)).reverse∧a-p≤32768))=(fun p=>p<a∧a-p≤32768∧3≤sm b p a 258):=by
  funext p
  apply propext
  rw[List.mem_reverse,xW];constructor
  ·rintro(h|⟨⟨h1,h2⟩,h3⟩)
   ·exact h.elim
   ·exact⟨h1,h3,(tw ha h1).2 h2⟩
  ·rintro⟨h1,h2,h3⟩;exact .inr ⟨⟨h1,(tw ha h1).1 h3⟩,h2⟩
 rw[e] at h;exact h
theorem Fl(b:List UInt8)(a:Nat):tok b a=(0,0)∨∃p,p<a∧a-p≤32768∧3≤sm b p a 258∧a+sm b p a 258≤b.length∧tok b a=(sm b p a 258,a-p):=by
 by_cases ha:a+3≤b.length
 ·rcases Cu ha with⟨h,_⟩|⟨p,hp,h0,h,_⟩
  ·exact .inl h
  ·refine .inr ⟨p,hp.1,hp.2.1,hp.2.2,?_,h⟩;rcases MY b 258 p a with h1|h1
   ·omega
   ·exact h1
 ·left
  unfold tok;rw[if_neg ha]
theorem my(b:List UInt8)(a:Nat):((tok b a).1=0∧(tok b a).2=0)∨(3≤(tok b a).1∧(tok b a).1≤258∧a+(tok b a).1≤b.length∧1≤(tok b a).2∧(tok b a).2≤a∧(tok b a).2≤32768):=by
 rcases Fl b a with h|⟨p,h1,h2,h3,h4,h⟩
 ·rw[h];exact .inl ⟨rfl,rfl⟩
 ·right
  have:=zJ b 258 p a;rw[h];simp only;omega
theorem Fk(b:List UInt8){a:Nat}(h:a<b.length):a+max 1 (tok b a).1≤b.length:=by
 rcases my b a with h1|h1<;>omega
abbrev Tk:=UInt8×Nat×Nat
def mk(b:List UInt8)(a:Nat):Tk:=if(tok b a).1=0 then(b.getD a 0,0,0) else(0,(tok b a).1,(tok b a).2)
theorem FC(b:List UInt8)(a:Nat):(mk b a).2.1=(tok b a).1:=by
 unfold mk;split
 ·rename_i h;exact h.symm
 ·rfl
theorem Hz(b:List UInt8)(a:Nat):(mk b a).2.2=(tok b a).2:=by
 unfold mk;split
 ·rcases my b a with h|h
  ·exact h.2.symm
  ·omega
 ·rfl
def fN(b:List UInt8)(a:Nat):List Tk:=if a<b.length then mk b a::fN b (a+max 1 (tok b a).1) else[]
termination_by b.length-a
theorem lj{b:List UInt8}{a:Nat}(h:a<b.length):fN b a=mk b a::fN b (a+max 1 (tok b a).1):=by rw[fN,if_pos h]
theorem nK{b:List UInt8}{a:Nat}(h:b.length≤a):fN b a=[]:=by rw[fN,if_neg oq]
theorem th{b:List UInt8}{P:Nat→Prop}(h0:P b.length)(h:∀a,a<b.length→P (a+max 1 (tok b a).1)→P a):∀a,a≤b.length→P a:=by
 have H:∀n a,a≤b.length→b.length-a≤n→P a:=by
  intro n
  induction n with
  |zero=>
   intro a h1 h2;obtain rfl:a=b.length:=oq;exact h0
  |succ n ih=>
   intro a h1 h2;rcases Nat.lt_or_ge a b.length with h3|h3
   ·exact h a h3 (ih _ (Fk b h3) oq)
   ·obtain rfl:a=b.length:=oq;exact h0
 exact fun a ha=>H _ a ha (Oi _)
theorem sC{b:List UInt8}:∀a,a≤b.length→(fN b a).length≤b.length-a:=
 th (by rw[nK (Oi _)];simp) fun a h ih=>by
  rw[lj h,List.length_cons];omega
def rm(b:List UInt8)(k:Nat):Nat→List UInt8
 |0=>b
 |n+1=>rm b k n++[(rm b k n).getD ((rm b k n).length-k) 0]
def zI(b:List UInt8)(t:Tk):List UInt8:=if t.2.2=0 then b++[t.1] else rm b t.2.2 t.2.1
def ye(t:Tk)(n:Nat):Prop:=(t.2.1=0∧t.2.2=0∧n<1048576)∨(t.1=0∧1≤t.2.2∧t.2.2≤32768∧t.2.2≤n∧3≤t.2.1∧t.2.1≤258∧t.2.1+n≤1048576)
def yd:List UInt8→List Tk→Prop
 |_,[]=>True
 |b,t::l=>ye t b.length∧yd (zI b t) l
theorem Gx{b:List UInt8}{a:Nat}(h:a<b.length):zI (b.take a) (mk b a)=b.take (a+max 1 (tok b a).1):=by
 rcases Fl b a with h1|⟨p,h1,h2,h3,h4,h5⟩
 ·unfold zI mk;rw[h1];simp only[if_true];rw[show a+max 1 0=a+1 by omega,List.take_succ_eq_append_getElem h,List.getD_eq_getElem?_getD,Oj h];rfl
 ·have hm:mk b a=(0,sm b p a 258,a-p):=by
   unfold mk;rw[h5,if_neg (by simp only;omega)]
  rw[hm,h5];unfold zI;simp only;rw[if_neg oq]
  have H:∀n,n≤sm b p a 258→rm (b.take a) (a-p) n=b.take (a+n):=by
   intro n
   induction n with
   |zero=>intro _;rfl
   |succ n ih=>
    intro hn;have hg:=si (b:=b) (f:=258) (i:=p) (k:=a) (n:=n) oq;rw[rm,ih oq,List.length_take,Nat.min_eq_left oq,show a+n-(a-p)=p+n by omega,←Nat.add_assoc,List.take_succ_eq_append_getElem oq];rw[List.getD_eq_getElem?_getD,List.getElem?_take,if_pos oq,hg.1,Oj oq];rfl
  rw[H _ (Oi _),Nat.max_eq_right oq]
theorem DA{b:List UInt8}{a:Nat}(h:a<b.length)(hm:b.length≤1048576):ye (mk b a) a:=by
 unfold ye mk;rcases my b a with h1|h1
 ·rw[if_pos h1.1];exact .inl ⟨rfl,rfl,oq⟩
 ·rw[if_neg oq];exact .inr ⟨rfl,by simp only;omega⟩
theorem wI{b:List UInt8}(hm:b.length≤1048576):∀a,a≤b.length→yd (b.take a) (fN b a):=
 th (by rw[nK (Oi _)];trivial) fun a h ih=>by
  rw[lj h];refine⟨?_,?_⟩
  ·rw[List.length_take,Nat.min_eq_left oq];exact DA h hm
  ·rw[Gx h];exact ih
end Go.Proofs.YtmbippkpjdoojaaGreat.Mt
namespace Go.Proofs.YtmbippkpjdoojaaGreat
open Tryz
open Go.RowKit
namespace Df
open Bt Mt
def pM(ls:List UInt8)(n k:Nat):List Nat:=(List.range k).filter fun i=>(ls.getD i 0).toNat==n
theorem pW(ls:List UInt8)(n:Nat):pM ls n 0=[]:=rfl
theorem iZ(ls:List UInt8)(n k:Nat):pM ls n (k+1)=pM ls n k++if(ls.getD k 0).toNat=n then[k] else[]:=by
 unfold pM;rw[List.range_succ,List.filter_append]
 congr 1
 by_cases h:(ls.getD k 0).toNat=n
 ·rw[if_pos h,List.filter_cons_of_pos (by simpa using h)];rfl
 ·rw[if_neg h,List.filter_cons_of_neg (by simpa using h)];rfl
def mt(ls:List UInt8):Nat→List Nat
 |0=>[]
 |n+1=>mt ls n++pM ls (n+1) ls.length
def io(ls:List UInt8):List Nat:=mt ls 15
theorem GG{ls:List UInt8}{n k i:Nat}(h:i∈pM ls n k):i<k:=List.mem_range.1 (List.mem_filter.1 h).1
theorem yl{ls:List UInt8}:∀{n i:Nat},i∈mt ls n→i<ls.length
 |0,i,h=>by cases h
 |n+1,i,h=>by
  rcases List.mem_append.1 h with h|h
  ·exact yl h
  ·exact GG h
theorem nN(ls:List UInt8)(n k:Nat):(pM ls n k).length≤k:=by
 have h:=List.length_filter_le (fun i=>(ls.getD i 0).toNat==n) (List.range k)
 rwa [List.length_range] at h
theorem nM(ls:List UInt8):∀n,(mt ls n).length≤n*ls.length
 |0=>by simp[mt]
 |n+1=>by
  have h1:=nM ls n;have h2:=nN ls (n+1) ls.length;rw[mt,Ok,Nat.add_mul];omega
def dC(ls:List UInt8)(s:Nat×Nat×List Nat)(i:Nat):Nat×Nat×List Nat:=
 let n:=(ls.getD i 0).toNat
 let c:=s.1*2^((n+256-s.2.1)%256)%4294967296
 ((c+1)%4294967296,n,s.2.2.set i c)
def fS(ls:List UInt8):List Nat:=((io ls).foldl (dC ls) (0,0,List.replicate ls.length 0)).2.2
theorem qZ(ls:List UInt8)(s:Nat×Nat×List Nat)(i:Nat):(dC ls s i).2.2.length=s.2.2.length:=by simp[dC]
def lV(ls:List UInt8):Nat:=(ls.map fun x=>if x.toNat=0 then 0 else 2^(15-x.toNat)).sum
def bf:List UInt8:=List.replicate 144 8++List.replicate 112 9++List.replicate 24 7++List.replicate 8 8
def aN:List UInt8:=List.replicate 32 5
def iw(s:Nat):Nat×Nat:=
 if s<257∨285<s then(0,0) else if s=285 then(258,0) else if s-257<8 then(3+(s-257),0)
 else(3+(4+(s-257)%4)*2^((s-257)/4-1),(s-257)/4-1)
def cZ(s:Nat):Nat×Nat:=
 if 29<s then(0,0) else if s<4 then(1+s,0) else(1+(2+s%2)*2^(s/2-1),s/2-1)
def cN(of:Nat→Nat×Nat)(first n:Nat):Nat→Nat×Nat×Nat
 |0=>(0,0,0)
 |k+1=>if(of (first+k)).1≤n then(first+k,(of (first+k)).2,n-(of (first+k)).1) else cN of first n k
def aG(n:Nat):Nat×Nat×Nat:=cN iw 257 n 29
def de(n:Nat):Nat×Nat×Nat:=cN cZ 0 n 30
def rY:List Nat:=fS bf
def jx:List Nat:=fS aN
def ro(n c:Nat):List Bool:=(gb n c).reverse
def jP(s:Nat):List Bool:=ro (rY.getD s 0) (bf.getD s 0).toNat
def la(s:Nat):List Bool:=ro (jx.getD s 0) (aN.getD s 0).toNat
def rW(t:Nat×Nat×Nat):List Bool:=
 if t.2.2=0 then jP t.1
 else jP (aG t.2.1).1++gb (aG t.2.1).2.2 (aG t.2.1).2.1++la (de t.2.2).1++gb (de t.2.2).2.2 (de t.2.2).2.1
def fu(l:List Tk):List Bool:=l.flatMap fun t=>rW (t.1.toNat,t.2.1,t.2.2)
def LY(b:List UInt8):List Bool:=gb 1 1++gb 1 2++fu (fN b 0)++jP 256
def jj(b:List UInt8):List UInt8:=bM (LY b)
def oX(L:List Bool)(last:Nat)(b:List UInt8):List Bool:=
 dl (L++gb last 1++gb 0 2)++gb b.length 16++gb (65535-b.length) 16++dH b
def kQ:Nat→List Bool→List UInt8→List Bool
 |0,L,b=>oX L 1 b
 |k+1,L,b=>if b.length≤65535 then oX L 1 b else kQ k (oX L 0 (b.take 65535)) (b.drop 65535)
def dp(b:List UInt8):List UInt8:=bM (kQ 17 [] b)
def pA(b:List UInt8):List UInt8:=if(dp b).length<(jj b).length then dp b else jj b
theorem iI:bf.length=288:=by decide+kernel
theorem vK:rY.length=288:=by decide+kernel
theorem pZ:jx.length=32:=by decide+kernel
theorem I6:(List.range 288).all (fun s=>decide (rY.getD s 0<2^(bf.getD s 0).toNat)&&decide ((bf.getD s 0).toNat≤9)&&decide (7≤(bf.getD s 0).toNat))=true:=by decide+kernel
theorem CL:(List.range 32).all (fun s=>decide (jx.getD s 0=s))=true:=by decide+kernel
theorem I7:(List.range 259).all (fun n=>decide (n<3)||(decide (257≤(aG n).1)&&decide ((aG n).1≤285)&&decide ((aG n).2.1≤5)&&decide ((aG n).2.2<2^(aG n).2.1)&&decide (iw (aG n).1=(n-(aG n).2.2,(aG n).2.1))&&decide ((aG n).2.2≤n)))=true:=by decide+kernel
theorem zf:(List.range 30).all (fun s=>decide ((cZ s).1+2^(cZ s).2=if s=29 then 32769 else(cZ (s+1)).1)&&decide ((cZ s).2≤13)&&decide (1≤(cZ s).1))=true:=by decide+kernel
theorem GN:∀(k n:Nat),k≤30→1≤n→n<(if k=30 then 32769 else(cZ k).1)→0<k→
  (cN cZ 0 n k).1<k∧(cZ (cN cZ 0 n k).1).1≤n∧(cN cZ 0 n k).2=((cZ (cN cZ 0 n k).1).2,n-(cZ (cN cZ 0 n k).1).1)∧n-(cZ (cN cZ 0 n k).1).1<2^(cZ (cN cZ 0 n k).1).2:=by
 intro k
 induction k with
 |zero=>intro n _ _ _ h;omega
 |succ k ih=>
  intro n hk h1 hn _;have lT:=List.all_eq_true.1 zf k (List.mem_range.2 oq);simp only[Bool.and_eq_true,decide_eq_true_eq] at lT;unfold cN;rw[Nat.zero_add]
  by_cases h:(cZ k).1≤n
  ·rw[if_pos h];refine⟨Nat.lt_succ_self _,h,rfl,?_⟩;have e:=lT.1.1;show n-(cZ k).1<2^(cZ k).2
   by_cases a6Z:k=29
   ·subst a6Z;rw[if_pos rfl] at e hn;omega
   ·rw[if_neg a6Z] at e;rw[if_neg oq] at hn;omega
  ·rw[if_neg h]
   have VZ:0<k:=by
    rcases Nat.eq_zero_or_pos k with rfl|h0
    ·exact absurd (show(cZ 0).1≤n from h1) h
    ·exact h0
   obtain⟨a,b⟩:=ih n oq h1 (by rw[if_neg oq];omega) VZ;exact⟨oq,b⟩
theorem tq{n:Nat}(h1:1≤n)(h:n≤32768):(de n).1<30∧(cZ (de n).1).1≤n∧(de n).2=((cZ (de n).1).2,n-(cZ (de n).1).1)∧n-(cZ (de n).1).1<2^(cZ (de n).1).2:=
 GN 30 n (Oi _) h1 (by rw[if_pos rfl];omega) oq
theorem zg{s:Nat}(h:s<30):(cZ s).2≤13∧1≤(cZ s).1:=by
 have lT:=List.all_eq_true.1 zf s (List.mem_range.2 h);simp only[Bool.and_eq_true,decide_eq_true_eq] at lT;exact⟨lT.1.2,lT.2⟩
theorem nj{n:Nat}(h3:3≤n)(h:n≤258):257≤(aG n).1∧(aG n).1≤285∧(aG n).2.1≤5∧(aG n).2.2<2^(aG n).2.1∧iw (aG n).1=(n-(aG n).2.2,(aG n).2.1)∧(aG n).2.2≤n:=by
 have lT:=List.all_eq_true.1 I7 n (List.mem_range.2 oq);simp only[Bool.and_eq_true,Bool.or_eq_true,decide_eq_true_eq] at lT;rcases lT with h|h
 ·omega
 ·exact⟨h.1.1.1.1.1,h.1.1.1.1.2,h.1.1.1.2,h.1.1.2,h.1.2,h.2⟩
theorem FF{s:Nat}(h:s<288):rY.getD s 0<2^(bf.getD s 0).toNat∧(bf.getD s 0).toNat≤9∧7≤(bf.getD s 0).toNat:=by
 have lT:=List.all_eq_true.1 I6 s (List.mem_range.2 h);simp only[Bool.and_eq_true,decide_eq_true_eq] at lT;exact⟨lT.1.1,lT.1.2,lT.2⟩
theorem kC{s:Nat}(h:s<288):(jP s).length≤9:=by
 unfold jP ro;rw[List.length_reverse,ao];exact(FF h).2.1
end Df
namespace Hu
open Go.RowKit
open Bit Bt Mt Df
theorem Mw(x y:Nat)(hx:x<18446744073709551616)(hy:y<18446744073709551616)(w:World):
  Cl 391 #[.int .u64 (x:Int),.int .u64 (y:Int)] w (Rt (.tuple #[.int .u64 ((x*y/18446744073709551616:Nat):Int),.int .u64 ((x*y%18446744073709551616:Nat):Int)]) w):=by
 have HM:=Oh (yJ x y hx hy w);generalize x*y/18446744073709551616=H at*;generalize x*y%18446744073709551616=L at*;clear hx hy;go_enter func391,ntmps391;go_wp2_with fail;refine HM.out.mono ?_;rintro e w1 ⟨rfl,rfl⟩;go_wp2_with fail;go_ret2;exact⟨rfl,rfl⟩
def dN(n m:Nat)(x:UInt8):List UInt8:=List.replicate m x++List.replicate (n-m) 0
theorem tF{n m:Nat}(x:UInt8)(h:m≤n):(dN n m x).length=n:=by simp[dN];omega
theorem D3{n m j:Nat}{x:UInt8}(h:j<m):(bvs (dN n m x))[j]?=some (bv x):=by
 simp only[dN,bvs,List.map_append,List.map_replicate];rw[List.getElem?_append_left (by simpa using h),List.getElem?_replicate,if_pos h]
theorem qd{n m k:Nat}(x:UInt8)(h:m+k≤n):(bvs (dN n m x)).take m++bvs (List.replicate k x)++(bvs (dN n m x)).drop (m+(bvs (List.replicate k x)).length)=bvs (dN n (m+k) x):=by
 simp only[dN,bvs,List.map_append,List.map_replicate,List.length_replicate];rw[List.take_append_of_le_length os',List.take_of_length_le os',List.drop_append,List.drop_of_length_le os',List.drop_replicate,List.length_replicate,List.nil_append,List.replicate_append_replicate]
 congr 2
 omega
theorem AG(n:Nat)(x:UInt8):dN n n x=List.replicate n x:=by simp[dN]
theorem AF(n:Nat)(x:UInt8):dN n 0 x=List.replicate n 0:=by simp[dN]
theorem tI(A:Option Addr)(c n:Nat)(x:UInt8)(w:World)(hb:Bts w w.heap.size A [x])(h1:1≤n)(h2:n≤1000):
  Cl 334 #[.slice A 1 c,.int .i64 (n:Int)] w fun e w'=>e=.returned (.slice (some ⟨w.heap.size,0,none⟩) n n)∧Blk w' w.heap.size 5 (bvs (List.replicate n x)).toArray∧Below w.heap.size w w':=by
 have HM:Hid (∀W,Cl 391 #[.int .u64 1,.int .u64 (n:Int)] W (Rt (.tuple #[.int .u64 0,.int .u64 (n:Int)]) W)):=Oh (fun W=>by
  have h:=Mw 1 n od oq W;rw[Nat.one_mul,Nat.div_eq_of_lt oq,Nat.mod_eq_of_lt oq] at h;exact h)
 obtain⟨ba,oa,rfl,hba,Wj⟩:=hb.at_ os';have Gt:=Wj 0 os';rw[Nat.add_zero] at Gt
 have Zm:madeCells (Value.cells (.int .u8 0)) (n*1)=(bvs (dN n 0 x)).toArray:=by
  rw[Nat.mul_one,AF];have h:=toList_madeCells_one (.int .u8 0) n;rw[show bvs (List.replicate n 0)=List.replicate n (.int .u8 0) by simp[bvs,bv],←h];rfl
 have hmk:=fun W=>j8 (P:=prog) underlying24 (z:=.int .u8 0) (size:=1) (bytes:=1) ok' .i64 .i64 n oq oq W;rw[Zm] at hmk;have x0:IntKind.u64.wrap (n:Int)=(n:Int):=u6;have x1:IntKind.i64.wrap (n:Int)=(n:Int):=i6;have x2:decide ((n:Int)<0)=false:=by simp
 have x3:decide ((9223372036854775807:Int)<(n:Int))=false:=sq;have x4:decide (9223372036854775807<n)=false:=sq
 have U4:∀(W:World) (ty:TypeId),W.heap[w.heap.size]?=some (.cells (bvs (dN n 0 x)).toArray 5 (0,0))→W.cell? ⟨ba,oa,none⟩=some (.int .u8 (x.toNat:Int))→(Builtin.copy_ #[24,24] ty #[.slice (some ⟨w.heap.size,0,none⟩) n n,.slice (some ⟨ba,oa,none⟩) 1 c]).run prog W=.ok (goInt 1) (W.setRow w.heap.size (bvs (dN n 1 x)).toArray):=fun W ty hg h0=>by
  have hr:=du (P:=prog) (w:=W) 24 24 ty 5 w.heap.size 0 n n ⟨ba,oa,none⟩ 1 c _ 5 (bvs (List.replicate 1 x)) 1 1 underlying24 ok' hg (show _=min _ _ by omega) rfl (fun j v hj=>by
   have Yc:j=0:=by have:=(List.getElem?_eq_some_iff.1 hj).1;rw[bj,List.length_replicate] at this;omega
   subst Yc;simp only[bvs,List.replicate_succ,List.map_cons,List.getElem?_cons_zero,Option.some.injEq] at hj;rw[fM,Nat.add_zero,h0,←hj];rfl) (by simp[bj,tF x (show 0≤n by omega)];omega) (aO _)
  rw[show((bvs (dN n 0 x)).toArray.toList)=bvs (dN n 0 x) from rfl,qd x (show 0+1≤n by omega)] at hr;exact hr
 have V1:∀(W:World) (ty:TypeId) (m k dc sc:Nat),m+k≤n→k=min m (n-m)→W.heap[w.heap.size]?=some (.cells (bvs (dN n m x)).toArray 5 (0,0))→(Builtin.copy_ #[24,24] ty #[.slice (some ⟨w.heap.size,m,none⟩) (n-m) dc,.slice (some ⟨w.heap.size,0,none⟩) m sc]).run prog W=.ok (goInt k) (W.setRow w.heap.size (bvs (dN n (m+k) x)).toArray):=fun W ty m k dc sc hmk hk hg=>by
  have hr:=du (P:=prog) (w:=W) 24 24 ty 5 w.heap.size m (n-m) dc ⟨w.heap.size,0,none⟩ m sc _ 5 (bvs (List.replicate k x)) 1 k underlying24 ok' hg (show _=min _ _ from hk) (by simp[bvs]) (fun j v hj=>by
   have Qi:=(List.getElem?_eq_some_iff.1 hj).1;rw[bj,List.length_replicate] at Qi;rw[fM,Nat.zero_add,cell_of_row W _ j _ _ _ hg];have h1:=D3 (n:=n) (x:=x) (show j<m by omega);simp only[bvs,List.map_replicate,List.getElem?_replicate,if_pos Qi] at hj;rw[←hj];simpa using h1) (by rw[bj,List.length_replicate];simp[bj,tF x (show m≤n by omega)];omega) (aO _)
  rw[show((bvs (dN n m x)).toArray.toList)=bvs (dN n m x) from rfl,qd x hmk] at hr;exact hr
 have Tt:=Oh U4;have X8:=Oh V1;have HN:=Oh (And.intro h1 h2);clear hb U4 V1 h1 h2 Wj;go_enter func334,ntmps334;go_wp2_with fail;refine(HM.out _).mono ?_;rintro e w1 ⟨rfl,rfl⟩;have k0:∀o,(w.alloc o).cell? ⟨ba,oa,none⟩=some (.int .u8 (x.toNat:Int)):=fun o=>(World.cell?_alloc_lt w o _ hba).trans Gt;go_wp2_with (first|(with_reducible refine ep rfl _ _ 24 24 rfl _ _ rfl rfl (Tt.out _ _ (heap_alloc_new w _) (k0 _)) ?_)|fail);have T7:Hid (Blk ((w.alloc (.cells (bvs (dN n 0 x)).toArray 5)).setRow w.heap.size (bvs (dN n 1 x)).toArray) w.heap.size 5 (bvs (dN n 1 x)).toArray):=Oh (setRow_heap _ _ _ _ _ _ (heap_alloc_new w _));have aS:Hid (Below w.heap.size w ((w.alloc (.cells (bvs (dN n 0 x)).toArray 5)).setRow w.heap.size (bvs (dN n 1 x)).toArray)):=Oh (below_setRow (Ba) (Oi _) _);generalize(w.alloc (.cells (bvs (dN n 0 x)).toArray 5)).setRow w.heap.size (bvs (dN n 1 x)).toArray=W1 at*;obtain⟨N,hN⟩:=nm (w.heap.size);rw[←hN] at Tt X8 T7 aS ⊢;have HNN:=Oh hN;clear hN Zm hmk k0 Gt Tt HM x2 x3 x4;go_loopw [8] (fun v wr=>∃m:Nat,1≤m∧m≤n∧v=.int .i64 (m:Int)∧Blk wr N 5 (bvs (dN n m x)).toArray∧Below N w wr) (fun v _=>n-(intOf v).toNat)
 case atStart=>exact⟨1,Oi _,HN.out.1,rfl,T7.out,aS.out⟩
 case round=>
  obtain⟨m,gE,hmn,rfl,hblk,aC⟩:=hrel;have HR:=Oh hblk;have HB:=Oh aC;clear hblk aC T7 aS
  by_cases hlt:m<n
  ·obtain⟨k,hk⟩:=nm (min m (n-m));have HK:Hid (m+k≤n∧k=min m (n-m)):=Oh ⟨oq,hk⟩;have HKP:Hid (1≤k∧m+k≤n):=Oh ⟨oq,oq⟩;have hmi:(m:Int)<(n:Int):=oq;have y1:(n:Int)-(m:Int)=((n-m:Nat):Int):=oq;have y2:IntKind.i64.wrap ((m:Int)+(k:Int))=((m+k:Nat):Int):=by rw[show(m:Int)+(k:Int)=((m+k:Nat):Int) by omega];exact Ol _ ⟨oq,by have:=HN.out;omega⟩
   clear hk;go_upto_region 9 with(fail);refine wp_region_noPanic ?_;refine ag (S:=(fun(V:World)=>V.heap[N]?=some (.cells (bvs (dN n m x)).toArray 5 (0,0)))) (L:=7) ok' HR.out (fun hHeld=>?_);refine fV 0 ?_;refine tV 1 ?_;refine tV 2 ?_;refine tV 3 ?_;refine tV 4 ?_;refine tV 5 ?_;refine tV 6 ?_;refine iV 7 fun K hK=>?_;refine fC rfl _ _ 24 24 rfl _ _ (by simp[Act.eval];exact⟨oq,rfl⟩) (by simp[Act.eval];rfl) (X8.out _ _ m k _ _ HK.out.1 HK.out.2 hHeld) ?_;refine hK.out _ _ ?_;clear hK K;try go_simp
   refine aA 8 ?_;refine aA 9 ?_;refine cD ?_;go_roundw
   case rel=>
    refine⟨_,_,_,_,_,_,_,_,_,_,_,_,_,_,?_,rfl⟩;exact⟨m+k,by have:=HKP.out;omega,HKP.out.2,by simp,setRow_heap _ _ _ _ _ _ hHeld,below_setRow HB.out.drew (by have:=HNN.out;omega) _⟩
   case measure=>exact ms HKP
  ·obtain rfl:m=n:=oq;clear hlt;have hmm:¬((m:Int)<(m:Int)):=oq;go_wp2_with fail;go_ret;have hN:=HNN.out;subst hN;exact⟨rfl,by rw[←AG];exact HR.out,HB.out⟩
theorem zu(l:List UInt8)(i:Nat)(y:UInt8):(bvs l).toArray.setIfInBounds i (.int .u8 (y.toNat:Int))=(bvs (l.set i y)).toArray:=by
 simp[bvs,List.map_set,bv]
def l8(k j:Nat):List UInt8:=(List.range 288).map fun i=>if 144≤i∧i<144+k then 9 else if 256≤i∧i<256+j then 7 else 8
theorem Bx:l8 0 0=List.replicate 288 8:=by decide+kernel
theorem En:l8 112 24=bf:=by decide+kernel
theorem oD(k j:Nat):(l8 k j).length=288:=by simp[l8]
theorem gI(k j:Nat){i:Nat}(h:i<288):(l8 k j)[i]?=some (if 144≤i∧i<144+k then 9 else if 256≤i∧i<256+j then 7 else 8):=by
 unfold l8;rw[List.getElem?_map,List.getElem?_range h];rfl
theorem vY{k j k2 j2 p:Nat}{y:UInt8}(hp:p<288)(hy:(l8 k2 j2)[p]?=some y)(ho:∀i,i<288→i≠p→((if 144≤i∧i<144+k then 9 else if 256≤i∧i<256+j then 7 else 8:UInt8)=if 144≤i∧i<144+k2 then 9 else if 256≤i∧i<256+j2 then 7 else 8)):(l8 k j).set p y=l8 k2 j2:=by
 apply List.ext_getElem?
 intro i;rw[List.getElem?_set,oD]
 by_cases hi:i<288
 ·by_cases he:p=i
  ·subst he;rw[if_pos rfl,if_pos hp,hy]
  ·rw[if_neg he,gI _ _ hi,gI _ _ hi,ho i hi (fun e=>he e.symm)]
 ·rw[if_neg oq,List.getElem?_eq_none (by rw[oD];omega),List.getElem?_eq_none (by rw[oD];omega)]
theorem LZ{k:Nat}(h:k<112):(l8 k 0).set (144+k) 9=l8 (k+1) 0:=by
 refine vY oq ?_ ?_
 ·rw[gI _ _ oq,if_pos oq]
 ·intro i _ hn;have e:(144≤i∧i<144+k)↔(144≤i∧i<144+(k+1)):=oq;simp only[e]
theorem M0{j:Nat}(h:j<24):(l8 112 j).set (256+j) 7=l8 112 (j+1):=by
 refine vY oq ?_ ?_
 ·rw[gI _ _ oq,if_neg oq,if_pos oq]
 ·intro i _ hn;have e:(256≤i∧i<256+j)↔(256≤i∧i<256+(j+1)):=oq;simp only[e]
def NJ(w:World)(L:List UInt8)(n:Nat)(e:Ending)(w':World):Prop:=∃g,e=.returned (.slice (some ⟨g,0,none⟩) n n)∧w.heap.size≤g∧Blk w' g 5 (bvs L).toArray∧Below w.heap.size w w'
theorem GM(w:World):Cl 264 #[] w (NJ w aN 32):=by
 have HR:=Oh (fun W A c (hb:Bts W W.heap.size A [5])=>tI A c 32 5 W hb oq oq);go_enter func264,ntmps264;go_wp2_with fail;refine(HR.out _ _ _ (cX w 5)).mono ?_;rintro e w1 ⟨rfl,h1,b1⟩;rw[show(w.alloc (.cells #[.int .u8 ((5:UInt8).toNat:Int)] 5)).heap.size=w.heap.size+1 by simp] at h1;have HB:=Oh h1;have HW:Hid (Below w.heap.size w w1):=Oh (ai (Ba) b1);clear h1 b1;go_wp2_with fail;go_ret;exact⟨_,rfl,oq,HB.out,HW.out⟩
theorem IT(w:World):Cl 263 #[] w (NJ w bf 288):=by
 have HR:=Oh (fun W A c (hb:Bts W W.heap.size A [8])=>tI A c 288 8 W hb oq oq);go_enter func263,ntmps263;go_wp2_with fail;refine(HR.out _ _ _ (cX w 8)).mono ?_;rintro e w1 ⟨rfl,h1,b1⟩;rw[←Bx] at h1;have HB:=Oh h1;have HW:Hid (Below w.heap.size w w1):=Oh (ai (Ba) b1);have HG:Hid (w.heap.size≤(w.alloc (.cells #[.int .u8 ((8:UInt8).toNat:Int)] 5)).heap.size):=Oh os';clear h1 b1 HR;generalize(w.alloc (.cells #[.int .u8 ((8:UInt8).toNat:Int)] 5)).heap.size=G at*;go_wp2_with fail;go_loopw [2] (fun v wr=>∃k:Nat,k≤112∧v=.int .i64 ((144+k:Nat):Int)∧Blk wr G 5 (bvs (l8 k 0)).toArray∧Below w.heap.size w wr) (fun v _=>256-(intOf v).toNat)
 case atStart=>exact⟨0,oq,rfl,HB.out,HW.out⟩
 case round=>
  obtain⟨k,hk,rfl,hblk,aC⟩:=hrel;have bY:=Oh hblk;have ZC:=Oh aC;have fr:=hblk.free;clear hblk aC HB HW
  by_cases hlt:k<112
  ·have HN:=Oh (LZ hlt);have hc:∃v,wr.cell? ⟨G,144+k,none⟩=some v:=⟨_,by rw[bY.out.cell];simp[bvs,gI k 0 (show 144+k<288 by omega)];rfl⟩;obtain⟨v,hc⟩:=hc;have hlt':((144+k:Nat):Int)<256:=oq;have PT:((144+k:Nat):Int)<288:=oq;obtain⟨p,hp⟩:=nm (144+k);rw[←hp] at hlt' PT hc HN ⊢;have HP:=Oh (And.intro hp hlt);clear hp hlt hk;go_wp2_with fail;go_roundw
   case rel=>
    refine⟨k+1,by have:=HP.out;omega,by have:=HP.out;go_num,?_,ZC.out.setCell (by have:=HG.out;exact this) _⟩;have h:=bY.out.put p (.int .u8 ((9:UInt8).toNat:Int));rw[zu,HN.out] at h;exact h
   case measure=>simp[intOf];omega
  ·obtain rfl:k=112:=oq;clear hlt hk;go_wp2_with fail;go_loopw [3] (fun v wr=>∃j:Nat,j≤24∧v=.int .i64 ((256+j:Nat):Int)∧Blk wr G 5 (bvs (l8 112 j)).toArray∧Below w.heap.size w wr) (fun v _=>280-(intOf v).toNat)
   case atStart=>exact⟨0,oq,rfl,bY.out,ZC.out⟩
   case round=>
    obtain⟨k,hk,rfl,hblk,aC⟩:=hrel;have fR:=Oh hblk;have Wy:=Oh aC;have fr2:=hblk.free;clear hblk aC bY ZC fr
    by_cases hlt:k<24
    ·have HN:=Oh (M0 hlt);have hc:∃v,wr.cell? ⟨G,256+k,none⟩=some v:=⟨_,by rw[fR.out.cell];simp[bvs,gI 112 k (show 256+k<288 by omega)];rfl⟩;obtain⟨v,hc⟩:=hc;have hlt':((256+k:Nat):Int)<280:=oq;have PT:((256+k:Nat):Int)<288:=oq;obtain⟨p,hp⟩:=nm (256+k);rw[←hp] at hlt' PT hc HN ⊢;have HP:=Oh (And.intro hp hlt);clear hp hlt hk;go_wp2_with fail;go_roundw
     case rel=>
      refine⟨k+1,by have:=HP.out;omega,by have:=HP.out;go_num,?_,Wy.out.setCell (by have:=HG.out;exact this) _⟩;have h:=fR.out.put p (.int .u8 ((7:UInt8).toNat:Int));rw[zu,HN.out] at h;exact h
     case measure=>simp[intOf];omega
    ·obtain rfl:k=24:=oq;clear hlt hk;go_wp2_with fail;go_ret;exact⟨G,rfl,HG.out,by rw[←En];exact fR.out,Wy.out⟩
end Hu
namespace Hu
open Go.RowKit
open Bit Bt Mt Df
theorem Nz(x:UInt8)(h:x.toNat≤15)(w:World):Cl 393 #[.int .u8 (x.toNat:Int)] w (Rt (.bool false) w):=by
 have x1:decide ((15:Int)<(x.toNat:Int))=false:=sq;have x2:decide (15<x.toNat)=false:=sq;clear h;generalize x.toNat=n at*;go_enter func393,ntmps393;go_wp2_with fail;go_ret;exact⟨rfl,rfl⟩
theorem E6(A:Option Addr)(c B:Nat)(l:List UInt8)(w:World)(h:Bts w B A l)(hx:∀x∈l,x.toNat≤15)(hm:l.length≤1000):
  Cl 428 #[.slice A l.length c,.func (Fn.func 393) #[] #[]] w (Rs (.int .i64 (-1)) w):=by
 have HA:=Oh h;have HX:=Oh hx;clear h hx;go_enter func428,ntmps428;go_wp2_with fail;go_loop [8] (fun i=>∃k:Nat,k≤l.length∧i=.int .i64 k) (fun i=>l.length-(intOf i).toNat)
 case atStart=>exact⟨0,Nat.zero_le _,rfl⟩
 case round=>
  obtain⟨k,hk,rfl⟩:=hrel
  by_cases hlt:k<l.length
  ·obtain⟨b,o,rfl,_,hcell⟩:=HA.out.at_ oq;have hc:=hcell k hlt;have OZ:(k:Int)<(l.length:Int):=oq;have HB:=Oh (fun W=>Nz l[k] (HX.out _ (List.getElem_mem hlt)) W);generalize l[k]=v at*;have HL:=Oh hlt;clear hlt hk hcell;go_wp2_with fail;refine(HB.out _).mono ?_;rintro e w1 ⟨rfl,rfl⟩;go_wp2_with fail;go_round
   case rel=>exact⟨k+1,HL.out,by go_num⟩
   case measure=>have h1:=HL.out;simp[intOf];omega
  ·have Sb:¬(k:Int)<(l.length:Int):=oq;clear hlt;go_wp2_with fail;go_ret;exact⟨rfl,rfl⟩
theorem sY(A:Option Addr)(c B:Nat)(l:List UInt8)(w:World)(h:Bts w B A l)(hx:∀x∈l,x.toNat≤15)(hm:l.length≤1000):
  Cl 392 #[.slice A l.length c,.func (Fn.func 393) #[] #[]] w (Rs (.bool false) w):=by
 have HI:=Oh (E6 A c B l w h hx hm);clear h hx hm;go_enter func392,ntmps392;go_wp2_with fail;refine HI.out.mono ?_;rintro e w1 ⟨rfl,hw⟩;obtain rfl:=hw.symm;go_wp2_with fail;go_ret;exact⟨rfl,rfl⟩
def fw(L:Value)(cnt:Nat→Nat)(S:Value)(f:Bool):Array Value:=(L::((List.range 16).map (fun i=>Value.int .i64 (cnt i:Int))++[S,.bool f])).toArray
section
variable {L S:Value} {cnt:Nat→Nat} {f:Bool}
theorem wS:fw L (fun _=>0) S f=#[L,.int .i64 0,.int .i64 0,.int .i64 0,.int .i64 0,.int .i64 0,.int .i64 0,.int .i64 0,.int .i64 0,.int .i64 0,.int .i64 0,.int .i64 0,.int .i64 0,.int .i64 0,.int .i64 0,.int .i64 0,.int .i64 0,S,.bool f]:=rfl
theorem CW{i:Nat}(h:i<16):(fw L cnt S f)[1+i]?=some (.int .i64 (cnt i:Int)):=by
 have h0:(fw L cnt S f)[1+i]?=((List.range 16).map (fun i=>Value.int .i64 (cnt i:Int))++[S,.bool f])[i]?:=by
  rw[Nat.add_comm];unfold fw;simp only[List.getElem?_toArray,List.getElem?_cons_succ]
 rw[h0,List.getElem?_append_left (by simpa using h),List.getElem?_map,List.getElem?_range h];rfl
theorem sH(S':Value):(fw L cnt S f).setIfInBounds 17 S'=fw L cnt S' f:=rfl
theorem wT{i v:Nat}(h:i<16){WN:Nat→Nat}(hv:WN i=v)(ho:∀j,j≠i→WN j=cnt j):(fw L cnt S f).setIfInBounds (1+i) (.int .i64 (v:Int))=fw L WN S f:=by
 subst hv;unfold fw;rw[List.setIfInBounds_toArray]
 congr 1
 rw[Nat.add_comm,List.set_cons_succ]
 congr 1
 rw[List.set_append_left _ _ (by simpa using h)]
 congr 1
 apply List.ext_getElem?
 intro j;rw[List.getElem?_set,List.getElem?_map,List.getElem?_map]
 by_cases hj:i=j
 ·subst hj;rw[if_pos rfl,if_pos (by simpa using h),List.getElem?_range h];rfl
 ·rw[if_neg hj];rcases h2:(List.range 16)[j]? with _|k
  ·rfl
  ·have:k=j:=by
    have h3:=List.getElem?_eq_some_iff.1 h2;obtain⟨h4,h5⟩:=h3;rw[List.getElem_range] at h5;exact h5.symm
   subst this;simp only[Option.map_some];rw[ho k (fun e=>hj e.symm)]
end
def nvs(l:List Nat):List Value:=l.map fun n:Nat=>Value.int .i64 (n:Int)
theorem Ht(l:List Nat):∀u∈nvs l,u.oneCell'=true:=by
 intro u hu;obtain⟨_,_,rfl⟩:=List.mem_map.1 hu;rfl
theorem Hv(a b:List Nat):nvs (a++b)=nvs a++nvs b:=by simp[nvs]
def NI(w:World)(base:Nat)(A:Option Addr)(c:Nat)(l:List Nat):Prop:=Own w base 3 1 A l.length c (nvs l)
theorem oG:fH prog 408 3 1 8:=cy underlying408 (z:=.int .i64 0) ok' od od
structure fQ(w:World)(base g:Nat)(LA:Option Addr)(Lc:Nat)(SA:Option Addr)(Sc:Nat)(ls:List UInt8)(cnt:Nat→Nat)(S:List Nat)(f:Bool):Prop where
 blk:Blk w g 492 (fw (.slice LA ls.length Lc) cnt (.slice SA S.length Sc) f)
 len:ak w base LA Lc ls
 sym:NI w base SA Sc S
section
variable {w w':World} {base g Lc Sc:Nat} {LA SA:Option Addr} {ls:List UInt8} {cnt:Nat→Nat} {S:List Nat} {f:Bool}
theorem fQ.below(h:fQ w base g LA Lc SA Sc ls cnt S f)(hb:Below w.heap.size w w'):fQ w' base g LA Lc SA Sc ls cnt S f:=⟨h.blk.below hb h.blk.lt,Own.below h.len hb,Own.below h.sym hb⟩
theorem fQ.drewN(h:fQ w base g LA Lc SA Sc ls cnt S f)(n:Nat):fQ (w.drewN n) base g LA Lc SA Sc ls cnt S f:=h.below (ae (Oq _ _) n)
theorem fQ.put(h:fQ w base g LA Lc SA Sc ls cnt S f)(j:Nat)(u:Value)(WN:Nat→Nat)(f':Bool)(e:(fw (.slice LA ls.length Lc) cnt (.slice SA S.length Sc) f).setIfInBounds j u=fw (.slice LA ls.length Lc) WN (.slice SA S.length Sc) f'):
  fQ (w.setCell ⟨g,j,none⟩ u) base g LA Lc SA Sc ls WN S f':=
 ⟨by rw[←e];exact h.blk.put j u,Own.setOther (show Own w base 5 1 LA ls.length Lc (bvs ls) from h.len) (p:=⟨g,j,none⟩) (Own.ne_blk (show Own w base 5 1 LA ls.length Lc (bvs ls) from h.len) h.blk od) _,Own.setOther (show Own w base 3 1 SA S.length Sc (nvs S) from h.sym) (p:=⟨g,j,none⟩) (Own.ne_blk (show Own w base 3 1 SA S.length Sc (nvs S) from h.sym) h.blk od) _⟩
theorem fQ.cn(h:fQ w base g LA Lc SA Sc ls cnt S f){i:Nat}(hi:i<16):w.cell? ⟨g,1+i,none⟩=some (.int .i64 (cnt i:Int)):=by rw[h.blk.cell];exact CW hi
end
def iq(ls:List UInt8)(k i:Nat):Nat:=if i=0 then 0 else(pM ls i k).length
theorem C1(ls:List UInt8):iq ls 0=fun _=>0:=by funext i;simp[iq,pW]
theorem C2{ls:List UInt8}{k:Nat}(h:(ls.getD k 0).toNat=0):iq ls (k+1)=iq ls k:=by
 funext i
 unfold iq
 by_cases hi:i=0
 ·rw[if_pos hi,if_pos hi]
 ·rw[if_neg hi,if_neg hi,iZ,if_neg oq,List.append_nil]
theorem Jt{ls:List UInt8}{k:Nat}(h:(ls.getD k 0).toNat≠0):iq ls (k+1) (ls.getD k 0).toNat=iq ls k (ls.getD k 0).toNat+1:=by
 unfold iq;rw[if_neg h,if_neg h,iZ,if_pos rfl,Ok];rfl
theorem xy{ls:List UInt8}{k i:Nat}(h:i≠(ls.getD k 0).toNat):iq ls (k+1) i=iq ls k i:=by
 unfold iq
 by_cases hi:i=0
 ·rw[if_pos hi,if_pos hi]
 ·rw[if_neg hi,if_neg hi,iZ,if_neg (fun e=>h e.symm),List.append_nil]
theorem Js(ls:List UInt8)(k i:Nat):iq ls k i≤k:=by
 unfold iq;split
 ·omega
 ·exact nN ls i k
def wt(x:UInt8):Nat:=if x.toNat=0 then 0 else 2^(15-x.toNat)
def ik(ls:List UInt8)(k:Nat):Nat:=((ls.take k).map wt).sum
theorem wL(ls:List UInt8):ik ls ls.length=lV ls:=by unfold ik lV;rw[List.take_length];rfl
theorem lO{ls:List UInt8}{k:Nat}(h:k<ls.length):ik ls (k+1)=ik ls k+wt (ls.getD k 0):=by
 unfold ik;rw[List.take_add_one,Oj h,List.map_append,List.sum_append];simp[List.getD_eq_getElem?_getD,Oj h]
theorem MS(x:UInt8):wt x≤32768:=by
 unfold wt;split
 ·omega
 ·exact Oo (Nat.pow_le_pow_right od (show 15-x.toNat≤15 by omega)) od
theorem Af{ls:List UInt8}{k:Nat}(h:k≤ls.length):ik ls k≤32768*k:=by
 induction k with
 |zero=>simp[ik]
 |succ k ih=>
  have:=ih oq;have h2:=MS (ls.getD k 0);rw[lO h];omega
end Hu
end Go.Proofs.YtmbippkpjdoojaaGreat
