/- Parts of a proof, merged. -/
import Derived.Test.YtmbippkpjdoojaaGreatF13
import Derived.Test.YtmbippkpjdoojaaGreatF15
set_option maxRecDepth 100000
set_option maxHeartbeats 1600000
namespace Go.Proofs.YtmbippkpjdoojaaGreat
open Tryz
open Go.RowKit
section
open Wi
theorem Kd:di[fi (98:UInt8).toNat]?=some (98,1,323,324):=by decide
theorem Nq:di[fi (119:UInt8).toNat]?=some (119,4,323,324):=by decide
theorem lX(pt:List UInt8)(n:Nat)(ns:List Nat)(S:List UInt8)(h:n<256):et (98::pt) (n::ns) S=et pt ns (S++low 1 n):=by
 rw[et,Kd];have hf:bW (98,1,323,324) n=true:=by unfold bW;simp;omega
 simp only[hf,if_true];rfl
theorem yz(pt:List UInt8)(n:Nat)(ns:List Nat)(S:List UInt8)(h:n<4294967296):et (119::pt) (n::ns) S=et pt ns (S++low 4 n):=by
 rw[et,Nq];have hf:bW (119,4,323,324) n=true:=by unfold bW;simp;omega
 simp only[hf,if_true];rfl
theorem KV(n:Nat)(h:n<4294967296):dh [119] [n]=(0,low 4 n):=by
 unfold dh;rw[if_pos ⟨od,rfl⟩,yz _ _ _ _ h];rfl
theorem Hg(k n:Nat)(hk:k<256)(h:n<4294967296):dh [98,119] [k,n]=(0,low 1 k++low 4 n):=by
 unfold dh;rw[if_pos ⟨od,rfl⟩,lX _ _ _ _ hk,yz _ _ _ _ h];rfl
theorem Dg(k f n:Nat)(hk:k<256)(hf:f<256):dh [98,98,118] [k,f,n]=(0,low 1 k++low 1 f++leb n):=by
 unfold dh;rw[if_pos ⟨od,rfl⟩,lX _ _ _ _ hk,lX _ _ _ _ hf,dG];rfl
theorem AV(k f n z:Nat)(hk:k<256)(hf:f<256):dh [98,98,118,118] [k,f,n,z]=(0,low 1 k++low 1 f++leb n++leb z):=by
 unfold dh;rw[if_pos ⟨od,rfl⟩,lX _ _ _ _ hk,lX _ _ _ _ hf,dG,dG];rfl
def lc(m:List UInt8):List UInt8:=m++low 4 (Cr.sum m).toNat
def jT(ver:UInt8)(h t:List UInt8):List UInt8:=lc ([81,83,ver]++h++t)
def MP(k:Nat)(t:List UInt8):List UInt8:=jT 1 (low 1 k++low 4 t.length) t
def ip(k:Nat)(t:List UInt8):List UInt8:=jT 2 (low 1 k++low 1 0++leb t.length) t
def MO(k n:Nat)(z:List UInt8):List UInt8:=jT 2 (low 1 k++low 1 1++leb n++leb z.length) z
theorem G6(k:Nat)(A:Option Addr)(n c:Nat)(w:World)(h1:1≤k)(h2:k≤4)(hn:n≤1048576):Cl 52 #[.int .u8 (k:Int),.slice A n c] w (Rs (.bool true) w):=by
 have x1:decide ((1:Int)≤(k:Int))=true:=sq;have x2:decide ((k:Int)≤4)=true:=sq;have x3:decide (1≤k)=true:=sq;have x4:decide (k≤4)=true:=sq;have x5:decide ((n:Int)≤1048576)=true:=sq;have x6:decide (n≤1048576)=true:=sq;clear h1 h2 hn;go_enter func52,ntmps52;go_wp2_with fail;go_ret;exact⟨rfl,rfl⟩
theorem CY(base:Nat)(A:Option Addr)(c:Nat)(m:List UInt8)(w:World)(ho:ak w base A c m)(hb:base≤w.heap.size)(hl:m.length≤80000000):
  Cl 93 #[.slice A m.length c] w fun e w'=>∃A' c',e=.returned (.slice A' (lc m).length c')∧ak w' base A' c' (lc m)∧Below base w w':=by
 have HN:=Oh (fun W=>Crc.ir W);have HS:=Oh (fun W g (h:Blk W g 227 Crc.tab) (hr:Bts W W.heap.size A m)=>Crc.mj g A c m W (by unfold maxLen;omega) h hr);have hcl:(Cr.sum m).toNat<4294967296:=(Cr.sum m).isLt;have HP:=Oh (fun W (B0:Option Addr) (hu:Us W W.heap.size B0 [(Cr.sum m).toNat])=>gY ⟨#[119]⟩ B0 1 [(Cr.sum m).toNat] W hu os' (by intro n hn;rw[List.mem_singleton] at hn;omega));rw[show(⟨#[119]⟩:ByteArray).data.toList=[119] from rfl,KV _ hcl] at HP;have Xe:Hid (lc m=m++low 4 (Cr.sum m).toNat):=Oh rfl;have HO:=Oh ho;have Tx:=Oh hb;have HL:=Oh hl;generalize(Cr.sum m).toNat=C at*;have x0:IntKind.u64.wrap (C:Int)=(C:Int):=u6;clear ho hb hl hcl;go_enter func93,ntmps93;go_wp2_with fail;refine(HN.out _).mono ?_;rintro e w1 ⟨g,rfl,_,ht,b1⟩;have HT:=Oh ht;have aS:=Oh b1;have IF:Hid (ak w1 base A c m):=Oh (Own.below (show Own w base 5 1 A m.length c (bvs m) from HO.out) b1);clear ht b1;go_wp2_with fail;refine(HS.out _ _ HT.out (ak.reads IF.out)).mono ?_;rintro e w2 ⟨rfl,Ox⟩;obtain rfl:=Ox;go_wp2_with fail;have b2:Below w1.heap.size w1 (w1.alloc (.cells #[.int .u64 (C:Int)] 35)):=Ba;have nO:Hid (ak (w1.alloc (.cells #[.int .u64 (C:Int)] 35)) base A c m):=Oh (Own.below (show Own w1 base 5 1 A m.length c (bvs m) from IF.out) b2);have bY:=Oh (ai aS.out b2);refine(HP.out _ _ (sa w1 C)).mono ?_;rintro e w3 ⟨A3,c3,rfl,o3,b3⟩;have sO:Hid (ak w3 base A c m):=Oh (Own.below (show Own _ base 5 1 A m.length c (bvs m) from nO.out) b3);have HP3:=Oh o3;have fR:=Oh (ai bY.out b3);clear b2 b3 o3 nO bY IF aS;dsimp only;go_wp2_with (at_builtin;refine Hid.out ?_);refine aj (xs:=bvs m) rfl rfl bu rfl (show Own w3 base 5 1 A m.length c (bvs m) from sO.out) rfl (ak.reads HP3.out) (aO _) (m.length+(low 4 C).length) rfl (bvs (m++low 4 C)) (aE _ _).symm (by have:=HL.out;rw[aJ];unfold maxLen;omega) (by have:=HL.out;rw[aJ];omega) (Oo Tx.out fR.out.size) ?_;intro A4 c4 w4 o4 g4 q4;have Pk:Hid (ak w4 base A4 c4 (m++low 4 C)):=Oh (by unfold ak;rw[Ok];exact o4);have oN:Hid (Below base w w4):=Oh (jf (fR.out.mono Tx.out) sO.out (Oo Tx.out fR.out.size) (ab.of_grown g4))
 clear o4 g4 q4;go_wp2_with fail;go_ret;exact⟨A4,c4,by rw[Xe.out,Ok];rfl,by rw[Xe.out];exact Pk.out,oN.out⟩
theorem IG{w:World}(A1 A2 A3:Option Addr)(n1 c1 n2 c2 n3 c3:Nat)(YA xs2 xs3:List Value)(h1:am w w.heap.size 1 A1 n1 YA)(h2:am w w.heap.size 1 A2 n2 xs2)(h3:am w w.heap.size 1 A3 n3 xs3)(o1:∀u∈YA,u.oneCell'=true)(o2:∀u∈xs2,u.oneCell'=true)(o3:∀u∈xs3,u.oneCell'=true)(t:TypeId):
  fX (w.alloc (.cells #[.slice A1 n1 c1,.slice A2 n2 c2,.slice A3 n3 c3] t)) (w.alloc (.cells #[.slice A1 n1 c1,.slice A2 n2 c2,.slice A3 n3 c3] t)).heap.size 1 (some ⟨w.heap.size,0,none⟩) [⟨A1,n1,c1,YA⟩,⟨A2,n2,c2,xs2⟩,⟨A3,n3,c3,xs3⟩]:=by
 have hb:Below w.heap.size w (w.alloc (.cells #[.slice A1 n1 c1,.slice A2 n2 c2,.slice A3 n3 c3] t)):=Ba;refine⟨am.lit (bQ _ _) rfl rfl,?_⟩;intro h hh;simp only[List.mem_cons,List.not_mem_nil,or_false] at hh;rcases hh with rfl|rfl|rfl
 ·exact⟨h1.at_below hb,o1⟩
 ·exact⟨h2.at_below hb,o2⟩
 ·exact⟨h3.at_below hb,o3⟩
theorem lh(ver:UInt8)(st:ByteArray)(ns:List Nat)(hd:List UInt8)(hw:dh st.data.toList ns=(0,hd))(hn:∀n∈ns,n<18446744073709551616)(Ww:ns.length≤1000)(Zc:hd.length≤1000)(B0:Option Addr)(d0:Nat)(A:Option Addr)(c:Nat)(t:List UInt8)(w:World)(hu:Us w w.heap.size B0 ns)(ht:Bts w w.heap.size A t)(hl:t.length≤70000000):
  Cl 53 #[.int .u8 (ver.toNat:Int),.string st,.slice B0 ns.length d0,.slice A t.length c] w fun e w'=>∃A' c',e=.returned (.tuple #[.slice A' (jT ver hd t).length c',.int .i64 0])∧ak w' w.heap.size A' c' (jT ver hd t)∧Below w.heap.size w w':=by
 have HP:=Oh (gY st B0 d0 ns w hu oq hn);rw[hw] at HP;have HT:=Oh ht;have VL:=Oh (fun S cS hs W (h:fX W W.heap.size 1 S hs) (hl:hs.length≤100000000) (hn:aw hs≤100000000)=>C0 S cS hs W h hl hn);have Uu:=Oh (fun base A c m W (ho:ak W base A c m) (hb:base≤W.heap.size) (hl:m.length≤80000000)=>CY base A c m W ho hb hl);have HL:=Oh (And.intro hl Zc);clear hw hn Ww hu ht hl Zc;go_enter func53,ntmps53;go_wp2_with fail;refine HP.out.mono ?_;rintro e w1 ⟨A1,c1,rfl,o1,b1⟩;have IF:=Oh o1;have aS:=Oh b1;clear o1 b1 HP;dsimp only;go_wp2_with fail;have b2:Below w1.heap.size w1 (w1.alloc (.cells #[.int .u8 81,.int .u8 83,.int .u8 (ver.toNat:Int)] 5)):=Ba;have WA:Hid (am (w1.alloc (.cells #[.int .u8 81,.int .u8 83,.int .u8 (ver.toNat:Int)] 5)) (w1.alloc (.cells #[.int .u8 81,.int .u8 83,.int .u8 (ver.toNat:Int)] 5)).heap.size 1 (some ⟨w1.heap.size,0,none⟩) 3 (bvs [81,83,ver])):=Oh (am.lit (bQ w1 _) rfl rfl);have nO:Hid (ak (w1.alloc (.cells #[.int .u8 81,.int .u8 83,.int .u8 (ver.toNat:Int)] 5)) w.heap.size A1 c1 hd):=Oh (Own.below (show Own w1 w.heap.size 5 1 A1 hd.length c1 (bvs hd) from IF.out) b2);have bY:=Oh (ai aS.out b2);have Is:(w1.alloc (.cells #[.int .u8 81,.int .u8 83,.int .u8 (ver.toNat:Int)] 5)).heap.size=w1.heap.size+1:=by simp
 rw[←Is];clear Is;generalize w1.alloc (.cells #[.int .u8 81,.int .u8 83,.int .u8 (ver.toNat:Int)] 5)=w2 at*;generalize w1.heap.size=N at*;have OM:Hid (am w2 w2.heap.size 1 A t.length (bvs t)):=Oh (HT.out.at_below bY.out);have b3:Below w2.heap.size w2 (w2.alloc (.cells #[.slice (some ⟨N,0,none⟩) 3 3,.slice A1 hd.length c1,.slice A t.length c] 24)):=Ba;have hh:=IG (some ⟨N,0,none⟩) A1 A 3 3 hd.length c1 t.length c _ _ _ WA.out (ak.reads nO.out) OM.out (aO _) (aO _) (aO _) 24;refine(VL.out _ 3 _ _ hh os' (by simp only[aw];have:=HL.out;omega)).mono ?_;rintro e w4 ⟨A4,c4,rfl,o4,b4⟩;have Rl:aw [⟨some ⟨N,0,none⟩,3,3,bvs [81,83,ver]⟩,⟨A1,hd.length,c1,bvs hd⟩,⟨A,t.length,c,bvs t⟩]=([81,83,ver]++hd++t).length:=by simp[aw];omega
 have YB:bZ [⟨some ⟨N,0,none⟩,3,3,bvs [81,83,ver]⟩,⟨A1,hd.length,c1,bvs hd⟩,⟨A,t.length,c,bvs t⟩]=bvs ([81,83,ver]++hd++t):=by simp only[bZ,aE,List.append_nil,List.append_assoc]
 rw[Rl] at o4 ⊢;rw[YB] at o4;have oN:=Oh (ai bY.out (b3.trans (b4.mono b3.size)));have Pk:Hid (ak w4 w.heap.size A4 c4 ([81,83,ver]++hd++t)):=Oh (Own.mono o4 (Oo bY.out.size b3.size));have Uj:Hid (([81,83,ver]++hd++t).length≤80000000):=Oh (by have:=HL.out;simp;omega);have Uw:Hid (jT ver hd t=lc ([81,83,ver]++hd++t)):=Oh rfl;clear hh o4 b4 b3 Rl YB OM nO WA bY VL;generalize[81,83,ver]++hd++t=M at*;go_wp2_with fail;refine(Uu.out _ _ _ _ _ Pk.out oN.out.size Uj.out).mono ?_;rintro e w5 ⟨A5,c5,rfl,o5,b5⟩;have RZ:=Oh o5;have OE:Hid (Below w.heap.size w w5):=Oh (oN.out.trans b5);clear o5 b5;go_wp2_with fail;go_ret2;exact⟨A5,c5,by rw[Uw.out];rfl,by rw[Uw.out];exact RZ.out,OE.out⟩
def eJ(l:List UInt8)(w:World)(e:Ending)(w':World):Prop:=∃A c,e=.returned (.tuple #[.slice A l.length c,.int .i64 0])∧ak w' w.heap.size A c l∧Below w.heap.size w w'
theorem Nc(k:Nat)(A:Option Addr)(c:Nat)(t:List UInt8)(w:World)(h1:1≤k)(h2:k≤4)(ht:Bts w w.heap.size A t)(hl:t.length≤1048576):
  Cl 28 #[.int .u8 (k:Int),.slice A t.length c] w (eJ (MP k t) w):=by
 have HM:=Oh (fun W=>G6 k A t.length c W h1 h2 hl);have HW:=Oh (fun W B0 (hu:Us W W.heap.size B0 [k,t.length]) (ht:Bts W W.heap.size A t)=>lh 1 ⟨#[98,119]⟩ [k,t.length] _ (Hg k t.length oq oq) sq os' (by rw[Ok,aJ,aJ];omega) B0 2 A c t W hu ht oq);have x1:IntKind.u64.wrap (k:Int)=(k:Int):=u6;have x2:IntKind.u64.wrap (t.length:Int)=(t.length:Int):=u6;have HT:=Oh ht;clear h1 h2 ht hl;go_enter func28,ntmps28;go_wp2_with fail;refine(HM.out _).mono ?_;rintro e w1 ⟨rfl,iF⟩;obtain rfl:=iF.symm;go_wp2_with fail;have b1:Below w.heap.size w (w.alloc (.cells #[.int .u64 (k:Int),.int .u64 (t.length:Int)] 35)):=Ba;have hu:Us (w.alloc (.cells #[.int .u64 (k:Int),.int .u64 (t.length:Int)] 35)) (w.alloc (.cells #[.int .u64 (k:Int),.int .u64 (t.length:Int)] 35)).heap.size (some ⟨w.heap.size,0,none⟩) [k,t.length]:=am.lit (bQ w _) rfl rfl;exact uK
theorem FB(k:Nat)(A:Option Addr)(c:Nat)(t:List UInt8)(w:World)(h1:1≤k)(h2:k≤4)(ht:Bts w w.heap.size A t)(hl:t.length≤1048576):
  Cl 30 #[.int .u8 (k:Int),.slice A t.length c,.bool false] w (eJ (ip k t) w):=by
 have HM:=Oh (fun W=>G6 k A t.length c W h1 h2 hl);have Lt:=af (show t.length<18446744073709551616 by omega);have HW:=Oh (fun W B0 (hu:Us W W.heap.size B0 [k,0,t.length]) (ht:Bts W W.heap.size A t)=>lh 2 ⟨#[98,98,118]⟩ [k,0,t.length] _ (Dg k 0 t.length oq oq) sq os' (by rw[Ok,Ok,aJ,aJ];omega) B0 3 A c t W hu ht oq);have x1:IntKind.u64.wrap (k:Int)=(k:Int):=u6;have x2:IntKind.u64.wrap (t.length:Int)=(t.length:Int):=u6;have HT:=Oh ht;clear h1 h2 ht hl Lt;go_enter func30,ntmps30;go_wp2_with fail;refine(HM.out _).mono ?_;rintro e w1 ⟨rfl,iF⟩;obtain rfl:=iF.symm;go_wp2_with fail;have b1:Below w.heap.size w (w.alloc (.cells #[.int .u64 (k:Int),.int .u64 0,.int .u64 (t.length:Int)] 35)):=Ba;have hu:Us (w.alloc (.cells #[.int .u64 (k:Int),.int .u64 0,.int .u64 (t.length:Int)] 35)) (w.alloc (.cells #[.int .u64 (k:Int),.int .u64 0,.int .u64 (t.length:Int)] 35)).heap.size (some ⟨w.heap.size,0,none⟩) [k,0,t.length]:=am.lit (bQ w _) rfl rfl;exact uK
theorem L9(k:Nat)(A:Option Addr)(c:Nat)(t z:List UInt8)(w:World)(h1:1≤k)(h2:k≤4)(ht:Bts w w.heap.size A t)(hl:t.length≤1048576)(hz:z.length≤60000000)(HZ:Hid (∀W,Bts W W.heap.size A t→Cl 58 #[.slice A t.length c] W fun e w'=>∃A' c',e=.returned (.slice A' z.length c')∧ak w' W.heap.size A' c' z∧Below W.heap.size W w')):
  Cl 30 #[.int .u8 (k:Int),.slice A t.length c,.bool true] w (eJ (MO k t.length z) w):=by
 have HM:=Oh (fun W=>G6 k A t.length c W h1 h2 hl);have Lt:=af (show t.length<18446744073709551616 by omega);have hlz:=af (show z.length<18446744073709551616 by omega);have HW:=Oh (fun W B0 A c (hu:Us W W.heap.size B0 [k,1,t.length,z.length]) (ht:Bts W W.heap.size A z)=>lh 2 ⟨#[98,98,118,118]⟩ [k,1,t.length,z.length] _ (AV k 1 t.length z.length oq oq) sq os' (by rw[Ok,Ok,Ok,aJ,aJ];omega) B0 4 A c z W hu ht oq);have x1:IntKind.u64.wrap (k:Int)=(k:Int):=u6;have x2:IntKind.u64.wrap (t.length:Int)=(t.length:Int):=u6;have x3:IntKind.u64.wrap (z.length:Int)=(z.length:Int):=u6;have HT:=Oh ht;clear h1 h2 ht hl Lt hlz hz;go_enter func30,ntmps30;go_wp2_with fail;refine(HM.out _).mono ?_;rintro e w1 ⟨rfl,iF⟩;obtain rfl:=iF.symm;go_wp2_with fail;refine(HZ.out _ HT.out).mono ?_;rintro e w2 ⟨A2,c2,rfl,o2,b2⟩;have nO:=Oh o2;have bY:=Oh b2;clear o2 b2 HZ;go_wp2_with fail;have b1:Below w2.heap.size w2 (w2.alloc (.cells #[.int .u64 (k:Int),.int .u64 1,.int .u64 (t.length:Int),.int .u64 (z.length:Int)] 35)):=Ba;have hu:Us (w2.alloc (.cells #[.int .u64 (k:Int),.int .u64 1,.int .u64 (t.length:Int),.int .u64 (z.length:Int)] 35)) (w2.alloc (.cells #[.int .u64 (k:Int),.int .u64 1,.int .u64 (t.length:Int),.int .u64 (z.length:Int)] 35)).heap.size (some ⟨w2.heap.size,0,none⟩) [k,1,t.length,z.length]:=am.lit (bQ w2 _) rfl rfl;refine(HW.out _ _ _ _ hu (Bts.at_below (ak.reads nO.out) b1)).mono ?_;rintro e w3 ⟨A3,c3,rfl,o3,b3⟩;have sO:=Oh (Own.mono (show Own w3 _ 5 1 A3 _ c3 _ from o3) (Oo bY.out.size b1.size));have fR:=Oh (ai bY.out (ai b1 b3));clear o3 b3 hu b1;go_wp2_with fail;go_ret2;exact⟨A3,c3,rfl,sO.out,fR.out⟩
theorem lv(a b c g:Nat)(hg:g<256):dh [118,118,118,98] [a,b,c,g]=(0,leb a++leb b++leb c++low 1 g):=by
 unfold dh;rw[if_pos ⟨od,rfl⟩,dG,dG,dG,lX _ _ _ _ hg];rfl
def Nx(g:Bool):Nat:=if g then 1 else 0
def bD(lo hi d:Nat)(g:Bool)(W:List UInt8):List UInt8:=leb lo++leb hi++leb d++low 1 (Nx g)++W
theorem kx{w:World}{b:Nat}{e:TypeId}{s:Nat}{A:Option Addr}{n c:Nat}{xs:List Value}(h:Own w b e s A n c xs):n≤c:=by
 rcases Nat.eq_zero_or_pos n with h0|h0
 ·omega
 ·obtain⟨_,_,_,_,h1,_⟩:=Own.form h h0;exact h1
section
variable {w:World} {p q p2 q2:Nat}
theorem pJ(hb:Blk w p 103 (rZ q))(lo hi d:Nat)(W:List UInt8)(h1:lo≤9223372036854775807)(h2:hi≤9223372036854775807)(h3:d≤9223372036854775807)(hW:W.length≤50000000)(HSH:Hid (∀V,Below w.heap.size w V→Cl 95 #[.pointer (some ⟨q,0,none⟩)] V (Rb (.agg (i3' lo hi d)) V)))(Zz:Hid (∀V,Below w.heap.size w V→Cl 96 #[.pointer (some ⟨q,0,none⟩)] V (Rt (.bool true) V)))(Uw:Hid (∀V,Below w.heap.size w V→Cl 97 #[.pointer (some ⟨q,0,none⟩)] V fun e w'=>∃A c,e=.returned (.tuple #[.slice A W.length c,.int .i64 0])∧ak w' V.heap.size A c W∧Below V.heap.size V w')):
  Cl 54 #[.pointer (some ⟨p,0,none⟩)] w fun e w'=>∃A c,e=.returned (.slice A (bD lo hi d true W).length c)∧ak w' w.heap.size A c (bD lo hi d true W)∧Below w.heap.size w w':=by
 have k1:=hb.c1;have HB:=Oh hb;have x1:IntKind.u64.wrap (lo:Int)=(lo:Int):=u6;have x2:IntKind.u64.wrap (hi:Int)=(hi:Int):=u6;have x3:IntKind.u64.wrap (d:Int)=(d:Int):=u6;have HP:=Oh (fun V B0 (hu:Us V V.heap.size B0 [lo,hi,d,1])=>gY ⟨#[118,118,118,98]⟩ B0 4 [lo,hi,d,1] V hu os' (by intro n hn;simp at hn;omega));rw[show(⟨#[118,118,118,98]⟩:ByteArray).data.toList=[118,118,118,98] from rfl,lv _ _ _ _ oq] at HP;have l1:=af (show lo<18446744073709551616 by omega);have l2:=af (show hi<18446744073709551616 by omega);have l3:=af (show d<18446744073709551616 by omega);have XI:Hid (bD lo hi d true W=(leb lo++leb hi++leb d++low 1 1)++W):=Oh rfl;have HHL:Hid ((leb lo++leb hi++leb d++low 1 1).length≤100):=Oh (by simp only[Ok,aJ];omega);generalize leb lo++leb hi++leb d++low 1 1=H at*;have HWL:=Oh hW;clear hb h1 h2 h3 hW l1 l2 l3;go_enter func54,ntmps54;go_wp2_with fail;refine(HSH.out _ (Oq _ _)).mono ?_;rintro e w1 ⟨rfl,b1⟩;have aT:Below w.heap.size w (w1.alloc (.cells (i3' lo hi d) 27)):=b1.alloc b1.size _;have bY:=Oh aT;have k1b:∀o,(w1.alloc o).cell? ⟨p,1,none⟩=some (.pointer (some ⟨q,0,none⟩)):=fun o=>by rw[((HB.out.below b1 HB.out.lt).alloc o).cell];rfl
 clear k1 b1 aT HSH;go_wp2_with fail;refine(Zz.out _ bY.out).mono ?_;rintro e w3 ⟨rfl,OU⟩;obtain rfl:=OU;go_wp2_with fail;obtain⟨wq,RO⟩:=nm (w1.alloc (.cells (i3' lo hi d) 27));rw[←RO] at bY;have dO:=bY.out.alloc bY.out.size (.cells #[.int .u64 (lo:Int),.int .u64 (hi:Int),.int .u64 (d:Int),.int .u64 1] 35);have hu:Us (wq.alloc (.cells #[.int .u64 (lo:Int),.int .u64 (hi:Int),.int .u64 (d:Int),.int .u64 1] 35)) (wq.alloc (.cells #[.int .u64 (lo:Int),.int .u64 (hi:Int),.int .u64 (d:Int),.int .u64 1] 35)).heap.size (some ⟨wq.heap.size,0,none⟩) [lo,hi,d,1]:=am.lit (bQ wq _) rfl rfl;exact uC
theorem mU(hb:Blk w p 103 (rZ q))(lo hi d:Nat)(W:List UInt8)(h1:lo≤9223372036854775807)(h2:hi≤9223372036854775807)(h3:d≤9223372036854775807)(hW:W.length≤50000000)(HSH:Hid (∀V,Below w.heap.size w V→Cl 95 #[.pointer (some ⟨q,0,none⟩)] V (Rb (.agg (i3' lo hi d)) V)))(Zz:Hid (∀V,Below w.heap.size w V→Cl 96 #[.pointer (some ⟨q,0,none⟩)] V (Rt (.bool false) V)))(Uw:Hid (∀V,Below w.heap.size w V→Cl 97 #[.pointer (some ⟨q,0,none⟩)] V fun e w'=>∃A c,e=.returned (.tuple #[.slice A W.length c,.int .i64 0])∧ak w' V.heap.size A c W∧Below V.heap.size V w')):
  Cl 54 #[.pointer (some ⟨p,0,none⟩)] w fun e w'=>∃A c,e=.returned (.slice A (bD lo hi d false W).length c)∧ak w' w.heap.size A c (bD lo hi d false W)∧Below w.heap.size w w':=by
 have k1:=hb.c1;have HB:=Oh hb;have x1:IntKind.u64.wrap (lo:Int)=(lo:Int):=u6;have x2:IntKind.u64.wrap (hi:Int)=(hi:Int):=u6;have x3:IntKind.u64.wrap (d:Int)=(d:Int):=u6;have HP:=Oh (fun V B0 (hu:Us V V.heap.size B0 [lo,hi,d,0])=>gY ⟨#[118,118,118,98]⟩ B0 4 [lo,hi,d,0] V hu os' (by intro n hn;simp at hn;omega));rw[show(⟨#[118,118,118,98]⟩:ByteArray).data.toList=[118,118,118,98] from rfl,lv _ _ _ _ oq] at HP;have l1:=af (show lo<18446744073709551616 by omega);have l2:=af (show hi<18446744073709551616 by omega);have l3:=af (show d<18446744073709551616 by omega);have XI:Hid (bD lo hi d false W=(leb lo++leb hi++leb d++low 1 0)++W):=Oh rfl;have HHL:Hid ((leb lo++leb hi++leb d++low 1 0).length≤100):=Oh (by simp only[Ok,aJ];omega);generalize leb lo++leb hi++leb d++low 1 0=H at*;have HWL:=Oh hW;clear hb h1 h2 h3 hW l1 l2 l3;go_enter func54,ntmps54;go_wp2_with fail;refine(HSH.out _ (Oq _ _)).mono ?_;rintro e w1 ⟨rfl,b1⟩;have aT:Below w.heap.size w (w1.alloc (.cells (i3' lo hi d) 27)):=b1.alloc b1.size _;have bY:=Oh aT;have k1b:∀o,(w1.alloc o).cell? ⟨p,1,none⟩=some (.pointer (some ⟨q,0,none⟩)):=fun o=>by rw[((HB.out.below b1 HB.out.lt).alloc o).cell];rfl
 clear k1 b1 aT HSH;go_wp2_with fail;refine(Zz.out _ bY.out).mono ?_;rintro e w3 ⟨rfl,OU⟩;obtain rfl:=OU;go_wp2_with fail;obtain⟨wq,RO⟩:=nm (w1.alloc (.cells (i3' lo hi d) 27));rw[←RO] at bY;have dO:=bY.out.alloc bY.out.size (.cells #[.int .u64 (lo:Int),.int .u64 (hi:Int),.int .u64 (d:Int),.int .u64 0] 35);have hu:Us (wq.alloc (.cells #[.int .u64 (lo:Int),.int .u64 (hi:Int),.int .u64 (d:Int),.int .u64 0] 35)) (wq.alloc (.cells #[.int .u64 (lo:Int),.int .u64 (hi:Int),.int .u64 (d:Int),.int .u64 0] 35)).heap.size (some ⟨wq.heap.size,0,none⟩) [lo,hi,d,0]:=am.lit (bQ wq _) rfl rfl;exact uC
theorem Lv(hb:Blk w p 103 (rZ q))(l:List UInt8)(HC:Cl 54 #[.pointer (some ⟨p,0,none⟩)] w fun e w'=>∃A c,e=.returned (.slice A l.length c)∧ak w' w.heap.size A c l∧Below w.heap.size w w'):
  Cl 29 #[.pointer (some ⟨p,0,none⟩)] w fun e w'=>∃A c,e=.returned (.slice A l.length c)∧ak w' w.heap.size A c l∧Below w.heap.size w w':=by
 have c0:=hb.c0;exact kt
theorem Lx(hb:Blk w p 103 (rZ q))(aT:Blk w p2 103 (rZ q2))(lo hi d:Int)(g:Bool)(ac sz:Int)(co:Value)(c:Int)(Q:World→World→Prop)(By:Hid (∀V,Below w.heap.size w V→Cl 74 #[.pointer (some ⟨p2,0,none⟩)] V (Rb (.agg (spC 1 lo hi d g ac sz)) V)))(uN:Hid (∀V,Below w.heap.size w V→Cl 74 #[.pointer (some ⟨p,0,none⟩)] V (Rb (.agg (spC 1 lo hi d g ac sz)) V)))(HC:Hid (∀V,Below w.heap.size w V→Cl 139 #[.pointer (some ⟨q,0,none⟩),.pointer (some ⟨q2,0,none⟩)] V fun e w'=>e=.returned (.int .i64 c)∧Q V w')):
  Cl 69 #[.pointer (some ⟨p,0,none⟩),.pointer (some ⟨p2,0,none⟩),co] w fun e w'=>e=.returned (.int .i64 c)∧∃V,Below w.heap.size w V∧Q V w':=by
 have hne:∀W,(binOp .neq 29 (.agg (spC 1 lo hi d g ac sz)) (.agg (spC 1 lo hi d g ac sz))).run prog W=.ok (.bool false) W:=fun W=>by
  unfold spC;go_simp
 have HB:=Oh (And.intro hb aT);clear hb aT;go_enter func69,ntmps69;go_wp2_with fail;refine(By.out _ (Oq _ _)).mono ?_;rintro e w1 ⟨rfl,b1⟩;have aS:=Oh b1;clear b1 By;go_wp2_with fail;refine(uN.out _ aS.out).mono ?_;rintro e w2 ⟨rfl,b2⟩;have bY:=Oh (ai aS.out b2);have a0:=(HB.out.1.below bY.out HB.out.1.lt).c0;have a1:=(HB.out.1.below bY.out HB.out.1.lt).c1;have a2:=(HB.out.2.below bY.out HB.out.2.lt).c1;clear b2 uN;go_upto_region 7 with(fail);refine wp_region_noPanic ?_;refine ag (S:=(fun(V:World)=>V.cell? ⟨p,1,none⟩=some (.pointer (some ⟨q,0,none⟩))∧V.cell? ⟨p2,1,none⟩=some (.pointer (some ⟨q2,0,none⟩)))) (L:=8) ok' ⟨a1,a2⟩ (fun hHeld=>?_);exact uA
theorem Lw(hb:Blk w p 103 (xL q))(aT:Blk w p2 103 (xL q2))(lo hi d:Int)(g:Bool)(ac sz:Int)(co:Value)(c:Int)(Q:World→World→Prop)(By:Hid (∀V,Below w.heap.size w V→Cl 74 #[.pointer (some ⟨p2,0,none⟩)] V (Rb (.agg (spC 2 lo hi d g ac sz)) V)))(uN:Hid (∀V,Below w.heap.size w V→Cl 74 #[.pointer (some ⟨p,0,none⟩)] V (Rb (.agg (spC 2 lo hi d g ac sz)) V)))(HC:Hid (∀V,Below w.heap.size w V→Cl 140 #[.pointer (some ⟨q,0,none⟩),.pointer (some ⟨q2,0,none⟩)] V fun e w'=>e=.returned (.int .i64 c)∧Q V w')):
  Cl 69 #[.pointer (some ⟨p,0,none⟩),.pointer (some ⟨p2,0,none⟩),co] w fun e w'=>e=.returned (.int .i64 c)∧∃V,Below w.heap.size w V∧Q V w':=by
 have hne:∀W,(binOp .neq 29 (.agg (spC 2 lo hi d g ac sz)) (.agg (spC 2 lo hi d g ac sz))).run prog W=.ok (.bool false) W:=fun W=>by
  unfold spC;go_simp
 have HB:=Oh (And.intro hb aT);clear hb aT;go_enter func69,ntmps69;go_wp2_with fail;refine(By.out _ (Oq _ _)).mono ?_;rintro e w1 ⟨rfl,b1⟩;have aS:=Oh b1;clear b1 By;go_wp2_with fail;refine(uN.out _ aS.out).mono ?_;rintro e w2 ⟨rfl,b2⟩;have bY:=Oh (ai aS.out b2);have a0:=(HB.out.1.below bY.out HB.out.1.lt).c0;have a1:=(HB.out.1.below bY.out HB.out.1.lt).c2;have a2:=(HB.out.2.below bY.out HB.out.2.lt).c2;clear b2 uN;go_upto_region 9 with(fail);refine wp_region_noPanic ?_;refine ag (S:=(fun(V:World)=>V.cell? ⟨p,2,none⟩=some (.pointer (some ⟨q,0,none⟩))∧V.cell? ⟨p2,2,none⟩=some (.pointer (some ⟨q2,0,none⟩)))) (L:=8) ok' ⟨a1,a2⟩ (fun hHeld=>?_);exact uA
theorem Lq{cs:Array Value}(hb:Blk w p 103 cs)(k:Nat)(hk:cs[0]?=some (.int .u8 (k:Int)))(t b:List UInt8)(HT:Hid (∀V,Below w.heap.size w V→Cl 29 #[.pointer (some ⟨p,0,none⟩)] V fun e w'=>∃A c,e=.returned (.slice A t.length c)∧ak w' V.heap.size A c t∧Below V.heap.size V w'))(HE:Hid (∀V A c,Bts V V.heap.size A t→t.length≤c→Cl 28 #[.int .u8 (k:Int),.slice A t.length c] V (eJ b V))):
  Cl 17 #[.pointer (some ⟨p,0,none⟩),.int .i64 1] w fun e w'=>∃A c,e=.returned (.tuple #[.slice A b.length c,.int .i64 0])∧ak w' w.heap.size A c b∧Below w.heap.size w w':=by
 have c0:w.cell? ⟨p,0,none⟩=some (.int .u8 (k:Int)):=by rw[hb.cell];exact hk
 have HB:=Oh hb;clear hb;go_enter func17,ntmps17;go_upto_region 3 with(fail);refine wp_region_noPanic ?_;refine ag (S:=(fun(V:World)=>V.cell? ⟨p,0,none⟩=some (.int .u8 (k:Int)))) (L:=9) ok' c0 (fun hHeld=>?_);have OL:Hid (Below w.heap.size w w.drew):=Oh (Oq _ _).drew;refine tV 0 ?_;refine tV 1 ?_;refine tV 2 ?_;refine tV 3 ?_;refine tV 4 ?_;refine bO 5 fun K hK=>?_;go_simp;refine(HT.out _ OL.out).mono ?_;rintro e v1 ⟨A1,c1,rfl,o1,b1⟩;have IF:Hid (Bts v1 v1.heap.size A1 t):=Oh (ak.reads o1);have Tt:Hid (t.length≤c1):=Oh (kx o1);have aS:Hid (Below w.heap.size w v1):=Oh (ai OL.out b1);clear o1 b1 HT;replace hHeld:=(show(fun(V:World)=>V.cell? ⟨p,0,none⟩=some (.int .u8 (k:Int))) v1 from((HB.out.below aS.out HB.out.lt).cell 0).trans hk);refine hK.out _ _ hHeld ?_;clear hK K;try go_simp
 refine bO 6 fun K hK=>?_;go_simp;refine(HE.out _ _ _ IF.out Tt.out).mono ?_;rintro e v2 ⟨A2,c2,rfl,o2,b2⟩;have nO:Hid (ak v2 w.heap.size A2 c2 b):=Oh (Own.mono (show Own v2 _ 5 1 A2 b.length c2 (bvs b) from o2) aS.out.size);have bY:Hid (Below w.heap.size w v2):=Oh (ai aS.out b2);clear o2 b2 HE;replace hHeld:=(show(fun(V:World)=>V.cell? ⟨p,0,none⟩=some (.int .u8 (k:Int))) v2 from((HB.out.below bY.out HB.out.lt).cell 0).trans hk);refine hK.out _ _ hHeld ?_;clear hK K;try go_simp
 refine fV 7 ?_;refine fV 8 ?_;refine aL 9 ?_;refine Gc 10 fun K hK=>?_;exact ug
theorem Lp{cs:Array Value}(hb:Blk w p 103 cs)(k:Nat)(hk:cs[0]?=some (.int .u8 (k:Int)))(t b:List UInt8)(HT:Hid (∀V,Below w.heap.size w V→Cl 29 #[.pointer (some ⟨p,0,none⟩)] V fun e w'=>∃A c,e=.returned (.slice A t.length c)∧ak w' V.heap.size A c t∧Below V.heap.size V w'))(HE:Hid (∀V A c,Bts V V.heap.size A t→t.length≤c→Cl 30 #[.int .u8 (k:Int),.slice A t.length c,.bool false] V (eJ b V))):
  Cl 17 #[.pointer (some ⟨p,0,none⟩),.int .i64 2] w fun e w'=>∃A c,e=.returned (.tuple #[.slice A b.length c,.int .i64 0])∧ak w' w.heap.size A c b∧Below w.heap.size w w':=by
 exact uz
theorem Lo{cs:Array Value}(hb:Blk w p 103 cs)(k:Nat)(hk:cs[0]?=some (.int .u8 (k:Int)))(t b:List UInt8)(HT:Hid (∀V,Below w.heap.size w V→Cl 29 #[.pointer (some ⟨p,0,none⟩)] V fun e w'=>∃A c,e=.returned (.slice A t.length c)∧ak w' V.heap.size A c t∧Below V.heap.size V w'))(HE:Hid (∀V A c,Bts V V.heap.size A t→t.length≤c→Cl 30 #[.int .u8 (k:Int),.slice A t.length c,.bool true] V (eJ b V))):
  Cl 17 #[.pointer (some ⟨p,0,none⟩),.int .i64 3] w fun e w'=>∃A c,e=.returned (.tuple #[.slice A b.length c,.int .i64 0])∧ak w' w.heap.size A c b∧Below w.heap.size w w':=by
 exact uz
end
end
theorem fL:prog.elem 24=5:=by kernel_rfl
theorem mB(W:World):(sizeOf 5).run prog W=.ok 1 W:=by kernel_rfl
def il(A:Option Addr)(c i:Nat):Option Addr:=if c=i then A else A.map (·.add i)
theorem An(A:Option Addr)(n c i j:Nat)(h1:i≤j)(h3:j≤c)(W:World):
  (Instr.slice 24 (.slice A n c) (some (.int .i64 (i:Int))) (some (.int .i64 (j:Int))) none).run prog W=.ok (.slice (il A c i) (j-i) (c-i)) W:=by
 have hu:prog.underlying 24=some (.slice (prog.elem 24)):=by rw[fL];exact underlying24
 rw[run_slice_lh (w:=W) 24 A n c hu .i64 .i64 (i:Int) (j:Int) oq oq oq,fL,mB];simp[Result.andThen,sliced,il]
theorem qb{l:List UInt8}{i j:Nat}(h2:j≤l.length):((l.drop i).take (j-i)).length=j-i:=sq
theorem lp{w:World}{B:Nat}{A:Option Addr}{l:List UInt8}(h:Bts w B A l)(c i j:Nat)(h2:j≤l.length)(h3:l.length≤c):Bts w B (il A c i) ((l.drop i).take (j-i)):=by
 unfold Bts il;rw[qb h2];refine⟨by rw[bj,qb h2];simp,fun hn=>?_⟩;obtain⟨b,o,hA,hb,hc⟩:=h.2 oq;subst hA;rw[if_neg oq];refine⟨b,o+i,?_,hb,fun k u hu=>?_⟩
 ·simp only[Option.map_some,fM]
 ·rw[Nat.add_assoc];refine hc (i+k) u ?_;rw[EW,EX,List.getElem?_take] at hu;split at hu
  ·rw[List.getElem?_drop] at hu;exact hu
  ·cases hu
section
open Pl Wi
structure Cg(s:DgS):Prop where
 d0:10≤s.d
 d1:s.d≤1000
 wt:s.wt.length<s.d
 ln:s.l.length≤100000
 pos:∀p∈s.l++s.wt,1≤p.2∧s.lo≤p.1∧p.1≤s.hi
 tot:tot (s.l++s.wt)=s.n
 n:s.n≤281474976710656
 srt:s.l.Pairwise (fun p q=>p.1≤q.1)
 zero:s.n=0→s.lo=0∧s.hi=0
theorem qs{w:World}(A1 A2:Option Addr)(n1 c1 n2 c2:Nat)(YA xs2:List Value)(h1:am w w.heap.size 2 A1 n1 YA)(h2:am w w.heap.size 2 A2 n2 xs2)(o1:∀u∈YA,u.oneCell'=true)(o2:∀u∈xs2,u.oneCell'=true)(t:TypeId):
  fX (w.alloc (.cells #[.slice A1 n1 c1,.slice A2 n2 c2] t)) (w.alloc (.cells #[.slice A1 n1 c1,.slice A2 n2 c2] t)).heap.size 2 (some ⟨w.heap.size,0,none⟩) [⟨A1,n1,c1,YA⟩,⟨A2,n2,c2,xs2⟩]:=by
 have hb:Below w.heap.size w (w.alloc (.cells #[.slice A1 n1 c1,.slice A2 n2 c2] t)):=Ba;refine⟨am.lit (bQ _ _) rfl rfl,?_⟩;intro h hh;simp only[List.mem_cons,List.not_mem_nil,or_false] at hh;rcases hh with rfl|rfl
 ·exact⟨h1.at_below hb,o1⟩
 ·exact⟨h2.at_below hb,o2⟩
theorem EC(s:DgS)(Al Aw:Option Addr)(cl cw:Nat)(w:World)(h1:Prs w w.heap.size Al s.l)(h2:Prs w w.heap.size Aw s.wt)(hok:Cg s):
  Cl 250 #[.int .i64 (s.d:Int),.int .i64 s.lo,.int .i64 s.hi,.slice Al s.l.length cl,.slice Aw s.wt.length cw] w fun e w'=>∃x W,e=.returned (.tuple #[.pointer (some ⟨x,0,none⟩),.int .i64 0])∧w.heap.size≤x∧Dig w' x W s∧(∀i,DF x W i→w.heap.size≤i)∧Below w.heap.size w w':=by
 have R5:=Oh (fun W=>zl s.d W hok.d0 hok.d1);have VL:=Oh (fun S cS hs W (h:fX W W.heap.size 2 S hs) (hl:hs.length≤100000000) (hn:aw hs≤100000000)=>qH S cS hs W h hl hn);have Tt:=Oh (fun W (hb:Prs W W.heap.size Al s.l)=>kK Al s.l.length cl (pcs s.l) W hb (aI _) (by have:=hok.ln;omega));have X8:=Oh (fun W (hb:Prs W W.heap.size Aw s.wt)=>kK Aw s.wt.length cw (pcs s.wt) W hb (aI _) (by have:=hok.wt;have:=hok.d1;omega));have RL:=Oh h1;have Qz:=Oh h2;have Td:=Oh hok;have x1:decide (s.d≤s.wt.length)=false:=by have:=hok.wt;simp;omega
 have x2:(s.l.length:Int)≤100000:=by have:=hok.ln;omega
 have x3:(s.wt.length:Int)≤1000:=by have:=hok.wt;have:=hok.d1;omega
 clear h1 h2 hok;go_enter func250,ntmps250;go_wp2_with fail;refine(R5.out _).mono ?_;rintro e w1 ⟨x,rfl,hx,hD,b1⟩;have HX:=Oh hx;have QG:=Oh hD;have aS:=Oh b1;clear hx hD b1;go_wp2_with fail;have hh:=qs Al Aw s.l.length cl s.wt.length cw (pcs s.l) (pcs s.wt) (RL.out.at_below aS.out) (Qz.out.at_below aS.out) (aI _) (aI _) 184;have b2:Below w1.heap.size w1 (w1.alloc (.cells #[.slice Al s.l.length cl,.slice Aw s.wt.length cw] 184)):=Ba;refine(VL.out _ _ _ _ hh os' (by simp only[aw];omega)).mono ?_;rintro e w2 ⟨A1,c1,rfl,o2,b3⟩;have Rl:aw [⟨Al,s.l.length,cl,pcs s.l⟩,⟨Aw,s.wt.length,cw,pcs s.wt⟩]=(s.l++s.wt).length:=by simp[aw]
 have YB:bZ [⟨Al,s.l.length,cl,pcs s.l⟩,⟨Aw,s.wt.length,cw,pcs s.wt⟩]=pcs (s.l++s.wt):=by simp[bZ,au]
 rw[Rl] at o2 ⊢;rw[YB] at o2;have bY:=Oh (ai aS.out (b2.trans (b3.mono b2.size)));have Pn:=Oh (QG.out.below (b2.trans (b3.mono b2.size)));have nO:Hid (dk w2 w.heap.size A1 c1 (s.l++s.wt)):=Oh (Own.mono o2 (Oo aS.out.size b2.size));clear hh b2 o2 b3 Rl YB QG aS VL R5;obtain⟨C,hC⟩:=nm (s.l++s.wt);have HC:=Oh hC;have hcl:(C.length:Int)≤101000:=by rw[hC,Ok];omega
 rw[←hC] at nO ⊢;clear hC;go_wp2_with fail;go_loopw [34] (fun u wr=>∃(i:Nat),i≤C.length∧u=.int .i64 (i:Int)∧Dig wr x ⟨none,0,none,0⟩ ⟨s.d,[],[],0,0,Pl.tot (C.take i)⟩∧dk wr w.heap.size A1 c1 C∧Below w.heap.size w wr) (fun u _=>C.length-(intOf u).toNat)
 case atStart=>exact⟨0,Nat.zero_le _,rfl,Pn.out,nO.out,bY.out⟩
 case round=>
  obtain⟨i,hi,rfl,hd,ho,hb⟩:=hrel;have HD:=Oh hd;have HO:=Oh ho;have HB:=Oh hb;clear hd ho hb Pn nO bY
  by_cases hlt:i<C.length
  ·obtain⟨⟨v,n⟩,hp⟩:∃p,C[i]?=some p:=⟨_,Oj hlt⟩;obtain⟨b,o,rfl,Te,hcell⟩:=Prs.at_ (show Prs wr wr.heap.size A1 C from Own.reads HO.out) oq;obtain⟨d0,d1⟩:=hcell i _ hp;dsimp only at d0 d1;have Y6:=Td.out.pos (v,n) (by rw[←HC.out];exact Om hp);have Ps:=fm hp;have T5:=fY C (i+1);have Zf:Pl.tot C≤281474976710656:=by rw[HC.out,Td.out.tot];exact Td.out.n
   obtain⟨T0,Xg⟩:=nm (Pl.tot (C.take i));obtain⟨T,hT⟩:=nm (Pl.tot (C.take (i+1)));rw[←Xg] at Ps HD;rw[←hT] at Ps T5;dsimp only at Ps Y6;have t1:(i:Int)<(C.length:Int):=oq;have y1:((n:Int)==0)=false:=by rw[beq_eq_false_iff_ne];omega
   have y1b:(n==0)=false:=by rw[beq_eq_false_iff_ne];omega
   have y2:IntKind.u64.wrap (281474976710656-(T0:Int))=((281474976710656-T0:Nat):Int):=u6;have y3:decide (281474976710656-T0<n)=false:=sq;have y4:decide (v<s.lo)=false:=sq;have y5:decide (s.hi<v)=false:=sq;have y6:IntKind.u64.wrap ((T0:Int)+(n:Int))=(T:Int):=u6
   have YC:Hid (∀j,i=j+1→i<s.l.length→∃q:Pr,s.l[j]?=some q∧¬v<q.1):=Oh (fun j hj hl=>by
    obtain⟨q,hq⟩:=gs s.l j;refine⟨q,hq,?_⟩;have hv:s.l[i]?=some (v,n):=by rw[HC.out,List.getElem?_append_left hl] at hp;exact hp
    have h1:=List.getElem?_eq_some_iff.1 hq;have h2:=List.getElem?_eq_some_iff.1 hv;have h3:=List.pairwise_iff_getElem.1 Td.out.srt j i h1.1 h2.1 oq;rw[h1.2,h2.2] at h3;dsimp only at h3;omega)
   have HT:=Oh hT;have oR:=Oh hlt;clear hcell Y6 Ps T5 Zf Xg hT hp hlt hi Te;go_upto_region 7 with(fail);have b1:Below wr.heap.size wr (wr.alloc (.cells #[.int .i64 v,.int .u64 (n:Int)] 186)):=Ba;have HM:=Oh (Blk.new wr 186 #[.int .i64 v,.int .u64 (n:Int)]);have QG:=Oh (HD.out.below b1);have IF:=Oh (Own.below HO.out b1);have aS:=Oh (ai HB.out b1);obtain⟨Nn,hNn⟩:=nm (wr.heap.size);obtain⟨w1,iF⟩:=nm (wr.alloc (.cells #[.int .i64 v,.int .u64 (n:Int)] 186));rw[←iF] at HM QG IF aS ⊢;rw[←hNn] at HM ⊢;clear iF hNn b1 d0 d1 HD HO HB;have m0:=HM.out.c0;have m1:=HM.out.c1;have e5:w1.cell? ⟨x,5,none⟩=some (.int .u64 (T0:Int)):=QG.out.c5;have Pz:(i:Int)≤101000:=by have:=oR.out;omega
   go_cut [84] (fun v wc=>v=.bool false∧∃k,wc=w1.drewN k)
   case first=>
    by_cases hz:i=0
    ·have z1:decide ((0:Int)<(i:Int))=false:=sq;have z1b:decide (0<i)=false:=sq;clear hz YC;go_quiet (fail);go_wp2_with fail;go_meet
     case rel=>exact⟨rfl,_,rfl⟩
    ·have z1:decide ((0:Int)<(i:Int))=true:=sq;have z1b:decide (0<i)=true:=sq
     by_cases hl:i<s.l.length
     ·have z2:decide (i<s.l.length)=true:=sq;obtain⟨j,hj⟩:∃j,i=j+1:=⟨i-1,oq⟩;obtain⟨q,hq,hv⟩:=YC.out j hj hl;obtain⟨b0,o0,rfl,QC,Pt⟩:=Prs.at_ (RL.out.below aS.out) oq;have q0:=(Pt j q hq).1;have z3:IntKind.i64.wrap ((i:Int)-1)=(j:Int):=by rw[show(i:Int)-1=(j:Int) by omega];exact i6
      have z4:(j:Int)<(s.l.length:Int):=oq;have z5:decide (v<q.1)=false:=sq;clear hz hl hj hq hv Pt QC YC;go_quiet (fail);go_wp2_with fail;go_meet
      case rel=>exact⟨rfl,_,rfl⟩
     ·have z2:decide (i<s.l.length)=false:=sq;clear hz hl YC;go_quiet (fail);go_wp2_with fail;go_meet
      case rel=>exact⟨rfl,_,rfl⟩
   case rest=>
    obtain⟨rfl,k9,UI⟩:=hcut;have YU:Hid (Dig wc x ⟨none,0,none,0⟩ ⟨s.d,[],[],0,0,T0⟩):=Oh (by rw[UI];exact QG.out.drewN _);have HM9:Hid (Blk wc Nn 186 #[.int .i64 v,.int .u64 (n:Int)]):=Oh (by rw[UI];exact HM.out.drewN _);have Xo:Hid (dk wc w.heap.size (some ⟨b,o,none⟩) c1 C):=Oh (by rw[UI];exact Own.below IF.out (ae (Oq _ _) _));have QF:Hid (Below w.heap.size w wc):=Oh (by rw[UI];exact ae aS.out _);clear UI QG HM IF aS m0 m1 e5 YC y1 y1b y2 y3 y4 y5;have m1:=HM9.out.c1;have e5:wc.cell? ⟨x,5,none⟩=some (.int .u64 (T0:Int)):=YU.out.c5;have fr:=YU.out.blk.free;go_upto_region 9 with(fail);refine wp_region_noPanic ?_;refine ag (S:=(fun w2=>w2.cell? ⟨x,5,none⟩=some (.int .u64 (T0:Int))∧w2.cell? ⟨Nn,1,none⟩=some (.int .u64 (n:Int)))) (L:=9) ok' ⟨e5,m1⟩ (fun hHeld=>?_);refine tV 0 ?_;refine tV 1 ?_;refine tV 2 ?_;refine tV 3 ?_;refine tV 4 ?_;refine tV 5 ?_;refine tV 6 ?_;refine tV 7 ?_;refine tV 8 ?_;refine aL 9 ?_;refine cD ?_;have HDA:Hid (Dig (wc.setCell ⟨x,5,none⟩ (.int .u64 (T:Int))).drew x ⟨none,0,none,0⟩ ⟨s.d,[],[],0,0,T⟩):=Oh ((YU.out.put 5 (.int .u64 (T:Int)) ⟨s.d,[],[],0,0,T⟩ rfl rfl rfl).drewN 1);have HOA:Hid (dk (wc.setCell ⟨x,5,none⟩ (.int .u64 (T:Int))).drew w.heap.size (some ⟨b,o,none⟩) c1 C):=Oh (Own.drew (Own.setOther Xo.out (p:=⟨x,5,none⟩) (Own.ne_blk Xo.out YU.out.blk od) _));have HBA:Hid (Below w.heap.size w (wc.setCell ⟨x,5,none⟩ (.int .u64 (T:Int))).drew):=Oh (QF.out.setCell (p:=⟨x,5,none⟩) HX.out _).drew;go_wp2_with fail;go_roundw
    case rel=>exact⟨i+1,oR.out,by go_num,by rw[←HT.out];exact HDA.out,HOA.out,HBA.out⟩
    case measure=>exact ms oR
  ·obtain rfl:i=C.length:=oq;rw[List.take_length] at HD;have t1:¬(C.length:Int)<(C.length:Int):=oq;have Zf:Pl.tot C=s.n:=by rw[HC.out];exact Td.out.tot
   rw[Zf] at HD;have e5:wr.cell? ⟨x,5,none⟩=some (.int .u64 (s.n:Int)):=HD.out.c5;clear Zf hi hlt;have Up:=Oh HD.out;go_upto_region 11 with(fail);go_cut [107] (fun v wc=>v=.bool false∧wc=wr)
   case first=>
    by_cases hz:s.n=0
    ·obtain⟨z1,z2⟩:=Td.out.zero hz;rw[hz] at e5;have z3:(s.lo==0)=true:=by rw[z1];rfl
     have z4:(s.hi==0)=true:=by rw[z2];rfl
     have z5:(s.lo !=0)=false:=by rw[z1];rfl
     have z6:(s.hi !=0)=false:=by rw[z2];rfl
     clear hz z1 z2;go_wp2_with fail;go_meet
     case rel=>exact⟨rfl,rfl⟩
    ·have z1:((s.n:Int)==0)=false:=by rw[beq_eq_false_iff_ne];omega
     have z2:(s.n==0)=false:=by rw[beq_eq_false_iff_ne];omega
     clear hz;go_wp2_with fail;go_meet
     case rel=>exact⟨rfl,rfl⟩
   case rest=>
    obtain⟨rfl,rfl⟩:=hcut;clear e5;go_wp2_with fail;refine(Tt.out _ (RL.out.at_below HB.out)).mono ?_;rintro e w5 ⟨A2,c2,rfl,o2,b2⟩;have OE:=Oh (ai HB.out b2);have Up:=Oh (HD.out.below b2);have RZ:=Oh o2;clear o2 b2;go_wp2_with fail;refine(X8.out _ (Qz.out.at_below OE.out)).mono ?_;rintro e w6 ⟨A3,c3,rfl,o3,b3⟩;have PS:=Oh (ai OE.out b3);have WV:=Oh (Up.out.below b3);have Ow:=Oh (And.intro (Own.below RZ.out b3) o3)
    have HAP:Hid (∀i,aa A2=some i→aa A3≠some i):=Oh (fun i hi e=>by
     have h1:=(Own.block RZ.out hi).2;have h2:=(Own.block o3 e).1;omega)
    have HZ:Hid ((∀i,aa A2=some i→w.heap.size≤i)∧(∀i,aa A3=some i→w.heap.size≤i)):=Oh ⟨fun i hi=>Oo HB.out.size (Own.block RZ.out hi).1,fun i hi=>Oo OE.out.size (Own.block o3 hi).1⟩;clear o3 b3 HD HB HO OE Up RZ;have f1:=WV.out.c1;have f2:=WV.out.c2;have f3:=WV.out.c3;have f4:=WV.out.c4;have fr:=WV.out.blk.free;dsimp only[List.length_nil] at f1 f2 f3 f4;go_wp2_with fail;go_ret2;have eQ:=((((WV.out.blk.put 1 (.slice A2 s.l.length c2)).put 2 (.slice A3 s.wt.length c3)).put 3 (.int .i64 s.lo)).put 4 (.int .i64 s.hi));have hx2:aa A2≠some x:=Own.ne_blk Ow.out.1 WV.out.blk od;have hx3:aa A3≠some x:=Own.ne_blk Ow.out.2 WV.out.blk od;refine⟨x,⟨A2,c2,A3,c3⟩,rfl,HX.out,⟨eQ,?_,?_,HAP.out⟩,?_,?_⟩
    ·exact Own.mono (Own.setOther (Own.setOther (Own.setOther (Own.setOther Ow.out.1 (p:=⟨x,1,none⟩) hx2 _) (p:=⟨x,2,none⟩) hx2 _) (p:=⟨x,3,none⟩) hx2 _) (p:=⟨x,4,none⟩) hx2 _) (Nat.zero_le _)
    ·exact Own.mono (Own.setOther (Own.setOther (Own.setOther (Own.setOther Ow.out.2 (p:=⟨x,1,none⟩) hx3 _) (p:=⟨x,2,none⟩) hx3 _) (p:=⟨x,3,none⟩) hx3 _) (p:=⟨x,4,none⟩) hx3 _) (Nat.zero_le _)
    ·rintro i (rfl|hi|hi)
     ·exact HX.out
     ·exact HZ.out.1 i hi
     ·exact HZ.out.2 i hi
    ·exact(((PS.out.setCell (p:=⟨x,1,none⟩) HX.out _).setCell (p:=⟨x,2,none⟩) HX.out _).setCell (p:=⟨x,3,none⟩) HX.out _).setCell (p:=⟨x,4,none⟩) HX.out _
end
section
open Wi
theorem Mf{a b:List UInt8}{i:Nat}{x y:UInt8}(hx:a[i]?=some x)(hy:b[i]?=some y)(hne:x≠y):(a==b)=false:=by
 cases h:a==b with
 |false=>rfl
 |true=>rw[eq_of_beq h,hy] at hx;injection hx with hx;exact absurd hx.symm hne
theorem ju(A1 A2:Option Addr)(c1 c2:Nat)(a b:List UInt8)(w:World)(h1:Bts w w.heap.size A1 a)(h2:Bts w w.heap.size A2 b)(hl:b.length≤100000000):
  Cl 51 #[.slice A1 a.length c1,.slice A2 b.length c2] w fun e w'=>e=.returned (.bool (a==b))∧∃q,w'=w.drewN q:=by
 by_cases hne:a.length=b.length
 ·obtain⟨B,hB⟩:=nm ((a==b));rw[←hB,←hne];have HB:=Oh hB;have H1:=Oh h1;have H2:=Oh h2;have HN:=Oh hne;have hla:(a.length:Int)≤100000000:=oq;clear h1 h2 hl hB hne;obtain⟨n,hn⟩:=nm (a.length);rw[←hn] at hla ⊢;have HNN:=Oh hn;clear hn;go_enter func51,ntmps51;go_wp2_with fail;go_loopw [13] (fun v wr=>∃i:Nat,v=.int .i64 (i:Int)∧i≤n∧a.take i=b.take i∧∃q,wr=w.drewN q) (fun v _=>n-(intOf v).toNat)
  case atStart=>exact⟨0,rfl,Nat.zero_le _,rfl,0,rfl⟩
  case round=>
   obtain⟨i,rfl,hi,SM,q,rfl⟩:=hrel
   by_cases hlt:i<n
   ·have Ri:(i:Int)<(n:Int):=oq;have Qd:(0:Int)≤(i:Int):=oq;have hia:i<a.length:=by rw[←HNN.out];exact hlt
    have hib:i<b.length:=by rw[←HN.out];exact hia
    obtain⟨g1,o1,rfl,eQ,Wm⟩:=H1.out.at_ oq;obtain⟨g2,o2,rfl,aT,Ql⟩:=H2.out.at_ oq;have d1:=Wm i hia;have d2:=Ql i hib;have HT:Hid (a[i]=b[i]→a.take (i+1)=b.take (i+1)):=Oh (fun e=>by rw[List.take_succ_eq_append_getElem hia,List.take_succ_eq_append_getElem hib,SM,e]);have HF:Hid (a[i]≠b[i]→B=false):=Oh (fun e=>by rw[HB.out];exact Mf (Oj hia) (Oj hib) e);have HI:=Oh hlt;generalize a[i]=x at*;generalize b[i]=y at*;have XM:(x.toNat:Int)<256:=by have:=x.toNat_lt;omega
    have hyl:(y.toNat:Int)<256:=by have:=y.toNat_lt;omega
    by_cases UH:x=y
    ·have e1:((x.toNat:Int)==(y.toNat:Int))=true:=by rw[UH];simp
     have e1b:(x.toNat==y.toNat)=true:=by rw[UH];simp
     have OM:=Oh (HT.out UH);clear Wm Ql eQ aT hia hib SM hi hlt HT HF UH;go_wp2_with fail;go_quiet (fail);go_wp2_with fail;go_roundw
     case rel=>exact⟨i+1,by go_num,HI.out,OM.out,q+nq,by first|rfl|simp|go_simp⟩
     case measure=>exact ms HI
    ·have e1:((x.toNat:Int)==(y.toNat:Int))=false:=by
      rw[beq_eq_false_iff_ne];exact fun e=>UH (UInt8.toNat_inj.1 oq)
     have e1b:(x.toNat==y.toNat)=false:=by
      rw[beq_eq_false_iff_ne];exact fun e=>UH (UInt8.toNat_inj.1 e)
     have T4:=Oh (HF.out UH);clear Wm Ql eQ aT hia hib SM hi hlt HT HF UH;go_wp2_with fail;go_quiet (fail);go_wp2_with fail;go_ret;exact⟨by rw[T4.out];rfl,q+nq,by first|rfl|simp|go_simp⟩
   ·have QO:i=n:=oq
    have hBt:B=true:=by
     rw[HB.out,beq_iff_eq];rw[QO,HNN.out,List.take_length,HN.out,List.take_length] at SM;exact SM
    have HX:=Oh hBt;have hge:¬(i:Int)<(n:Int):=oq;clear hi hlt QO hBt SM;go_wp2_with fail;go_ret;exact⟨by rw[HX.out];rfl,q,rfl⟩
 ·have hbf:(a==b)=false:=by
   cases h:a==b with
   |false=>rfl
   |true=>exact absurd (congrArg List.length (eq_of_beq h)) hne
  have e1:((a.length:Int)==(b.length:Int))=false:=sq;have e2:(a.length==b.length)=false:=by simpa using hne
  rw[hbf];clear h1 h2 hne hbf;generalize a.length=n at*;generalize b.length=m at*;go_enter func51,ntmps51;go_wp2_with fail;go_ret;exact⟨rfl,0,rfl⟩
end
section
open Pl Sc Wi
def zQ(w:World)(L:List UInt8)(e:Ending)(w':World):Prop:=∃A c,e=.returned (.tuple #[.slice A L.length c,.int .i64 0])∧ak w' w.heap.size A c L∧Below w.heap.size w w'
theorem us4{w:World}(a m n f:Nat):Us (w.alloc (.cells #[.int .u64 (a:Int),.int .u64 (m:Int),.int .u64 (n:Int),.int .u64 (f:Int)] 35)) (w.alloc (.cells #[.int .u64 (a:Int),.int .u64 (m:Int),.int .u64 (n:Int),.int .u64 (f:Int)] 35)).heap.size (some ⟨w.heap.size,0,none⟩) [a,m,n,f]:=
 am.lit (bQ _ _) rfl rfl
set_option maxHeartbeats 3200000 in
theorem yg(p a m:Nat)(KL:List Pr)(F:Nat)(w:World)(hK:aV KL)(hKl:KL.length≤4096)(ha:a≤5000)(hm:m≤4096)(hF:F≤4611686018427387904)(h1:Cl 98 #[.pointer (some ⟨p,0,none⟩)] w (en KL w))(h2:∀W,Below w.heap.size w W→Cl 99 #[.pointer (some ⟨p,0,none⟩)] W (Rt (.int .i64 (a:Int)) W))(h3:∀W,Below w.heap.size w W→Cl 100 #[.pointer (some ⟨p,0,none⟩)] W (Rt (.int .i64 (m:Int)) W))(h4:∀W,Below w.heap.size w W→Cl 101 #[.pointer (some ⟨p,0,none⟩)] W (Rt (.int .u64 (F:Nat)) W)):
  Cl 55 #[.pointer (some ⟨p,0,none⟩)] w (zQ w (iX a m KL F)):=by
 have H1:=Oh h1;have H2:=Oh h2;have H3:=Oh h3;have H4:=Oh h4;have HK:=Oh hK;have ahS:(KL.length:Int)≤4096:=oq;have ha':(a:Int)≤5000:=oq;have hm':(m:Int)≤4096:=oq
 have HPU:Hid (∀W A0,Us W W.heap.size A0 [a,m,KL.length,F]→Cl 92 #[.string ⟨#[118,118,118,118]⟩,.slice A0 4 4] W (zQ W (mm a m KL.length F))):=Oh (fun W A0 hb=>by
  have h:=gY ⟨#[118,118,118,118]⟩ A0 4 [a,m,KL.length,F] W hb os' (by intro x hx;simp at hx;omega);rw[show(⟨#[118,118,118,118]⟩:ByteArray).data.toList=[118,118,118,118] from rfl,AO] at h;exact h)
 have HHL:Hid ((mm a m KL.length F).length≤40):=Oh (qt oq oq oq oq);obtain⟨HD,hHD⟩:=nm (mm a m KL.length F);have YD:iX a m KL F=HD++eo none KL:=by rw[hHD];rfl
 rw[YD];rw[←hHD] at HPU HHL;clear h1 h2 h3 h4 hK hF hHD YD;go_enter func55,ntmps55;go_wp2_with fail;refine H1.out.mono ?_;rintro e w1 ⟨A1,c1,rfl,hP,eQ⟩;have HP:=Oh (bI.reads hP);have aS:=Oh eQ;clear hP eQ;go_wp2_with fail;refine(H2.out w1 aS.out).mono ?_;rintro e _ ⟨rfl,rfl⟩;go_wp2_with fail;refine(H3.out w1 aS.out).mono ?_;rintro e _ ⟨rfl,rfl⟩;go_wp2_with fail;refine(H4.out w1 aS.out).mono ?_;rintro e _ ⟨rfl,rfl⟩;go_wp2_with fail;have b2:Below w1.heap.size w1 (w1.alloc (.cells #[.int .u64 (a:Int),.int .u64 (m:Int),.int .u64 (KL.length:Int),.int .u64 (F:Int)] 35)):=Ba;refine(HPU.out _ (some ⟨w1.heap.size,0,none⟩) (us4 a m KL.length F)).mono ?_;rintro e w2 ⟨A2,c2,rfl,o2,b3⟩;have bY:=Oh (ai b2 b3);have nO:Hid (ak w2 w1.heap.size A2 c2 HD):=Oh (Own.mono (show Own w2 _ 5 1 A2 HD.length c2 (bvs HD) from o2) os');clear b2 b3 o2;dsimp only;go_wp2_with fail;have Z3:Hid (KL.length≤4096):=Oh hKl;clear hKl;go_loopw [34,5] (fun v u wr=>∃(i:Nat) (S:List UInt8) (A2:Option Addr) (c2:Nat),v=.int .i64 (i:Int)∧u=.slice A2 S.length c2∧i≤KL.length∧S.length≤40+20*i∧HD++eo none KL=S++eo (eT KL i) (KL.drop i)∧ak wr w1.heap.size A2 c2 S∧Below w1.heap.size w1 wr) (fun v _ _=>KL.length-(intOf v).toNat)
 case atStart=>exact⟨0,HD,A2,c2,rfl,rfl,Nat.zero_le _,by have:=HHL.out;omega,rfl,nO.out,bY.out⟩
 case round=>
  clear nO bY;obtain⟨i,S,A3,c3,rfl,rfl,hi,Z5,YD,ho,aC⟩:=hrel;obtain⟨wo,rfl⟩:=nm (wr:World);have nO:=Oh ho;have bY:=Oh aC;have HDC:=Oh YD;have Uu:=Oh Z5;clear ho aC YD Z5
  by_cases hlt:i<KL.length
  ·have Ri:(i:Int)<(KL.length:Int):=oq;have Qd:(0:Int)≤(i:Int):=oq;obtain⟨x,hx⟩:=gs KL i hlt;obtain⟨b,o,rfl,OO,hc⟩:=(show Prs w1 w1.heap.size A1 KL from HP.out).at_ oq;obtain⟨d1',Z0⟩:=hc i x hx;have d1:=(bY.out.cell (p:=⟨b,o+i*2,none⟩) OO).trans d1';have d2:=(bY.out.cell (p:=⟨b,o+i*2+1,none⟩) OO).trans Z0;have HX:=Oh hx;have HI:=Oh hlt
   have Wx:x.2<18446744073709551616:=by
    have h1:=HK.out.tot;have h2:=aW (Om hx);omega
   have ZD:=Oh Wx;have Zi:=Oh (HDC.out.trans (by rw[AX hx]))
   have Ut:Hid ((fO (eT KL i) x.1).length≤10):=Oh (wi _ _ (HK.out.keys x (Om hx)).1 (HK.out.keys x (Om hx)).2 (fun q hq=>by
    unfold eT at hq;split at hq
    ·cases hq
    ·cases hj:KL[i-1]? with
     |none=>rw[hj] at hq;cases hq
     |some y=>rw[hj] at hq;cases hq;exact(HK.out.keys y (Om hj)).1))
   by_cases hz:i=0
   ·have RT:((i:Int)==0)=true:=sq;have a3o:(i==0)=true:=sq;have RN:eT KL i=none:=by rw[hz];rfl
    rw[RN] at Zi Ut;obtain⟨k,n⟩:=x;dsimp only at d1 d2 ZD Zi Ut;clear hz RN hx OO hi hlt hc d1' Z0 Wx;have HZ:Hid (leb (bG (zk k))=fO none k):=Oh rfl;have a1M:Hid (HD++eo none KL=S++(leb (bG (zk k))++leb n++eo (eT KL (i+1)) (KL.drop (i+1)))):=Zi;have a1L:Hid ((leb (bG (zk k))).length≤10):=Ut;clear HZ Zi Ut;obtain⟨L1,Qp⟩:=nm (leb (bG (zk k)));rw[←Qp] at a1M a1L;have HPZ:=Oh (fun A c W (h:ak W w1.heap.size A c S) (hb:w1.heap.size≤W.heap.size)=>Jd (zk k) (cu k) w1.heap.size A c S W h hb (by have:=Uu.out;omega));rw[←Qp,←da] at HPZ;clear Qp;go_wp2_with fail;have UB:=fG bY.out (.cells #[.int .i64 k,.int .u64 (n:Nat)] 176);have Z7:ak (wo.alloc (.cells #[.int .i64 k,.int .u64 (n:Nat)] 176)) w1.heap.size A3 c3 S:=Own.alloc (show Own wo _ 5 1 A3 S.length c3 (bvs S) from nO.out) _;have EQ:=Blk.new wo 176 #[.int .i64 k,.int .u64 (n:Nat)];obtain⟨N,hN⟩:=nm (wo.heap.size);have Is:w1.heap.size≤(wo.alloc (.cells #[.int .i64 k,.int .u64 (n:Nat)] 176)).heap.size:=by have:=bY.out.size;simp;omega
    rw[←hN] at EQ
    skip
    have HAL:=Oh UB;have Pw:=Oh EQ;have HOA:=Oh Z7;have S8:=Oh Is;have Z2:Hid (aa A3≠some N):=Oh (Own.ne_blk (show Own _ w1.heap.size 5 1 A3 S.length c3 (bvs S) from Z7) EQ od);clear d1 d2 UB EQ Z7 Is;generalize wo.alloc (.cells #[.int .i64 k,.int .u64 (n:Nat)] 176)=W0 at*;rw[←hN];clear hN;refine(HPZ.out A3 c3 W0 HOA.out S8.out).mono ?_;rintro e w3 ⟨A4,c4,rfl,o4,k4⟩;have O4:=Oh o4;have K4:Hid (ab (fun i=>aa A3=some i) W0 w3):=Oh ⟨k4.os,k4.tape,k4.output,k4.size,k4.block⟩;clear o4 k4;exact tR
   ·obtain⟨j,hj⟩:∃j,i=j+1:=⟨i-1,oq⟩;have hw:IntKind.i64.wrap ((i:Int)-1)=(j:Int):=by rw[i6];omega
    have Yc:(0:Int)≤(j:Int):=oq;have TC:(j:Int)<(KL.length:Int):=oq;have RT:((i:Int)==0)=false:=sq;have a3o:(i==0)=false:=sq;obtain⟨y,hy⟩:=gs KL j;have dq:=(bY.out.cell (p:=⟨b,o+j*2,none⟩) OO).trans (hc j y hy).1;have a6F:=tp HK.out.srt hy (by rw[←hj];exact hx);have hky:=HK.out.keys y (Om hy);have hkx:=HK.out.keys x (Om hx);have RN:eT KL i=some y.1:=by rw[hj];exact eO hy
    rw[RN] at Zi Ut;obtain⟨k,n⟩:=x;obtain⟨q,n'⟩:=y;dsimp only at d1 d2 dq ZD Zi Ut a6F hky hkx;have hD1:IntKind.i64.wrap (k-q)=k-q:=i6;obtain⟨D,hD⟩:=nm ((k-q-1).toNat);have hD2:IntKind.i64.wrap (k-q-1)=(D:Int):=by rw[i6];omega
    have hD4:D<18446744073709551616:=oq;have HD4:=Oh hD4;have hD5:IntKind.u64.wrap (D:Int)=(D:Int):=IntWalk.u64_in _ ⟨oq,oq⟩;have hDk:fO (some q) k=leb D:=by rw[hD];rfl
    rw[hDk] at Zi Ut;have HJ:=Oh hj;have Qq:=Oh OO;clear hx OO hi hlt hc d1' Z0 Wx hy hj a6F hky hkx RN hz hDk hD hD4;obtain⟨L1,Qp⟩:=nm (leb D);rw[←Qp] at Zi Ut;have a1M:=Zi;have a1L:=Ut;clear Zi Ut;have HPZ:=Oh (fun A c W (h:ak W w1.heap.size A c S) (hb:w1.heap.size≤W.heap.size)=>zn D HD4.out w1.heap.size A c S W h hb (by have:=Uu.out;omega));rw[←Qp] at HPZ;clear Qp;go_wp2_with fail;have UB:=fG bY.out (.cells #[.int .i64 k,.int .u64 (n:Nat)] 176);have Z7:ak (wo.alloc (.cells #[.int .i64 k,.int .u64 (n:Nat)] 176)) w1.heap.size A3 c3 S:=Own.alloc (show Own wo _ 5 1 A3 S.length c3 (bvs S) from nO.out) _;have EQ:=Blk.new wo 176 #[.int .i64 k,.int .u64 (n:Nat)];obtain⟨N,hN⟩:=nm (wo.heap.size);have Is:w1.heap.size≤(wo.alloc (.cells #[.int .i64 k,.int .u64 (n:Nat)] 176)).heap.size:=by have:=bY.out.size;simp;omega
    rw[←hN] at EQ;have f0:=EQ.c0;have fq:(wo.alloc (.cells #[.int .i64 k,.int .u64 (n:Nat)] 176)).cell? ⟨b,o+j*2,none⟩=some (.int .i64 q):=(World.cell?_alloc_lt wo _ _ (by have:=bY.out.size;dsimp only;have:=Qq.out;omega)).trans dq;have HBA:Hid (aa A3≠some b):=Oh (fun e=>by have:=(Own.block (show Own _ w1.heap.size 5 1 A3 S.length c3 (bvs S) from Z7) e).1;have:=Qq.out;omega);have HAL:=Oh UB;have Pw:=Oh EQ;have HOA:=Oh Z7;have S8:=Oh Is;have Z2:Hid (aa A3≠some N):=Oh (Own.ne_blk (show Own _ w1.heap.size 5 1 A3 S.length c3 (bvs S) from Z7) EQ od);clear d1 d2 dq UB EQ Z7 Is;generalize wo.alloc (.cells #[.int .i64 k,.int .u64 (n:Nat)] 176)=W0 at*;rw[←hN];clear hN;refine wp_region_noPanic ?_;refine wp_region_held_drew (S:=(fun W=>W.cell? ⟨N,0,none⟩=some (.int .i64 k)∧W.cell? ⟨b,o+j*2,none⟩=some (.int .i64 q))) ok' ⟨f0,fq⟩ (fun hHeld=>?_);refine tH 0 ?_;refine tH 1 ?_;refine tH 2 ?_;refine tH 3 ?_;refine tH 4 ?_;refine tH 5 ?_;refine tH 6 ?_;refine tH 7 ?_;refine tH 8 ?_;refine tH 9 ?_;refine tH 10 ?_;refine tH 11 ?_;refine dQ 12 fun K hK=>?_;go_simp;refine(HPZ.out A3 c3 W0.drew HOA.out S8.out).mono ?_;rintro e w3 ⟨A4,c4,rfl,o4,k4⟩;have O4:=Oh o4;have K4:Hid (ab (fun i=>aa A3=some i) W0 w3):=Oh ⟨k4.os,k4.tape,k4.output,k4.size,k4.block⟩;clear o4 k4;refine hK.out _ _ ?_ (fun hHeld=>?_)
    ·exact⟨(World.cell?_of_block (K4.out.block N Pw.out.lt Z2.out)).trans hHeld.1,(World.cell?_of_block (K4.out.block b (by have:=Qq.out;have:=S8.out;omega) HBA.out)).trans hHeld.2⟩
    clear hK K
    try go_simp
    refine tH 13 ?_;refine jR ?_;exact tR
  ·have hge:¬(i:Int)<(KL.length:Int):=oq;have OH:HD++eo none KL=S:=by rw[HDC.out,List.drop_of_length_le oq];simp[eo]
   have HX:=Oh OH;clear hi hlt OH;go_wp2_with fail;go_ret2;rw[HX.out];exact⟨A3,c3,rfl,Own.mono (show Own wo w1.heap.size 5 1 A3 S.length c3 (bvs S) from nO.out) aS.out.size,aS.out.trans (bY.out.mono aS.out.size)⟩
end
end Go.Proofs.YtmbippkpjdoojaaGreat
