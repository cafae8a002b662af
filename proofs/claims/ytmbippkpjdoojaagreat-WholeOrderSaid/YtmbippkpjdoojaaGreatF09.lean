/- Parts of a proof, merged. -/
import Derived.Test.YtmbippkpjdoojaaGreatF08
set_option maxRecDepth 100000
set_option maxHeartbeats 1600000
namespace Go.Proofs.YtmbippkpjdoojaaGreat
open Tryz
open Go.RowKit
theorem yJ(x y:Nat)(hx:x<18446744073709551616)(hy:y<18446744073709551616)(w:World):
  Cl 365 #[.int .u64 (x:Int),.int .u64 (y:Int)] w (Rt (.tuple #[.int .u64 ((x*y/18446744073709551616:Nat):Int),.int .u64 ((x*y%18446744073709551616:Nat):Int)]) w):=by
 obtain⟨bd,bt,bw,SD⟩:=Lib.mul64_hi x y hx hy;have ba:=Lib.half_mul_le (a:=x/4294967296) (b:=y/4294967296) oq oq;have bb:=Lib.half_mul_le (a:=x/4294967296) (b:=y%4294967296) oq oq;have bc:=Lib.half_mul_le (a:=x%4294967296) (b:=y/4294967296) oq oq;have ba':x/4294967296*(y/4294967296)<18446744073709551616:=oq;have bb':x/4294967296*(y%4294967296)<18446744073709551616:=oq;have bc':x%4294967296*(y/4294967296)<18446744073709551616:=oq;have bh1:x/4294967296*(y/4294967296)+(x/4294967296*(y%4294967296)+x%4294967296*(y%4294967296)/4294967296)/4294967296<18446744073709551616:=oq;have bh:x/4294967296*(y/4294967296)+(x/4294967296*(y%4294967296)+x%4294967296*(y%4294967296)/4294967296)/4294967296+((x/4294967296*(y%4294967296)+x%4294967296*(y%4294967296)/4294967296)%4294967296+x%4294967296*(y/4294967296))/4294967296<18446744073709551616:=oq;have HHI:=Oh SD;clear SD;go_enter func365,ntmps365;go_wp2;simp only[Mul64.maskN x hx,Mul64.maskN y hy,Mul64.divN,Mul64.mulN,Mul64.addN,Mul64.wrapN _ bd,Mul64.wrapN _ bb',Mul64.wrapN _ bt,Mul64.maskN _ bt,Mul64.wrapN _ bc',Mul64.wrapN _ bw,Mul64.wrapN _ ba',Mul64.wrapN _ bh1,Mul64.wrapN _ bh,Mul64.wrapM (x*y)];rw[HHI.out];go_ret2;exact⟨rfl,rfl⟩
theorem FD(x:Nat)(w:World)(h1:(x:Int)≤18446744073709551615):
  Cl 416 #[.int .u64 (x:Int)] w (Rt (.int .i64 (64-(Lib.bitLen x:Int))) w):=by
 have HL:=Oh (rI (x:Int) w oq h1);have hb:Lib.bitLen x≤64:=Lib.bitLen_le x 64 (Oi _) oq;rw[Int.toNat_natCast] at HL;generalize Lib.bitLen x=L at*;have aT:(L:Int)≤64:=oq;go_enter func416,ntmps416;go_wp2_with fail;refine HL.out.mono ?_;rintro e w1 ⟨rfl,hw⟩;obtain rfl:=hw.symm;go_wp2_with fail;go_ret;exact⟨rfl,rfl⟩
theorem Fx(a b k:Nat)(hb:b<2^k)(h:a*2^k+b<18446744073709551616):bits .or .u64 ((a*2^k:Nat):Int) (b:Int)=((a*2^k+b:Nat):Int):=by
 rw[u64_or_nat _ _ oq oq]
 congr 1
 rw[Nat.mul_comm];exact(Nat.two_pow_add_eq_or_of_lt hb a).symm
theorem kN(a:Nat)(ha:a<18446744073709551616):bits .and .u64 (a:Int) 4294967295=((a%4294967296:Nat):Int):=Mul64.maskN a ha
theorem EY{d:Nat}(h0:8192≤d)(h1:d<16384):Lib.bitLen d=14:=by
 have e:d/8192=1:=oq;have h:=Lib.bitLen_shift 13 d h0 oq;rw[show(2:Nat)^13=8192 from rfl,e] at h;rw[h];rfl
theorem EB(hi lo d:Nat)(w:World)(hh:hi≠0)(h1:hi<d)(P4:lo<18446744073709551616)(OH:8192≤d)(uP:d<16384):
  Cl 366 #[.int .u64 (hi:Int),.int .u64 (lo:Int),.int .u64 (d:Int)] w (Rt (.tuple #[.int .u64 (((hi*18446744073709551616+lo)/d:Nat):Int),.int .u64 (((hi*18446744073709551616+lo)%d:Nat):Int)]) w):=by
 obtain⟨Z,mK,Pm,Ph,q1,r1,q0,r0,a1,a2,a3,a4,a5,a6,a7,a8,a9,b1,b2,b3,b4,b5,b6,b7,b8,b9⟩:=sW hi lo d h1 P4 OH uP;have HLZ:=Oh (FD d w oq);rw[EY OH uP] at HLZ;rw[←b8,←b9];have z1:((d:Int)==0)=false:=sq;have z2:decide ((d:Int)≤(hi:Int))=false:=sq;have z2b:decide (d≤hi)=false:=sq;have z3:((hi:Int)==0)=false:=sq;have Re:(d:Int)<16384:=oq;have ZX:(8192:Int)≤(d:Int):=oq;have Zc:(hi:Int)<(d:Int):=oq;obtain⟨Y,hY⟩:=nm (d*1125899906842624);obtain⟨V,hV⟩:=nm (Pm*4294967296+Ph);obtain⟨m1,gE⟩:=nm (q1*Z);obtain⟨m0,oS⟩:=nm (q0*Z);obtain⟨OW,U9⟩:=nm (r1*4294967296+Pm);rw[←U9] at b4 b6;have hYl:Y<18446744073709551616:=oq;have hVl:V<18446744073709551616:=oq;have hYZ:Y=Z*4294967296:=by rw[hY];exact a1
 have e0:(d:Int)*1125899906842624=(Y:Int):=oq;have e1:(Y:Int)/4294967296=(Z:Int):=oq;have e2:bits .and .u64 (Y:Int) 4294967295=0:=by rw[kN _ hYl];omega
 have e3a:=Fx hi (lo/16384) 50 oq oq
 have e3:bits .or .u64 ((hi:Int)*1125899906842624) ((lo:Int)/16384)=(mK:Int):=by
  rw[show((hi:Int)*1125899906842624)=((hi*2^50:Nat):Int) by omega,show((lo:Int)/16384)=((lo/16384:Nat):Int) by omega,e3a];omega
 have e4:IntKind.u64.wrap ((lo:Int)*1125899906842624)=(V:Int):=u6;have e5:(V:Int)/4294967296=(Pm:Int):=oq;have e6:bits .and .u64 (V:Int) 4294967295=(Ph:Int):=by rw[kN _ hVl];omega
 have e7:(mK:Int)/(Z:Int)=(q1:Int):=by rw[←a9];rfl
 have e8:(q1:Int)*(Z:Int)=(m1:Int):=by rw[gE,Int.natCast_mul]
 have a2w:m1+r1=mK:=by rw[gE,Nat.mul_comm];exact b2
 have e9:(mK:Int)-(m1:Int)=(r1:Int):=oq;have f7:(OW:Int)/(Z:Int)=(q0:Int):=by rw[←b4];rfl
 have f8:(q0:Int)*(Z:Int)=(m0:Int):=by rw[oS,Int.natCast_mul]
 have a2x:m0+r0=OW:=by rw[oS,Nat.mul_comm];exact b6
 have f9:(OW:Int)-(m0:Int)=(r0:Int):=oq;have g1:(2147483648:Int)≤(Z:Int):=oq;have g2:(Z:Int)<4294967296:=oq;have g3:(q1:Int)<4294967296:=oq;have g4:(mK:Int)<18446744073709551616:=oq;have g5:(m1:Int)≤(mK:Int):=oq;have g6:(r1:Int)<4294967296:=oq;have g7:(Pm:Int)<4294967296:=oq;have g8:(q0:Int)<4294967296:=oq;have g9:(m0:Int)≤(OW:Int):=oq;have g10:(r0:Int)<4294967296:=oq;have g11:(OW:Int)<18446744073709551616:=oq;have g12:(Y:Int)<18446744073709551616:=oq;have g13:(Ph:Int)<4294967296:=oq;have g14:(V:Int)<18446744073709551616:=oq;have Yd:q1*Y=m1*4294967296:=by rw[hYZ,gE,Nat.mul_assoc]
 have Ye:q0*Y=m0*4294967296:=by rw[hYZ,oS,Nat.mul_assoc]
 obtain⟨X1,hX1⟩:=nm (mK*4294967296%18446744073709551616);obtain⟨X2,hX2⟩:=nm ((X1+Pm)%18446744073709551616);obtain⟨X3,hX3⟩:=nm (m1*4294967296%18446744073709551616);obtain⟨X4,hX4⟩:=nm (OW*4294967296%18446744073709551616);obtain⟨X5,hX5⟩:=nm ((X4+Ph)%18446744073709551616);obtain⟨X6,hX6⟩:=nm (m0*4294967296%18446744073709551616);obtain⟨R1,hR1⟩:=nm (4294967296*r1);obtain⟨R0,hR0⟩:=nm (4294967296*r0);obtain⟨W0,UF⟩:=nm (r0*4294967296+Ph);obtain⟨Q1,hQ1⟩:=nm (q1*4294967296);rw[←UF];have i1:IntKind.u64.wrap ((mK:Int)*4294967296)=(X1:Int):=u6;have i2:IntKind.u64.wrap ((X1:Int)+(Pm:Int))=(X2:Int):=u6;have i3:IntKind.u64.wrap ((q1:Int)*(Y:Int))=(X3:Int):=by rw[←Int.natCast_mul,Yd,On];omega
 have i4:IntKind.u64.wrap ((X2:Int)-(X3:Int))=(OW:Int):=u6;have i5:IntKind.u64.wrap ((OW:Int)*4294967296)=(X4:Int):=u6;have i6:IntKind.u64.wrap ((X4:Int)+(Ph:Int))=(X5:Int):=u6;have i7:IntKind.u64.wrap ((q0:Int)*(Y:Int))=(X6:Int):=by rw[←Int.natCast_mul,Ye,On];omega
 have i8:IntKind.u64.wrap ((X5:Int)-(X6:Int))=(W0:Int):=u6;have j1:4294967296*(r1:Int)=(R1:Int):=oq;have j2:(R1:Int)+(Pm:Int)=(OW:Int):=oq;have j3:4294967296*(r0:Int)=(R0:Int):=oq;have j4:(R0:Int)+(Ph:Int)=(W0:Int):=oq;have j5:(q1:Int)*4294967296=(Q1:Int):=oq;obtain⟨QUO,Yf⟩:=nm (Q1+q0);have j6:(Q1:Int)+(q0:Int)=(QUO:Int):=oq;have k1:decide ((4294967296:Int)≤(q1:Int))=false:=sq;have k2:decide ((4294967296:Int)≤(q0:Int))=false:=sq;have k3:decide ((OW:Int)<0)=false:=by simp
 have k4:decide ((W0:Int)<0)=false:=by simp
 have l1:(R1:Int)<18446744073709551616:=oq;have l2:(R0:Int)<18446744073709551616:=oq;have l3:(W0:Int)<18446744073709551616:=oq;have l4:(QUO:Int)<18446744073709551616:=oq;have l5:(Q1:Int)<18446744073709551616:=oq;have Ua:q1*4294967296+q0=QUO:=by rw[Yf,hQ1]
 rw[Ua];clear hX1 hX2 hX3 hX4 hX5 hX6 hR1 hR0 UF hQ1 Yf Yd Ye Ua;clear OH uP h1 P4 a1 a2 a3 a4 a5 a6 a7 a8 a9 b1 b2 b3 b4 b5 b6 b7 b8 b9 e3a hY hV gE oS U9 hYl hVl hYZ a2w a2x hh;go_enter func366,ntmps366;go_wp2_with fail;refine HLZ.out.mono ?_;rintro e w1 ⟨rfl,rfl⟩;simp only[show(64:Int)-((14:Nat):Int)=50 from rfl];exact tW
theorem EZ{d:Nat}(h0:4096≤d)(h1:d<8192):Lib.bitLen d=13:=by
 have e:d/4096=1:=oq;have h:=Lib.bitLen_shift 12 d h0 oq;rw[show(2:Nat)^12=4096 from rfl,e] at h;rw[h];rfl
theorem EA(hi lo d:Nat)(w:World)(hh:hi≠0)(h1:hi<d)(P4:lo<18446744073709551616)(OH:4096≤d)(uP:d<8192):
  Cl 366 #[.int .u64 (hi:Int),.int .u64 (lo:Int),.int .u64 (d:Int)] w (Rt (.tuple #[.int .u64 (((hi*18446744073709551616+lo)/d:Nat):Int),.int .u64 (((hi*18446744073709551616+lo)%d:Nat):Int)]) w):=by
 obtain⟨Z,mK,Pm,Ph,q1,r1,q0,r0,a1,a2,a3,a4,a5,a6,a7,a8,a9,b1,b2,b3,b4,b5,b6,b7,b8,b9⟩:=sV hi lo d h1 P4 OH uP;have HLZ:=Oh (FD d w oq);rw[EZ OH uP] at HLZ;rw[←b8,←b9];have z1:((d:Int)==0)=false:=sq;have z2:decide ((d:Int)≤(hi:Int))=false:=sq;have z2b:decide (d≤hi)=false:=sq;have z3:((hi:Int)==0)=false:=sq;have Re:(d:Int)<8192:=oq;have ZX:(4096:Int)≤(d:Int):=oq;have Zc:(hi:Int)<(d:Int):=oq;obtain⟨Y,hY⟩:=nm (d*2251799813685248);obtain⟨V,hV⟩:=nm (Pm*4294967296+Ph);obtain⟨m1,gE⟩:=nm (q1*Z);obtain⟨m0,oS⟩:=nm (q0*Z);obtain⟨OW,U9⟩:=nm (r1*4294967296+Pm);rw[←U9] at b4 b6;have hYl:Y<18446744073709551616:=oq;have hVl:V<18446744073709551616:=oq;have hYZ:Y=Z*4294967296:=by rw[hY];exact a1
 have e0:(d:Int)*2251799813685248=(Y:Int):=oq;have e1:(Y:Int)/4294967296=(Z:Int):=oq;have e2:bits .and .u64 (Y:Int) 4294967295=0:=by rw[kN _ hYl];omega
 have e3a:=Fx hi (lo/8192) 51 oq oq
 have e3:bits .or .u64 ((hi:Int)*2251799813685248) ((lo:Int)/8192)=(mK:Int):=by
  rw[show((hi:Int)*2251799813685248)=((hi*2^51:Nat):Int) by omega,show((lo:Int)/8192)=((lo/8192:Nat):Int) by omega,e3a];omega
 have e4:IntKind.u64.wrap ((lo:Int)*2251799813685248)=(V:Int):=u6;have e5:(V:Int)/4294967296=(Pm:Int):=oq;have e6:bits .and .u64 (V:Int) 4294967295=(Ph:Int):=by rw[kN _ hVl];omega
 have e7:(mK:Int)/(Z:Int)=(q1:Int):=by rw[←a9];rfl
 have e8:(q1:Int)*(Z:Int)=(m1:Int):=by rw[gE,Int.natCast_mul]
 have a2w:m1+r1=mK:=by rw[gE,Nat.mul_comm];exact b2
 have e9:(mK:Int)-(m1:Int)=(r1:Int):=oq;have f7:(OW:Int)/(Z:Int)=(q0:Int):=by rw[←b4];rfl
 have f8:(q0:Int)*(Z:Int)=(m0:Int):=by rw[oS,Int.natCast_mul]
 have a2x:m0+r0=OW:=by rw[oS,Nat.mul_comm];exact b6
 have f9:(OW:Int)-(m0:Int)=(r0:Int):=oq;have g1:(2147483648:Int)≤(Z:Int):=oq;have g2:(Z:Int)<4294967296:=oq;have g3:(q1:Int)<4294967296:=oq;have g4:(mK:Int)<18446744073709551616:=oq;have g5:(m1:Int)≤(mK:Int):=oq;have g6:(r1:Int)<4294967296:=oq;have g7:(Pm:Int)<4294967296:=oq;have g8:(q0:Int)<4294967296:=oq;have g9:(m0:Int)≤(OW:Int):=oq;have g10:(r0:Int)<4294967296:=oq;have g11:(OW:Int)<18446744073709551616:=oq;have g12:(Y:Int)<18446744073709551616:=oq;have g13:(Ph:Int)<4294967296:=oq;have g14:(V:Int)<18446744073709551616:=oq;have Yd:q1*Y=m1*4294967296:=by rw[hYZ,gE,Nat.mul_assoc]
 have Ye:q0*Y=m0*4294967296:=by rw[hYZ,oS,Nat.mul_assoc]
 obtain⟨X1,hX1⟩:=nm (mK*4294967296%18446744073709551616);obtain⟨X2,hX2⟩:=nm ((X1+Pm)%18446744073709551616);obtain⟨X3,hX3⟩:=nm (m1*4294967296%18446744073709551616);obtain⟨X4,hX4⟩:=nm (OW*4294967296%18446744073709551616);obtain⟨X5,hX5⟩:=nm ((X4+Ph)%18446744073709551616);obtain⟨X6,hX6⟩:=nm (m0*4294967296%18446744073709551616);obtain⟨R1,hR1⟩:=nm (4294967296*r1);obtain⟨R0,hR0⟩:=nm (4294967296*r0);obtain⟨W0,UF⟩:=nm (r0*4294967296+Ph);obtain⟨Q1,hQ1⟩:=nm (q1*4294967296);rw[←UF];have i1:IntKind.u64.wrap ((mK:Int)*4294967296)=(X1:Int):=u6;have i2:IntKind.u64.wrap ((X1:Int)+(Pm:Int))=(X2:Int):=u6;have i3:IntKind.u64.wrap ((q1:Int)*(Y:Int))=(X3:Int):=by rw[←Int.natCast_mul,Yd,On];omega
 have i4:IntKind.u64.wrap ((X2:Int)-(X3:Int))=(OW:Int):=u6;have i5:IntKind.u64.wrap ((OW:Int)*4294967296)=(X4:Int):=u6;have i6:IntKind.u64.wrap ((X4:Int)+(Ph:Int))=(X5:Int):=u6;have i7:IntKind.u64.wrap ((q0:Int)*(Y:Int))=(X6:Int):=by rw[←Int.natCast_mul,Ye,On];omega
 have i8:IntKind.u64.wrap ((X5:Int)-(X6:Int))=(W0:Int):=u6;have j1:4294967296*(r1:Int)=(R1:Int):=oq;have j2:(R1:Int)+(Pm:Int)=(OW:Int):=oq;have j3:4294967296*(r0:Int)=(R0:Int):=oq;have j4:(R0:Int)+(Ph:Int)=(W0:Int):=oq;have j5:(q1:Int)*4294967296=(Q1:Int):=oq;obtain⟨QUO,Yf⟩:=nm (Q1+q0);have j6:(Q1:Int)+(q0:Int)=(QUO:Int):=oq;have k1:decide ((4294967296:Int)≤(q1:Int))=false:=sq;have k2:decide ((4294967296:Int)≤(q0:Int))=false:=sq;have k3:decide ((OW:Int)<0)=false:=by simp
 have k4:decide ((W0:Int)<0)=false:=by simp
 have l1:(R1:Int)<18446744073709551616:=oq;have l2:(R0:Int)<18446744073709551616:=oq;have l3:(W0:Int)<18446744073709551616:=oq;have l4:(QUO:Int)<18446744073709551616:=oq;have l5:(Q1:Int)<18446744073709551616:=oq;have Ua:q1*4294967296+q0=QUO:=by rw[Yf,hQ1]
 rw[Ua];clear hX1 hX2 hX3 hX4 hX5 hX6 hR1 hR0 UF hQ1 Yf Yd Ye Ua;clear OH uP h1 P4 a1 a2 a3 a4 a5 a6 a7 a8 a9 b1 b2 b3 b4 b5 b6 b7 b8 b9 e3a hY hV gE oS U9 hYl hVl hYZ a2w a2x hh;go_enter func366,ntmps366;go_wp2_with fail;refine HLZ.out.mono ?_;rintro e w1 ⟨rfl,rfl⟩;simp only[show(64:Int)-((13:Nat):Int)=51 from rfl];exact tW
theorem zj(lo d:Nat)(w:World)(P4:lo<18446744073709551616)(OH:1≤d)(uP:d<16384):
  Cl 366 #[.int .u64 0,.int .u64 (lo:Int),.int .u64 (d:Int)] w (Rq (.tuple #[.int .u64 ((lo/d:Nat):Int),.int .u64 ((lo%d:Nat):Int)]) w):=by
 have z1:((d:Int)==0)=false:=sq;have z4:¬(d:Int)=0:=oq;have z2:decide ((d:Int)≤0)=false:=sq;have z2c:decide (d=0)=false:=sq;have Re:(d:Int)<16384:=oq;have ZX:(1:Int)≤(d:Int):=oq;obtain⟨q,hq⟩:=nm (lo/d);obtain⟨r,hr⟩:=nm (lo%d);have e1:(lo:Int)/(d:Int)=(q:Int):=by rw[hq];rfl
 have e2:(lo:Int)%(d:Int)=(r:Int):=by rw[hr];rfl
 have e3:(lo:Int).tdiv (d:Int)=(q:Int):=by rw[Int.tdiv_eq_ediv_of_nonneg oq,e1]
 have e4:(lo:Int).tmod (d:Int)=(r:Int):=by rw[Int.tmod_eq_emod_of_nonneg oq,e2]
 have Vx:q≤lo:=by rw[hq];exact Nat.div_le_self _ _
 have hrl:r<d:=by rw[hr];exact Nat.mod_lt _ oq
 have e5:IntKind.u64.wrap (q:Int)=(q:Int):=u6;have e6:IntKind.u64.wrap (r:Int)=(r:Int):=u6;rw[←hq,←hr];clear hq hr Vx hrl OH uP P4;go_enter func366,ntmps366;go_wp2_with fail;go_quiet (fail);go_wp2_with fail;go_ret2;exact⟨rfl,_,rfl⟩
theorem J7(hi lo d:Nat)(w:World)(h1:hi<d)(P4:lo<18446744073709551616)(OH:4096≤d)(uP:d<16384):
  Cl 366 #[.int .u64 (hi:Int),.int .u64 (lo:Int),.int .u64 (d:Int)] w (Rq (.tuple #[.int .u64 (((hi*18446744073709551616+lo)/d:Nat):Int),.int .u64 (((hi*18446744073709551616+lo)%d:Nat):Int)]) w):=by
 by_cases hh:hi=0
 ·subst hh;rw[Nat.zero_mul,Nat.zero_add];exact zj lo d w P4 oq uP
 ·by_cases h2:d<8192
  ·exact(EA hi lo d w hh h1 P4 OH h2).mono (fun _ _ ⟨h3,h4⟩=>⟨h3,0,by rw[←h4];rfl⟩)
  ·exact(EB hi lo d w hh h1 P4 oq uP).mono (fun _ _ ⟨h3,h4⟩=>⟨h3,0,by rw[←h4];rfl⟩)
theorem Fh(a b:Nat)(ha:a<18446744073709551616)(hb:b<18446744073709551616)(w:World):
  Cl 305 #[.int .u64 (a:Int),.int .u64 (b:Int)] w (Rb (.agg #[.int .u64 ((a*b/18446744073709551616:Nat):Int),.int .u64 ((a*b%18446744073709551616:Nat):Int)]) w):=by
 have HM:=Oh (fun W=>yJ a b ha hb W);generalize a*b/18446744073709551616=hi at*;generalize a*b%18446744073709551616=lo at*;clear ha hb;go_enter func305,ntmps305;go_wp2_with fail;refine(HM.out _).mono ?_;rintro e w1 ⟨rfl,rfl⟩;go_wp2_with fail;refine bodyPost_ret (v:=.agg #[.int .u64 (hi:Int),.int .u64 (lo:Int)]) (results_cell_row results305 _ _ w.heap.size 414 _ (0,0) _ rfl (heap_alloc_new _ _) underlying414 (by rfl) ok') rfl ?_;exact⟨rfl,Ba⟩
theorem pF{P:Program}{fn:Func}{p u s:Tmp}{ty:TypeId}(h:fn.results=#[.cell p ty,.tmp u,.tmp s])(tmps:Array Value)(w:World)(g:Nat)(t:TypeId)(cs:Array Value)(fr:Nat×Nat)(d:TypeDesc)(hp:tmps.getD p undef=.pointer (some ⟨g,0,none⟩))(hg:w.heap[g]?=some (.cells cs t fr))(hu:P.underlying ty=some d)(hd:(match d with| .struct _| .array _ _=>true|_=>false)=true)(hi:(P.info? ty).map (·.size)=some cs.size):
  (results fn tmps).run P w=.ok (.tuple #[.agg cs,tmps.getD u undef,tmps.getD s undef]) w:=by
 have e:(results fn tmps).run P w=((asAddr (tmps.getD p undef)).run P w).andThen fun a w₁=>((loadVar ty a).run P w₁).andThen fun v w₂=>.ok (.tuple #[v,tmps.getD u undef,tmps.getD s undef]) w₂:=by
  simp only[results,h];simp[Sem.run_bind,Result.andThen]
 rw[e,hp];simp[asAddr,run_loadVar_row w g t ty cs fr d hg hu hd hi,Result.andThen]
theorem Kq(hi lo d:Nat)(w:World)(SD:hi<18446744073709551616)(P4:lo<18446744073709551616)(OH:4096≤d)(uP:d<16384):
  Cl 306 #[.agg #[.int .u64 (hi:Int),.int .u64 (lo:Int)],.int .u64 (d:Int)] w (Rb (.tuple #[.agg #[.int .u64 ((hi/d:Nat):Int),.int .u64 (((hi%d*18446744073709551616+lo)/d:Nat):Int)],.int .u64 (((hi%d*18446744073709551616+lo)%d:Nat):Int),.int .i64 0]) w):=by
 have HD:=Oh (fun W=>J7 (hi%d) lo d W (Nat.mod_lt _ oq) P4 OH uP);have z1:((d:Int)==0)=false:=sq;have z4:¬(d:Int)=0:=oq;have z2c:decide (d=0)=false:=sq;have Re:(d:Int)<16384:=oq;have ZX:(1:Int)≤(d:Int):=oq;obtain⟨q,hq⟩:=nm (hi/d);obtain⟨r,hr⟩:=nm (hi%d);have e1:(hi:Int)/(d:Int)=(q:Int):=by rw[hq];rfl
 have e2:(hi:Int)%(d:Int)=(r:Int):=by rw[hr];rfl
 have e3:(hi:Int).tdiv (d:Int)=(q:Int):=by rw[Int.tdiv_eq_ediv_of_nonneg oq,e1]
 have e4:(hi:Int).tmod (d:Int)=(r:Int):=by rw[Int.tmod_eq_emod_of_nonneg oq,e2]
 have Vx:q≤hi:=by rw[hq];exact Nat.div_le_self _ _
 have hrl:r<d:=by rw[hr];exact Nat.mod_lt _ oq
 have e5:IntKind.u64.wrap (q:Int)=(q:Int):=u6;have e6:IntKind.u64.wrap (r:Int)=(r:Int):=u6;rw[←hq,←hr];rw[←hr] at HD;generalize(r*18446744073709551616+lo)/d=Q at*;generalize(r*18446744073709551616+lo)%d=R at*;clear hq hr Vx hrl OH uP P4 SD;exact uo
theorem qU(P d:Nat)(hd:0<d):P/d=P/18446744073709551616/d*18446744073709551616+(P/18446744073709551616%d*18446744073709551616+P%18446744073709551616)/d∧P%d=(P/18446744073709551616%d*18446744073709551616+P%18446744073709551616)%d:=by
 obtain⟨hi,SD⟩:=nm (P/18446744073709551616);obtain⟨lo,P4⟩:=nm (P%18446744073709551616);rw[←SD,←P4];have hP:P=hi*18446744073709551616+lo:=oq;have e:=Nat.div_add_mod hi d
 have hP2:P=(hi%d*18446744073709551616+lo)+d*(hi/d*18446744073709551616):=by
  rw[hP];have:hi*18446744073709551616=d*(hi/d)*18446744073709551616+hi%d*18446744073709551616:=by rw[←Nat.add_mul,e]
  rw[this,←Nat.mul_assoc,Nat.add_assoc,Nat.add_comm]
 constructor
 ·have h1:P/d=((hi%d*18446744073709551616+lo)+d*(hi/d*18446744073709551616))/d:=by rw[←hP2]
  rw[h1,Nat.add_mul_div_left _ _ hd,Nat.add_comm]
 ·have h1:P%d=((hi%d*18446744073709551616+lo)+d*(hi/d*18446744073709551616))%d:=by rw[←hP2]
  rw[h1,Nat.add_mul_mod_self_left]
def mdV(P d:Nat):Value:=if P/d<18446744073709551616 then .tuple #[.int .u64 ((P/d:Nat):Int),.int .u64 ((P%d:Nat):Int),.int .i64 0] else .tuple #[.int .u64 0,.int .u64 0,.int .i64 100]
theorem vC(a b d:Nat)(ha:a<18446744073709551616)(hb:b<18446744073709551616)(w:World)(OH:4096≤d)(uP:d<16384):
  Cl 218 #[.int .u64 (a:Int),.int .u64 (b:Int),.int .u64 (d:Int)] w (Rb (mdV (a*b) d) w):=by
 have SX:∀(fn:Fn) (first cap:Array Value) (w:World),(Instr.makeFunc fn first cap).run prog w=.ok (.func fn first cap) w:=fun _ _ _ _=>rfl;obtain⟨m1,m2⟩:=qU (a*b) d oq;have hPl:a*b<18446744073709551616*18446744073709551616:=Nat.mul_lt_mul'' ha hb;have HM:=Oh (fun W=>Fh a b ha hb W);have Zc:a*b/18446744073709551616<18446744073709551616:=Nat.div_lt_of_lt_mul hPl;have Lt:a*b%18446744073709551616<18446744073709551616:=Nat.mod_lt _ od;unfold mdV;rw[m1,m2];generalize a*b/18446744073709551616=hi at*;generalize a*b%18446744073709551616=lo at*;have HD:=Oh (fun W=>Kq hi lo d W Zc Lt OH uP)
 have Vx:(hi%d*18446744073709551616+lo)/d<18446744073709551616:=by
  refine Nat.div_lt_of_lt_mul ?_;have:hi%d<d:=Nat.mod_lt _ oq;have h2:(hi%d+1)*18446744073709551616≤d*18446744073709551616:=Nat.mul_le_mul_right _ this;rw[Nat.add_mul,Nat.one_mul] at h2;omega
 generalize(hi%d*18446744073709551616+lo)/d=Q at*;generalize(hi%d*18446744073709551616+lo)%d=R at*;generalize hi/d=q at*
 by_cases h0:0<q
 ·rw[if_neg oq];have k1:decide ((0:Int)<(q:Int))=true:=sq;have k2:decide (0<q)=true:=sq;clear m1 m2 hPl Zc Lt Vx ha hb OH uP h0;exact nU
 ·obtain rfl:q=0:=oq;rw[Nat.zero_mul,Nat.zero_add,if_pos Vx];clear m1 m2 hPl Zc Lt Vx ha hb OH uP h0;exact nU
section
open Sc
theorem Dz(n:Nat)(w:World):Cl 384 #[.int .u64 (n:Int),.int .i64 100] w (Rt (.int .i64 9223372036854775807) w):=by
 go_enter func384,ntmps384;go_wp2_with fail;go_ret;exact⟨rfl,rfl⟩
theorem yL(n:Nat)(w:World)(hn:n<18446744073709551616):Cl 384 #[.int .u64 (n:Int),.int .i64 0] w (Rt (.int .i64 ((min n 9223372036854775807:Nat):Int)) w):=by
 by_cases h:9223372036854775807<n
 ·rw[show min n 9223372036854775807=9223372036854775807 by omega];have k1:decide ((9223372036854775807:Int)<(n:Int))=true:=sq;clear h hn;go_enter func384,ntmps384;go_wp2_with fail;go_ret;exact⟨rfl,rfl⟩
 ·rw[show min n 9223372036854775807=n by omega];have k1:decide ((9223372036854775807:Int)<(n:Int))=false:=sq;have k2:(n:Int)≤9223372036854775807:=oq;have k3:IntKind.i64.wrap (n:Int)=(n:Int):=i6;have k4:wrap64 (n:Int)=(n:Int):=by unfold wrap64;omega
  clear h hn;go_enter func384,ntmps384;go_wp2_with fail;go_ret;exact⟨rfl,rfl⟩
def spV(s:cK):Value:=.agg #[.int .i64 (s.1:Int),.int .i64 (s.2.1:Int),.int .i64 (s.2.2:Int)]
theorem LX(g a low:Nat)(w:World)(hc:w.cell? ⟨g,0,none⟩=some (.int .i64 (a:Int)))(Gt:100≤a)(ha:a≤5000)(hl:low≤9223372036854775807):
  Cl 317 #[.pointer (some ⟨g,0,none⟩),.int .i64 (low:Int)] w (Rb (spV (aX a low)) w):=by
 have a0U:low*a≤9223372036854775807*5000:=Nat.mul_le_mul hl ha;have Uo:=Oh (fun W=>vC low a 10000 oq oq W od od);have gE:mdV (low*a) 10000=.tuple #[.int .u64 ((low*a/10000:Nat):Int),.int .u64 ((low*a%10000:Nat):Int),.int .i64 0]:=by unfold mdV;rw[if_pos oq]
 rw[gE] at Uo;have IF:=Oh (fun W=>yL (low+low*a/10000) W oq);have a2A:min (low+low*a/10000) 9223372036854775807=ec a low:=rfl;rw[a2A] at IF;obtain⟨m1,m2⟩:=sw (a:=a) hl;have hs:aX a low=(low,ec a low,dV a (ec a low)):=rfl;rw[hs];obtain⟨far,Wu⟩:=nm (low*a/10000);have Rl:(far:Int)≤4611686018427387904:=oq;rw[←Wu] at Uo IF;obtain⟨X,hX⟩:=nm (low+far);have e1:(low:Int)+(far:Int)=(X:Int):=oq;have e1b:(X:Int)<18446744073709551616:=oq;rw[←hX] at IF;generalize ec a low=mid at*;obtain⟨d,hd⟩:=nm (10000-a);have e2:10000-(a:Int)=(d:Int):=oq;have Re:(d:Int)≤9900:=oq;have PW:=Oh (fun W=>vC mid 10000 d oq oq W oq oq);have Vy:dV a mid=min (mid*10000/d) 9223372036854775807:=by unfold dV;rw[hd]
 have c0:=hc
 have hcl:g<w.heap.size:=by
  rcases Nat.lt_or_ge g w.heap.size with h|h
  ·exact h
  ·have:w.heap[g]?=none:=Array.getElem?_eq_none h;simp[World.cell?,this] at hc
 have hcell:∀W,Below w.heap.size w W→W.cell? ⟨g,0,none⟩=some (.int .i64 (a:Int)):=fun W hW=>(hW.cell (p:=⟨g,0,none⟩) hcl).trans hc;have HC:=Oh hcell;have UB:(a:Int)≤5000:=oq;have agZ:(low:Int)≤9223372036854775807:=oq;have adC:(mid:Int)≤9223372036854775807:=oq;have e3:IntKind.u64.wrap (low:Int)=(low:Int):=u6;have e4:IntKind.u64.wrap (a:Int)=(a:Int):=u6;have e5:IntKind.u64.wrap (mid:Int)=(mid:Int):=u6;have e6:IntKind.u64.wrap (d:Int)=(d:Int):=u6
 by_cases hq:mid*10000/d<18446744073709551616
 ·have QL:mdV (mid*10000) d=.tuple #[.int .u64 ((mid*10000/d:Nat):Int),.int .u64 ((mid*10000%d:Nat):Int),.int .i64 0]:=by unfold mdV;rw[if_pos hq]
  rw[QL] at PW;have nO:=Oh (fun W=>yL (mid*10000/d) W hq);rw[←Vy] at nO;generalize dV a mid=eG at*;generalize mid*10000/d=Q at*;generalize mid*10000%d=R at*;generalize low*a%10000=R1 at*;clear a0U gE a2A m1 m2 hs Wu hX hd QL Vy hc hcell hq Gt ha hl;go_enter func317,ntmps317;go_wp2_with fail;refine(Uo.out _).mono ?_;rintro e w1 ⟨rfl,eQ⟩;have Vz:Below w.heap.size w w1:=ai (Ba) eQ;have QM:Blk w1 w.heap.size 386 #[.int .i64 0,.int .i64 0,.int .i64 0]:=(Blk.new w _ _).below eQ os';have aS:=Oh Vz;have Ub:=Oh QM;have c1:=HC.out w1 Vz;clear eQ Vz QM c0;go_wp2_with fail;refine(IF.out _).mono ?_;rintro e w2 ⟨rfl,rfl⟩;go_wp2_with fail;refine(PW.out _).mono ?_;rintro e w3 ⟨rfl,dO⟩;have fR:=Oh (ai aS.out dO);have QP:=Ub.out.below dO Ub.out.lt;have d0:=QP.c0;have d1:=QP.c1;have d2:=QP.c2;have f0:=QP.free 0;have f1:=QP.free 1;have f2:=QP.free 2;have Pb:=Oh QP;clear dO QP c1;go_wp2_with fail;refine(nO.out _).mono ?_;rintro e w4 ⟨rfl,rfl⟩;go_wp2_with fail
  have EQ:Blk (((w3.setCell ⟨w.heap.size,0,none⟩ (.int .i64 (low:Int))).setCell ⟨w.heap.size,1,none⟩ (.int .i64 (mid:Int))).setCell ⟨w.heap.size,2,none⟩ (.int .i64 (eG:Int))) w.heap.size 386 (i3' low mid eG):=by
   have h:=((Pb.out.put 0 (.int .i64 (low:Int))).put 1 (.int .i64 (mid:Int))).put 2 (.int .i64 (eG:Int));simpa using h
  refine bodyPost_ret (v:=.agg (i3' low mid eG)) (results_cell_row results317 _ _ w.heap.size 386 _ (0,0) _ rfl EQ underlying386 (by rfl) ok') rfl ?_;exact⟨rfl,((fR.out.setCell (Oi _) _).setCell (Oi _) _).setCell (Oi _) _⟩
 ·have QL:mdV (mid*10000) d=.tuple #[.int .u64 0,.int .u64 0,.int .i64 100]:=by unfold mdV;rw[if_neg hq]
  rw[QL] at PW;have hh:dV a mid=9223372036854775807:=by rw[Vy];omega
  rw[hh];have nO:=Oh (fun W=>Dz 0 W);generalize low*a%10000=R1 at*;clear a0U gE a2A m1 m2 hs Wu hX hd QL Vy hc hcell hq Gt ha hl hh;go_enter func317,ntmps317;go_wp2_with fail;refine(Uo.out _).mono ?_;rintro e w1 ⟨rfl,eQ⟩;have Vz:Below w.heap.size w w1:=ai (Ba) eQ;have QM:Blk w1 w.heap.size 386 #[.int .i64 0,.int .i64 0,.int .i64 0]:=(Blk.new w _ _).below eQ os';have aS:=Oh Vz;have Ub:=Oh QM;have c1:=HC.out w1 Vz;clear eQ Vz QM c0;go_wp2_with fail;refine(IF.out _).mono ?_;rintro e w2 ⟨rfl,rfl⟩;go_wp2_with fail;refine(PW.out _).mono ?_;rintro e w3 ⟨rfl,dO⟩;have fR:=Oh (ai aS.out dO);have QP:=Ub.out.below dO Ub.out.lt;have d0:=QP.c0;have d1:=QP.c1;have d2:=QP.c2;have f0:=QP.free 0;have f1:=QP.free 1;have f2:=QP.free 2;have Pb:=Oh QP;clear dO QP c1;go_wp2_with fail;refine(nO.out _).mono ?_;rintro e w4 ⟨rfl,rfl⟩;go_wp2_with fail
  have EQ:Blk (((w3.setCell ⟨w.heap.size,0,none⟩ (.int .i64 (low:Int))).setCell ⟨w.heap.size,1,none⟩ (.int .i64 (mid:Int))).setCell ⟨w.heap.size,2,none⟩ (.int .i64 9223372036854775807)) w.heap.size 386 #[.int .i64 (low:Int),.int .i64 (mid:Int),.int .i64 9223372036854775807]:=by
   have h:=((Pb.out.put 0 (.int .i64 (low:Int))).put 1 (.int .i64 (mid:Int))).put 2 (.int .i64 9223372036854775807);simpa using h
  refine bodyPost_ret (v:=.agg #[.int .i64 (low:Int),.int .i64 (mid:Int),.int .i64 9223372036854775807]) (results_cell_row results317 _ _ w.heap.size 386 _ (0,0) _ rfl EQ underlying386 (by rfl) ok') rfl ?_;exact⟨rfl,((fR.out.setCell (Oi _) _).setCell (Oi _) _).setCell (Oi _) _⟩
def scs(l:List cK):List Value:=l.flatMap (fun s=>[.int .i64 (s.1:Int),.int .i64 (s.2.1:Int),.int .i64 (s.2.2:Int)])
theorem wU(l m:List cK):scs (l++m)=scs l++scs m:=by unfold scs;rw[List.flatMap_append]
theorem GW(l:List cK):∀u∈scs l,u.oneCell'=true:=by
 intro u hu;unfold scs at hu;obtain⟨s,_,h⟩:=List.mem_flatMap.1 hu;rcases List.mem_cons.1 h with rfl|h
 ·rfl
 ·rcases List.mem_cons.1 h with rfl|h
  ·rfl
  ·rcases List.mem_cons.1 h with rfl|h
   ·rfl
   ·cases h
theorem BM:fH prog 361 386 3 24:=cy underlying361 (z:=.agg #[.int .i64 0,.int .i64 0,.int .i64 0]) ok' od od
def JO(w:World)(base:Nat)(A:Option Addr)(c:Nat)(L:List cK):Prop:=Own w base 386 3 A L.length c (scs L)
structure Scl(w:World)(g:Nat)(A:Option Addr)(c:Nat)(a:Nat)(T:List cK):Prop where
 blk:Blk w g 363 #[.int .i64 (a:Int),.slice A T.length c]
 own:JO w g A c T
theorem CK(w:World)(s:cK):am (w.alloc (.cells #[.int .i64 (s.1:Int),.int .i64 (s.2.1:Int),.int .i64 (s.2.2:Int)] 386)) (w.alloc (.cells #[.int .i64 (s.1:Int),.int .i64 (s.2.1:Int),.int .i64 (s.2.2:Int)] 386)).heap.size 3 (some ⟨w.heap.size,0,none⟩) 1 (scs [s]):=
 am.lit (bQ _ _) rfl rfl
theorem Scl.below{w w':World}{g c a:Nat}{A:Option Addr}{T:List cK}(h:Scl w g A c a T)(hb:Below w.heap.size w w'):Scl w' g A c a T:=⟨h.blk.below hb h.blk.lt,Own.below h.own hb⟩
set_option maxHeartbeats 3200000 in
theorem GX(a:Nat)(w:World)(Gt:100≤a)(ha:a≤5000):Cl 239 #[.int .i64 (a:Int)] w fun e w'=>∃g A c,e=.returned (.tuple #[.pointer (some ⟨g,0,none⟩),.int .i64 0])∧w.heap.size≤g∧Scl w' g A c a (aB a)∧Below w.heap.size w w':=by
 have e1:decide ((a:Int)<100)=false:=sq;have e2:decide ((5000:Int)<(a:Int))=false:=sq;have e1b:decide (a<100)=false:=sq;have e2b:decide (5000<a)=false:=sq;have HAA:=Oh (And.intro Gt ha);clear Gt ha;go_enter func239,ntmps239;go_wp2_with fail;clear e1 e2 e1b e2b;have oK:=Oh (Blk.new w 363 #[.int .i64 (a:Int),.slice none 0 0]);go_loopw [5] (fun v wr=>∃(T:List cK) (low f:Nat) (A:Option Addr) (c:Nat),v=.int .i64 (low:Int)∧At a T low f∧Blk wr w.heap.size 363 #[.int .i64 (a:Int),.slice A T.length c]∧JO wr w.heap.size A c T∧Below w.heap.size w wr) (fun v _=>9223372036854775807-(intOf v).toNat)
 case atStart=>exact⟨[],1,4410,none,0,rfl,At.start a,oK.out,Own.nil _ _ _ _,Ba⟩
 case round=>
  obtain⟨T,low,f,A,c,rfl,hat,hblk,hown,aC⟩:=hrel;obtain⟨wo,rfl⟩:=nm (wr:World);have T5:=Ai hat;obtain⟨st1,st2⟩:=hat.step HAA.out.1 HAA.out.2;have a5G:=hat.low1;have Yg:=hat.low2;obtain⟨md1,md2⟩:=sw (a:=a) Yg;obtain⟨Px,PK⟩:=kZ HAA.out.2 md2;have hcell:=hblk.c0;have X9:=Oh (LX w.heap.size a low wo hcell HAA.out.1 HAA.out.2 Yg);have ZS:aX a low=(low,ec a low,dV a (ec a low)):=rfl;rw[ZS] at X9 st1 st2;generalize ec a low=mid at*;generalize dV a mid=hi at*;unfold spV at X9;dsimp only at X9 st1 st2;have Zc:(hi:Int)≤9223372036854775807:=oq;have Lt:(low:Int)≤(hi:Int):=oq;have Qs:(1:Int)≤(low:Int):=oq;have HLH:=Oh (show low≤hi by omega);have Yh:=Oh st1;have T8:=Oh st2;have a5H:=Oh hblk;have a5I:=Oh hown;have aan:=Oh aC;clear hat st1 st2 a5G Yg md1 md2 Px PK hcell ZS hblk hown aC;go_wp2_with fail;refine X9.out.mono ?_;rintro e w1 ⟨rfl,eQ⟩;have Pe:Below wo.heap.size wo (w1.alloc (.cells (i3' low mid hi) 386)):=fG eQ _;have Yi:=Oh (a5H.out.below Pe a5H.out.lt);have nO:=Oh (Own.below a5I.out Pe);have T9:=Oh (ai aan.out Pe);have Wv:=Oh (Blk.new w1 386 (i3' low mid hi));have By:=Oh eQ.size
  have HXA:Hid (aa A≠some w1.heap.size):=Oh (fun e=>by
   have:=(Own.block (show Own wo w.heap.size 386 3 A T.length c (scs T) from a5I.out) e).2;have:=eQ.size;omega)
  clear eQ Pe;go_upto_region 6 with(fail);generalize w1.alloc (.cells (i3' low mid hi) 386)=W2 at*;generalize w1.heap.size=gx at*;have c1:=Yi.out.c1;have x0:=Wv.out.c0;have x1:=Wv.out.c1;have x2:=Wv.out.c2;have If:w.heap.size<W2.heap.size:=Yi.out.lt;have XM:gx<W2.heap.size:=Wv.out.lt;have hne:¬gx=w.heap.size:=fun e=>Blk.ne Wv.out Yi.out od e;have Qo:¬w.heap.size=gx:=fun e=>hne e.symm;refine wp_region_noPanic ?_;refine aR (S:=(fun W=>W.cell? ⟨w.heap.size,1,none⟩=some (.slice A T.length c)∧W.cell? ⟨gx,0,none⟩=some (.int .i64 (low:Int))∧W.cell? ⟨gx,1,none⟩=some (.int .i64 (mid:Int))∧W.cell? ⟨gx,2,none⟩=some (.int .i64 (hi:Int)))) (L:=10) ok' ⟨by simpa using c1,by simpa using x0,by simpa using x1,by simpa using x2⟩ (fun hHeld=>?_);refine tT 0 ?_;refine tT 1 ?_;refine tT 2 ?_;refine tT 3 ?_;refine tT 4 ?_;refine tT 5 ?_;refine dP 6 fun K hK=>?_;go_simp;refine hK.out _ _ ?_ (fun hHeld=>?_)
  ·exact fun _=>⟨by simpa using(World.cell?_alloc_lt W2 _ ⟨w.heap.size,1,none⟩ If).trans c1,by simpa using(World.cell?_alloc_lt W2 _ ⟨gx,0,none⟩ XM).trans x0,by simpa using(World.cell?_alloc_lt W2 _ ⟨gx,1,none⟩ XM).trans x1,by simpa using(World.cell?_alloc_lt W2 _ ⟨gx,2,none⟩ XM).trans x2⟩
  clear hK K;replace hHeld:=hHeld od
  try go_simp
  refine dP 7 fun K hK=>?_;refine bo (s:=.tmp 23) (x:=.tmp 25) (t:=361) (base:=w.heap.size) (A:=A) (n:=T.length) (c:=c) (xs:=scs T) (B:=(W2.alloc (.cells (i3' low mid hi) 386)).heap.size) (D:=some ⟨W2.heap.size,0,none⟩) (m:=1) (c2:=1) (news:=scs [(low,mid,hi)]) (by rfl) (by rfl) BM (by rfl) (Own.alloc nO.out (.cells (i3' low mid hi) 386)) (by rfl) (CK W2 (low,mid,hi)) (GW _) (T.length+1) rfl (scs (T++[(low,mid,hi)])) (wU _ _).symm (by unfold maxLen;omega) oq (by have:=T9.out.size;simp;omega) ?_;intro A3 c3 w3 o3 g3 q3;have ZY:=(Yi.out.alloc (.cells (i3' low mid hi) 386)).drew.grown g3 (fun e=>Own.ne_blk nO.out Yi.out od e.symm);have ZZ:=(Wv.out.alloc (.cells (i3' low mid hi) 386)).drew.grown g3 (fun e=>HXA.out e.symm);have PZ:=wD (fG T9.out (.cells (i3' low mid hi) 386)).drew (Own.alloc nO.out (.cells (i3' low mid hi) 386)).drew g3 (Oi _) (fG T9.out (.cells (i3' low mid hi) 386)).size;have y1:=ZY.c1;have y2:=ZZ.c0;have y3:=ZZ.c1;have y4:=ZZ.c2;have yf:w3.frozen? ⟨w.heap.size,1,none⟩=false:=ZY.free 1;have fR:=Oh PZ;have sO:=Oh o3;have a5J:=Oh ZY;clear o3 g3 q3 PZ ZY ZZ c1 x0 x1 x2;refine hK.out _ _ ?_ (fun hHeld=>?_)
  ·exact fun _=>⟨y1,y2,y3,y4⟩
  clear hK K;replace hHeld:=hHeld od
  try go_simp
  refine tT 8 ?_;refine tT 9 ?_;refine dP 10 fun K hK=>?_;go_simp;refine hK.out _ _ ?_ (fun hHeld=>?_)
  ·exact fun h=>absurd rfl h
  clear hK K
  try go_simp
  refine me ?_
  have Po:∀(W4:World),W4=w3.setCell ⟨w.heap.size,1,none⟩ (.slice A3 (T.length+1) c3)→Blk W4 w.heap.size 363 #[.int .i64 (a:Int),.slice A3 (T.length+1) c3]∧JO W4 w.heap.size A3 c3 (T++[(low,mid,hi)])∧Below w.heap.size w W4:=fun W4 hW=>by
   subst hW;refine⟨?_,?_,fR.out.setCell (Oi _) _⟩
   ·have h:=a5J.out.put 1 (.slice A3 (T.length+1) c3);simpa using h
   ·have h:=Own.setOther sO.out (p:=⟨w.heap.size,1,none⟩) (Own.ne_blk sO.out a5J.out od) (.slice A3 (T.length+1) c3);unfold JO;rw[Ok];exact h
  have HW4:=Oh Po;clear Po
  by_cases PJ:hi=9223372036854775807
  ·have k1:((hi:Int)==9223372036854775807)=true:=sq;have HSP:=Oh (Yh.out PJ);clear PJ;go_wp2_with fail;go_ret2;obtain⟨h1,h2,h3⟩:=HW4.out _ rfl;refine⟨w.heap.size,A3,c3,rfl,Oi _,?_,h3⟩;rw[HSP.out];exact⟨by rw[Ok];exact h1,h2⟩
  ·have k1:((hi:Int)==9223372036854775807)=false:=sq;have k2:(hi:Int)<9223372036854775807:=oq;have HAT:=Oh (T8.out PJ);clear PJ;go_wp2_with fail;go_roundw
   case rel=>
    obtain⟨h1,h2,h3⟩:=HW4.out _ rfl;exact⟨T++[(low,mid,hi)],hi+1,f-1,A3,c3,by go_num,HAT.out,by rw[Ok];exact h1,h2,h3⟩
   case measure=>have:=HLH.out;have:=HAT.out.low2;simp[intOf];omega
theorem NA(g c a:Nat)(A:Option Addr)(T:List cK)(w:World)(h:Scl w g A c a T):Cl 178 #[.pointer (some ⟨g,0,none⟩)] w (Rt (.int .i64 (a:Int)) w):=by
 have c0:=h.blk.c0;clear h;go_enter func178,ntmps178;go_wp2_with fail;go_ret;exact⟨rfl,rfl⟩
theorem DB(s:cK)(w:World):Cl 361 #[spV s] w (Rb (.int .i64 (s.2.1:Int)) w):=by
 obtain⟨x,y,z⟩:=s;unfold spV;dsimp only;go_enter func361,ntmps361;go_wp2_with fail;go_ret;exact⟨rfl,Ba⟩
theorem KM{T:List cK}{i:Nat}{s:cK}(h:T[i]?=some s):(scs T)[i*3]?=some (.int .i64 (s.1:Int))∧(scs T)[i*3+1]?=some (.int .i64 (s.2.1:Int))∧(scs T)[i*3+2]?=some (.int .i64 (s.2.2:Int)):=by
 induction T generalizing i with
 |nil=>simp at h
 |cons p T ih=>
  cases i with
  |zero=>simp at h;subst h;exact⟨rfl,rfl,rfl⟩
  |succ i=>
   have h2:=ih (i:=i) (by simpa using h);rw[show(i+1)*3=i*3+3 by omega];exact h2
theorem Scl.at_{w:World}{g c a:Nat}{A:Option Addr}{T:List cK}(h:Scl w g A c a T){i:Nat}{s:cK}(hs:T[i]?=some s):∃b,A=some ⟨b,0,none⟩∧b<w.heap.size∧w.cell? ⟨b,i*3,none⟩=some (.int .i64 (s.1:Int))∧w.cell? ⟨b,i*3+1,none⟩=some (.int .i64 (s.2.1:Int))∧w.cell? ⟨b,i*3+2,none⟩=some (.int .i64 (s.2.2:Int)):=by
 have hi:0<T.length:=by have:=(List.getElem?_eq_some_iff.1 hs).1;omega
 obtain⟨b,hA,hb,hl,_,hcl,_⟩:=Own.form (show Own w g 386 3 A T.length c (scs T) from h.own) hi;obtain⟨k1,k2,k3⟩:=KM hs;exact⟨b,hA,(by first|exact hl|exact hb),hcl _ _ k1,hcl _ _ k2,hcl _ _ k3⟩
theorem La(g c a:Nat)(A:Option Addr)(T:List cK)(k:Int)(w:World)(h:Scl w g A c a T)(hT:T.length≤100000)(hk:(T.length:Int)<k∨k< -(T.length:Int)):
  Cl 292 #[.pointer (some ⟨g,0,none⟩),.int .i64 k] w (Rt (.tuple #[.int .i64 0,.int .i64 1]) w):=by
 have c1:=h.blk.c1;have Sg:(T.length:Int)≤100000:=oq
 have hc:decide ((T.length:Int)<k)=true∨decide ((T.length:Int)<k)=false∧decide (k< -(T.length:Int))=true:=by
  rcases hk with h1|h1
  ·exact .inl sq
  ·exact .inr ⟨by simp;omega,by simp;omega⟩
 clear h hT hk;generalize T.length=n at*;rcases hc with x1|⟨x1,x2⟩
 all_goals
  go_enter func292,ntmps292;go_wp2;go_wp2;go_ret2;exact⟨rfl,rfl⟩
theorem DC(g c a:Nat)(A:Option Addr)(T:List cK)(w:World)(h:Scl w g A c a T)(hT:T.length≤100000):
  Cl 292 #[.pointer (some ⟨g,0,none⟩),.int .i64 0] w (Rb (.tuple #[.int .i64 0,.int .i64 0]) w):=by
 have c1:=h.blk.c1;have Sg:(T.length:Int)≤100000:=oq;have x1:decide ((T.length:Int)<0)=false:=by simp
 have x2:decide (0< -(T.length:Int))=false:=by simp
 clear h hT;generalize T.length=n at*;go_enter func292,ntmps292;go_wp2;go_wp2;go_ret2;exact⟨rfl,Oq _ _⟩
theorem yN(g c a:Nat)(A:Option Addr)(T:List cK)(i:Nat)(s:cK)(w:World)(h:Scl w g A c a T)(hT:T.length≤100000)(hs:T[i]?=some s)(k:Int)(hk:k=(i:Int)+1):
  Cl 292 #[.pointer (some ⟨g,0,none⟩),.int .i64 k] w (Rb (.tuple #[.int .i64 (s.2.1:Int),.int .i64 0]) w):=by
 have c1:=h.blk.c1;obtain⟨b,rfl,hb,d0,d1,d2⟩:=h.at_ hs;have hi:i<T.length:=(List.getElem?_eq_some_iff.1 hs).1;have Sg:(T.length:Int)≤100000:=oq;have x1:decide ((T.length:Int)<k)=false:=sq;have x2:decide (k< -(T.length:Int))=false:=sq;have x3:decide (0<k)=true:=sq;have x4:k-1=(i:Int):=oq;have x5:(i:Int)<(T.length:Int):=oq;have x6:1≤k:=oq;have x7:k≤100000:=oq;exact uG
theorem I0(g c a:Nat)(A:Option Addr)(T:List cK)(i:Nat)(s:cK)(w:World)(h:Scl w g A c a T)(hT:T.length≤100000)(hs:T[i]?=some s)(hmx:s.2.1≤9223372036854775807)(k:Int)(hk:k= -((i:Int)+1)):
  Cl 292 #[.pointer (some ⟨g,0,none⟩),.int .i64 k] w (Rb (.tuple #[.int .i64 (-(s.2.1:Int)),.int .i64 0]) w):=by
 have c1:=h.blk.c1;obtain⟨b,rfl,hb,d0,d1,d2⟩:=h.at_ hs;have hi:i<T.length:=(List.getElem?_eq_some_iff.1 hs).1;have Sg:(T.length:Int)≤100000:=oq;have x1:decide ((T.length:Int)<k)=false:=sq;have x2:decide (k< -(T.length:Int))=false:=sq;have x3:decide (0<k)=false:=sq;have x3b:decide (k<0)=true:=sq;have x4a: -k=(i:Int)+1:=oq;have x4:(i:Int)+1-1=(i:Int):=oq;have x4b: -k-1=(i:Int):=oq;have x8:(s.2.1:Int)≤9223372036854775807:=oq;have x5:(i:Int)<(T.length:Int):=oq;have x6:k≤ -1:=oq;have x7: -100000≤k:=oq;exact uG
namespace Sc
theorem gN(a:Nat)(Gt:100≤a)(ha:a≤5000):∀(f low:Nat),low≤9223372036854775807→(∀s∈fg a f low,low≤s.2.2∧s.1≤s.2.1∧s.2.1≤s.2.2∧s.2.2≤9223372036854775807)∧(fg a f low).Pairwise (fun s t=>s.2.2<t.1∧s.2.2<t.2.2)
 |0,_,_=>⟨(fun s hs=>by cases hs),List.Pairwise.nil⟩
 |f+1,low,hl=>by
  obtain⟨m1,m2⟩:=sw (a:=a) hl;obtain⟨h1,h2⟩:=kZ ha m2;have hs:aX a low=(low,ec a low,dV a (ec a low)):=rfl;unfold fg
  by_cases he:(aX a low).2.2=9223372036854775807
  ·rw[if_pos he];refine⟨fun s hm=>?_,List.pairwise_singleton _ _⟩;obtain rfl:s=aX a low:=by simpa using hm
   rw[hs];dsimp only;omega
  ·rw[if_neg he];obtain⟨g1,g2,_⟩:=jI Gt ha hl he;obtain⟨i1,i2⟩:=gN a Gt ha f ((aX a low).2.2+1) g2;obtain⟨j1,j2⟩:=spansF_first a f ((aX a low).2.2+1);refine⟨fun s hm=>?_,List.pairwise_cons.2 ⟨fun t ht=>?_,i2⟩⟩
   ·rcases List.mem_cons.1 hm with rfl|hm
    ·rw[hs];dsimp only;omega
    ·have:=i1 s hm;omega
   ·have:=i1 t ht;have:=spansF_low a Gt ha f _ g2 t ht;omega
where
 spansF_first (a f low:Nat):True∧True:=⟨trivial,trivial⟩
 spansF_low (a:Nat) (Gt:100≤a) (ha:a≤5000):∀(f low:Nat),low≤9223372036854775807→∀s∈fg a f low,low≤s.1
 |0,_,_=>(fun s hs=>by cases hs)
 |f+1,low,hl=>by
  unfold fg
  by_cases he:(aX a low).2.2=9223372036854775807
  ·rw[if_pos he];intro s hm;obtain rfl:s=aX a low:=by simpa using hm
   exact Oi _
  ·rw[if_neg he];obtain⟨g1,g2,_⟩:=jI Gt ha hl he;intro s hm;rcases List.mem_cons.1 hm with rfl|hm
   ·exact Oi _
   ·have:=spansF_low a Gt ha f _ g2 s hm;omega
theorem mZ(a:Nat):∀(f low:Nat),(fg a f low).length≤f
 |0,_=>Oi _
 |f+1,low=>by
  unfold fg;split
  ·simp
  ·rw[List.length_cons];have:=mZ a f ((aX a low).2.2+1);omega
theorem bV(a:Nat):(aB a).length≤4410:=mZ a 4410 1
def ix(T:List cK)(v:Nat):Nat:=T.countP (fun s=>decide (s.2.2<v))
def ph(T:List cK):Prop:=T.Pairwise (fun s t=>s.2.2<t.1∧s.2.2<t.2.2)
theorem G8(T:List cK)(v:Nat):ix T v≤T.length:=List.countP_le_length
theorem FL{T:List cK}(hs:ph T){v:Nat}:∀{i:Nat} {s:cK},T[i]?=some s→(s.2.2<v↔i<ix T v):=by
 induction T with
 |nil=>intro i s h;simp at h
 |cons q L ih=>
  intro i s h;obtain⟨h1,h2⟩:=List.pairwise_cons.1 hs
  have e:ix (q::L) v=ix L v+if q.2.2<v then 1 else 0:=by
   unfold ix;rw[List.countP_cons]
   by_cases h:q.2.2<v<;>simp[h]
  have hz:¬q.2.2<v→ix L v=0:=fun hn=>by
   unfold ix;rw[List.countP_eq_zero];intro r hr;have:=(h1 r hr).2;simp;omega
  rw[e]
  cases i with
  |zero=>
   simp at h;subst h
   by_cases hk:q.2.2<v
   ·rw[if_pos hk];omega
   ·rw[if_neg hk,hz hk];omega
  |succ i=>
   have h3:=ih h2 (i:=i) (s:=s) (by simpa using h);have h4:=(h1 s (Om (by simpa using h))).2
   by_cases hk:q.2.2<v
   ·rw[if_pos hk];omega
   ·rw[if_neg hk,hz hk];omega
theorem gM{a:Nat}(Gt:100≤a)(ha:a≤5000):ph (aB a):=(gN a Gt ha 4410 1 od).2
theorem sG{a:Nat}(Gt:100≤a)(ha:a≤5000):∀s∈aB a,s.1≤s.2.1∧s.2.1≤s.2.2∧s.2.2≤9223372036854775807:=fun s hs=>((gN a Gt ha 4410 1 od).1 s hs).2
end Sc
theorem Lm(g c a p:Nat)(A:Option Addr)(T:List cK)(i v:Nat)(s:cK)(w:World)(h:Scl w g A c a T)(hT:T.length≤100000)(hs:T[i]?=some s)(p0:Blk w p 266 #[.pointer (some ⟨g,0,none⟩)])(p1:Blk w (p+1) 2 #[.int .i64 (v:Int)]):
  Cl 275 #[.int .i64 (i:Int),.pointer (some ⟨p,0,none⟩),.pointer (some ⟨p+1,0,none⟩)] w (Rq (.bool (decide (v≤s.2.2))) w):=by
 have c1:=h.blk.c1;obtain⟨b,rfl,hb,d0,d1,d2⟩:=h.at_ hs;have hi:i<T.length:=(List.getElem?_eq_some_iff.1 hs).1;have k0:=p0.c0;have k1:=p1.c0;have Sg:(T.length:Int)≤100000:=oq;have x5:(i:Int)<(T.length:Int):=oq;have x5b:decide (i<T.length)=true:=sq;have x6:(0:Int)≤(i:Int):=oq;obtain⟨lo,md,hh⟩:=s;dsimp only at*;clear h hT hs hi p0 p1;generalize T.length=n at*;go_enter func275,ntmps275;go_wp2_with fail;go_quiet (fail);go_wp2_with fail;go_ret;exact⟨rfl,_,rfl⟩
theorem CX(g c a p:Nat)(A:Option Addr)(T:List cK)(v:Nat)(w:World)(h:Scl w g A c a T)(hT:T.length≤100000)(hs:ph T)(p0:Blk w p 266 #[.pointer (some ⟨g,0,none⟩)])(p1:Blk w (p+1) 2 #[.int .i64 (v:Int)]):
  Cl 216 #[.int .i64 (T.length:Int),.func (Fn.func 275) #[] #[.pointer (some ⟨p,0,none⟩),.pointer (some ⟨p+1,0,none⟩)]] w (Rq (.int .i64 (ix T v:Nat)) w):=by
 obtain⟨q,hq⟩:=nm (ix T v);have hle:=G8 T v;have Wh:=fun i s hp=>FL hs (v:=v) (i:=i) (s:=s) hp;rw[←hq] at hle Wh ⊢;have HK:=Oh (fun(i:Nat) (s:cK) (hp:T[i]?=some s) (n:Nat)=>Lm g c a p A T i v s (w.drewN n) ⟨h.blk.drewN n,h.own⟩ hT hp (p0.drewN n) (p1.drewN n));have HIX:=Oh Wh;have Qy:=Oh hle;have Sg:(T.length:Int)≤100000:=oq;clear h hs p0 p1 hq hle Wh;go_enter func216,ntmps216;go_wp2_with fail;go_loopw [5,6] (fun u x wr=>∃i j n:Nat,u=.int .i64 (i:Int)∧x=.int .i64 (j:Int)∧i≤q∧q≤j∧j≤T.length∧wr=w.drewN n) (fun u x _=>(intOf x).toNat-(intOf u).toNat)
 case atStart=>exact⟨0,T.length,0,rfl,rfl,Nat.zero_le _,Qy.out,Oi _,rfl⟩
 case round=>
  obtain⟨i,j,n,rfl,rfl,hi,hj,Qi,rfl⟩:=hrel
  by_cases hlt:i<j
  ·obtain⟨m,hm⟩:=nm ((i+j)/2);have hmi:((i:Int)+(j:Int))/2=(m:Int):=oq;have Vn:(i:Int)<(j:Int):=oq;have ZJ:decide (i<j)=true:=sq;have hjj:(j:Int)≤100000:=oq;have gE:i≤m:=oq;have QL:m<j:=oq;obtain⟨s,hp⟩:=gs T m;have hx:=HIX.out m s hp;have HC:=Oh (HK.out m s hp n);have HI:=Oh (And.intro hi (And.intro hj (And.intro Qi (And.intro gE QL))));have ZI:=Oh (show(m:Int)≤100000 by omega);obtain⟨wo,Q7⟩:=nm (w.drewN n);rw[←Q7] at HC ⊢;have Uz:=Oh Q7
   by_cases Ou:v≤s.2.2
   ·have hB:decide (v≤s.2.2)=true:=by simpa using Ou
    rw[hB] at HC
    have HX:=Oh (show q≤m by
     rcases Nat.lt_or_ge m q with h|h
     ·have:=hx.2 h;omega
     ·exact h)
    clear hp hx hi hj Qi hm gE QL Q7 Ou hB;go_wp2_with fail;refine HC.out.mono ?_;rintro e w1 ⟨rfl,n1,rfl⟩;go_wp2_with fail;go_roundw
    case rel=>exact⟨i,m,n+n1,rfl,rfl,HI.out.1,HX.out,by have:=HI.out;omega,by rw[Uz.out,World.drewN_drewN]⟩
    case measure=>exact ms HI
   ·have hB:decide (v≤s.2.2)=false:=by simpa using Ou
    rw[hB] at HC;have HX:=Oh (show m<q from hx.1 oq);clear hp hx hi hj Qi hm gE QL Q7 Ou hB;go_wp2_with fail;refine HC.out.mono ?_;rintro e w1 ⟨rfl,n1,rfl⟩;go_wp2_with fail;go_roundw
    case rel=>exact⟨m+1,j,n+n1,by go_num,rfl,HX.out,HI.out.2.1,HI.out.2.2.1,by rw[Uz.out,World.drewN_drewN]⟩
    case measure=>exact ms HI
  ·exact tQ
theorem Fq(g c a:Nat)(A:Option Addr)(T:List cK)(v:Nat)(w:World)(h:Scl w g A c a T)(hT:T.length≤100000)(hs:ph T)(Pc:1≤v)(MK:v≤9223372036854775807):
  Cl 196 #[.pointer (some ⟨g,0,none⟩),.int .i64 (v:Int)] w (Rb (.tuple #[.int .i64 ((1+ix T v:Nat):Int),.int .i64 0]) w):=by
 have c1:=h.blk.c1;have hg:=h.blk.lt;have a2C:¬g=w.heap.size:=oq;have Qo:¬g=w.heap.size+1:=oq;have x1:((v:Int)== -9223372036854775808)=false:=by simp
 have x2:((v:Int)==0)=false:=sq;have x3:decide ((v:Int)<0)=false:=by simp
 have hle:=G8 T v;have Pz:((ix T v:Nat):Int)≤100000:=oq;have Xe:=Oh (fun W (h:Scl W g A c a T) p0 p1=>CX g c a w.heap.size A T v W h hT hs p0 p1);have HS:=Oh h;have Ua:((1+ix T v:Nat):Int)=1+((ix T v:Nat):Int):=oq;rw[Ua];generalize ix T v=q at*;have PF:(v:Int)≤9223372036854775807:=oq;clear h hT hs hle Ua Pc MK;go_enter func196,ntmps196;go_wp2_with fail;have dO:Below w.heap.size w ((w.alloc (.cells #[.pointer (some ⟨g,0,none⟩)] 266)).alloc (.cells #[.int .i64 (v:Int)] 2)):=(Ba).alloc os' _;have k0:=(Blk.new w 266 #[.pointer (some ⟨g,0,none⟩)]).alloc (.cells #[.int .i64 (v:Int)] 2);have k1:=Blk.new (w.alloc (.cells #[.pointer (some ⟨g,0,none⟩)] 266)) 2 #[.int .i64 (v:Int)];rw[World.size_alloc] at k1;refine(Xe.out _ (HS.out.below dO) k0 k1).mono ?_;rintro e w1 ⟨rfl,n1,rfl⟩;have HB:=Oh (ae dO n1);clear dO k0 k1;go_wp2_with fail;go_ret2;exact⟨rfl,HB.out⟩
end
section
open Pl Sc
theorem Own.blk{w:World}{base:Nat}{e:TypeId}{size:Nat}{A:Option Addr}{n c:Nat}{xs:List Value}(h:Own w base e size A n c xs){g:Nat}(hg:aa A=some g):∃cs,Blk w g e cs:=by
 rcases h.2 with⟨hv,_⟩|⟨g',cap,cur,hv,_,hh,_⟩
 ·injection hv with hA _ _
  subst hA;simp[aa] at hg
 ·injection hv with hA _ _
  subst hA;have:g'=g:=by simpa [aa] using hg
  subst this;exact⟨cur,hh⟩
structure Skt(w:World)(p q:Nat)(As:Option Addr)(cs a g gl:Nat)(A:Option Addr)(c:Nat)(m:Int)(all:List Pr):Prop where
 blk:Blk w p 269 #[.pointer (some ⟨q,0,none⟩),.pointer (some ⟨g,0,none⟩)]
 scl:Scl w q As cs a (aB a)
 sto:Sto w g gl A c m all
section
variable {w w':World} {p q cs a g gl c:Nat} {As A:Option Addr} {m:Int} {all:List Pr}
theorem Skt.below(h:Skt w p q As cs a g gl A c m all)(hb:Below w.heap.size w w'):Skt w' p q As cs a g gl A c m all:=⟨h.blk.below hb h.blk.lt,h.scl.below hb,h.sto.below hb⟩
theorem Skt.c0(h:Skt w p q As cs a g gl A c m all):w.cell? ⟨p,0,none⟩=some (.pointer (some ⟨q,0,none⟩)):=h.blk.ce
theorem Skt.c1(h:Skt w p q As cs a g gl A c m all):w.cell? ⟨p,1,none⟩=some (.pointer (some ⟨g,0,none⟩)):=h.blk.ce
theorem gQ{i:Nat}{t:TypeId}{xs:Array Value}(h:Sto w g gl A c m all)(hb:Blk w i t xs)(h0:t≠360)(h1:t≠426)(h2:t≠176):¬SK g gl A i:=fun e=>by
 rcases e with rfl|rfl|e
 ·exact absurd rfl (Blk.ne hb h.blk h0)
 ·exact absurd rfl (Blk.ne hb h.lst.1 h1)
 ·exact Own.ne_blk (show Own w gl 176 2 A (ah all m).1.length c (pcs (ah all m).1) from h.lst.2) hb (fun e=>h2 e.symm) e
theorem tE{K:Nat→Prop}{T:List cK}(h:Scl w q As cs a T)(k:ab K w w')(h1:∀i t xs,Blk w i t xs→t=363∨t=386→¬K i):Scl w' q As cs a T:=
 ⟨h.blk.only k (h1 _ _ _ h.blk (.inl rfl)),Own.only (show Own w q 386 3 As T.length cs (scs T) from h.own) k (fun i hi=>by
  obtain⟨xs,hx⟩:=Own.blk (show Own w q 386 3 As T.length cs (scs T) from h.own) hi;exact h1 _ _ _ hx (.inr rfl))⟩
theorem Skt.stored{A':Option Addr}{c':Nat}{Ge:List Pr}(h:Skt w p q As cs a g gl A c m all)(k:eB g gl A m Ge w w' A' c'):Skt w' p q As cs a g gl A' c' m Ge:=
 ⟨h.blk.only k.only (gQ h.sto h.blk od od od),tE h.scl k.only (fun i t xs hb ht=>by
  rcases ht with rfl|rfl
  ·exact gQ h.sto hb od od od
  ·exact gQ h.sto hb od od od),k.sto⟩
end
section
variable {p q cs a g gl c:Nat} {As A:Option Addr} {m:Int} {all:List Pr} {w:World} (h:Skt w p q As cs a g gl A c m all)
include h
theorem pd:Cl 99 #[.pointer (some ⟨p,0,none⟩)] w (Rt (.int .i64 (a:Int)) w):=by
 have c0:=h.c0;have HC:=Oh (NA q cs a As (aB a) w h.scl);clear h;go_enter func99,ntmps99;go_wp2_with fail;refine HC.out.mono ?_;rintro e w1 ⟨rfl,rfl⟩;go_wp2_with fail;go_ret;exact⟨rfl,rfl⟩
theorem lD:Cl 100 #[.pointer (some ⟨p,0,none⟩)] w (Rt (.int .i64 m) w):=by
 have c1:=h.c1;have HC:=Oh (AE g gl A c m all w h.sto);clear h;go_enter func100,ntmps100;go_wp2_with fail;refine HC.out.mono ?_;rintro e w1 ⟨rfl,rfl⟩;go_wp2_with fail;go_ret;exact⟨rfl,rfl⟩
theorem qF:Cl 101 #[.pointer (some ⟨p,0,none⟩)] w (Rt (.int .u64 ((ah all m).2:Nat)) w):=by
 have c1:=h.c1;have HC:=Oh (Ay g gl A c m all w h.sto);clear h;generalize(ah all m).2=f at*;go_enter func101,ntmps101;go_wp2_with fail;refine HC.out.mono ?_;rintro e w1 ⟨rfl,rfl⟩;go_wp2_with fail;go_ret;exact⟨rfl,rfl⟩
theorem wa(hf:aV all):Cl 150 #[.pointer (some ⟨p,0,none⟩)] w (Rt (.int .u64 (tot all:Nat)) w):=by
 have c1:=h.c1;have HC:=Oh (CF g gl A c m all w h.sto hf);clear h hf;generalize tot all=f at*;go_enter func150,ntmps150;go_wp2_with fail;refine HC.out.mono ?_;rintro e w1 ⟨rfl,rfl⟩;go_wp2_with fail;go_ret;exact⟨rfl,rfl⟩
theorem we(hf:aV all):Cl 98 #[.pointer (some ⟨p,0,none⟩)] w (en (ah all m).1 w):=by
 have c1:=h.c1;have HC:=Oh (CM g gl A c m all w h.sto hf);clear h hf;generalize(ah all m).1=C at*;go_enter func98,ntmps98;exact iM
end
theorem yG:∀(l L:List Pr),Srt (L++l)→Pos l→eD l→tot L≤4611686018427387904→4611686018427387904<tot (L++l)→(ofL l L).2≠0
 | [],L,_,_,_,h1,h2=>by rw[List.append_nil] at h2;omega
 |p::l,L,hs,hp,hk,h1,h2=>by
  obtain⟨_,a2,a3⟩:=List.pairwise_append.1 hs;have h0:=(aH.1 hp).1;have hkp:=hk p os';unfold ofL
  by_cases hc:4611686018427387904-tot L<p.2
  ·have e:cq L p.1 p.2 0=(L,6):=by rw[ml,if_neg oq,if_neg oq,if_pos hc]
   rw[e,if_neg (show¬((6:Int)=0) by decide)];exact(by decide:(6:Int)≠0)
  ·have e:cq L p.1 p.2 0=(L++[p],0):=by
    rw[ml,if_neg oq,if_neg oq,if_neg hc,jp (fun q hq=>a3 q hq p os')]
   rw[e,if_pos rfl];exact yG l (L++[p]) (by rw[List.append_assoc];exact hs) (aH.1 hp).2 (fun q hq=>hk q (by simp[hq])) (by rw[cj,aK,dX];omega) (by rw[List.append_assoc];exact h2)
structure ey(a:Nat)(m:Nat)(l:List Pr)(f:Nat):Prop where
 keys:∀p∈l,-((aB a).length:Int)≤p.1∧p.1≤((aB a).length:Int)
 tot:tot l≤4611686018427387904
 fold:f=0∨l.length=m∧∃p R,l=p::R∧f<p.2
def gZ(l:List Pr)(f:Nat):List Pr:=if f=0 then l else match l with
 | []=>[]
 |p::R=>(p.1-1,f)::(p.1,p.2-f)::R
theorem xB{a m:Nat}{l:List Pr}{f:Nat}(h:ey a m l f)(hs:Srt l)(hp:Pos l)(hl:l.length≤5000):aV (gZ l f):=by
 have St:=bV a;have hk:eD l:=fun q hq=>by have:=h.keys q hq;omega
 unfold gZ;split
 ·exact⟨hs,hp,hk,h.tot,oq⟩
 ·rename_i hf;rcases h.fold with h0|⟨h1,p,R,rfl,h2⟩
  ·exact absurd h0 hf
  ·dsimp only;have hkp:=h.keys p os';obtain⟨s1,s2⟩:=List.pairwise_cons.1 hs;have ht:=h.tot;rw[aK] at ht;simp only[List.length_cons] at hl;refine⟨List.pairwise_cons.2 ⟨fun q hq=>?_,List.pairwise_cons.2 ⟨fun q hq=>s1 q hq,s2⟩⟩,?_,?_,by rw[aK,aK];dsimp only;omega,by simp only[List.length_cons];omega⟩
   ·rcases List.mem_cons.1 hq with rfl|hq
    ·dsimp only;omega
    ·have:=s1 q hq;dsimp only;omega
   ·intro q hq;rcases List.mem_cons.1 hq with rfl|hq
    ·dsimp only;omega
    rcases List.mem_cons.1 hq with rfl|hq
    ·dsimp only;omega
    ·exact hp q (by simp[hq])
   ·intro q hq;rcases List.mem_cons.1 hq with rfl|hq
    ·dsimp only;omega
    rcases List.mem_cons.1 hq with rfl|hq
    ·dsimp only;omega
    ·exact hk q (by simp[hq])
theorem qL{a m:Nat}{l:List Pr}{f:Nat}(h:ey a m l f)(hm:2≤m)(hl:l.length≤m):ah (gZ l f) (m:Int)=(l,f):=by
 have hc:dj (m:Int)=m:=by unfold dj;omega
 unfold gZ;split
 ·rename_i hf;unfold ah;rw[hc,if_pos hl,hf]
 ·rename_i hf;rcases h.fold with h0|⟨h1,p,R,rfl,h2⟩
  ·exact absurd h0 hf
  ·dsimp only;simp only[List.length_cons] at h1;have hlen:((p.1-1,f)::(p.1,p.2-f)::R).length=m+1:=by simp only[List.length_cons];omega
   unfold ah;rw[hc,hlen,if_neg oq,Nat.add_sub_cancel_left];show((p.1,p.2-f+(f+0))::R,f+0)=(p::R,f);rw[Nat.add_zero,Nat.sub_add_cancel (Nat.le_of_lt h2)]
theorem Bp{a m:Nat}{l:List Pr}{f:Nat}(hk:∀p∈l,-((aB a).length:Int)≤p.1∧p.1≤((aB a).length:Int))(hs:Srt l)(hp:Pos l)(hl:l.length≤m)(hm:2≤m)(h:¬ey a m l f):zx (m:Int) l f:=by
 have St:=bV a;have YR:eD l:=fun q hq=>by have:=hk q hq;omega
 by_cases ht:tot l≤4611686018427387904
 ·right
  have hf:¬(f=0∨l.length=m∧∃p R,l=p::R∧f<p.2):=fun e=>h ⟨hk,ht,e⟩;have hf0:f≠0:=fun e=>hf (.inl e);refine⟨oq,?_⟩
  by_cases h1:(l.length:Int)<(m:Int)
  ·exact .inl h1
  ·right
   have h2:l.length=m:=oq
   cases l with
   |nil=>simp at h2;omega
   |cons p R=>
    refine⟨p,R,rfl,?_⟩
    by_cases h3:p.2≤f
    ·exact h3
    ·exact absurd (.inr ⟨h2,p,R,rfl,oq⟩) hf
 ·left
  exact yG l [] hs hp YR (by rw[dX];omega) (by simpa using ht)
end
end Go.Proofs.YtmbippkpjdoojaaGreat
