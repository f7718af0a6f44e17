/- The law MealyPlays: its walk. -/
import Derived.Test.YtncjeamdkjcebaaGreatDoorZMyLd
set_option linter.all false
set_option maxHeartbeats 16000000
set_option maxRecDepth 100000
namespace Go.Proofs.YtncjeamdkjcebaaGreatDoor
open Go.RowKit
theorem Mc(w:World)(vl vm ve:Value)(l:List Sig)(m:My)(e:Mo)(hK:BN w)(hl:AH w vl l)(hm:BM w vm m)(he:Dl w ve e):
  Calls Tryz.prog 5 #[vl,vm,ve] w (Av (.bool true) w):=by
 obtain⟨sa,sc,rfl⟩:=hl.shape;generalize hsn:l.length=sn at*;clear hsn;obtain⟨m0,m1,m2,ma,mn,mc,mb,mk,md,rfl⟩:=hm.shp9;obtain⟨r0,r1,r2,ra,rn,rc,rb,rk,rd,rfl⟩:=he.shp9;have hB:BW w w:=Ad
 go_enter Tryz.func5,Tryz.ntmps5
 go_upto_region 1 with(fail)
 have hb:Below w.heap.size w ((w.alloc (.cells #[.int .i64 m0,.int .i64 m1,.int .i64 m2,.slice ma mn mc,.slice mb mk md] 25)).alloc (.cells #[.int .i64 r0,.int .i64 r1,.int .i64 r2,.slice ra rn rc,.slice rb rk rd] 28)):=(by repeat(first|exact Ad|assumption|apply AD|apply AE));have xm:((w.alloc (.cells #[.int .i64 m0,.int .i64 m1,.int .i64 m2,.slice ma mn mc,.slice mb mk md] 25)).alloc (.cells #[.int .i64 r0,.int .i64 r1,.int .i64 r2,.slice ra rn rc,.slice rb rk rd] 28)).heap[w.heap.size]? =some (.cells #[.int .i64 m0,.int .i64 m1,.int .i64 m2,.slice ma mn mc,.slice mb mk md] 25 (0,0)):=(by(repeat(rw[Al];first|rw[if_pos (by first|simp;done|simp;omega)]|rw[if_neg (by first|simp;done|simp;omega)]));(try rfl));have xe:((w.alloc (.cells #[.int .i64 m0,.int .i64 m1,.int .i64 m2,.slice ma mn mc,.slice mb mk md] 25)).alloc (.cells #[.int .i64 r0,.int .i64 r1,.int .i64 r2,.slice ra rn rc,.slice rb rk rd] 28)).heap[w.heap.size+1]? =some (.cells #[.int .i64 r0,.int .i64 r1,.int .i64 r2,.slice ra rn rc,.slice rb rk rd] 28 (0,0)):=(by(repeat(rw[Al];first|rw[if_pos (by first|simp;done|simp;omega)]|rw[if_neg (by first|simp;done|simp;omega)]));(try rfl));generalize((w.alloc (.cells #[.int .i64 m0,.int .i64 m1,.int .i64 m2,.slice ma mn mc,.slice mb mk md] 25)).alloc (.cells #[.int .i64 r0,.int .i64 r1,.int .i64 r2,.slice ra rn rc,.slice rb rk rd] 28))=w1 at*;replace hK:=hK.below hb;replace hl:=hl.below hb;replace hm:=hm.below hb;replace he:=he.below hb;replace hB:=hB.step hb;clear hb;generalize w.heap.size+1=qxe at*;generalize w.heap.size=qxm at*
 go_wp2_with fail
 refine(Mx _ hK).mono ?_;rintro e w2 ⟨rfl,hb⟩;replace xm:=Ae hb xm;replace xe:=Ae hb xe;replace hK:=hK.below hb;replace hl:=hl.below hb;replace hm:=hm.below hb;replace he:=he.below hb;replace hB:=hB.step hb;clear hb
 go_wp2_with fail
 refine(Ib _ _ l hl).mono ?_;rintro e w3 ⟨rfl,hb⟩;replace xm:=Ae hb xm;replace xe:=Ae hb xe;replace hK:=hK.below hb;replace hl:=hl.below hb;replace hm:=hm.below hb;replace he:=he.below hb;replace hB:=hB.step hb;clear hb
 cases hg:D7 l with
 |false=>
  clear hg
  go_wp2_with fail
  go_ret;exact⟨rfl,hB⟩
 |true=>
 clear hg;have k0:=Aa 0 xm;have k1:=Aa 1 xm;have k2:=Aa 2 xm;have k3:=Aa 3 xm;have k4:=Aa 4 xm
 go_wp2_with fail
 clear k0 k1 k2 k3 k4;refine(Na _ _ m 12 hm).mono ?_;rintro e w4 ⟨rfl,hb⟩;replace xm:=Ae hb xm;replace xe:=Ae hb xe;replace hK:=hK.below hb;replace hl:=hl.below hb;replace hm:=hm.below hb;replace he:=he.below hb;replace hB:=hB.step hb;clear hb
 cases hf1:J8 m 12 with
 |false=>
  clear hf1
  go_wp2_with fail
  go_ret;exact⟨rfl,hB⟩
 |true=>
 clear hf1;have k0:=Aa 0 xe;have k1:=Aa 1 xe;have k2:=Aa 2 xe;have k3:=Aa 3 xe;have k4:=Aa 4 xe
 go_wp2_with fail
 clear k0 k1 k2 k3 k4;refine(Sl _ _ e 12 he).mono ?_;rintro e w5 ⟨rfl,hb⟩;replace xm:=Ae hb xm;replace xe:=Ae hb xe;replace hK:=hK.below hb;replace hl:=hl.below hb;replace hm:=hm.below hb;replace he:=he.below hb;replace hB:=hB.step hb;clear hb
 cases hf1:Rq e 12 with
 |false=>
  clear hf1
  go_wp2_with fail
  go_ret;exact⟨rfl,hB⟩
 |true=>
 clear hf1;have k0:=Aa 0 xm;have k1:=Aa 1 xm;have k2:=Aa 2 xm;have k3:=Aa 3 xm;have k4:=Aa 4 xm
 go_wp2_with fail
 clear k0 k1 k2 k3 k4;refine(EV _ _ _ l m hl hm).mono ?_;rintro e w6 ⟨rfl,hb⟩;replace xm:=Ae hb xm;replace xe:=Ae hb xe;replace hK:=hK.below hb;replace hl:=hl.below hb;replace hm:=hm.below hb;replace he:=he.below hb;replace hB:=hB.step hb;clear hb
 cases hf1:Bm l m with
 |false=>
  clear hf1
  go_wp2_with fail
  go_ret;exact⟨rfl,hB⟩
 |true=>
 have k0:=Aa 0 xe;have k1:=Aa 1 xe;have k2:=Aa 2 xe;have k3:=Aa 3 xe;have k4:=Aa 4 xe
 go_wp2_with fail
 clear k0 k1 k2 k3 k4;refine(O9 _ _ _ l e hl he).mono ?_;rintro e w7 ⟨rfl,hb⟩;replace xm:=Ae hb xm;replace xe:=Ae hb xe;replace hK:=hK.below hb;replace hl:=hl.below hb;replace hm:=hm.below hb;replace he:=he.below hb;replace hB:=hB.step hb;clear hb
 cases hf2:E6 l e with
 |false=>
  clear hf2
  go_wp2_with fail
  go_ret;exact⟨rfl,hB⟩
 |true=>
 have HF:=Ab hf1;have HG:=Ab hf2;clear hf1 hf2
 go_upto_region 4 with(fail)
 have k0:=Aa 0 xm;have k1:=Aa 1 xm;have k2:=Aa 2 xm;have k3:=Aa 3 xm;have k4:=Aa 4 xm;have j0:=Aa 0 xe;have j1:=Aa 1 xe;have j2:=Aa 2 xe;have j3:=Aa 3 xe;have j4:=Aa 4 xe
 go_wp2_with fail
 clear k0 k1 k2 k3 k4;clear j0 j1 j2 j3 j4;refine(JS _ _ _ _ l m e hK hl hm he).mono ?_;rintro e w8 ⟨v,rfl,hw,hb⟩;replace xm:=Ae hb xm;replace xe:=Ae hb xe;replace hK:=hK.below hb;replace hl:=hl.below hb;replace hm:=hm.below hb;replace he:=he.below hb;replace hB:=hB.step hb;clear hb;obtain⟨wa,wc,wb,wd,rfl⟩:=hw.shp
 have HAT:Hid (0<(CR l m e).loop.length->∀i:Nat,atI (CR l m e) i=ltP l m e i):=fun h i=>QR HF.out HG.out h i
 generalize CR l m e=LW at*;generalize hwn:LW.stem.length=wn at*;generalize hwk:LW.loop.length=wk at*;clear hwn;have HWK:=Ab hwk;clear hwk
 go_upto_region 5 with(fail)
 have hb:Below w8.heap.size w8 (w8.alloc (.cells #[.slice wa wn wc,.slice wb wk wd] 30)):=(by repeat(first|exact Ad|assumption|apply AD|apply AE));have xw:(w8.alloc (.cells #[.slice wa wn wc,.slice wb wk wd] 30)).heap[w8.heap.size]? =some (.cells #[.slice wa wn wc,.slice wb wk wd] 30 (0,0)):=(by(repeat(rw[Al];first|rw[if_pos (by first|simp;done|simp;omega)]|rw[if_neg (by first|simp;done|simp;omega)]));(try rfl));generalize(w8.alloc (.cells #[.slice wa wn wc,.slice wb wk wd] 30))=w9 at*;replace xm:=Ae hb xm;replace xe:=Ae hb xe;replace hK:=hK.below hb;replace hl:=hl.below hb;replace hm:=hm.below hb;replace he:=he.below hb;replace hw:=hw.below hb;replace hB:=hB.step hb;clear hb;generalize w8.heap.size=qxw at*;have k0:=Aa 0 xw;have k1:=Aa 1 xw
 by_cases h0:wk=0
 ·subst h0
  go_wp2_with fail
  go_ret;exact⟨rfl,hB⟩
 have h0i:((wk:Int)==0)=false:=beq_false_of_ne (by omega)
 go_upto_region 7 with(fail)
 clear k0 k1;have k0:=Aa 0 xm;have k1:=Aa 1 xm;have k2:=Aa 2 xm;have k3:=Aa 3 xm;have k4:=Aa 4 xm;have j0:=Aa 0 xe;have j1:=Aa 1 xe;have j2:=Aa 2 xe;have j3:=Aa 3 xe;have j4:=Aa 4 xe
 go_upto_region 9 with(fail)
 clear k0 k1 k2 k3 k4;clear j0 j1 j2 j3 j4;obtain⟨e0,e1,e2,e3,e4,hmO,hmN⟩:=hm.vals;obtain⟨g0,g1,g2,g3,g4,heI,heN⟩:=he.vals
 have HST:Hid (m2=((prP m e 0).1:Int)/\r2=((prP m e 0).2:Int)):=by
  obtain⟨f1,f2,f3,f4⟩:=AN.1 HF.out;obtain⟨-,k2,k3,k4⟩:=Db.1 HG.out;have h1:=f2.s0;have h2:=k2.s0;show m2=((m.start.toNat:Nat):Int)/\r2=((e.start.toNat:Nat):Int);omega
 have HPL:=Ab (fun i=>Qs HF.out HG.out i);have HLN:Hid (m.next.length=m.out.length/\e.next.length=e.inn.length):=⟨(AN.1 HF.out).2.1.nl,(Db.1 HG.out).2.1.nl⟩;have HLP:Hid (∀i:Nat,atI LW i=ltP l m e i):=HAT.out (by omega);clear e0 e1 e2 e3 e4 g0 g1 g2 g3 g4 h0;have HKK:=Ab hK;have HLL:=Ab hl;have HWW:=Ab hw;have HMO:=Ab hmO;have HMN:=Ab hmN;have HEI:=Ab heI;have HEN:=Ab heN;have HXM:=Ab xm;have HXE:=Ab xe;have HXW:=Ab xw;have HBB:=Ab hB;clear hK hl hw hm he xm xe xw hB hmO hmN heI heN HAT HWK HF HG
 go_wp2_with fail
 go_loopg [9,10,11,12,13,14] 60 (fun gh q9 q10 q11 _q12 _q13 _q14 wr=>∃k:Nat,gh=60-k/\q11=.int .i64 (k:Int)/\k<=60/\q9=.int .i64 ((prP m e k).1:Int)/\q10=.int .i64 ((prP m e k).2:Int)/\Hid (Below w9.heap.size w9 wr))
 case atStart=>exact⟨0,rfl,rfl,by omega,by rw[HST.out.1],by rw[HST.out.2],Ad⟩
 case round=>
  obtain⟨k,hgk,rfl,hk,rfl,rfl,HBx⟩:=hrel;have HGK:=Ab hgk;clear hgk HST
  by_cases hlt:k<60
  ·have i1:(k:Int)<60:=by omega
   obtain⟨⟨hx0,hx1⟩,hin,hout,hq,hr,⟨ha0,ha1,ha2⟩,⟨hb0,hb1⟩,hnq,hnr⟩:=HPL.out k;have hat:=HLP.out k;have HQ':Hid ((prP m e (k+1)).1=(prP m e (k+1)).1/\(prP m e (k+1)).2=(prP m e (k+1)).2):=⟨rfl,rfl⟩;obtain⟨q',hq'⟩:∃q',q'=(prP m e (k+1)).1:=⟨_,rfl⟩;obtain⟨r',hr'⟩:∃r',r'=(prP m e (k+1)).2:=⟨_,rfl⟩;rw[<-hq']at hnq;rw[<-hr']at hnr;have HQ:=Ab hq';have HR:=Ab hr';clear hq' hr' HQ';generalize(prP m e k).1=q at*;generalize(prP m e k).2=r at*;generalize ltP l m e k=x at*;obtain⟨a,ha⟩:∃a:Nat,e.inn.getD r 0=(a:Int):=⟨_,(Int.toNat_of_nonneg ha0).symm⟩;rw[ha]at hin hout hb0 hb1 ha1 ha2 hnq hnr;simp only[Int.toNat_natCast]at hout hb0 hb1 ha1 ha2 hnq hnr;obtain⟨b,hbv⟩:∃b:Nat,Bg m q a=(b:Int):=⟨_,(Int.toNat_of_nonneg hb0).symm⟩;rw[hbv]at hout hb1 hnr;simp only[Int.toNat_natCast]at hb1 hnr;clear ha0 hb0;have hK:=HKK.out.below HBx.out;have hl:=HLL.out.below HBx.out;have hw:=HWW.out.below HBx.out;have hmO:=HMO.out.below HBx.out;have hmN:=HMN.out.below HBx.out;have heI:=HEI.out.below HBx.out;have heN:=HEN.out.below HBx.out;have xm:=(HBx.out.block _ (Array.getElem?_eq_some_iff.1 HXM.out).1).trans HXM.out;have xe:=(HBx.out.block _ (Array.getElem?_eq_some_iff.1 HXE.out).1).trans HXE.out;have xw:=(HBx.out.block _ (Array.getElem?_eq_some_iff.1 HXW.out).1).trans HXW.out;have hB:BW w9 wr:=HBx.out
   have IX:I64 x:=by unfold I64;omega
   have IK:I64 (k:Int):=by unfold I64;omega
   clear hx0 hx1;have k0:=Aa 0 xw;have k1:=Aa 1 xw
   go_wp2_with fail
   clear k0 k1;refine((show Calls _ _ _ _ (Av (.int .i64 x) _)from by have h:=IS _ _ LW (k:Int) hw IK;rw[hat]at h;exact h)).mono ?_;rintro e w51 ⟨rfl,hb⟩;replace xm:=Ae hb xm;replace xe:=Ae hb xe;replace xw:=Ae hb xw;replace hK:=hK.below hb;replace hl:=hl.below hb;replace hw:=hw.below hb;replace hmO:=hmO.below hb;replace hmN:=hmN.below hb;replace heI:=heI.below hb;replace heN:=heN.below hb;replace hB:=hB.step hb;clear hb
   go_wp2_with fail
   refine((show Calls _ _ _ _ (Av (.int .i64 (a:Int)) _)from by have h:=Sa _ _ l x IX hK hl;rw[hin]at h;exact h)).mono ?_;rintro e w52 ⟨rfl,hb⟩;replace xm:=Ae hb xm;replace xe:=Ae hb xe;replace xw:=Ae hb xw;replace hK:=hK.below hb;replace hl:=hl.below hb;replace hw:=hw.below hb;replace hmO:=hmO.below hb;replace hmN:=hmN.below hb;replace heI:=heI.below hb;replace heN:=heN.below hb;replace hB:=hB.step hb;clear hb
   go_wp2_with fail
   refine((show Calls _ _ _ _ (Av (.int .i64 (b:Int)) _)from by have h:=Me _ _ l x IX hK hl;rw[hout]at h;exact h)).mono ?_;rintro e w53 ⟨rfl,hb⟩;replace xm:=Ae hb xm;replace xe:=Ae hb xe;replace xw:=Ae hb xw;replace hK:=hK.below hb;replace hl:=hl.below hb;replace hw:=hw.below hb;replace hmO:=hmO.below hb;replace hmN:=hmN.below hb;replace heI:=heI.below hb;replace heN:=heN.below hb;replace hB:=hB.step hb;clear hb;obtain⟨z1,o1,rfl,u1,y1⟩:=heI.el hr;obtain⟨z2,o2,z3,o3,n3,c3,rfl,u2,y2,u3,y3⟩:=hmO.el hq ha1;obtain⟨z4,o4,z5,o5,n5,c5,rfl,u4,y4,u5,y5⟩:=hmN.el (show q<_ from by have:=HLN.out.1;omega) ha2;obtain⟨z6,o6,z7,o7,n7,c7,rfl,u6,y6,u7,y7⟩:=heN.el (show r<_ from by have:=HLN.out.2;omega) hb1;rw[ha]at y1;rw[show(m.out.getD q []).getD a 0=(b:Int)from hbv]at y3;rw[show(m.next.getD q []).getD a 0=(q':Int)from hnq]at y5;rw[show(e.next.getD r []).getD b 0=(r':Int)from hnr]at y7
   have v1:(r:Int)<(rn:Int):=by omega
   have v2:(q:Int)<(mn:Int):=by omega
   have v3:(a:Int)<(n3:Int):=by omega
   have v4:(q:Int)<(mk:Int):=by omega
   have v5:(a:Int)<(n5:Int):=by omega
   have v6:(r:Int)<(rk:Int):=by omega
   have v7:(b:Int)<(n7:Int):=by omega
   have HB4:Hid (Below w9.heap.size w9 w53):=hB;clear hK hl hw hmO hmN heI heN hin hout hat hbv ha hnq hnr hq hr ha1 ha2 hb1 HKK HLL HWW HMO HMN HEI HEN HBx hB u1 u2 u3 u4 u5 u6 u7 HXM HXE HXW HPL HLP;have k0:=Aa 0 xm;have k1:=Aa 1 xm;have k2:=Aa 2 xm;have k3:=Aa 3 xm;have k4:=Aa 4 xm;have j0:=Aa 0 xe;have j1:=Aa 1 xe;have j2:=Aa 2 xe;have j3:=Aa 3 xe;have j4:=Aa 4 xe;clear xm xe xw;go_wp2
   go_roundg (60-(k+1))
   case measure=>have:=HGK.out;omega
   case rel=>exact⟨k+1,rfl,by go_num,by omega,by rw[HQ.out],by rw[HR.out],HB4⟩
  ·have i1:¬(k:Int)<60:=by omega
   go_wp2;go_ret;exact⟨rfl,HBB.out.step HBx.out⟩
end Go.Proofs.YtncjeamdkjcebaaGreatDoor
