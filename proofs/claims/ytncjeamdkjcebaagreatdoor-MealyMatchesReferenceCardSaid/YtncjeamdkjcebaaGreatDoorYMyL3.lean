/- The law MealyMatchesReference. -/
import Derived.Test.YtncjeamdkjcebaaGreatDoorRows
import Derived.ProofKit
import Derived.Lib.SmallJoins
import Derived.Deep.Matrix
import Derived.Deep.Slices
import Derived.Deep.Grids
import Derived.SizedLaws
import Derived.OpenShut
import Derived.LaidMore
import Derived.Test.YtncjeamdkjcebaaGreatDoorYMyH3
set_option linter.all false
set_option maxHeartbeats 16000000
set_option maxRecDepth 100000
namespace Go.Proofs.YtncjeamdkjcebaaGreatDoor
open Go.RowKit
def RM8(_zm _ze _zx _zy:Nat)(m0 m1 m2 r0 r1 r2 B0 B1 B2 D0 D1 D2 rq kB:Int)(ma mb ra rb Ba Bb Da Db ao ap:Option Addr)(mn mc mk md rn rc rk rd Bn Bc Bk Bd Dn Dc Dk Dd ln co cp:Nat)(bv ev:Bool)(ix:Nat)(u:Value)(_:World):Prop:=
 match ix with
 |0=>u=.slice ao ln co
 |1=>u=.slice ap ln cp
 |2|17=>u=.bool true
 |3|4|7|8|9|12|13|14|18|19|20|25|26|27|32|33=>u=.bool false
 |5|6=>u=.int .i64 rq
 |10|11=>u=.int .i64 kB
 |15=>u=.agg #[.int .i64 B0,.int .i64 B1,.int .i64 B2,.slice Ba Bn Bc,.slice Bb Bk Bd]
 |16=>u=.agg #[.int .i64 D0,.int .i64 D1,.int .i64 D2,.slice Da Dn Dc,.slice Db Dk Dd]
 |21|23=>u=.agg #[.int .i64 m0,.int .i64 m1,.int .i64 m2,.slice ma mn mc,.slice mb mk md]
 |22|24=>u=.bool bv
 |28|30=>u=.agg #[.int .i64 r0,.int .i64 r1,.int .i64 r2,.slice ra rn rc,.slice rb rk rd]
 |29|31=>u=.bool ev
 | _=>True
def Kr(_zm _ze _zw:Nat)(m0 m1 m2 r0 r1 r2:Int)(ma mb ra rb wa wb sa:Option Addr)(mn mc mk md rn rc rk rd wn wc wk wd1 sn sc:Nat)(LW LP:Ls)(ix:Nat)(u:Value)(W:World):Prop:=
 match ix with
 |0|1|10|11|12|21|22|23=>u=.bool true
 |2|6|13|17=>u=.slice sa sn sc
 |3|7|14|18=>u=.agg #[.int .i64 m0,.int .i64 m1,.int .i64 m2,.slice ma mn mc,.slice mb mk md]
 |4|8=>u=.agg #[.slice wa wn wc,.slice wb wk wd1]
 |5|9=>Cn W u LW
 |15|19=>u=.agg #[.int .i64 r0,.int .i64 r1,.int .i64 r2,.slice ra rn rc,.slice rb rk rd]
 |16|20=>Cn W u LP
 | _=>True
theorem Kr.below{ix:Nat}{u:Value}{W W':World}{zm ze zw:Nat}{m0 m1 m2 r0 r1 r2:Int}{ma mb ra rb wa wb sa:Option Addr}{mn mc mk md rn rc rk rd wn wc wk a sn sc:Nat}{LW LP:Ls}(h:Kr zm ze zw m0 m1 m2 r0 r1 r2 ma mb ra rb wa wb sa mn mc mk md rn rc rk rd wn wc wk a sn sc LW LP ix u W)(hb:Below W.heap.size W W'):Kr zm ze zw m0 m1 m2 r0 r1 r2 ma mb ra rb wa wb sa mn mc mk md rn rc rk rd wn wc wk a sn sc LW LP ix u W':=by
 unfold Kr at*
 split at h<;>first|exact h|trivial|exact Cn.below h hb
theorem Ms(w:World)(vl vm vb ve vi vw vo:Value)(l:List Sig)(m b:My)(e:Mo)(q:Int)(ins:List Int)(wd:Ls)(own:List Bool)(hK:B7 w)(hl:AD w vl l)(hm:BB w vm m)(ai:BB w vb b)(he:Dy w ve e)(hi:Ah w vi ins)(hw:Cn w vw wd)(ho:Bf w vo own):
  Calls Tryz.prog 3 #[vl,vm,vb,ve,.int .i64 q,vi,vw,vo] w (Av (.bool true) w):=by
 have cf:Tryz.prog.follows .mixedOrders=true:=by kernel_rfl
 obtain⟨sa,sc,rfl⟩:=hl.shape;obtain⟨ia,ic,rfl⟩:=hi.shape;obtain⟨oa,oc,rfl⟩:=ho.shape;generalize hsn:l.length=sn at*;generalize hin:ins.length=inn at*;generalize hon:own.length=on at*;have ch:=Ab hin;clear hsn hin hon;obtain⟨m0,m1,m2,ma,mn,mc,mb,mk,md,rfl⟩:=hm.shp9;obtain⟨b0,b1,b2,ba,bn,bc,bb,bk,bd,rfl⟩:=ai.shp9;obtain⟨r0,r1,r2,ra,rn,rc,rb,rk,rd,rfl⟩:=he.shp9;obtain⟨wa,wn,wc,wb,wk,ah,rfl⟩:=hw.shp6;have hB:BW w w:=Ad
 go_enter Tryz.func3,Tryz.ntmps3
 go_upto_region 1 with(fail)
 obtain⟨w1,eW⟩:∃W,W=(((w.alloc (.cells #[.int .i64 m0,.int .i64 m1,.int .i64 m2,.slice ma mn mc,.slice mb mk md] 25)).alloc (.cells #[.int .i64 b0,.int .i64 b1,.int .i64 b2,.slice ba bn bc,.slice bb bk bd] 25)).alloc (.cells #[.int .i64 r0,.int .i64 r1,.int .i64 r2,.slice ra rn rc,.slice rb rk rd] 28)).alloc (.cells #[.slice wa wn wc,.slice wb wk ah] 30):=⟨_,rfl⟩
 have ac:BW w w1:=by rw[eW];exact(by repeat(first|exact Ad|assumption|apply AE|apply AB))
 have xm:w1.heap[w.heap.size]? =some (.cells #[.int .i64 m0,.int .i64 m1,.int .i64 m2,.slice ma mn mc,.slice mb mk md] 25 (0,0)):=by rw[eW];exact(by(repeat(rw[Am];first|rw[if_pos (by first|simp;done|simp;omega)]|rw[if_neg (by first|simp;done|simp;omega)]));(try rfl))
 have xb:w1.heap[w.heap.size+1]? =some (.cells #[.int .i64 b0,.int .i64 b1,.int .i64 b2,.slice ba bn bc,.slice bb bk bd] 25 (0,0)):=by rw[eW];exact(by(repeat(rw[Am];first|rw[if_pos (by first|simp;done|simp;omega)]|rw[if_neg (by first|simp;done|simp;omega)]));(try rfl))
 have xe:w1.heap[w.heap.size+1+1]? =some (.cells #[.int .i64 r0,.int .i64 r1,.int .i64 r2,.slice ra rn rc,.slice rb rk rd] 28 (0,0)):=by rw[eW];exact(by(repeat(rw[Am];first|rw[if_pos (by first|simp;done|simp;omega)]|rw[if_neg (by first|simp;done|simp;omega)]));(try rfl))
 have xw:w1.heap[w.heap.size+1+1+1]? =some (.cells #[.slice wa wn wc,.slice wb wk ah] 30 (0,0)):=by rw[eW];exact(by(repeat(rw[Am];first|rw[if_pos (by first|simp;done|simp;omega)]|rw[if_neg (by first|simp;done|simp;omega)]));(try rfl))
 rw[<-eW];clear eW;generalize w.heap.size+1+1+1=an at*;generalize w.heap.size+1+1=af at*;generalize w.heap.size+1=d5 at*;generalize w.heap.size=ag at*
 go_wp2_with fail
 replace hK:=hK.below ac;refine(Tw _ hK).mono ?_;rintro e w2 ⟨rfl,s⟩
 go_wp2_with fail
 replace hl:=hl.below (bst ac s);refine(PF _ _ l hl).mono ?_;rintro e w3 ⟨rfl,x⟩
 cases hg:FE l with
 |false=>
  clear hg
  go_wp2_with fail
  go_ret;replace hB:=hB.step (bst (bst ac s) x);exact⟨rfl,hB⟩
 |true=>
 clear hg;replace xm:=UF (bst s x) xm;have k0:=Aa 0 xm;have k1:=Aa 1 xm;have k2:=Aa 2 xm;have k3:=Aa 3 xm;have k4:=Aa 4 xm
 go_wp2_with fail
 clear k0 k1 k2 k3 k4;replace hm:=hm.below (bst (bst ac s) x);refine(SD _ _ m 12 hm).mono ?_;rintro e w4 ⟨rfl,z⟩
 cases hf1:MM m 12 with
 |false=>
  clear hf1
  go_wp2_with fail
  go_ret;replace hB:=hB.step (bst (bst (bst ac s) x) z);exact⟨rfl,hB⟩
 |true=>
 have au:=Ab (NE hf1);clear hf1;replace xb:=UF (bst (bst s x) z) xb;have k0:=Aa 0 xb;have k1:=Aa 1 xb;have k2:=Aa 2 xb;have k3:=Aa 3 xb;have k4:=Aa 4 xb
 go_wp2_with fail
 clear k0 k1 k2 k3 k4;replace ai:=ai.below (bst (bst (bst ac s) x) z);refine(SD _ _ b 12 ai).mono ?_;rintro e w5 ⟨rfl,aa⟩
 cases hf1:MM b 12 with
 |false=>
  clear hf1
  go_wp2_with fail
  go_ret;replace hB:=hB.step (bst (bst (bst (bst ac s) x) z) aa);exact⟨rfl,hB⟩
 |true=>
 have a6:=Ab (NE hf1);clear hf1;replace xe:=UF (bst (bst (bst s x) z) aa) xe;have k0:=Aa 0 xe;have k1:=Aa 1 xe;have k2:=Aa 2 xe;have k3:=Aa 3 xe;have k4:=Aa 4 xe
 go_wp2_with fail
 clear k0 k1 k2 k3 k4;replace he:=he.below (bst (bst (bst (bst ac s) x) z) aa);refine(SX _ _ e 12 he).mono ?_;rintro e w6 ⟨rfl,y⟩
 cases hf1:Oy e 12 with
 |false=>
  clear hf1
  go_wp2_with fail
  go_ret;replace hB:=hB.step (bst (bst (bst (bst (bst ac s) x) z) aa) y);exact⟨rfl,hB⟩
 |true=>
 have bq:=Ab (RX hf1);clear hf1
 by_cases h80:(80:Int)<(inn:Int)
 ·go_wp2_with fail
  go_ret;replace hB:=hB.step (bst (bst (bst (bst (bst ac s) x) z) aa) y);exact⟨rfl,hB⟩
 replace xw:=UF (bst (bst (bst (bst s x) z) aa) y) xw;have k0:=Aa 0 xw;have k1:=Aa 1 xw
 go_wp2_with fail
 clear k0 k1;replace hw:=hw.below (bst (bst (bst (bst (bst ac s) x) z) aa) y);refine(RC _ _ wd hw).mono ?_;rintro e w7 ⟨rfl,ab⟩
 cases hg:Nh wd with
 |false=>
  clear hg
  go_wp2_with fail
  go_ret;replace hB:=hB.step (bst (bst (bst (bst (bst (bst ac s) x) z) aa) y) ab);exact⟨rfl,hB⟩
 |true=>
 clear hg
 by_cases h12:(12:Int)<(on:Int)
 ·go_wp2_with fail
  go_ret;replace hB:=hB.step (bst (bst (bst (bst (bst (bst ac s) x) z) aa) y) ab);exact⟨rfl,hB⟩
 have br:Hid (ins.length<=1000):=by
  show _<=_;have:=ch.out;omega
 go_upto_region 4 with(fail)
 clear h80 h12;obtain⟨LR,rq,bi⟩:∃LR rq,Ha m q ins=(LR,rq):=⟨_,_,rfl⟩;replace xm:=UF (bst (bst (bst z aa) y) ab) xm;have k0:=Aa 0 xm;have k1:=Aa 1 xm;have k2:=Aa 2 xm;have k3:=Aa 3 xm;have k4:=Aa 4 xm
 go_wp2_with fail
 clear k0 k1 k2 k3 k4;replace hi:=hi.below (bst (bst (bst (bst (bst (bst ac s) x) z) aa) y) ab);replace hm:=hm.below (bst (bst (bst z aa) y) ab);refine((show Calls _ _ _ _ (IE LR rq _)from by have h:=SI _ _ _ m q ins hm hi br.out;rw[bi]at h;exact h)).mono ?_;rintro e w8 ⟨v,rfl,ax,ad⟩;obtain⟨ao,co,rfl⟩:∃a c,v=.slice a LR.length c:=ax.shape
 go_upto_region 5 with(fail)
 replace xm:=UF ad xm;have k0:=Aa 0 xm;have k1:=Aa 1 xm;have k2:=Aa 2 xm;have k3:=Aa 3 xm;have k4:=Aa 4 xm
 go_wp2_with fail
 clear k0 k1 k2 k3 k4;replace hi:=hi.below ad;replace hm:=hm.below ad;refine((show Calls _ _ _ _ (IE LR rq _)from by have h:=Tb _ _ _ m q ins hm hi br.out;rw[bi]at h;exact h)).mono ?_;rintro e w9 ⟨v,rfl,ay,ae⟩;obtain⟨ap,cp,rfl⟩:∃a c,v=.slice a LR.length c:=ay.shape
 go_upto_region 6 with(fail)
 obtain⟨MB,kB,bf⟩:∃MB kB,DN l m b own=(MB,kB):=⟨_,_,rfl⟩;replace xm:=UF ae xm;have k0:=Aa 0 xm;have k1:=Aa 1 xm;have k2:=Aa 2 xm;have k3:=Aa 3 xm;have k4:=Aa 4 xm;replace xb:=UF (bst (bst (bst (bst aa y) ab) ad) ae) xb;have j0:=Aa 0 xb;have j1:=Aa 1 xb;have j2:=Aa 2 xb;have j3:=Aa 3 xb;have j4:=Aa 4 xb
 go_wp2_with fail
 clear k0 k1 k2 k3 k4;clear j0 j1 j2 j3 j4;replace hK:=hK.below (bst (bst (bst (bst (bst (bst (bst s x) z) aa) y) ab) ad) ae);replace ai:=ai.below (bst (bst (bst (bst aa y) ab) ad) ae);replace hl:=hl.below (bst (bst (bst (bst (bst (bst x z) aa) y) ab) ad) ae);replace hm:=hm.below ae;replace ho:=ho.below (bst (bst (bst (bst (bst (bst (bst (bst ac s) x) z) aa) y) ab) ad) ae);refine((show Calls _ _ _ _ (H8 MB kB _)from by have h:=Pm _ _ _ _ _ l m b own hK hl hm ai ho (by have:=au.out;omega) (by have:=a6.out;omega);rw[bf]at h;exact h)).mono ?_;rintro e a3 ⟨v,rfl,az,p⟩;obtain⟨B0,B1,B2,Ba,Bn,Bc,Bb,Bk,Bd,rfl⟩:=az.shp9
 go_upto_region 7 with(fail)
 obtain⟨cg,eW⟩:∃W,W=a3.alloc (.cells #[.int .i64 B0,.int .i64 B1,.int .i64 B2,.slice Ba Bn Bc,.slice Bb Bk Bd] 25):=⟨_,rfl⟩
 have j:BW a3 cg:=by rw[eW];exact(by repeat(first|exact Ad|assumption|apply AE|apply AB))
 have xx:cg.heap[a3.heap.size]? =some (.cells #[.int .i64 B0,.int .i64 B1,.int .i64 B2,.slice Ba Bn Bc,.slice Bb Bk Bd] 25 (0,0)):=by rw[eW];exact(by(repeat(rw[Am];first|rw[if_pos (by first|simp;done|simp;omega)]|rw[if_neg (by first|simp;done|simp;omega)]));(try rfl))
 rw[<-eW];clear eW;generalize a3.heap.size=aq at*;replace xm:=UF (bst p j) xm;have k0:=Aa 0 xm;have k1:=Aa 1 xm;have k2:=Aa 2 xm;have k3:=Aa 3 xm;have k4:=Aa 4 xm;replace xb:=UF (bst p j) xb;have j0:=Aa 0 xb;have j1:=Aa 1 xb;have j2:=Aa 2 xb;have j3:=Aa 3 xb;have j4:=Aa 4 xb
 go_wp2_with fail
 clear k0 k1 k2 k3 k4;clear j0 j1 j2 j3 j4;replace ai:=ai.below (bst p j);replace hl:=hl.below (bst p j);replace hm:=hm.below (bst p j);replace ho:=ho.below (bst p j);refine((show Calls _ _ _ _ (H8 MB kB _)from by have h:=Rw _ _ _ _ _ l m b own hl hm ai ho (by have:=au.out;omega) (by have:=a6.out;omega);rw[bf]at h;exact h)).mono ?_;rintro e a4 ⟨v,rfl,a0,i⟩;obtain⟨D0,D1,D2,Da,Dn,Dc,Db,Dk,Dd,rfl⟩:=a0.shp9
 go_upto_region 8 with(fail)
 obtain⟨r,eW⟩:∃W,W=a4.alloc (.cells #[.int .i64 D0,.int .i64 D1,.int .i64 D2,.slice Da Dn Dc,.slice Db Dk Dd] 25):=⟨_,rfl⟩
 have f:BW a4 r:=by rw[eW];exact(by repeat(first|exact Ad|assumption|apply AE|apply AB))
 have xy:r.heap[a4.heap.size]? =some (.cells #[.int .i64 D0,.int .i64 D1,.int .i64 D2,.slice Da Dn Dc,.slice Db Dk Dd] 25 (0,0)):=by rw[eW];exact(by(repeat(rw[Am];first|rw[if_pos (by first|simp;done|simp;omega)]|rw[if_neg (by first|simp;done|simp;omega)]));(try rfl))
 rw[<-eW];clear eW;generalize a4.heap.size=ar at*;obtain⟨bv,bj⟩:∃bv,bv=A5 m:=⟨_,rfl⟩;obtain⟨ev,bl⟩:∃ev,ev=Bw e:=⟨_,rfl⟩;replace hB:=hB.step (bst (bst (bst (bst (bst (bst (bst (bst (bst (bst (bst (bst ac s) x) z) aa) y) ab) ad) ae) p) j) i) f);have a2:=Ab hB
 have d:Hid (∀W,Below r.drew.heap.size r.drew W->Below r.heap.size r W):=fun W h=>(Below.drew (B:=r.heap.size) Ad).trans h
 have HM:Hid (∀W,Below r.drew.heap.size r.drew W->W.cell? ⟨ag,0,none⟩=some (.int .i64 m0)/\W.cell? ⟨ag,1,none⟩=some (.int .i64 m1)/\W.cell? ⟨ag,2,none⟩=some (.int .i64 m2)/\W.cell? ⟨ag,3,none⟩=some (.slice ma mn mc)/\W.cell? ⟨ag,4,none⟩=some (.slice mb mk md)):=fun W h=>by
  have hh:=d.out W h;replace xm:=UF (bst i f) xm;have k:=B8 hh xm;exact⟨Aa 0 k,Aa 1 k,Aa 2 k,Aa 3 k,Aa 4 k⟩
 have HE:Hid (∀W,Below r.drew.heap.size r.drew W->W.cell? ⟨af,0,none⟩=some (.int .i64 r0)/\W.cell? ⟨af,1,none⟩=some (.int .i64 r1)/\W.cell? ⟨af,2,none⟩=some (.int .i64 r2)/\W.cell? ⟨af,3,none⟩=some (.slice ra rn rc)/\W.cell? ⟨af,4,none⟩=some (.slice rb rk rd)):=fun W h=>by
  have hh:=d.out W h;replace xe:=UF (bst (bst (bst (bst (bst (bst (bst y ab) ad) ae) p) j) i) f) xe;have k:=B8 hh xe;exact⟨Aa 0 k,Aa 1 k,Aa 2 k,Aa 3 k,Aa 4 k⟩
 have HX:Hid (∀W,Below r.drew.heap.size r.drew W->W.cell? ⟨aq,0,none⟩=some (.int .i64 B0)/\W.cell? ⟨aq,1,none⟩=some (.int .i64 B1)/\W.cell? ⟨aq,2,none⟩=some (.int .i64 B2)/\W.cell? ⟨aq,3,none⟩=some (.slice Ba Bn Bc)/\W.cell? ⟨aq,4,none⟩=some (.slice Bb Bk Bd)):=fun W h=>by
  have hh:=d.out W h;replace xx:=UF (bst i f) xx;have k:=B8 hh xx;exact⟨Aa 0 k,Aa 1 k,Aa 2 k,Aa 3 k,Aa 4 k⟩
 have HY:Hid (∀W,Below r.drew.heap.size r.drew W->W.cell? ⟨ar,0,none⟩=some (.int .i64 D0)/\W.cell? ⟨ar,1,none⟩=some (.int .i64 D1)/\W.cell? ⟨ar,2,none⟩=some (.int .i64 D2)/\W.cell? ⟨ar,3,none⟩=some (.slice Da Dn Dc)/\W.cell? ⟨ar,4,none⟩=some (.slice Db Dk Dd)):=fun W h=>by
  have hh:=d.out W h;have k:=B8 hh xy;exact⟨Aa 0 k,Aa 1 k,Aa 2 k,Aa 3 k,Aa 4 k⟩
 have bs:Hid (∀W,Below r.drew.heap.size r.drew W->Calls Tryz.prog 16 #[.slice ao LR.length co,.slice ap LR.length cp] W (Av (.bool true) W)):=fun W h=>by
  replace ax:=ax.below (bst (bst (bst (bst ae p) j) i) f);replace ay:=ay.below (bst (bst (bst p j) i) f);exact Kk W _ _ LR (ax.below (d.out W h)) (ay.below (d.out W h))
 have b4:Hid (∀W,Below r.drew.heap.size r.drew W->Calls Tryz.prog 17 #[.agg #[.int .i64 B0,.int .i64 B1,.int .i64 B2,.slice Ba Bn Bc,.slice Bb Bk Bd],.agg #[.int .i64 D0,.int .i64 D1,.int .i64 D2,.slice Da Dn Dc,.slice Db Dk Dd]] W (Av (.bool true) W)):=fun W h=>by
  replace az:=az.below (bst (bst j i) f);replace a0:=a0.below f;have h1:=Nt W _ _ MB MB (az.below (d.out W h)) (a0.below (d.out W h));rw[decide_eq_true rfl]at h1;exact h1
 have b5:Hid (∀W,Below r.drew.heap.size r.drew W->Calls Tryz.prog 18 #[.agg #[.int .i64 m0,.int .i64 m1,.int .i64 m2,.slice ma mn mc,.slice mb mk md]] W (Av (.bool bv) W)):=fun W h=>by
  replace hm:=hm.below (bst i f);rw[bj];exact Fn W _ m (hm.below (d.out W h))
 have b6:Hid (∀W,Below r.drew.heap.size r.drew W->Calls Tryz.prog 19 #[.agg #[.int .i64 m0,.int .i64 m1,.int .i64 m2,.slice ma mn mc,.slice mb mk md]] W (Av (.bool bv) W)):=fun W h=>by
  replace hm:=hm.below (bst i f);rw[bj];exact Hj W _ m (hm.below (d.out W h))
 have bm:Hid (∀W,Below r.drew.heap.size r.drew W->Calls Tryz.prog 20 #[.agg #[.int .i64 r0,.int .i64 r1,.int .i64 r2,.slice ra rn rc,.slice rb rk rd]] W (Av (.bool ev) W)):=fun W h=>by
  replace he:=he.below (bst (bst (bst (bst (bst (bst (bst y ab) ad) ae) p) j) i) f);rw[bl];exact IJ W _ e (he.below (d.out W h))
 have bo:Hid (∀W,Below r.drew.heap.size r.drew W->Calls Tryz.prog 21 #[.agg #[.int .i64 r0,.int .i64 r1,.int .i64 r2,.slice ra rn rc,.slice rb rk rd]] W (Av (.bool ev) W)):=fun W h=>by
  replace he:=he.below (bst (bst (bst (bst (bst (bst (bst y ab) ad) ae) p) j) i) f);rw[bl];exact Jz W _ e (he.below (d.out W h))
 replace hK:=hK.below (bst (bst (bst p j) i) f);have bu:=Ab hK;replace hl:=hl.below (bst i f);have bw:=Ab hl;replace hm:=hm.below (bst i f);have bx:=Ab hm;replace he:=he.below (bst (bst (bst (bst (bst (bst (bst y ab) ad) ae) p) j) i) f);have bp:=Ab he;replace hw:=hw.below (bst (bst (bst (bst (bst (bst ab ad) ae) p) j) i) f);have b9:=Ab hw;replace xm:=UF (bst i f) xm;have a8:=Ab xm;replace xe:=UF (bst (bst (bst (bst (bst (bst (bst y ab) ad) ae) p) j) i) f) xe;have a7:=Ab xe;replace xw:=UF (bst (bst (bst (bst (bst (bst ab ad) ae) p) j) i) f) xw;have a9:=Ab xw;clear ax ay az a0 ai hi ho bj bl xb xx xy hB bi bf hK hl hm he hw xm xe xw;generalize LR.length=ln at*;clear ac s x z aa y ab ad ae p j i f;refine Be cf (RM8 ag af aq ar m0 m1 m2 r0 r1 r2 B0 B1 B2 D0 D1 D2 rq kB ma mb ra rb Ba Bb Da Db ao ap mn mc mk md rn rc rk rd Bn Bc Bk Bd Dn Dc Dk Dd ln co cp bv ev) (fun vs=>{tmps:=(_::_::_::_::_::_::_::_::_::_::_::_::_::_::_::_::_::_::_::_::_::_::_::_::_::_::_::_::_::_::_::_::_::_::_::_::_::_::_::_::_::_::_::_::_::_::_::_::_::_::_::_::_::_::_::_::_::_::_::_::_::_::_::_::_::_::_::_::_::_::_::_::_::_::_::_::_::_::_::_::_::_::_::_::_::_::_::_::_::_::_::vs 0::vs 1::vs 2::vs 3::vs 4::vs 5::vs 6::vs 7::vs 8::vs 9::vs 10::vs 11::vs 12::vs 13::vs 14::vs 15::vs 16::vs 17::vs 18::vs 19::vs 20::vs 21::vs 22::vs 23::vs 24::vs 25::vs 26::vs 27::vs 28::vs 29::vs 30::vs 31::vs 32::vs 33::_::_::_::_::_::_::_::_::_::_::_::_::_::_::_::_::_::_::_::_::_::_::_::[]).toArray,defers:=_}) (fun n=>[].getD n undef) rfl (by kernel_rfl) (fun _ _ _ _ h _=>h) ?step ?fin
 case step=>
  intro ix o ho
  match ix,ho with
  |0,ho|1,ho|3,ho|4,ho|5,ho|6,ho|7,ho|8,ho|9,ho|10,ho|11,ho|12,ho|13,ho|14,ho|18,ho|19,ho|20,ho|25,ho|26,ho|27,ho|32,ho|33,ho=>
   obtain rfl:=osI ho;intro vs W K hB hD hK;have HK:=Ab hK
   try have e2:vs 2=.bool true:=Ac hD 2 rfl
   try have e3:vs 3=.bool false:=Ac hD 3 rfl
   try have e4:vs 4=.bool false:=Ac hD 4 rfl
   try have e5:vs 5=.int .i64 rq:=Ac hD 5 rfl
   try have e6:vs 6=.int .i64 rq:=Ac hD 6 rfl
   try have e7:vs 7=.bool false:=Ac hD 7 rfl
   try have e8:vs 8=.bool false:=Ac hD 8 rfl
   try have e9:vs 9=.bool false:=Ac hD 9 rfl
   try have ci:vs 10=.int .i64 kB:=Ac hD 10 rfl
   try have cj:vs 11=.int .i64 kB:=Ac hD 11 rfl
   try have aj:vs 12=.bool false:=Ac hD 12 rfl
   try have ca:vs 13=.bool false:=Ac hD 13 rfl
   try have al:vs 14=.bool false:=Ac hD 14 rfl
   try have cb:vs 17=.bool true:=Ac hD 17 rfl
   try have cc:vs 18=.bool false:=Ac hD 18 rfl
   try have cd:vs 19=.bool false:=Ac hD 19 rfl
   try have av:vs 20=.bool false:=Ac hD 20 rfl
   try have cl:vs 22=.bool bv:=Ac hD 22 rfl
   try have du:vs 24=.bool bv:=Ac hD 24 rfl
   try have dv:vs 25=.bool false:=Ac hD 25 rfl
   try have dw:vs 26=.bool false:=Ac hD 26 rfl
   try have aw:vs 27=.bool false:=Ac hD 27 rfl
   try have dx:vs 29=.bool ev:=Ac hD 29 rfl
   try have dy:vs 31=.bool ev:=Ac hD 31 rfl
   try have dz:vs 32=.bool false:=Ac hD 32 rfl
   clear hK hD ho;dsimp only;go_simp;have h:=HK.out _ _ Ad rfl;simp only[upd,Nat.reduceEqDiff,reduceIte, *]at h;exact h
  |2,ho=>
   obtain rfl:=osI ho;intro vs W K hB hD hK;have HK:=Ab hK;have e0:vs 0=.slice ao ln co:=Ac hD 0 rfl;have e1:vs 1=.slice ap ln cp:=Ac hD 1 rfl;clear hK hD ho;dsimp only;go_simp;refine(bs.out W hB).mono ?_;rintro e W' ⟨rfl,hb⟩;have h:=HK.out _ _ hb rfl;simp only[upd,Nat.reduceEqDiff,reduceIte,e0,e1]at h;exact h
  |15,ho=>
   obtain rfl:=osI ho;intro vs W K hB hD hK;have HK:=Ab hK;have al:vs 14=.bool false:=Ac hD 14 rfl;obtain⟨d0,d1,d2,d3,d4⟩:=HX.out W hB;clear hK hD ho;dsimp only;go_simp;have h:=HK.out _ _ Ad rfl;simp only[upd,Nat.reduceEqDiff,reduceIte,al]at h;exact h
  |16,ho=>
   obtain rfl:=osI ho;intro vs W K hB hD hK;have HK:=Ab hK;have al:vs 14=.bool false:=Ac hD 14 rfl;obtain⟨d0,d1,d2,d3,d4⟩:=HY.out W hB;clear hK hD ho;dsimp only;go_simp;have h:=HK.out _ _ Ad rfl;simp only[upd,Nat.reduceEqDiff,reduceIte,al]at h;exact h
  |17,ho=>
   obtain rfl:=osI ho;intro vs W K hB hD hK;have HK:=Ab hK;have al:vs 14=.bool false:=Ac hD 14 rfl;have be:vs 15=.agg #[.int .i64 B0,.int .i64 B1,.int .i64 B2,.slice Ba Bn Bc,.slice Bb Bk Bd]:=Ac hD 15 rfl;have ck:vs 16=.agg #[.int .i64 D0,.int .i64 D1,.int .i64 D2,.slice Da Dn Dc,.slice Db Dk Dd]:=Ac hD 16 rfl;clear hK hD ho;dsimp only;go_simp;refine(b4.out W hB).mono ?_;rintro e W' ⟨rfl,hb⟩;have h:=HK.out _ _ hb rfl;simp only[upd,Nat.reduceEqDiff,reduceIte,al,be,ck]at h;exact h
  |21,ho|23,ho=>
   obtain rfl:=osI ho;intro vs W K hB hD hK;have HK:=Ab hK
   try have av:vs 20=.bool false:=Ac hD 20 rfl
   obtain⟨d0,d1,d2,d3,d4⟩:=HM.out W hB;clear hK hD ho;dsimp only;go_simp;have h:=HK.out _ _ Ad rfl;simp only[upd,Nat.reduceEqDiff,reduceIte, *]at h;exact h
  |22,ho=>
   obtain rfl:=osI ho;intro vs W K hB hD hK;have HK:=Ab hK;have av:vs 20=.bool false:=Ac hD 20 rfl;have ce:vs 21=.agg #[.int .i64 m0,.int .i64 m1,.int .i64 m2,.slice ma mn mc,.slice mb mk md]:=Ac hD 21 rfl;clear hK hD ho;dsimp only;go_simp;refine(b5.out W hB).mono ?_;rintro e W' ⟨rfl,hb⟩;have h:=HK.out _ _ hb rfl;simp only[upd,Nat.reduceEqDiff,reduceIte,av,ce]at h;exact h
  |24,ho=>
   obtain rfl:=osI ho;intro vs W K hB hD hK;have HK:=Ab hK;have av:vs 20=.bool false:=Ac hD 20 rfl;have cm:vs 23=.agg #[.int .i64 m0,.int .i64 m1,.int .i64 m2,.slice ma mn mc,.slice mb mk md]:=Ac hD 23 rfl;clear hK hD ho;dsimp only;go_simp;refine(b6.out W hB).mono ?_;rintro e W' ⟨rfl,hb⟩;have h:=HK.out _ _ hb rfl;simp only[upd,Nat.reduceEqDiff,reduceIte,av,cm]at h;exact h
  |28,ho|30,ho=>
   obtain rfl:=osI ho;intro vs W K hB hD hK;have HK:=Ab hK
   try have aw:vs 27=.bool false:=Ac hD 27 rfl
   obtain⟨d0,d1,d2,d3,d4⟩:=HE.out W hB;clear hK hD ho;dsimp only;go_simp;have h:=HK.out _ _ Ad rfl;simp only[upd,Nat.reduceEqDiff,reduceIte, *]at h;exact h
  |29,ho=>
   obtain rfl:=osI ho;intro vs W K hB hD hK;have HK:=Ab hK;have aw:vs 27=.bool false:=Ac hD 27 rfl;have cn:vs 28=.agg #[.int .i64 r0,.int .i64 r1,.int .i64 r2,.slice ra rn rc,.slice rb rk rd]:=Ac hD 28 rfl;clear hK hD ho;dsimp only;go_simp;refine(bm.out W hB).mono ?_;rintro e W' ⟨rfl,hb⟩;have h:=HK.out _ _ hb rfl;simp only[upd,Nat.reduceEqDiff,reduceIte,aw,cn]at h;exact h
  |31,ho=>
   obtain rfl:=osI ho;intro vs W K hB hD hK;have HK:=Ab hK;have aw:vs 27=.bool false:=Ac hD 27 rfl;have cq:vs 30=.agg #[.int .i64 r0,.int .i64 r1,.int .i64 r2,.slice ra rn rc,.slice rb rk rd]:=Ac hD 30 rfl;clear hK hD ho;dsimp only;go_simp;refine(bo.out W hB).mono ?_;rintro e W' ⟨rfl,hb⟩;have h:=HK.out _ _ hb rfl;simp only[upd,Nat.reduceEqDiff,reduceIte,aw,cq]at h;exact h
  |q+34,ho=>exact absurd ho (by simp)
 case fin=>
  intro vs wz hB am;have el:vs 33=.bool false:=am 33 (by decide);have a1:=Ab (a2.out.step (d.out _ hB));clear am HM HE HX HY bs b4 b5 b6 bm bo;have ak:=d.out _ hB;have hK:=bu.out.below ak;have hl:=bw.out.below ak;have hm:=bx.out.below ak;have he:=bp.out.below ak;have hw:=b9.out.below ak;have xm:=(ak.block _ (Array.getElem?_eq_some_iff.1 a8.out).1).trans a8.out;have xe:=(ak.block _ (Array.getElem?_eq_some_iff.1 a7.out).1).trans a7.out;have xw:=(ak.block _ (Array.getElem?_eq_some_iff.1 a9.out).1).trans a9.out;clear ak bu bw bx bp b9 a8 a7 a9 d a2 hB;have a2:=a1;clear a1;rw[el];clear el;generalize vs 0=d6,vs 1=d7,vs 2=d8,vs 3=d9,vs 4=ea,vs 5=eb,vs 6=ec,vs 7=ed,vs 8=ee,vs 9=ef,vs 10=ct,vs 11=cu,vs 12=cv,vs 13=cw,vs 14=cx,vs 15=cy,vs 16=cz,vs 17=c0,vs 18=c1,vs 19=c2,vs 20=c3,vs 21=c4,vs 22=c5,vs 23=c6,vs 24=c7,vs 25=c8,vs 26=c9,vs 27=da,vs 28=db,vs 29=dc,vs 30=dd,vs 31=de,vs 32=df;clear vs
  go_upto_region 10 with(fail)
  obtain⟨LW,bh⟩:∃LW,LW=CY l m wd:=⟨_,rfl⟩;obtain⟨LP,bg⟩:∃LP,LP=Cs l m e:=⟨_,rfl⟩
  have d:Hid (∀W,Below wz.drew.heap.size wz.drew W->Below wz.heap.size wz W):=fun W h=>(Below.drew (B:=wz.heap.size) Ad).trans h
  have HM:Hid (∀W,Below wz.drew.heap.size wz.drew W->W.cell? ⟨ag,0,none⟩=some (.int .i64 m0)/\W.cell? ⟨ag,1,none⟩=some (.int .i64 m1)/\W.cell? ⟨ag,2,none⟩=some (.int .i64 m2)/\W.cell? ⟨ag,3,none⟩=some (.slice ma mn mc)/\W.cell? ⟨ag,4,none⟩=some (.slice mb mk md)):=fun W h=>by
   have hh:=d.out W h;have k:=B8 hh xm;exact⟨Aa 0 k,Aa 1 k,Aa 2 k,Aa 3 k,Aa 4 k⟩
  have HE:Hid (∀W,Below wz.drew.heap.size wz.drew W->W.cell? ⟨af,0,none⟩=some (.int .i64 r0)/\W.cell? ⟨af,1,none⟩=some (.int .i64 r1)/\W.cell? ⟨af,2,none⟩=some (.int .i64 r2)/\W.cell? ⟨af,3,none⟩=some (.slice ra rn rc)/\W.cell? ⟨af,4,none⟩=some (.slice rb rk rd)):=fun W h=>by
   have hh:=d.out W h;have k:=B8 hh xe;exact⟨Aa 0 k,Aa 1 k,Aa 2 k,Aa 3 k,Aa 4 k⟩
  have HW:Hid (∀W,Below wz.drew.heap.size wz.drew W->W.cell? ⟨an,0,none⟩=some (.slice wa wn wc)/\W.cell? ⟨an,1,none⟩=some (.slice wb wk ah)):=fun W h=>by
   have hh:=d.out W h;have k:=B8 hh xw;exact⟨Aa 0 k,Aa 1 k⟩
  have b7:Hid (∀W,Below wz.drew.heap.size wz.drew W->Calls Tryz.prog 23 #[.slice sa sn sc,.agg #[.int .i64 m0,.int .i64 m1,.int .i64 m2,.slice ma mn mc,.slice mb mk md],.agg #[.slice wa wn wc,.slice wb wk ah]] W (Dz LW W)):=fun W h=>by
   rw[bh];exact Nq W _ _ _ l m wd (hK.below (d.out W h)) (hl.below (d.out W h)) (hm.below (d.out W h)) (hw.below (d.out W h))
  have b8:Hid (∀W,Below wz.drew.heap.size wz.drew W->Calls Tryz.prog 24 #[.slice sa sn sc,.agg #[.int .i64 m0,.int .i64 m1,.int .i64 m2,.slice ma mn mc,.slice mb mk md],.agg #[.slice wa wn wc,.slice wb wk ah]] W (Dz LW W)):=fun W h=>by
   rw[bh];exact PD W _ _ _ l m wd (hl.below (d.out W h)) (hm.below (d.out W h)) (hw.below (d.out W h)) (by have:=au.out;omega)
  have bz:Hid (∀W,Below wz.drew.heap.size wz.drew W->Calls Tryz.prog 25 #[.slice sa sn sc,.agg #[.int .i64 m0,.int .i64 m1,.int .i64 m2,.slice ma mn mc,.slice mb mk md],.agg #[.int .i64 r0,.int .i64 r1,.int .i64 r2,.slice ra rn rc,.slice rb rk rd]] W (Dz LP W)):=fun W h=>by
   rw[bg];exact Km W _ _ _ l m e (hK.below (d.out W h)) (hl.below (d.out W h)) (hm.below (d.out W h)) (he.below (d.out W h))
  have b3:Hid (∀W,Below wz.drew.heap.size wz.drew W->Calls Tryz.prog 26 #[.slice sa sn sc,.agg #[.int .i64 m0,.int .i64 m1,.int .i64 m2,.slice ma mn mc,.slice mb mk md],.agg #[.int .i64 r0,.int .i64 r1,.int .i64 r2,.slice ra rn rc,.slice rb rk rd]] W (Dz LP W)):=fun W h=>by
   rw[bg];exact PC W _ _ _ l m e (hl.below (d.out W h)) (hm.below (d.out W h)) (he.below (d.out W h)) (by have:=au.out;omega) (by have:=bq.out;omega)
  have a5:Hid (∀W u v L,Cn W u L->Cn W v L->Calls Tryz.prog 22 #[u,v] W (Av (.bool true) W)):=fun W u v L h1 h2=>Np W u v L h1 h2
  clear hK hl hm he hw xm xe xw bh bg au a6 bq;refine Be cf (Kr ag af an m0 m1 m2 r0 r1 r2 ma mb ra rb wa wb sa mn mc mk md rn rc rk rd wn wc wk ah sn sc LW LP) (fun vs=>{tmps:=(_::_::_::_::_::_::_::_::_::_::_::_::_::_::_::_::vs 23::_::_::_::_::_::_::_::_::_::_::_::_::_::_::_::_::_::_::_::_::_::_::_::_::_::_::_::_::_::_::_::_::_::_::_::_::_::_::_::_::_::_::_::_::_::_::_::_::_::_::_::_::_::_::_::_::_::_::_::_::_::_::_::_::_::_::_::_::_::_::_::_::_::_::_::_::_::_::_::_::_::_::_::_::_::_::_::_::_::_::_::_::_::_::_::_::_::_::_::_::_::_::_::_::_::_::_::_::vs 0::vs 1::vs 2::vs 3::vs 4::vs 5::vs 6::vs 7::vs 8::vs 9::vs 10::vs 11::vs 12::vs 13::vs 14::vs 15::vs 16::vs 17::vs 18::vs 19::vs 20::vs 21::vs 22::[]).toArray,defers:=_}) (fun n=>[undef,undef,undef,undef,undef,undef,undef,undef,undef,undef,undef,undef,undef,undef,undef,undef,undef,undef,undef,undef,undef,undef,undef,.bool false].getD n undef) rfl (by kernel_rfl) (fun _ _ _ _ h hb=>h.below hb) ?step ?fin
  case step=>
   intro ix o ho
   match ix,ho with
   |0,ho|1,ho|2,ho|6,ho|11,ho|12,ho|13,ho|17,ho|22,ho|23,ho=>
    obtain rfl:=osI ho;intro vs W K hB hD hK;have HK:=Ab hK
    try have e0:vs 0=.bool true:=Ac hD 0 rfl
    try have e1:vs 1=.bool true:=Ac hD 1 rfl
    try have ci:vs 10=.bool true:=Ac hD 10 rfl
    try have cj:vs 11=.bool true:=Ac hD 11 rfl
    try have aj:vs 12=.bool true:=Ac hD 12 rfl
    try have ce:vs 21=.bool true:=Ac hD 21 rfl
    try have cl:vs 22=.bool true:=Ac hD 22 rfl
    clear hK hD ho;dsimp only;go_simp;have h:=HK.out _ _ Ad rfl;simp only[upd,Nat.reduceEqDiff,reduceIte, *]at h;exact h
   |3,ho|7,ho|14,ho|18,ho=>
    obtain rfl:=osI ho;intro vs W K hB hD hK;have HK:=Ab hK
    try have e1:vs 1=.bool true:=Ac hD 1 rfl
    try have aj:vs 12=.bool true:=Ac hD 12 rfl
    obtain⟨d0,d1,d2,d3,d4⟩:=HM.out W hB;clear hK hD ho;dsimp only;go_simp;have h:=HK.out _ _ Ad rfl;simp only[upd,Nat.reduceEqDiff,reduceIte, *]at h;exact h
   |4,ho|8,ho=>
    obtain rfl:=osI ho;intro vs W K hB hD hK;have HK:=Ab hK
    try have e1:vs 1=.bool true:=Ac hD 1 rfl
    obtain⟨d0,d1⟩:=HW.out W hB;clear hK hD ho;dsimp only;go_simp;have h:=HK.out _ _ Ad rfl;simp only[upd,Nat.reduceEqDiff,reduceIte, *]at h;exact h
   |5,ho=>
    obtain rfl:=osI ho;intro vs W K hB hD hK;have HK:=Ab hK;have e1:vs 1=.bool true:=Ac hD 1 rfl;have e2:vs 2=.slice sa sn sc:=Ac hD 2 rfl;have e3:vs 3=.agg #[.int .i64 m0,.int .i64 m1,.int .i64 m2,.slice ma mn mc,.slice mb mk md]:=Ac hD 3 rfl;have e4:vs 4=.agg #[.slice wa wn wc,.slice wb wk ah]:=Ac hD 4 rfl;clear hK hD ho;dsimp only;go_simp;refine(b7.out W hB).mono ?_;rintro e W' ⟨u',rfl,hu,hb⟩;have h:=HK.out _ _ hb hu;simp only[upd,Nat.reduceEqDiff,reduceIte,e1,e2,e3,e4]at h;exact h
   |9,ho=>
    obtain rfl:=osI ho;intro vs W K hB hD hK;have HK:=Ab hK;have e1:vs 1=.bool true:=Ac hD 1 rfl;have e6:vs 6=.slice sa sn sc:=Ac hD 6 rfl;have e7:vs 7=.agg #[.int .i64 m0,.int .i64 m1,.int .i64 m2,.slice ma mn mc,.slice mb mk md]:=Ac hD 7 rfl;have e8:vs 8=.agg #[.slice wa wn wc,.slice wb wk ah]:=Ac hD 8 rfl;clear hK hD ho;dsimp only;go_simp;refine(b8.out W hB).mono ?_;rintro e W' ⟨u',rfl,hu,hb⟩;have h:=HK.out _ _ hb hu;simp only[upd,Nat.reduceEqDiff,reduceIte,e1,e6,e7,e8]at h;exact h
   |10,ho=>
    obtain rfl:=osI ho;intro vs W K hB hD hK;have HK:=Ab hK;have e1:vs 1=.bool true:=Ac hD 1 rfl;have i5:=Ac (R:=Kr ag af an m0 m1 m2 r0 r1 r2 ma mb ra rb wa wb sa mn mc mk md rn rc rk rd wn wc wk ah sn sc LW LP) hD 5 (by rfl);have i9:=Ac (R:=Kr ag af an m0 m1 m2 r0 r1 r2 ma mb ra rb wa wb sa mn mc mk md rn rc rk rd wn wc wk ah sn sc LW LP) hD 9 (by rfl);clear hK hD ho;dsimp only;go_simp;refine(a5.out W _ _ LW i5 i9).mono ?_;rintro e W' ⟨rfl,hb⟩;have h:=HK.out _ _ hb rfl;simp only[upd,Nat.reduceEqDiff,reduceIte,e1]at h;exact h
   |15,ho|19,ho=>
    obtain rfl:=osI ho;intro vs W K hB hD hK;have HK:=Ab hK
    try have aj:vs 12=.bool true:=Ac hD 12 rfl
    obtain⟨d0,d1,d2,d3,d4⟩:=HE.out W hB;clear hK hD ho;dsimp only;go_simp;have h:=HK.out _ _ Ad rfl;simp only[upd,Nat.reduceEqDiff,reduceIte, *]at h;exact h
   |16,ho=>
    obtain rfl:=osI ho;intro vs W K hB hD hK;have HK:=Ab hK;have aj:vs 12=.bool true:=Ac hD 12 rfl;have ca:vs 13=.slice sa sn sc:=Ac hD 13 rfl;have al:vs 14=.agg #[.int .i64 m0,.int .i64 m1,.int .i64 m2,.slice ma mn mc,.slice mb mk md]:=Ac hD 14 rfl;have be:vs 15=.agg #[.int .i64 r0,.int .i64 r1,.int .i64 r2,.slice ra rn rc,.slice rb rk rd]:=Ac hD 15 rfl;clear hK hD ho;dsimp only;go_simp;refine(bz.out W hB).mono ?_;rintro e W' ⟨u',rfl,hu,hb⟩;have h:=HK.out _ _ hb hu;simp only[upd,Nat.reduceEqDiff,reduceIte,aj,ca,al,be]at h;exact h
   |20,ho=>
    obtain rfl:=osI ho;intro vs W K hB hD hK;have HK:=Ab hK;have aj:vs 12=.bool true:=Ac hD 12 rfl;have cb:vs 17=.slice sa sn sc:=Ac hD 17 rfl;have cc:vs 18=.agg #[.int .i64 m0,.int .i64 m1,.int .i64 m2,.slice ma mn mc,.slice mb mk md]:=Ac hD 18 rfl;have cd:vs 19=.agg #[.int .i64 r0,.int .i64 r1,.int .i64 r2,.slice ra rn rc,.slice rb rk rd]:=Ac hD 19 rfl;clear hK hD ho;dsimp only;go_simp;refine(b3.out W hB).mono ?_;rintro e W' ⟨u',rfl,hu,hb⟩;have h:=HK.out _ _ hb hu;simp only[upd,Nat.reduceEqDiff,reduceIte,aj,cb,cc,cd]at h;exact h
   |21,ho=>
    obtain rfl:=osI ho;intro vs W K hB hD hK;have HK:=Ab hK;have aj:vs 12=.bool true:=Ac hD 12 rfl;have cr:=Ac (R:=Kr ag af an m0 m1 m2 r0 r1 r2 ma mb ra rb wa wb sa mn mc mk md rn rc rk rd wn wc wk ah sn sc LW LP) hD 16 (by rfl);have cs:=Ac (R:=Kr ag af an m0 m1 m2 r0 r1 r2 ma mb ra rb wa wb sa mn mc mk md rn rc rk rd wn wc wk ah sn sc LW LP) hD 20 (by rfl);clear hK hD ho;dsimp only;go_simp;refine(a5.out W _ _ LP cr cs).mono ?_;rintro e W' ⟨rfl,hb⟩;have h:=HK.out _ _ hb rfl;simp only[upd,Nat.reduceEqDiff,reduceIte,aj]at h;exact h
   |q+24,ho=>exact absurd ho (by simp)
  case fin=>
   intro vs wz hB am;have el:vs 23=.bool true:=am 23 (by decide);have a1:=Ab (a2.out.step (d.out _ hB));clear am HM HE HW b7 b8 bz b3 a5;rw[el];clear el;generalize vs 0=eg,vs 1=eh,vs 2=ei,vs 3=ej,vs 4=ek,vs 5=em,vs 6=en,vs 7=eo,vs 8=ep,vs 9=eq,vs 10=dg,vs 11=dh,vs 12=di,vs 13=dj,vs 14=dk,vs 15=dl,vs 16=dm,vs 17=dn,vs 18=dp,vs 19=dq,vs 20=dr,vs 21=ds,vs 22=dt;clear vs;go_wp2;go_ret;exact⟨rfl,a1.out⟩
end Go.Proofs.YtncjeamdkjcebaaGreatDoor
namespace Go.Proofs.YtncjeamdkjcebaaGreatDoor
set_option maxRecDepth 100000
open Go.ChangeShapes Go.WideShapes Go.ChangeAt Go.RowKit Go.Joins Go.Deep
theorem JH:Tryz.prog.bytesOf 3=8:=by kernel_rfl
theorem MF:Tryz.prog.bytesOf 4=1:=by kernel_rfl
theorem MG:Tryz.prog.bytesOf 26=24:=by kernel_rfl
theorem Ou:Tryz.prog.bytesOf 75=32:=by kernel_rfl
theorem Ho:Tryz.prog.cellsOf 3=1:=by kernel_rfl
theorem IT:Tryz.prog.cellsOf 4=1:=by kernel_rfl
theorem MI:Tryz.prog.cellsOf 26=1:=by kernel_rfl
theorem Lj:Tryz.prog.cellsOf 30=2:=by kernel_rfl
theorem GQ:Tryz.prog.cellsOf 9=1:=by kernel_rfl
theorem JJ:Tryz.prog.cellsOf 75=3:=by kernel_rfl
section
variable {H:Type} {enc:TypeId×Value->H} {W:World}
theorem Ee{w:World}{a:Addr}{n:Nat}{f:Nat->Value}(h:∀i,i<n->w.cell? (a.add i)=some (f i)):(0<n->some a=some ⟨a.block,a.off,none⟩)/\∀i,i<n->w.cell? ⟨a.block,a.off+i,none⟩=some (f i):=by
 have hs:0<n->a.spot=none:=fun h0=>by
  have h1:=h 0 h0
  have e:a.add 0=a:=by simp[Addr.add]
  rw[e]at h1;unfold World.cell? at h1
  split at h1
  ·cases hsp:a.spot with
   |none=>rfl
   |some x=>rw[hsp]at h1;simp at h1
  ·cases h1
 refine⟨fun h0=>by rw[show a=⟨a.block,a.off,a.spot⟩from rfl,hs h0],fun i hi=> ?_⟩;have h1:=h i hi;unfold Addr.add at h1
 split at h1
 ·rename_i e;subst e
  have e2:a=⟨a.block,a.off+0,none⟩:=by
   have:=hs hi
   cases a;simp at this;simp[this]
  rw[<-e2];exact h1
 ·exact h1
theorem wf_i64{n:Int}(h:(Lit.int .i64 n).wf=true):I64 n:=by
 have:=bounds_i64 h;unfold I64;omega
theorem FR{t:TypeId}{fuel:Nat}{v:Value}{x:DataW H×List MemPlace}(ht:Tryz.prog.underlying t=some (.slice 3))(h:DataW.trod enc Tryz.prog W 0 (fun _=>true) true fuel t [v]=some x)
  (hr:∀n∈x.1.weights Tryz.prog t,n<=reachBytes):∃l,Ah W v l:=by
 rcases open_ints ht Tryz.underlying3 Ho h with⟨b,_⟩|⟨a,len,k,zs,b,_,hl,hm,hz,hx,c,m⟩
 ·simp at b;subst b;exact⟨[],⟨none,0,0,0,rfl,Nat.le_refl _,Nat.zero_le _,Nat.zero_le _,fun _=>rfl,(fun h=>absurd h (by simp)),fun j hj=>absurd hj (by simp)⟩,by simp⟩
 ·simp at b;subst b;simp only[if_true]at hz;have hw:=hr ((zs.take len).length*8+(zs.drop len).length*8) (by rw[hx];simp[DataW.weights,ht,JH,lits];omega)
  have d:(zs.take len).length=len:=by simp;omega
  have e:reachBytes=140737488351232:=rfl;obtain⟨h1,h2⟩:=Ee (f:=fun i=>.int .i64 (zs.getD i 0)) c;refine⟨zs.take len,⟨some a,k,a.block,a.off,by rw[d],by omega,hm,by simp only[Bg];omega,(fun h=>by cases h),fun h0=>h1 (by omega),fun j hj=> ?_⟩,fun n hn=>wf_i64 (m n (List.mem_of_mem_take hn))⟩;rw[h2 j (by omega)];simp[ivF,List.getD,show j<len from by omega]
theorem DY{P:Program}{e:TypeId}:∀{l:List (DataW H)}{d:DataW H},d∈l->∀n∈d.weights P e,n∈DataW.weightsAll P e l
 |d'::r,d,hd,n,hn=>by
  simp only[DataW.weightsAll,List.mem_append]
  rcases List.mem_cons.1 hd with rfl|h
  ·exact Or.inl hn
  ·exact Or.inr (DY h n hn)
instance:Inhabited Sig:=⟨Ir⟩
theorem QZ{fuel:Nat}{cs:List Value}{x:DataW H×List MemPlace}(h:DataW.trod enc Tryz.prog W 0 (fun _=>true) true fuel 75 cs=some x):
  ∃s:Sig,cs=[.string s.name,.bool s.inp,.int .i64 s.size]/\I64 s.size/\s.name.data.toList.length∈x.1.weights Tryz.prog 75:=by
 obtain⟨xs,n,_,hx,d,e,hf⟩:=DataW.trod_struct Tryz.underlying75 h;rw[JJ]at d
 obtain⟨c0,c1,c2,rfl⟩:∃c0 c1 c2,cs=[c0,c1,c2]:=by
  match cs,d with
  |[a,b,c],_=>exact⟨a,b,c,rfl⟩
 obtain⟨y0,y1,y2,rfl⟩:∃y0 y1 y2,xs=[y0,y1,y2]:=by
  match xs,e with
  |[a,b,c],_=>exact⟨a,b,c,rfl⟩
 have h0:DataW.trod enc Tryz.prog W 0 (fun _=>true) true n 9 (([c0,c1,c2].drop 0).take (Tryz.prog.cellsOf 9))=some y0:=hf 0 _ rfl;have h1:DataW.trod enc Tryz.prog W 0 (fun _=>true) true n 4 (([c0,c1,c2].drop 1).take (Tryz.prog.cellsOf 4))=some y1:=hf 1 _ rfl;have h2:DataW.trod enc Tryz.prog W 0 (fun _=>true) true n 3 (([c0,c1,c2].drop 2).take (Tryz.prog.cellsOf 3))=some y2:=hf 2 _ rfl;rw[GQ]at h0;rw[IT]at h1;rw[Ho]at h2;obtain⟨s,e0,f,_⟩:=DataW.trod_string Tryz.underlying9 (show DataW.trod enc Tryz.prog W 0 (fun _=>true) true n 9 [c0]=some y0 from h0);obtain⟨b,e1,i⟩:=DataW.trod_bool Tryz.underlying4 (show DataW.trod enc Tryz.prog W 0 (fun _=>true) true n 4 [c1]=some y1 from h1);obtain⟨z,e2,j,wz⟩:=DataW.trod_int Tryz.underlying3 (show DataW.trod enc Tryz.prog W 0 (fun _=>true) true n 3 [c2]=some y2 from h2);simp at e0 e1 e2;subst e0 e1 e2;refine⟨⟨s,b,z⟩,rfl,wf_i64 wz, ?_⟩;rw[hx,f];simp[DataW.weights,Tryz.underlying75,DataW.weightsEach]
theorem O0{t:TypeId}{fuel:Nat}{v:Value}{x:DataW H×List MemPlace}(ht:Tryz.prog.underlying t=some (.slice 75))(h:DataW.trod enc Tryz.prog W 0 (fun _=>true) true fuel t [v]=some x)
  (hr:∀n∈x.1.weights Tryz.prog t,n<=reachBytes):∃l,AD W v l:=by
 have q:reachBytes=140737488351232:=rfl
 rcases open_slice ht h with⟨c,_⟩|⟨a,len,w,m,n,D,Pl,c,_,hl,hm,o,hx,hi⟩
 ·simp at c;subst c;exact⟨[],none,0,0,0,rfl,Nat.le_refl _,Nat.zero_le _,Nat.zero_le _,fun h=>absurd h (by simp),fun j h=>absurd h (by simp),fun j h=>absurd h (by simp),fun j h=>absurd h (by simp),by simp,by simp⟩
 ·simp at c;subst c;simp only[if_true]at o;subst o;have hw:=hr ((len+(m-len))*32) (by rw[hx];simp[DataW.weights,ht,Ou])
  obtain⟨S,hS⟩:=choose_lt (α:=Sig) (p:=fun i s=>(∀j,j<3->W.cell? (a.add (i*3+j))=([Value.string s.name,.bool s.inp,.int .i64 s.size]:List Value)[j]?)/\I64 s.size/\s.name.data.toList.length∈(D i).weights Tryz.prog 75) (n:=m) (fun i him=>by
   obtain⟨y,hc,hd⟩:=hi i him;rw[JJ]at hc;obtain⟨s,rfl,hz,u⟩:=QZ hd;obtain⟨_,_,r⟩:=World.cells?_some hc
   exact⟨s,fun j hj=>by rw[<-Go.Deep.add_add];exact r j hj,hz,u⟩)
  have f:∀k,k<m*3->W.cell? (a.add k)=some (([Value.string (S (k/3)).name,.bool (S (k/3)).inp,.int .i64 (S (k/3)).size]:List Value).getD (k%3) undef):=fun k hk=>by
   have h1:=(hS (k/3) (by omega)).1 (k%3) (by omega);rw[show k/3*3+k%3=k by omega]at h1;rw[h1]
   have h3:k%3<3:=by omega
   rcases(by omega:k%3=0\/k%3=1\/k%3=2)with e|e|e<;>rw[e]<;>rfl
  obtain⟨h1,h2⟩:=Ee f
  have b:((List.range len).map S).length=len:=by simp
  refine⟨(List.range len).map S,some a,m,a.block,a.off,by rw[b], ?_⟩;refine⟨by omega,hm,by simp only[Bg,b];omega,fun h0=>h1 (by omega),fun j hj=> ?_,fun j hj=> ?_,fun j hj=> ?_,fun s hs=> ?_,fun s hs=> ?_⟩
  ·rw[b]at hj;rw[h2 (j*3) (by omega),show j*3/3=j by omega,show j*3%3=0 by omega];simp
  ·rw[b]at hj;rw[Nat.add_assoc,h2 (j*3+1) (by omega),show(j*3+1)/3=j by omega,show(j*3+1)%3=1 by omega];simp
  ·rw[b]at hj;rw[Nat.add_assoc,h2 (j*3+2) (by omega),show(j*3+2)/3=j by omega,show(j*3+2)%3=2 by omega];simp
  ·obtain⟨j,hj,rfl⟩:=List.mem_map.1 hs;exact(hS j (by have:=List.mem_range.1 hj;omega)).2.1
  ·obtain⟨j,hj,rfl⟩:=List.mem_map.1 hs;have z:=List.mem_range.1 hj
   have:=hr _ (by
    rw[hx];simp only[DataW.weights,ht,List.mem_cons,List.mem_append]
    exact .inr (.inl (DY (d:=D j) (List.mem_map.2 ⟨j,hj,rfl⟩) _ (hS j (by omega)).2.2)))
   have e:(S j).name.data.toList.length=(S j).name.size:=Array.length_toList;unfold Bg;omega
theorem Hv{t:TypeId}{fuel:Nat}{v:Value}{x:DataW H×List MemPlace}(ht:Tryz.prog.underlying t=some (.slice 26))(h:DataW.trod enc Tryz.prog W 0 (fun _=>true) true fuel t [v]=some x)
  (hr:∀n∈x.1.weights Tryz.prog t,n<=reachBytes):∃l,Ar W v l:=by
 have s:reachBytes=140737488351232:=rfl
 rcases open_int_rows ht Tryz.underlying26 Tryz.underlying3 MI Ho h with⟨b,_⟩|⟨a,len,m,A,L,C,Z,b,_,hl,hm,hx,c⟩
 ·simp at b;subst b;exact⟨[],fun _=>undef,⟨none,0,0,0,rfl,Nat.le_refl _,Nat.zero_le _,Nat.zero_le _,fun _=>rfl,(fun h=>absurd h (by simp)),fun j hj=>absurd hj (by simp)⟩,fun j hj=>absurd hj (by simp)⟩
 ·simp at b;subst b;have hw:=hr (m*24) (by rw[hx];simp[DataW.weights,ht,MG];left;congr 1;omega);obtain⟨h1,h2⟩:=Ee (f:=fun i=>.slice (A i) (L i) (C i)) (fun i hi=>(c i hi).1);refine⟨(List.range len).map fun r=>(Z r).take (L r),fun j=>.slice (A j) (L j) (C j),⟨some a,m,a.block,a.off,by simp,by simpa using hl,hm,by simp only[Bg,List.length_map,List.length_range];omega,(fun h=>by cases h),fun h0=>h1 (by simp at h0;omega),fun j hj=>h2 j (by simp at hj;omega)⟩,fun j hj=> ?_⟩
  have o:j<len:=by simpa using hj
  have e:((List.range len).map fun r=>(Z r).take (L r)).getD j []=(Z j).take (L j):=by simp[List.getD,o]
  rw[e];obtain⟨_,r1,r2,r3,r4,r5,r6⟩:=c j (by omega)
  have q:((Z j).take (L j)).length=L j:=by simp;omega
  cases hA:A j with
  |none=>
   have u:=r5 hA
   have p:L j=0:=by omega
   have w:(Z j).take (L j)=[]:=by rw[p];rfl
   rw[w];show Ah W (.slice (A j) (L j) (C j)) [];rw[hA,p,u];exact⟨⟨none,0,0,0,rfl,Nat.le_refl _,Nat.zero_le _,Nat.zero_le _,fun _=>rfl,(fun h=>absurd h (by simp)),fun j hj=>absurd hj (by simp)⟩,by simp⟩
  |some a'=>
   obtain⟨_,k⟩:=r6 a' hA
   have y:=hr (C j*8) (by
    rw[hx];simp only[DataW.weights,ht,List.mem_cons,List.mem_append];refine .inr (.inl (DY (d:=intRow .i64 (A j) (L j) (Z j)) (List.mem_map.2 ⟨j,List.mem_range.2 o,rfl⟩) _ ?_));rw[hA];simp[intRow,DataW.weights,Tryz.underlying26,JH,lits]
    left;congr 1;omega)
   obtain⟨g1,g2⟩:=Ee (f:=fun i=>.int .i64 ((Z j).getD i 0)) k;refine⟨⟨some a',C j,a'.block,a'.off,(by show Value.slice (A j) (L j) (C j)=_;rw[hA,q]),by omega,r2,by simp only[Bg];omega,(fun h=>by cases h),fun h0=>g1 (by omega),fun i hi=> ?_⟩,fun n hn=>wf_i64 (r4 n (List.mem_of_mem_take hn))⟩;rw[g2 i (by omega)];simp[ivF,List.getD,show i<L j from by omega]
theorem Nb{base:Nat}{v:Value}{d:DataW H}{p:List MemPlace}(hv:Value.okWide Tryz.prog W .any base 30 v)(h:DataW.Trod enc Tryz.prog W 0 (fun _=>true) true 30 v d p)
  (hr:∀n∈d.weights Tryz.prog 30,n<=reachBytes):∃l,Cn W v l:=by
 obtain⟨v0,v1,y0,y1,n,rfl,rfl,rfl,h0,h1⟩:=open_agg2 Tryz.underlying30 (by kernel_rfl) Lj hv h
 have hw:∀n∈DataW.weightsEach Tryz.prog [26,26] [y0.1,y1.1],n<=reachBytes:=fun n hn=>hr n (by simp only[DataW.weights,Tryz.underlying30];exact hn)
 obtain⟨l0,r0⟩:=FR Tryz.underlying26 h0 (fun n hn=>hw n (DataW.weights_mem_each (j:=0) rfl rfl n hn));obtain⟨l1,r1⟩:=FR Tryz.underlying26 h1 (fun n hn=>hw n (DataW.weights_mem_each (j:=1) rfl rfl n hn));exact⟨⟨l0,l1⟩,v0,v1,rfl,r0,r1⟩
theorem Ul:Tryz.prog.globalNamed "foresight/signal.keys"=some 0:=by kernel_rfl
theorem Ur:(Tryz.prog.globals[0]?).map (·.type)=some 161:=by kernel_rfl
theorem KH{W:World}(h:laidMetH Tryz.prog [("foresight/signal.keys",Rows.laid_foresight_signal_keys)] W):B7 W:=by
 rw[MakeChecks.laidMetH_plain _ _ _ (by kernel_rfl)]at h;obtain⟨ps,⟨g0,t0,i,f0,p0,q0,c,o,p,m,_,_⟩,_⟩:=h;obtain rfl:=Option.some.inj (Ul.symm.trans c);obtain rfl:=Option.some.inj (Ur.symm.trans o);obtain⟨xs,m1,rfl,f,r,v,n⟩:=DataW.trod_array Tryz.underlying161 m
 have u:Tryz.prog.cellsOf 161=10:=by kernel_rfl
 intro j hj;have b:=World.var?_cell c p j;obtain⟨l0⟩:=i;have h1:=n j hj;simp only[GQ,Nat.mul_one]at h1;simp only[Prod.mk.injEq]at f;rw[show(⟨0,j,none⟩:Addr)=⟨0,j,none⟩from rfl]at b
 have q:∀k,k<10->(xs[k]?).map (·.1)=some (.lit (.string (I0.getD k []))):=fun k hk=>by
  have e:=congrArg (fun d=>match d with|DataW.agg parts=>parts[k]? | _=>none) f.1;simp only[List.getElem?_map]at e;rw[<-e]
  match k,hk with
  |0,_=>rfl
  |1,_=>rfl
  |2,_=>rfl
  |3,_=>rfl
  |4,_=>rfl
  |5,_=>rfl
  |6,_=>rfl
  |7,_=>rfl
  |8,_=>rfl
  |9,_=>rfl
 have a:=q j hj
 cases hxj:xs[j]? with
 |none=>rw[hxj]at a;simp at a
 |some y=>
  rw[hxj]at a h1;simp only[Option.map_some,Option.some.injEq]at a;obtain⟨s,e1,hy,_⟩:=DataW.trod_string Tryz.underlying9 h1;rw[hy]at a;simp only[DataW.lit.injEq,Lit.string.injEq]at a
  have hs:s=BV j:=by
   unfold BV;rw[<-a]
  rw[hs]at e1
  have e2:l0[j]? =some (.string (BV j)):=by
   have:=congrArg (fun l=>l[0]?) e1;simpa[List.getElem?_drop]using this
  rw[b];simpa using e2
theorem Qd(os:Os)(args:Array Value):laidMetH Tryz.prog [("foresight/signal.keys",Rows.laid_foresight_signal_keys)] ((World.doorLaid Tryz.prog 400 os).forCall (fun _ _=>0) ⟨#[],args,[]⟩).memory:=
 laidMetH_of_parts3 (fuel:=8) (laidMet_of_run' 8 (by kernel_rfl) (by kernel_rfl)) (by kernel_rfl) (by kernel_rfl)
theorem Pd{W W':World}(hl:laidOutB Tryz.prog=true){ts:List TypeId}(a:(ts.all fun t=>Tryz.prog.readableRec t&&decide (t<Tryz.prog.types.size))=true):
  ∀{vs:List Value}{ds:List (DataW H)}{ps:List MemPlace},DataW.TrodAll enc Tryz.prog W 0 (fun _=>true) true ts vs ds ps->Below W.heap.size W W'->(∀x∈ps,x.block<W.heap.size)->
   DataW.TrodAll enc Tryz.prog W' 0 (fun b=>decide (b<W.heap.size)) true ts vs ds ps:=by
 induction ts with
 |nil=>
  intro vs ds ps h hb hlt;obtain⟨rfl,rfl,rfl⟩:=trodAll_nil h;simp[DataW.TrodAll]
 |cons t ts ih=>
  intro vs ds ps h hb hlt;simp only[List.all_cons,Bool.and_eq_true,decide_eq_true_eq]at a;obtain⟨v,e,d,c,p,q,rfl,rfl,rfl,h0,hR⟩:=trodAll_cons h;exact trodAll_cons_mk (Below.trod hl a.1.1 a.1.2 h0 hb (fun x hx=>hlt x (by simp[hx]))) (ih a.2 hR hb (fun x hx=>hlt x (by simp[hx])))
end
end Go.Proofs.YtncjeamdkjcebaaGreatDoor
namespace Go.Proofs.YtncjeamdkjcebaaGreatDoor
open Go.ChangeShapes Go.WideShapes Go.ChangeAt Go.RowKit Go.Joins Go.Deep
variable {H:Type} {enc:TypeId×Value->H} {W:World}
theorem Na{t:TypeId}{fuel:Nat}{v:Value}{x:DataW H×List MemPlace}(ht:Tryz.prog.underlying t=some (.slice 4))(h:DataW.trod enc Tryz.prog W 0 (fun _=>true) true fuel t [v]=some x)
  (hr:∀n∈x.1.weights Tryz.prog t,n<=reachBytes):∃l,Bf W v l:=by
 rcases open_bools ht Tryz.underlying4 IT h with⟨b,_⟩|⟨a,len,d,B,b,_,hl,hm,hx,c⟩
 ·simp at b;subst b;exact⟨[],⟨none,0,0,0,rfl,Nat.le_refl _,Nat.zero_le _,Nat.zero_le _,fun _=>rfl,(fun h=>absurd h (by simp)),fun j hj=>absurd hj (by simp)⟩⟩
 ·simp at b;subst b;have hw:=hr d (by rw[hx];simp[DataW.weights,boolRow,ht,MF];omega);have e:reachBytes=140737488351232:=rfl;obtain⟨h1,h2⟩:=Ee (f:=fun i=>.bool (B i)) c;refine⟨(List.range len).map B,⟨some a,d,a.block,a.off,by simp,by simpa using hl,hm,by simp only[Bg,List.length_map,List.length_range];omega,(fun h=>by cases h),fun h0=>h1 (by simp at h0;omega),fun j hj=> ?_⟩⟩
  have k:j<len:=by simpa using hj
  rw[h2 j (by omega)];simp[bvF,List.getD,k]
end Go.Proofs.YtncjeamdkjcebaaGreatDoor
namespace Go.Proofs.YtncjeamdkjcebaaGreatDoor
set_option maxRecDepth 100000
open Go.ChangeShapes Go.WideShapes Go.ChangeAt Go.RowKit Go.Joins Go.Deep
theorem P6:Tryz.prog.cellsOf 25=5:=by kernel_rfl
theorem P5:Tryz.prog.cellsOf 28=5:=by kernel_rfl
theorem Tk{α:Type}{cs:Array α}(h:cs.size=5):∃c0 c1 c2 c3 c4,cs=#[c0,c1,c2,c3,c4]:=by
 obtain⟨l⟩:=cs
 match l,h with
 |[c0,c1,c2,c3,c4],_=>exact⟨c0,c1,c2,c3,c4,rfl⟩
section
variable {H:Type} {enc:TypeId×Value->H} {W:World}
theorem JY{P:Program}{base:Nat}{f:Nat->Bool}{i:Bool}{r:Reach}{b0:Nat}{t:TypeId}{f0 f1 f2 f3 f4:Field}{v:Value}{d:DataW H}{p:List MemPlace}(hs:P.underlying t=some (.struct #[f0,f1,f2,f3,f4]))(j:oneCellFields P #[f0,f1,f2,f3,f4]=true)(hC:P.cellsOf t=5)
  (hv:Value.okWide P W r b0 t v) (h:DataW.Trod enc P W base f i t v d p):
  ∃(v0 v1 v2 v3 v4:Value)(y0 y1 y2 y3 y4:DataW H×List MemPlace)(n:Nat),v=.agg #[v0,v1,v2,v3,v4]/\d=.agg [y0.1,y1.1,y2.1,y3.1,y4.1]/\p=y0.2++(y1.2++(y2.2++(y3.2++y4.2)))/\
   DataW.trod enc P W base f i n f0.type [v0]=some y0/\DataW.trod enc P W base f i n f1.type [v1]=some y1/\DataW.trod enc P W base f i n f2.type [v2]=some y2/\DataW.trod enc P W base f i n f3.type [v3]=some y3/\DataW.trod enc P W base f i n f4.type [v4]=some y4:=by
 obtain⟨cs,rfl,l⟩:=okWide_struct hs hv;obtain⟨c0,c1,c2,c3,c4,rfl⟩:=Tk (l.trans hC);obtain⟨fuel,hf⟩:=h;obtain⟨xs,n,_,hx,hl,k,hf⟩:=DataW.trod_struct hs hf;obtain⟨o0,k0⟩:=hone_of j 0 f0 rfl;obtain⟨o1,k1⟩:=hone_of j 1 f1 rfl;obtain⟨o2,k2⟩:=hone_of j 2 f2 rfl;obtain⟨o3,k3⟩:=hone_of j 3 f3 rfl;obtain⟨o4,k4⟩:=hone_of j 4 f4 rfl
 obtain⟨y0,y1,y2,y3,y4,rfl⟩:∃y0 y1 y2 y3 y4,xs=[y0,y1,y2,y3,y4]:=by
  match xs,k with
  |[a,b,c,d,e],_=>exact⟨a,b,c,d,e,rfl⟩
 simp only[Prod.mk.injEq]at hx;exact⟨c0,c1,c2,c3,c4,y0,y1,y2,y3,y4,n,rfl,by simpa using hx.1,by simpa using hx.2,by simpa[Value.cells,o0,k0]using hf 0 f0 rfl,by simpa[Value.cells,o1,k1]using hf 1 f1 rfl,by simpa[Value.cells,o2,k2]using hf 2 f2 rfl,by simpa[Value.cells,o3,k3]using hf 3 f3 rfl,by simpa[Value.cells,o4,k4]using hf 4 f4 rfl⟩
theorem N5{base:Nat}{v:Value}{d:DataW H}{p:List MemPlace}(hv:Value.okWide Tryz.prog W .any base 25 v)(h:DataW.Trod enc Tryz.prog W 0 (fun _=>true) true 25 v d p)
  (hr:∀n∈d.weights Tryz.prog 25,n<=reachBytes):∃m,BB W v m:=by
 obtain⟨v0,v1,v2,v3,v4,y0,y1,y2,y3,y4,n,rfl,rfl,rfl,h0,h1,h2,h3,h4⟩:=JY Tryz.underlying25 (by kernel_rfl) P6 hv h
 have hw:∀n∈DataW.weightsEach Tryz.prog [3,3,3,23,23] [y0.1,y1.1,y2.1,y3.1,y4.1],n<=reachBytes:=fun n hn=>hr n (by simp only[DataW.weights,Tryz.underlying25];exact hn)
 obtain⟨z0,e0,_,w0⟩:=DataW.trod_int Tryz.underlying3 h0;obtain⟨z1,e1,_,w1⟩:=DataW.trod_int Tryz.underlying3 h1;obtain⟨z2,e2,_,w2⟩:=DataW.trod_int Tryz.underlying3 h2;simp at e0 e1 e2;subst e0 e1 e2;obtain⟨l3,r3⟩:=Hv Tryz.underlying23 h3 (fun n hn=>hw n (DataW.weights_mem_each (j:=3) rfl rfl n hn));obtain⟨l4,r4⟩:=Hv Tryz.underlying23 h4 (fun n hn=>hw n (DataW.weights_mem_each (j:=4) rfl rfl n hn));exact⟨⟨z0,z1,z2,l3,l4⟩,v3,v4,rfl,⟨wf_i64 w0,wf_i64 w1,wf_i64 w2⟩,r3,r4⟩
theorem Su{base:Nat}{v:Value}{d:DataW H}{p:List MemPlace}(hv:Value.okWide Tryz.prog W .any base 28 v)(h:DataW.Trod enc Tryz.prog W 0 (fun _=>true) true 28 v d p)
  (hr:∀n∈d.weights Tryz.prog 28,n<=reachBytes):∃m,Dy W v m:=by
 obtain⟨v0,v1,v2,v3,v4,y0,y1,y2,y3,y4,n,rfl,rfl,rfl,h0,h1,h2,h3,h4⟩:=JY Tryz.underlying28 (by kernel_rfl) P5 hv h
 have hw:∀n∈DataW.weightsEach Tryz.prog [3,3,3,26,23] [y0.1,y1.1,y2.1,y3.1,y4.1],n<=reachBytes:=fun n hn=>hr n (by simp only[DataW.weights,Tryz.underlying28];exact hn)
 obtain⟨z0,e0,_,w0⟩:=DataW.trod_int Tryz.underlying3 h0;obtain⟨z1,e1,_,w1⟩:=DataW.trod_int Tryz.underlying3 h1;obtain⟨z2,e2,_,w2⟩:=DataW.trod_int Tryz.underlying3 h2;simp at e0 e1 e2;subst e0 e1 e2;obtain⟨l3,r3⟩:=FR Tryz.underlying26 h3 (fun n hn=>hw n (DataW.weights_mem_each (j:=3) rfl rfl n hn));obtain⟨l4,r4⟩:=Hv Tryz.underlying23 h4 (fun n hn=>hw n (DataW.weights_mem_each (j:=4) rfl rfl n hn));exact⟨⟨z0,z1,z2,l3,l4⟩,v3,v4,rfl,⟨wf_i64 w0,wf_i64 w1,wf_i64 w2⟩,r3,r4⟩
end
end Go.Proofs.YtncjeamdkjcebaaGreatDoor
