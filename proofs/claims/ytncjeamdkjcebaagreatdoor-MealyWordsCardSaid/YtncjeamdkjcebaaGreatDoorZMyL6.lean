/- The law MealyWords: its walk. -/
import Derived.Test.YtncjeamdkjcebaaGreatDoorZMyLd
set_option linter.all false
set_option maxHeartbeats 16000000
set_option maxRecDepth 100000
namespace Go.Proofs.YtncjeamdkjcebaaGreatDoor
open Go.RowKit
def RW7(zm _zi:Nat)(m0 m1 m2 rr:Int)(ma mb ia ib:Option Addr)(mn mc mk md i1n i1c i2n i2c:Nat)(PL LR:List Int)(ix:Nat)(u:Value)(W:World):Prop:=
 match ix with
 |0=>u=.agg #[.int .i64 m0,.int .i64 m1,.int .i64 m2,.slice ma mn mc,.slice mb mk md]
 |1=>u=.pointer (some ⟨zm,2,none⟩)
 |2=>u=.int .i64 m2
 |3=>u=.agg #[.slice ia i1n i1c,.slice ib i2n i2c]
 |4=>Ai W u PL
 |5|6=>∃v,u=.tuple #[v,.int .i64 rr]/\Ai W v LR
 |7|9=>Ai W u LR
 |8|10=>u=.int .i64 rr
 | _=>True
theorem RW7.below{ix:Nat}{u:Value}{W W':World}{zm zi:Nat}{m0 m1 m2 rr:Int}{ma mb ia ib:Option Addr}{mn mc mk md i1n i1c i2n i2c:Nat}{PL LR:List Int}(h:RW7 zm zi m0 m1 m2 rr ma mb ia ib mn mc mk md i1n i1c i2n i2c PL LR ix u W)(hb:Below W.heap.size W W'):RW7 zm zi m0 m1 m2 rr ma mb ia ib mn mc mk md i1n i1c i2n i2c PL LR ix u W':=by
 unfold RW7 at*
 split at h<;>first|exact h|trivial|exact(by first|exact Ai.below h hb|exact(let⟨v,h1,h2⟩:=h;⟨v,h1,Ai.below h2 hb⟩))
def Pa(_zi:Nat)(ia ib sa:Option Addr)(i1n i1c i2n i2c sn sc bo oo no co k:Nat)(x y z:Int)(ix:Nat)(u:Value)(_:World):Prop:=
 match ix with
 |0|8=>u=.slice sa sn sc
 |1|9=>u=.int .i64 x
 |2|5=>u=.int .i64 y
 |3=>u=.agg #[.slice ia i1n i1c,.slice ib i2n i2c]
 |4|12=>u=.int .i64 (k:Int)
 |6|7|15|16=>u=.bool false
 |10|14=>u=.int .i64 z
 |11=>u=.slice (some ⟨bo,oo,none⟩) no co
 |13=>u=.pointer (some ⟨bo,oo+k,none⟩)
 | _=>True
theorem Pa.below{ix:Nat}{u:Value}{W W':World}{zi:Nat}{ia ib sa:Option Addr}{i1n i1c i2n i2c sn sc bo oo no co k:Nat}{x y z:Int}(h:Pa zi ia ib sa i1n i1c i2n i2c sn sc bo oo no co k x y z ix u W)(_:Below W.heap.size W W'):Pa zi ia ib sa i1n i1c i2n i2c sn sc bo oo no co k x y z ix u W':=by
 unfold Pa at*
 split at h<;>first|exact h|trivial
def KD(_zi _zo _zv:Nat)(_ia _ib _oa _ob _va _vb:Option Addr)(_i1n _i1c _i2n _i2c _o1n _o1c _o2n _o2c _v1n _v1c _v2n _v2c k:Nat)(_x _y:Int)(_cb:Bool)(ix:Nat)(u:Value)(_:World):Prop:=
 match ix with
 |0=>u=.int .i64 (k:Int)
 |1|2|7|8|16=>u=.bool false
 |3|4|5|6|9|10|11|12|13|14|15=>u=undef
 | _=>True
theorem KD.below{ix:Nat}{u:Value}{W W':World}{zi zo zv:Nat}{ia ib oa ob va vb:Option Addr}{i1n i1c i2n i2c o1n o1c o2n o2c v1n v1c v2n v2c k:Nat}{x y:Int}{cb:Bool}(h:KD zi zo zv ia ib oa ob va vb i1n i1c i2n i2c o1n o1c o2n o2c v1n v1c v2n v2c k x y cb ix u W)(_:Below W.heap.size W W'):KD zi zo zv ia ib oa ob va vb i1n i1c i2n i2c o1n o1c o2n o2c v1n v1c v2n v2c k x y cb ix u W':=by
 unfold KD at*
 split at h<;>first|exact h|trivial
def KE(_zi _zo zv:Nat)(_ia _ib _oa _ob _va vb:Option Addr)(_i1n _i1c _i2n _i2c _o1n _o1c _o2n _o2c _v1n _v1c v2n v2c k:Nat)(_x _y:Int)(_cb:Bool)(ix:Nat)(u:Value)(_:World):Prop:=
 match ix with
 |0=>u=.int .i64 (k:Int)
 |1|2=>u=.bool true
 |3=>u=.pointer (some ⟨zv,1,none⟩)
 |4=>u=.slice vb v2n v2c
 |5=>u=.int .i64 (v2n:Int)
 |6|7|8|16=>u=.bool false
 |9|10|11|12|13|14|15=>u=undef
 | _=>True
theorem KE.below{ix:Nat}{u:Value}{W W':World}{zi zo zv:Nat}{ia ib oa ob va vb:Option Addr}{i1n i1c i2n i2c o1n o1c o2n o2c v1n v1c v2n v2c k:Nat}{x y:Int}{cb:Bool}(h:KE zi zo zv ia ib oa ob va vb i1n i1c i2n i2c o1n o1c o2n o2c v1n v1c v2n v2c k x y cb ix u W)(_:Below W.heap.size W W'):KE zi zo zv ia ib oa ob va vb i1n i1c i2n i2c o1n o1c o2n o2c v1n v1c v2n v2c k x y cb ix u W':=by
 unfold KE at*
 split at h<;>first|exact h|trivial
def KF(_zi _zo zv:Nat)(ia ib oa ob _va vb:Option Addr)(i1n i1c i2n i2c o1n o1c o2n o2c _v1n _v1c v2n v2c k:Nat)(x y:Int)(cb:Bool)(ix:Nat)(u:Value)(_:World):Prop:=
 match ix with
 |0|10|13=>u=.int .i64 (k:Int)
 |1|2|6|7|8=>u=.bool true
 |3=>u=.pointer (some ⟨zv,1,none⟩)
 |4=>u=.slice vb v2n v2c
 |5=>u=.int .i64 (v2n:Int)
 |9=>u=.agg #[.slice ia i1n i1c,.slice ib i2n i2c]
 |11=>u=.int .i64 x
 |12=>u=.agg #[.slice oa o1n o1c,.slice ob o2n o2c]
 |14=>u=.int .i64 y
 |15|16=>u=.bool cb
 | _=>True
theorem KF.below{ix:Nat}{u:Value}{W W':World}{zi zo zv:Nat}{ia ib oa ob va vb:Option Addr}{i1n i1c i2n i2c o1n o1c o2n o2c v1n v1c v2n v2c k:Nat}{x y:Int}{cb:Bool}(h:KF zi zo zv ia ib oa ob va vb i1n i1c i2n i2c o1n o1c o2n o2c v1n v1c v2n v2c k x y cb ix u W)(_:Below W.heap.size W W'):KF zi zo zv ia ib oa ob va vb i1n i1c i2n i2c o1n o1c o2n o2c v1n v1c v2n v2c k x y cb ix u W':=by
 unfold KF at*
 split at h<;>first|exact h|trivial
def Pb(_zv _zw:Nat)(va vb wa wb:Option Addr)(v1n v1c v2n v2c w1n w1c w2n w2c k:Nat)(x:Int)(ix:Nat)(u:Value)(_:World):Prop:=
 match ix with
 |0=>u=.agg #[.slice va v1n v1c,.slice vb v2n v2c]
 |1|4=>u=.int .i64 (k:Int)
 |2|5=>u=.int .i64 x
 |3=>u=.agg #[.slice wa w1n w1c,.slice wb w2n w2c]
 |6=>u=.bool false
 | _=>True
theorem Pb.below{ix:Nat}{u:Value}{W W':World}{zv zw:Nat}{va vb wa wb:Option Addr}{v1n v1c v2n v2c w1n w1c w2n w2c k:Nat}{x:Int}(h:Pb zv zw va vb wa wb v1n v1c v2n v2c w1n w1c w2n w2c k x ix u W)(_:Below W.heap.size W W'):Pb zv zw va vb wa wb v1n v1c v2n v2c w1n w1c w2n w2c k x ix u W':=by
 unfold Pb at*
 split at h<;>first|exact h|trivial
theorem Mg(w:World)(vl vm vi vo:Value)(l:List Sig)(m:My)(ins oth:Ls)(hK:BN w)(hl:AH w vl l)(hm:BM w vm m)(hi:Co w vi ins)(ho:Co w vo oth):
  Calls Tryz.prog 6 #[vl,vm,vi,vo] w (Av (.bool true) w):=by
 have hmx:Tryz.prog.follows .mixedOrders=true:=by kernel_rfl
 obtain⟨sa,sc,rfl⟩:=hl.shape;generalize hsn:l.length=sn at*;clear hsn;obtain⟨ia,i1n,i1c,ib,i2n,i2c,rfl⟩:=hi.shp6;obtain⟨oa,o1n,o1c,ob,o2n,o2c,rfl⟩:=ho.shp6;obtain⟨m0,m1,m2,ma,mn,mc,mb,mk,md,rfl⟩:=hm.shp9;have hB:BW w w:=Ad
 go_enter Tryz.func6,Tryz.ntmps6
 go_upto_region 1 with(fail)
 have hb:Below w.heap.size w (((w.alloc (.cells #[.int .i64 m0,.int .i64 m1,.int .i64 m2,.slice ma mn mc,.slice mb mk md] 25)).alloc (.cells #[.slice ia i1n i1c,.slice ib i2n i2c] 30)).alloc (.cells #[.slice oa o1n o1c,.slice ob o2n o2c] 30)):=(by repeat(first|exact Ad|assumption|apply AD|apply AE));have xm:(((w.alloc (.cells #[.int .i64 m0,.int .i64 m1,.int .i64 m2,.slice ma mn mc,.slice mb mk md] 25)).alloc (.cells #[.slice ia i1n i1c,.slice ib i2n i2c] 30)).alloc (.cells #[.slice oa o1n o1c,.slice ob o2n o2c] 30)).heap[w.heap.size]? =some (.cells #[.int .i64 m0,.int .i64 m1,.int .i64 m2,.slice ma mn mc,.slice mb mk md] 25 (0,0)):=(by(repeat(rw[Al];first|rw[if_pos (by first|simp;done|simp;omega)]|rw[if_neg (by first|simp;done|simp;omega)]));(try rfl));have xi:(((w.alloc (.cells #[.int .i64 m0,.int .i64 m1,.int .i64 m2,.slice ma mn mc,.slice mb mk md] 25)).alloc (.cells #[.slice ia i1n i1c,.slice ib i2n i2c] 30)).alloc (.cells #[.slice oa o1n o1c,.slice ob o2n o2c] 30)).heap[w.heap.size+1]? =some (.cells #[.slice ia i1n i1c,.slice ib i2n i2c] 30 (0,0)):=(by(repeat(rw[Al];first|rw[if_pos (by first|simp;done|simp;omega)]|rw[if_neg (by first|simp;done|simp;omega)]));(try rfl));have xo:(((w.alloc (.cells #[.int .i64 m0,.int .i64 m1,.int .i64 m2,.slice ma mn mc,.slice mb mk md] 25)).alloc (.cells #[.slice ia i1n i1c,.slice ib i2n i2c] 30)).alloc (.cells #[.slice oa o1n o1c,.slice ob o2n o2c] 30)).heap[w.heap.size+1+1]? =some (.cells #[.slice oa o1n o1c,.slice ob o2n o2c] 30 (0,0)):=(by(repeat(rw[Al];first|rw[if_pos (by first|simp;done|simp;omega)]|rw[if_neg (by first|simp;done|simp;omega)]));(try rfl));generalize(((w.alloc (.cells #[.int .i64 m0,.int .i64 m1,.int .i64 m2,.slice ma mn mc,.slice mb mk md] 25)).alloc (.cells #[.slice ia i1n i1c,.slice ib i2n i2c] 30)).alloc (.cells #[.slice oa o1n o1c,.slice ob o2n o2c] 30))=w1 at*;replace hK:=hK.below hb;replace hl:=hl.below hb;replace hm:=hm.below hb;replace hi:=hi.below hb;replace ho:=ho.below hb;replace hB:=hB.step hb;clear hb;generalize w.heap.size+1+1=qxo at*;generalize w.heap.size+1=qxi at*;generalize w.heap.size=qxm at*
 go_wp2_with fail
 refine(Mx _ hK).mono ?_;rintro e w2 ⟨rfl,hb⟩;replace xm:=Ae hb xm;replace xi:=Ae hb xi;replace xo:=Ae hb xo;replace hK:=hK.below hb;replace hl:=hl.below hb;replace hm:=hm.below hb;replace hi:=hi.below hb;replace ho:=ho.below hb;replace hB:=hB.step hb;clear hb
 go_wp2_with fail
 refine(Ib _ _ l hl).mono ?_;rintro e w3 ⟨rfl,hb⟩;replace xm:=Ae hb xm;replace xi:=Ae hb xi;replace xo:=Ae hb xo;replace hK:=hK.below hb;replace hl:=hl.below hb;replace hm:=hm.below hb;replace hi:=hi.below hb;replace ho:=ho.below hb;replace hB:=hB.step hb;clear hb
 cases hg:D7 l with
 |false=>
  clear hg
  go_wp2_with fail
  go_ret;exact⟨rfl,hB⟩
 |true=>
 clear hg;have k0:=Aa 0 xm;have k1:=Aa 1 xm;have k2:=Aa 2 xm;have k3:=Aa 3 xm;have k4:=Aa 4 xm
 go_wp2_with fail
 clear k0 k1 k2 k3 k4;refine(Na _ _ m 12 hm).mono ?_;rintro e w4 ⟨rfl,hb⟩;replace xm:=Ae hb xm;replace xi:=Ae hb xi;replace xo:=Ae hb xo;replace hK:=hK.below hb;replace hl:=hl.below hb;replace hm:=hm.below hb;replace hi:=hi.below hb;replace ho:=ho.below hb;replace hB:=hB.step hb;clear hb
 cases hf1:J8 m 12 with
 |false=>
  clear hf1
  go_wp2_with fail
  go_ret;exact⟨rfl,hB⟩
 |true=>
 clear hf1;have k0:=Aa 0 xi;have k1:=Aa 1 xi
 go_wp2_with fail
 clear k0 k1;refine(JY _ _ ins hi).mono ?_;rintro e w5 ⟨rfl,hb⟩;replace xm:=Ae hb xm;replace xi:=Ae hb xi;replace xo:=Ae hb xo;replace hK:=hK.below hb;replace hl:=hl.below hb;replace hm:=hm.below hb;replace hi:=hi.below hb;replace ho:=ho.below hb;replace hB:=hB.step hb;clear hb
 cases hg:IM ins with
 |false=>
  clear hg
  go_wp2_with fail
  go_ret;exact⟨rfl,hB⟩
 |true=>
 clear hg;have k0:=Aa 0 xo;have k1:=Aa 1 xo
 go_wp2_with fail
 clear k0 k1;refine(JY _ _ oth ho).mono ?_;rintro e w6 ⟨rfl,hb⟩;replace xm:=Ae hb xm;replace xi:=Ae hb xi;replace xo:=Ae hb xo;replace hK:=hK.below hb;replace hl:=hl.below hb;replace hm:=hm.below hb;replace hi:=hi.below hb;replace ho:=ho.below hb;replace hB:=hB.step hb;clear hb
 cases hg:IM oth with
 |false=>
  clear hg
  go_wp2_with fail
  go_ret;exact⟨rfl,hB⟩
 |true=>
 clear hg;have k0:=Aa 0 xm;have k1:=Aa 1 xm;have k2:=Aa 2 xm;have k3:=Aa 3 xm;have k4:=Aa 4 xm
 go_wp2_with fail
 clear k0 k1 k2 k3 k4;refine(EV _ _ _ l m hl hm).mono ?_;rintro e w7 ⟨rfl,hb⟩;replace xm:=Ae hb xm;replace xi:=Ae hb xi;replace xo:=Ae hb xo;replace hK:=hK.below hb;replace hl:=hl.below hb;replace hm:=hm.below hb;replace hi:=hi.below hb;replace ho:=ho.below hb;replace hB:=hB.step hb;clear hb
 cases hf1:Bm l m with
 |false=>
  clear hf1
  go_wp2_with fail
  go_ret;exact⟨rfl,hB⟩
 |true=>
 have k0:=Aa 0 xm;have k1:=Aa 1 xm;have k2:=Aa 2 xm;have k3:=Aa 3 xm;have k4:=Aa 4 xm;have j0:=Aa 0 xi;have j1:=Aa 1 xi
 go_wp2_with fail
 clear k0 k1 k2 k3 k4;clear j0 j1;obtain⟨e0,-,e2,-⟩:=hm.vals;refine((show Calls _ _ _ _ (Av (.bool (Bi m.ins ins)) _)from by rw[e0];exact Jc _ _ ins m.ins hi)).mono ?_;rintro e w8 ⟨rfl,hb⟩;replace xm:=Ae hb xm;replace xi:=Ae hb xi;replace xo:=Ae hb xo;replace hK:=hK.below hb;replace hl:=hl.below hb;replace hm:=hm.below hb;replace hi:=hi.below hb;replace ho:=ho.below hb;replace hB:=hB.step hb;clear hb
 cases hf2:Bi m.ins ins with
 |false=>
  clear hf2
  go_wp2_with fail
  go_ret;exact⟨rfl,hB⟩
 |true=>
 have HF:=Ab hf1;have HG:=Ab hf2;have HE2:=Ab e2;clear hf1 hf2 e0 e2
 go_upto_region 4 with(fail)
 have k0:=Aa 0 xm;have k1:=Aa 1 xm;have k2:=Aa 2 xm;have k3:=Aa 3 xm;have k4:=Aa 4 xm;have j0:=Aa 0 xi;have j1:=Aa 1 xi
 go_wp2_with fail
 clear k0 k1 k2 k3 k4;clear j0 j1;refine(Fi _ _ _ _ l m ins hK hl hm hi).mono ?_;rintro e w9 ⟨v,rfl,hw,hb⟩;replace xm:=Ae hb xm;replace xi:=Ae hb xi;replace xo:=Ae hb xo;replace hK:=hK.below hb;replace hl:=hl.below hb;replace hm:=hm.below hb;replace hi:=hi.below hb;replace ho:=ho.below hb;replace hB:=hB.step hb;clear hb;obtain⟨wa,w1c,wb,w2c,rfl⟩:=hw.shp
 have HAW:Hid (0<(BL l m ins).loop.length->∀i:Nat,atI (BL l m ins) i=ltW l m ins i):=fun h i=>Fg HF.out HG.out h i
 generalize BL l m ins=LW at*;generalize LW.stem.length=w1n at*;generalize LW.loop.length=w2n at*
 go_upto_region 5 with(fail)
 have hb:Below w9.heap.size w9 (w9.alloc (.cells #[.slice wa w1n w1c,.slice wb w2n w2c] 30)):=(by repeat(first|exact Ad|assumption|apply AD|apply AE));have xw:(w9.alloc (.cells #[.slice wa w1n w1c,.slice wb w2n w2c] 30)).heap[w9.heap.size]? =some (.cells #[.slice wa w1n w1c,.slice wb w2n w2c] 30 (0,0)):=(by(repeat(rw[Al];first|rw[if_pos (by first|simp;done|simp;omega)]|rw[if_neg (by first|simp;done|simp;omega)]));(try rfl));generalize(w9.alloc (.cells #[.slice wa w1n w1c,.slice wb w2n w2c] 30))=w10 at*;replace xm:=Ae hb xm;replace xi:=Ae hb xi;replace xo:=Ae hb xo;replace hK:=hK.below hb;replace hl:=hl.below hb;replace hm:=hm.below hb;replace hi:=hi.below hb;replace ho:=ho.below hb;replace hw:=hw.below hb;replace hB:=hB.step hb;clear hb;generalize w9.heap.size=qxw at*;have k0:=Aa 0 xw;have k1:=Aa 1 xw
 by_cases h0:w2n=0
 ·subst h0
  go_wp2_with fail
  go_ret;exact⟨rfl,hB⟩
 have h0i:((w2n:Int)==0)=false:=beq_false_of_ne (by omega)
 go_upto_region 7 with(fail)
 clear k0 k1;have HLW:Hid (∀i:Nat,atI LW i=ltW l m ins i):=HAW.out (by omega);obtain⟨rr,hrr⟩:=MY HF.out HG.out (n:=60) (by omega)
 have HBD:Hid (∀W,Below w10.drew.heap.size w10.drew W->Below w10.heap.size w10 W):=fun W h=>(Below.drew (B:=w10.heap.size) Ad).trans h
 have HM:Hid (∀W,Below w10.drew.heap.size w10.drew W->W.cell? ⟨qxm,0,none⟩=some (.int .i64 m0)/\W.cell? ⟨qxm,1,none⟩=some (.int .i64 m1)/\W.cell? ⟨qxm,2,none⟩=some (.int .i64 m2)/\W.cell? ⟨qxm,3,none⟩=some (.slice ma mn mc)/\W.cell? ⟨qxm,4,none⟩=some (.slice mb mk md)):=fun W h=>by
  have hh:=HBD.out W h;have k:=Ae hh xm;exact⟨Aa 0 k,Aa 1 k,Aa 2 k,Aa 3 k,Aa 4 k⟩
 have HI:Hid (∀W,Below w10.drew.heap.size w10.drew W->W.cell? ⟨qxi,0,none⟩=some (.slice ia i1n i1c)/\W.cell? ⟨qxi,1,none⟩=some (.slice ib i2n i2c)):=fun W h=>by
  have hh:=HBD.out W h;have k:=Ae hh xi;exact⟨Aa 0 k,Aa 1 k⟩
 obtain⟨PL,hPL⟩:∃PL,PL=Bt ins (60:Nat):=⟨_,rfl⟩;obtain⟨LR,hLR⟩:∃LR,LR=(List.range 60).map (fun i=>Bg m (qW m ins i) (atL ins i).toNat):=⟨_,rfl⟩;have HLR:=Ab hLR
 have HPX:Hid (∀W,Below w10.drew.heap.size w10.drew W->Calls Tryz.prog 34 #[.agg #[.slice ia i1n i1c,.slice ib i2n i2c],.int .i64 60] W (O5 PL W)):=fun W h=>by
  rw[hPL];exact O7 W _ ins 60 (hi.below (HBD.out W h))
 have HRN:Hid (∀W u,Below w10.drew.heap.size w10.drew W->Ai W u PL->Calls Tryz.prog 12 #[.agg #[.int .i64 m0,.int .i64 m1,.int .i64 m2,.slice ma mn mc,.slice mb mk md],.int .i64 m2,u] W (Ky LR rr W)):=fun W u h hu=>by
  have h1:=R8 W _ u m m.start PL (hm.below (HBD.out W h)) hu (by rw[hPL];simp[Bt,CF];split<;>simp);rw[hPL,hrr,<-hLR,<-HE2.out]at h1;exact h1
 have HKK:=Ab hK;have HLL:=Ab hl;have HMM:=Ab hm;have HII:=Ab hi;have HOO:=Ab ho;have HWW:=Ab hw;have HXM:=Ab xm;have HXI:=Ab xi;have HXO:=Ab xo;have HXW:=Ab xw;have HBB:=Ab hB;clear hK hl hm hi ho hw xm xi xo xw hB hPL hLR hrr h0i h0 HAW;refine AB hmx (RW7 qxm qxi m0 m1 m2 rr ma mb ia ib mn mc mk md i1n i1c i2n i2c PL LR) (fun vs=>{tmps:=(_::_::_::_::_::_::_::_::_::_::_::vs 9::vs 10::_::_::_::_::_::_::_::_::_::_::_::_::_::_::_::_::_::_::_::_::_::_::_::_::_::_::_::_::_::_::_::_::_::_::_::_::_::_::_::_::_::_::_::_::_::_::vs 6::vs 0::vs 1::vs 2::vs 3::vs 4::vs 5::vs 7::vs 8::_::_::_::_::_::_::_::_::_::_::_::_::_::_::_::_::_::_::_::_::_::_::_::_::_::_::_::_::_::_::_::_::_::_::_::_::_::_::_::_::_::_::_::_::_::_::_::_::_::_::_::_::_::_::_::_::_::_::[]).toArray,defers:=_}) (fun n=>[].getD n undef) rfl (by kernel_rfl) (fun _ _ _ _ h hb=>h.below hb) ?step ?fin
 case step=>as_aux_lemma=>
  intro ix o ho
  match ix,ho with
  |0,ho|2,ho=>
   obtain rfl:=osI ho;intro vs W K hB hD hK;have HK:=Ab hK
   try have e1:vs 1=.pointer (some ⟨qxm,2,none⟩):=Ac hD 1 rfl
   obtain⟨d0,d1,d2,d3,d4⟩:=HM.out W hB;clear hK hD ho;dsimp only;go_simp;have h:=HK.out _ _ Ad rfl;simp only[upd,Nat.reduceEqDiff,reduceIte, *]at h;exact h
  |1,ho|10,ho=>
   obtain rfl:=osI ho;intro vs W K hB hD hK;have HK:=Ab hK
   try have e8:vs 8=.int .i64 rr:=Ac hD 8 rfl
   clear hK hD ho;dsimp only;go_simp;have h:=HK.out _ _ Ad rfl;simp only[upd,Nat.reduceEqDiff,reduceIte, *]at h;exact h
  |3,ho=>
   obtain rfl:=osI ho;intro vs W K hB hD hK;have HK:=Ab hK;obtain⟨d0,d1⟩:=HI.out W hB;clear hK hD ho;dsimp only;go_simp;have h:=HK.out _ _ Ad rfl;simp only[upd,Nat.reduceEqDiff,reduceIte]at h;exact h
  |4,ho=>
   obtain rfl:=osI ho;intro vs W K hB hD hK;have HK:=Ab hK;have e3:vs 3=.agg #[.slice ia i1n i1c,.slice ib i2n i2c]:=Ac hD 3 rfl;clear hK hD ho;dsimp only;go_simp;refine(HPX.out W hB).mono ?_;rintro e W' ⟨u',rfl,hu,hb⟩;have h:=HK.out _ _ hb hu;simp only[upd,Nat.reduceEqDiff,reduceIte,e3]at h;exact h
  |5,ho=>
   obtain rfl:=osI ho;intro vs W K hB hD hK;have HK:=Ab hK;have e0:vs 0=.agg #[.int .i64 m0,.int .i64 m1,.int .i64 m2,.slice ma mn mc,.slice mb mk md]:=Ac hD 0 rfl;have e2:vs 2=.int .i64 m2:=Ac hD 2 rfl;have i4:=Ac (R:=RW7 qxm qxi m0 m1 m2 rr ma mb ia ib mn mc mk md i1n i1c i2n i2c PL LR) hD 4 (by rfl);clear hK hD ho;dsimp only;go_simp;refine(HRN.out W _ hB i4).mono ?_;rintro e W' ⟨v',rfl,hv,hb⟩;have h:=HK.out _ _ hb ⟨_,rfl,hv⟩;simp only[upd,Nat.reduceEqDiff,reduceIte,e0,e2]at h;exact h
  |6,ho=>
   obtain rfl:=osI ho;intro vs W K hB hD hK;have HK:=Ab hK;have i5:=Ac (R:=RW7 qxm qxi m0 m1 m2 rr ma mb ia ib mn mc mk md i1n i1c i2n i2c PL LR) hD 5 (by rfl);clear hK hD ho;dsimp only;go_simp;have h:=HK.out _ _ Ad i5;simp only[upd,Nat.reduceEqDiff,reduceIte]at h;exact h
  |7,ho=>
   obtain rfl:=osI ho;intro vs W K hB hD hK;have HK:=Ab hK;have i6:=Ac (R:=RW7 qxm qxi m0 m1 m2 rr ma mb ia ib mn mc mk md i1n i1c i2n i2c PL LR) hD 6 (by rfl);obtain⟨vx,hvx,hix⟩:=i6;clear hK hD ho;dsimp only;go_simp;have h:=HK.out _ _ Ad hix;simp only[upd,Nat.reduceEqDiff,reduceIte,hvx]at h;exact h
  |8,ho=>
   obtain rfl:=osI ho;intro vs W K hB hD hK;have HK:=Ab hK;have i6:=Ac (R:=RW7 qxm qxi m0 m1 m2 rr ma mb ia ib mn mc mk md i1n i1c i2n i2c PL LR) hD 6 (by rfl);obtain⟨vx,hvx,hix⟩:=i6;clear hK hD ho;dsimp only;go_simp;have h:=HK.out _ _ Ad rfl;simp only[upd,Nat.reduceEqDiff,reduceIte,hvx]at h;exact h
  |9,ho=>
   obtain rfl:=osI ho;intro vs W K hB hD hK;have HK:=Ab hK;have i7:=Ac (R:=RW7 qxm qxi m0 m1 m2 rr ma mb ia ib mn mc mk md i1n i1c i2n i2c PL LR) hD 7 (by rfl);clear hK hD ho;dsimp only;go_simp;have h:=HK.out _ _ Ad i7;simp only[upd,Nat.reduceEqDiff,reduceIte]at h;exact h
  |q+11,ho=>exact absurd ho (by simp)
 case fin=>as_aux_lemma=>
  intro vs wz hB hall;have hou:Ai wz (vs 9) LR:=hall 9 (by decide);have el:vs 10=.int .i64 rr:=hall 10 (by decide);rw[el];clear el;generalize vs 9=vou at*;have hbz:=HBD.out _ hB;have hK:=HKK.out.below hbz;have hl:=HLL.out.below hbz;have hm:=HMM.out.below hbz;have hi:=HII.out.below hbz;have ho:=HOO.out.below hbz;have hw:=HWW.out.below hbz;have xm:=(hbz.block _ (Array.getElem?_eq_some_iff.1 HXM.out).1).trans HXM.out;have xi:=(hbz.block _ (Array.getElem?_eq_some_iff.1 HXI.out).1).trans HXI.out;have xo:=(hbz.block _ (Array.getElem?_eq_some_iff.1 HXO.out).1).trans HXO.out;have xw:=(hbz.block _ (Array.getElem?_eq_some_iff.1 HXW.out).1).trans HXW.out;have hB:=HBB.out.step hbz;clear hall hbz HM HI HPX HRN HBD HKK HLL HMM HII HOO HWW HXM HXI HXO HXW HBB;generalize vs 0=y0q at*;generalize vs 1=y1q at*;generalize vs 2=y2q at*;generalize vs 3=y3q at*;generalize vs 4=y4q at*;generalize vs 5=y5q at*;generalize vs 6=y6q at*;generalize vs 7=y7q at*;generalize vs 8=y8q at*;clear vs
  obtain⟨ao,co,rfl⟩:∃a c,vou=.slice a 60 c:=by
   have h:=hou.shape;rw[HLR.out]at h;simpa using h
  go_upto_region 10 with(fail)
  go_wp2_with fail
  have HKK:=Ab hK;have HLL:=Ab hl;have HMM:=Ab hm;have HII:=Ab hi;have HOO:=Ab ho;have HWW:=Ab hw;have HUU:=Ab hou;have HXM:=Ab xm;have HXI:=Ab xi;have HXO:=Ab xo;have HXW:=Ab xw;have HBB:=Ab hB
  have HFB:Hid (∀i:Nat,atI ins i=atL ins i):=fun i=>by
   have h:=HG.out;unfold Bi at h;rw[Bool.and_eq_true,Bool.and_eq_true]at h;exact(Hv (by omega) h.1.1).trans (by rw[Int.toNat_natCast])
  clear hK hl hm hi ho hw hou xm xi xo xw hB
  go_loopg [13] 60 (fun gh q13 wr=>∃k:Nat,gh=60-k/\q13=.int .i64 (k:Int)/\k<=60/\Hid (Below wz.heap.size wz wr))
  case atStart=>exact⟨0,rfl,rfl,by omega,Ad⟩
  case round=>as_aux_lemma=>
   obtain⟨k,hgk,rfl,hk,HBx⟩:=hrel;have HGK:=Ab hgk;clear hgk
   by_cases hlt:k<60
   ·have i1:(k:Int)<60:=by omega
    have hk0:(0:Int)<=(k:Int):=by omega
    have IK:I64 (k:Int):=by unfold I64;omega
    have hat:=HLW.out k;obtain⟨⟨hx0,hx1⟩,hin,hot⟩:=GJ HF.out HG.out k;have hfb:=HFB.out k
    have hol:LR.getD k 0=Bg m (qW m ins k) (atL ins k).toNat:=by rw[HLR.out];simp[List.getD,hlt]
    generalize ltW l m ins k=x at*;generalize Bg m (qW m ins k) (atL ins k).toNat=z at*;generalize atL ins k=y at*
    have IX:I64 x:=by unfold I64;omega
    clear hx0 hx1;have hK:=HKK.out.below HBx.out;have hl:=HLL.out.below HBx.out;have hi:=HII.out.below HBx.out;have hw:=HWW.out.below HBx.out;have hou:=HUU.out.below HBx.out;have xi:=(HBx.out.block _ (Array.getElem?_eq_some_iff.1 HXI.out).1).trans HXI.out;have xw:=(HBx.out.block _ (Array.getElem?_eq_some_iff.1 HXW.out).1).trans HXW.out;have hB:BW wz wr:=HBx.out;have k0:=Aa 0 xw;have k1:=Aa 1 xw
    go_wp2_with fail
    clear k0 k1;refine((show Calls _ _ _ _ (Av (.int .i64 x) _)from by have h:=IS _ _ LW (k:Int) hw IK;rw[hat]at h;exact h)).mono ?_;rintro e w51 ⟨rfl,hb⟩;replace xi:=Ae hb xi;replace xw:=Ae hb xw;replace hK:=hK.below hb;replace hl:=hl.below hb;replace hi:=hi.below hb;replace hw:=hw.below hb;replace hou:=hou.below hb;replace hB:=hB.step hb;clear hb
    go_upto_region 14 with(fail)
    have HBD:Hid (∀W,Below w51.drew.heap.size w51.drew W->Below w51.heap.size w51 W):=fun W h=>(Below.drew (B:=w51.heap.size) Ad).trans h
    have HI:Hid (∀W,Below w51.drew.heap.size w51.drew W->W.cell? ⟨qxi,0,none⟩=some (.slice ia i1n i1c)/\W.cell? ⟨qxi,1,none⟩=some (.slice ib i2n i2c)):=fun W h=>by
     have hh:=HBD.out W h;have k:=Ae hh xi;exact⟨Aa 0 k,Aa 1 k⟩
    obtain⟨bo,oo,rfl,u1,y1⟩:=hou.el (show k<LR.length from by rw[HLR.out];simpa using hlt);rw[hol]at y1
    have HOU:Hid (∀W,Below w51.drew.heap.size w51.drew W->W.cell? ⟨bo,oo+k,none⟩=some (.int .i64 z)):=fun W h=>Ah (HBD.out W h) y1
    have HIN:Hid (∀W,Below w51.drew.heap.size w51.drew W->Calls Tryz.prog 32 #[.slice sa sn sc,.int .i64 x] W (Av (.int .i64 y) W)):=fun W h=>by
     have h1:=Sa W _ l x IX (hK.below (HBD.out W h)) (hl.below (HBD.out W h));rw[hin]at h1;exact h1
    have HOT:Hid (∀W,Below w51.drew.heap.size w51.drew W->Calls Tryz.prog 33 #[.slice sa sn sc,.int .i64 x] W (Av (.int .i64 z) W)):=fun W h=>by
     have h1:=Me W _ l x IX (hK.below (HBD.out W h)) (hl.below (HBD.out W h));rw[hot]at h1;exact h1
    have HAT:Hid (∀W,Below w51.drew.heap.size w51.drew W->Calls Tryz.prog 30 #[.agg #[.slice ia i1n i1c,.slice ib i2n i2c],.int .i64 (k:Int)] W (Av (.int .i64 y) W)):=fun W h=>by
     have h1:=IS W _ ins (k:Int) (hi.below (HBD.out W h)) IK;rw[hfb]at h1;exact h1
    have HB5:=Ab hB;clear hK hl hi hw hou xi xw hB hin hot hat hfb hol y1 u1 IX IK;refine AB hmx (Pa qxi ia ib sa i1n i1c i2n i2c sn sc bo oo 60 co k x y z) (fun vs=>{tmps:=(_::_::_::_::_::_::_::_::_::_::_::_::_::_::_::_::_::_::_::_::_::_::_::_::_::_::_::_::_::_::_::_::_::_::_::_::_::_::_::_::_::_::_::_::_::_::_::_::_::_::_::_::_::_::_::_::_::_::_::_::_::_::_::_::_::_::_::_::_::_::_::_::_::_::_::_::_::_::vs 0::vs 1::vs 2::vs 3::vs 4::vs 5::vs 6::vs 7::vs 8::vs 9::vs 10::vs 11::vs 12::vs 13::vs 14::vs 15::vs 16::_::_::_::_::_::_::_::_::_::_::_::_::_::_::_::_::_::_::_::_::_::_::_::_::_::_::_::_::_::_::_::[]).toArray,defers:=_}) (fun n=>[u78,u79,u80,u81,u82,u83,u84,u85,u86,u87,u88,u89,u90,u91,u92,u93,u94].getD n undef) rfl (by kernel_rfl) (fun _ _ _ _ h hb=>h.below hb) ?step ?fin
    case step=>as_aux_lemma=>
     intro ix o ho
     match ix,ho with
     |0,ho|1,ho|4,ho|6,ho|7,ho|8,ho|9,ho|11,ho|12,ho|13,ho|15,ho|16,ho=>
      obtain rfl:=osI ho;intro vs W K hB hD hK;have HK:=Ab hK
      try have e2:vs 2=.int .i64 y:=Ac hD 2 rfl
      try have e5:vs 5=.int .i64 y:=Ac hD 5 rfl
      try have e6:vs 6=.bool false:=Ac hD 6 rfl
      try have e7:vs 7=.bool false:=Ac hD 7 rfl
      try have e10:vs 10=.int .i64 z:=Ac hD 10 rfl
      try have e11:vs 11=.slice (some ⟨bo,oo,none⟩) 60 co:=Ac hD 11 rfl
      try have e12:vs 12=.int .i64 (k:Int):=Ac hD 12 rfl
      try have e14:vs 14=.int .i64 z:=Ac hD 14 rfl
      try have e15:vs 15=.bool false:=Ac hD 15 rfl
      clear hK hD ho;dsimp only;go_simp;have h:=HK.out _ _ Ad rfl;simp only[upd,Nat.reduceEqDiff,reduceIte, *]at h;exact h
     |2,ho=>
      obtain rfl:=osI ho;intro vs W K hB hD hK;have HK:=Ab hK;have e0:vs 0=.slice sa sn sc:=Ac hD 0 rfl;have e1:vs 1=.int .i64 x:=Ac hD 1 rfl;clear hK hD ho;dsimp only;go_simp;refine(HIN.out W hB).mono ?_;rintro e W' ⟨rfl,hb⟩;have h:=HK.out _ _ hb rfl;simp only[upd,Nat.reduceEqDiff,reduceIte,e0,e1]at h;exact h
     |3,ho=>
      obtain rfl:=osI ho;intro vs W K hB hD hK;have HK:=Ab hK;obtain⟨d0,d1⟩:=HI.out W hB;clear hK hD ho;dsimp only;go_simp;have h:=HK.out _ _ Ad rfl;simp only[upd,Nat.reduceEqDiff,reduceIte]at h;exact h
     |5,ho=>
      obtain rfl:=osI ho;intro vs W K hB hD hK;have HK:=Ab hK;have e3:vs 3=.agg #[.slice ia i1n i1c,.slice ib i2n i2c]:=Ac hD 3 rfl;have e4:vs 4=.int .i64 (k:Int):=Ac hD 4 rfl;clear hK hD ho;dsimp only;go_simp;refine(HAT.out W hB).mono ?_;rintro e W' ⟨rfl,hb⟩;have h:=HK.out _ _ hb rfl;simp only[upd,Nat.reduceEqDiff,reduceIte,e3,e4]at h;exact h
     |10,ho=>
      obtain rfl:=osI ho;intro vs W K hB hD hK;have HK:=Ab hK;have e7:vs 7=.bool false:=Ac hD 7 rfl;have e8:vs 8=.slice sa sn sc:=Ac hD 8 rfl;have e9:vs 9=.int .i64 x:=Ac hD 9 rfl;clear hK hD ho;dsimp only;go_simp;refine(HOT.out W hB).mono ?_;rintro e W' ⟨rfl,hb⟩;have h:=HK.out _ _ hb rfl;simp only[upd,Nat.reduceEqDiff,reduceIte,e7,e8,e9]at h;exact h
     |14,ho=>
      obtain rfl:=osI ho;intro vs W K hB hD hK;have HK:=Ab hK;have e7:vs 7=.bool false:=Ac hD 7 rfl;have e13:vs 13=.pointer (some ⟨bo,oo+k,none⟩):=Ac hD 13 rfl;have q:=HOU.out W hB;clear hK hD ho;dsimp only;go_simp;have h:=HK.out _ _ Ad rfl;simp only[upd,Nat.reduceEqDiff,reduceIte,e7,e13]at h;exact h
     |q+17,ho=>exact absurd ho (by simp)
    case fin=>as_aux_lemma=>
     intro vs wy hB hall;have el:vs 16=.bool false:=hall 16 (by decide);have HB6:Hid (Below wz.heap.size wz wy):=HB5.out.step (HBD.out _ hB);clear hall hB HI HOU HIN HOT HAT HBD HB5;rw[el];clear el;generalize vs 0=y0q,vs 1=y1q,vs 2=y2q,vs 3=y3q,vs 4=y4q,vs 5=y5q,vs 6=y6q,vs 7=y7q,vs 8=y8q,vs 9=y9q,vs 10=y10q,vs 11=y11q,vs 12=y12q,vs 13=y13q,vs 14=y14q,vs 15=y15q;clear vs;go_wp2
     go_roundg (60-(k+1))
     case measure=>have:=HGK.out;omega
     case rel=>exact⟨k+1,rfl,by go_num,by omega,HB6⟩
   ·have i1:¬(k:Int)<60:=by omega
    have hK:=HKK.out.below HBx.out;have hl:=HLL.out.below HBx.out;have hm:=HMM.out.below HBx.out;have hi:=HII.out.below HBx.out;have ho:=HOO.out.below HBx.out;have hw:=HWW.out.below HBx.out;have xm:=(HBx.out.block _ (Array.getElem?_eq_some_iff.1 HXM.out).1).trans HXM.out;have xi:=(HBx.out.block _ (Array.getElem?_eq_some_iff.1 HXI.out).1).trans HXI.out;have xo:=(HBx.out.block _ (Array.getElem?_eq_some_iff.1 HXO.out).1).trans HXO.out;have xw:=(HBx.out.block _ (Array.getElem?_eq_some_iff.1 HXW.out).1).trans HXW.out;have hB:BW w wr:=HBB.out.step HBx.out;clear HKK HLL HMM HII HOO HWW HUU HXM HXI HXO HXW HBB HBx HGK hlt hk
    go_upto_region 16 with(fail)
    clear i1;have k0:=Aa 0 xm;have k1:=Aa 1 xm;have k2:=Aa 2 xm;have k3:=Aa 3 xm;have k4:=Aa 4 xm;have j0:=Aa 0 xo;have j1:=Aa 1 xo
    go_wp2_with fail
    clear k0 k1 k2 k3 k4;clear j0 j1;refine(Fi _ _ _ _ l m oth hK hl hm ho).mono ?_;rintro e w71 ⟨v,rfl,hv,hb⟩;replace xm:=Ae hb xm;replace xi:=Ae hb xi;replace xo:=Ae hb xo;replace xw:=Ae hb xw;replace hK:=hK.below hb;replace hl:=hl.below hb;replace hm:=hm.below hb;replace hi:=hi.below hb;replace ho:=ho.below hb;replace hw:=hw.below hb;replace hB:=hB.step hb;clear hb;obtain⟨va,v1c,vb,v2c,rfl⟩:=hv.shp
    have HVL:Hid (0<(BL l m oth).loop.length->(∀i:Nat,atI oth i=atL oth i)/\∀i:Nat,atI (BL l m oth) i=ltW l m oth i):=fun h=>by
     obtain⟨h1,h2⟩:=OS h;refine⟨fun i=> ?_,fun i=>Fg h1 h2 h i⟩;unfold Bi at h2;rw[Bool.and_eq_true,Bool.and_eq_true]at h2;exact(Hv (by omega) h2.1.1).trans (by rw[Int.toNat_natCast])
    generalize BL l m oth=LV at*;generalize LV.stem.length=v1n at*;generalize LV.loop.length=v2n at*
    go_upto_region 17 with(fail)
    have hb:Below w71.heap.size w71 (w71.alloc (.cells #[.slice va v1n v1c,.slice vb v2n v2c] 30)):=(by repeat(first|exact Ad|assumption|apply AD|apply AE));have xv:(w71.alloc (.cells #[.slice va v1n v1c,.slice vb v2n v2c] 30)).heap[w71.heap.size]? =some (.cells #[.slice va v1n v1c,.slice vb v2n v2c] 30 (0,0)):=(by(repeat(rw[Al];first|rw[if_pos (by first|simp;done|simp;omega)]|rw[if_neg (by first|simp;done|simp;omega)]));(try rfl));generalize(w71.alloc (.cells #[.slice va v1n v1c,.slice vb v2n v2c] 30))=w72 at*;replace xm:=Ae hb xm;replace xi:=Ae hb xi;replace xo:=Ae hb xo;replace xw:=Ae hb xw;replace hK:=hK.below hb;replace hl:=hl.below hb;replace hm:=hm.below hb;replace hi:=hi.below hb;replace ho:=ho.below hb;replace hw:=hw.below hb;replace hv:=hv.below hb;replace hB:=hB.step hb;clear hb;generalize w71.heap.size=qxv at*;have HII:=Ab hi;have HOO:=Ab ho;have HWW:=Ab hw;have HVV:=Ab hv;have HXI:=Ab xi;have HXO:=Ab xo;have HXW:=Ab xw;have HXV:=Ab xv;have HBB:=Ab hB;clear hK hl hm hi ho hw hv xm xi xo xw xv hB
    go_wp2_with fail
    go_loopg [16] 60 (fun gh q16 wr=>∃k:Nat,gh=60-k/\q16=.int .i64 (k:Int)/\k<=60/\Hid (∀j:Nat,j<k->atI ins j=atI oth j)/\Hid (Below w72.heap.size w72 wr))
    case atStart=>exact⟨0,rfl,rfl,by omega,fun j h=>absurd h (by omega),Ad⟩
    case round=>as_aux_lemma=>
     obtain⟨k,hgk,rfl,hk,HJ,HBx⟩:=hrel;have HGK:=Ab hgk;clear hgk
     have IK:I64 (k:Int):=by unfold I64;omega
     obtain⟨x,hx⟩:∃x,x=atI ins (k:Int):=⟨_,rfl⟩;obtain⟨y,hy⟩:∃y,y=atI oth (k:Int):=⟨_,rfl⟩;have HX:=Ab hx;have HY:=Ab hy;have hi:=HII.out.below HBx.out;have ho:=HOO.out.below HBx.out;have xi:=(HBx.out.block _ (Array.getElem?_eq_some_iff.1 HXI.out).1).trans HXI.out;have xo:=(HBx.out.block _ (Array.getElem?_eq_some_iff.1 HXO.out).1).trans HXO.out;have xv:=(HBx.out.block _ (Array.getElem?_eq_some_iff.1 HXV.out).1).trans HXV.out
     have HBD:Hid (∀W,Below wr.drew.heap.size wr.drew W->Below wr.heap.size wr W):=fun W h=>(Below.drew (B:=wr.heap.size) Ad).trans h
     have HI:Hid (∀W,Below wr.drew.heap.size wr.drew W->W.cell? ⟨qxi,0,none⟩=some (.slice ia i1n i1c)/\W.cell? ⟨qxi,1,none⟩=some (.slice ib i2n i2c)):=fun W h=>by
      have hh:=HBD.out W h;have k:=Ae hh xi;exact⟨Aa 0 k,Aa 1 k⟩
     have HO:Hid (∀W,Below wr.drew.heap.size wr.drew W->W.cell? ⟨qxo,0,none⟩=some (.slice oa o1n o1c)/\W.cell? ⟨qxo,1,none⟩=some (.slice ob o2n o2c)):=fun W h=>by
      have hh:=HBD.out W h;have k:=Ae hh xo;exact⟨Aa 0 k,Aa 1 k⟩
     have HV:Hid (∀W,Below wr.drew.heap.size wr.drew W->W.cell? ⟨qxv,0,none⟩=some (.slice va v1n v1c)/\W.cell? ⟨qxv,1,none⟩=some (.slice vb v2n v2c)):=fun W h=>by
      have hh:=HBD.out W h;have k:=Ae hh xv;exact⟨Aa 0 k,Aa 1 k⟩
     have HA1:Hid (∀W,Below wr.drew.heap.size wr.drew W->Calls Tryz.prog 30 #[.agg #[.slice ia i1n i1c,.slice ib i2n i2c],.int .i64 (k:Int)] W (Av (.int .i64 x) W)):=fun W h=>by
      rw[hx];exact IS W _ ins (k:Int) (hi.below (HBD.out W h)) IK
     have HA2:Hid (∀W,Below wr.drew.heap.size wr.drew W->Calls Tryz.prog 30 #[.agg #[.slice oa o1n o1c,.slice ob o2n o2c],.int .i64 (k:Int)] W (Av (.int .i64 y) W)):=fun W h=>by
      rw[hy];exact IS W _ oth (k:Int) (ho.below (HBD.out W h)) IK
     obtain⟨cb,hcb⟩:∃cb,(x==y)=cb:=⟨_,rfl⟩;clear hi ho xi xo xv hx hy
     go_upto_region 18 with(fail)
     by_cases hlt:k<60
     ·have i1:(k:Int)<60:=by omega
      by_cases hv0:v2n=0
      ·subst hv0
       have i2:¬(0:Int)<((0:Nat):Int):=by omega
       refine AB hmx (KE qxi qxo qxv ia ib oa ob va vb i1n i1c i2n i2c o1n o1c o2n o2c v1n v1c 0 v2c k x y cb) (fun vs=>{tmps:=(_::_::_::_::_::_::_::_::_::_::_::_::_::_::_::_::_::_::_::_::_::_::_::_::_::_::_::_::_::_::_::_::_::_::_::_::_::_::_::_::_::_::_::_::_::_::_::_::_::_::_::_::_::_::_::_::_::_::_::_::_::_::_::_::_::_::_::_::_::_::_::_::_::_::_::_::_::_::_::_::_::_::_::_::_::_::_::_::_::_::_::_::_::_::_::_::_::_::_::vs 0::vs 1::vs 2::vs 3::vs 4::vs 5::vs 6::vs 7::vs 8::vs 9::vs 10::vs 11::vs 12::vs 13::vs 14::vs 15::vs 16::_::_::_::_::_::_::_::_::_::_::[]).toArray,defers:=_}) (fun n=>[u99,u100,u101,u102,u103,u104,u105,u106,u107,u108,u109,u110,u111,u112,u113,u114,u115].getD n undef) rfl (by kernel_rfl) (fun _ _ _ _ h hb=>h.below hb) ?step ?fin
       case step=>as_aux_lemma=>
        intro ix o ho
        match ix,ho with
        |0,ho|1,ho|2,ho|3,ho|5,ho|6,ho|7,ho|8,ho|9,ho|10,ho|11,ho|12,ho|13,ho|14,ho|15,ho|16,ho=>
         obtain rfl:=osI ho;intro vs W K hB hD hK;have HK:=Ab hK
         try have e0:vs 0=.int .i64 (k:Int):=Ac hD 0 rfl
         try have e1:vs 1=.bool true:=Ac hD 1 rfl
         try have e2:vs 2=.bool true:=Ac hD 2 rfl
         try have e4:vs 4=.slice vb 0 v2c:=Ac hD 4 rfl
         try have e5:vs 5=.int .i64 (0:Int):=Ac hD 5 rfl
         try have e6:vs 6=.bool false:=Ac hD 6 rfl
         try have e7:vs 7=.bool false:=Ac hD 7 rfl
         try have e8:vs 8=.bool false:=Ac hD 8 rfl
         try have e15:vs 15=undef:=Ac hD 15 rfl
         clear hK hD ho;dsimp only;go_simp;have h:=HK.out _ _ Ad rfl;simp only[upd,Nat.reduceEqDiff,reduceIte, *]at h;exact h
        |4,ho=>
         obtain rfl:=osI ho;intro vs W K hB hD hK;have HK:=Ab hK;have e2:vs 2=.bool true:=Ac hD 2 rfl;have e3:vs 3=.pointer (some ⟨qxv,1,none⟩):=Ac hD 3 rfl;obtain⟨d0,d1⟩:=HV.out W hB;clear hK hD ho;dsimp only;go_simp;have h:=HK.out _ _ Ad rfl;simp only[upd,Nat.reduceEqDiff,reduceIte,e2,e3]at h;exact h
        |q+17,ho=>exact absurd ho (by simp)
       case fin=>as_aux_lemma=>
        intro vs wy hB hall;have el:vs 16=.bool false:=hall 16 (by decide);have HB6:BW w wy:=HBB.out.step (HBx.out.trans ((HBD.out _ hB).mono HBx.out.size));clear hall hB HI HO HV HA1 HA2 HBD;rw[el];clear el;generalize vs 0=y0q,vs 1=y1q,vs 2=y2q,vs 3=y3q,vs 4=y4q,vs 5=y5q,vs 6=y6q,vs 7=y7q,vs 8=y8q,vs 9=y9q,vs 10=y10q,vs 11=y11q,vs 12=y12q,vs 13=y13q,vs 14=y14q,vs 15=y15q;clear vs;go_wp2;go_ret;exact⟨rfl,HB6⟩
      ·have i2:(0:Int)<(v2n:Int):=by omega
       have i3:0<v2n:=by omega
       refine AB hmx (KF qxi qxo qxv ia ib oa ob va vb i1n i1c i2n i2c o1n o1c o2n o2c v1n v1c v2n v2c k x y cb) (fun vs=>{tmps:=(_::_::_::_::_::_::_::_::_::_::_::_::_::_::_::_::_::_::_::_::_::_::_::_::_::_::_::_::_::_::_::_::_::_::_::_::_::_::_::_::_::_::_::_::_::_::_::_::_::_::_::_::_::_::_::_::_::_::_::_::_::_::_::_::_::_::_::_::_::_::_::_::_::_::_::_::_::_::_::_::_::_::_::_::_::_::_::_::_::_::_::_::_::_::_::_::_::_::_::vs 0::vs 1::vs 2::vs 3::vs 4::vs 5::vs 6::vs 7::vs 8::vs 9::vs 10::vs 11::vs 12::vs 13::vs 14::vs 15::vs 16::_::_::_::_::_::_::_::_::_::_::[]).toArray,defers:=_}) (fun n=>[u99,u100,u101,u102,u103,u104,u105,u106,u107,u108,u109,u110,u111,u112,u113,u114,u115].getD n undef) rfl (by kernel_rfl) (fun _ _ _ _ h hb=>h.below hb) ?step ?fin
       case step=>as_aux_lemma=>
        intro ix o ho
        match ix,ho with
        |0,ho|1,ho|2,ho|3,ho|5,ho|6,ho|7,ho|8,ho|10,ho|13,ho|15,ho|16,ho=>
         obtain rfl:=osI ho;intro vs W K hB hD hK;have HK:=Ab hK
         try have e0:vs 0=.int .i64 (k:Int):=Ac hD 0 rfl
         try have e1:vs 1=.bool true:=Ac hD 1 rfl
         try have e2:vs 2=.bool true:=Ac hD 2 rfl
         try have e4:vs 4=.slice vb v2n v2c:=Ac hD 4 rfl
         try have e5:vs 5=.int .i64 (v2n:Int):=Ac hD 5 rfl
         try have e6:vs 6=.bool true:=Ac hD 6 rfl
         try have e7:vs 7=.bool true:=Ac hD 7 rfl
         try have e8:vs 8=.bool true:=Ac hD 8 rfl
         try have e11:vs 11=.int .i64 x:=Ac hD 11 rfl
         try have e14:vs 14=.int .i64 y:=Ac hD 14 rfl
         try have e15:vs 15=.bool cb:=Ac hD 15 rfl
         clear hK hD ho;dsimp only;go_simp;have h:=HK.out _ _ Ad rfl;simp only[upd,Nat.reduceEqDiff,reduceIte, *]at h;exact h
        |4,ho=>
         obtain rfl:=osI ho;intro vs W K hB hD hK;have HK:=Ab hK;have e2:vs 2=.bool true:=Ac hD 2 rfl;have e3:vs 3=.pointer (some ⟨qxv,1,none⟩):=Ac hD 3 rfl;obtain⟨d0,d1⟩:=HV.out W hB;clear hK hD ho;dsimp only;go_simp;have h:=HK.out _ _ Ad rfl;simp only[upd,Nat.reduceEqDiff,reduceIte,e2,e3]at h;exact h
        |9,ho=>
         obtain rfl:=osI ho;intro vs W K hB hD hK;have HK:=Ab hK;have e8:vs 8=.bool true:=Ac hD 8 rfl;obtain⟨d0,d1⟩:=HI.out W hB;clear hK hD ho;dsimp only;go_simp;have h:=HK.out _ _ Ad rfl;simp only[upd,Nat.reduceEqDiff,reduceIte,e8]at h;exact h
        |11,ho=>
         obtain rfl:=osI ho;intro vs W K hB hD hK;have HK:=Ab hK;have e8:vs 8=.bool true:=Ac hD 8 rfl;have e9:vs 9=.agg #[.slice ia i1n i1c,.slice ib i2n i2c]:=Ac hD 9 rfl;have e10:vs 10=.int .i64 (k:Int):=Ac hD 10 rfl;clear hK hD ho;dsimp only;go_simp;refine(HA1.out W hB).mono ?_;rintro e W' ⟨rfl,hb⟩;have h:=HK.out _ _ hb rfl;simp only[upd,Nat.reduceEqDiff,reduceIte,e8,e9,e10]at h;exact h
        |12,ho=>
         obtain rfl:=osI ho;intro vs W K hB hD hK;have HK:=Ab hK;have e8:vs 8=.bool true:=Ac hD 8 rfl;obtain⟨d0,d1⟩:=HO.out W hB;clear hK hD ho;dsimp only;go_simp;have h:=HK.out _ _ Ad rfl;simp only[upd,Nat.reduceEqDiff,reduceIte,e8]at h;exact h
        |14,ho=>
         obtain rfl:=osI ho;intro vs W K hB hD hK;have HK:=Ab hK;have e8:vs 8=.bool true:=Ac hD 8 rfl;have e12:vs 12=.agg #[.slice oa o1n o1c,.slice ob o2n o2c]:=Ac hD 12 rfl;have e13:vs 13=.int .i64 (k:Int):=Ac hD 13 rfl;clear hK hD ho;dsimp only;go_simp;refine(HA2.out W hB).mono ?_;rintro e W' ⟨rfl,hb⟩;have h:=HK.out _ _ hb rfl;simp only[upd,Nat.reduceEqDiff,reduceIte,e8,e12,e13]at h;exact h
        |q+17,ho=>exact absurd ho (by simp)
       case fin=>as_aux_lemma=>
        intro vs wy hB hall;have el:vs 16=.bool cb:=hall 16 (by decide);have HB6:Hid (Below w72.heap.size w72 wy):=HBx.out.trans ((HBD.out _ hB).mono HBx.out.size);clear hall hB HI HO HV HA1 HA2 HBD;rw[el];clear el;generalize vs 0=y0q,vs 1=y1q,vs 2=y2q,vs 3=y3q,vs 4=y4q,vs 5=y5q,vs 6=y6q,vs 7=y7q,vs 8=y8q,vs 9=y9q,vs 10=y10q,vs 11=y11q,vs 12=y12q,vs 13=y13q,vs 14=y14q,vs 15=y15q;clear vs
        cases cb with
        |false=>
         go_wp2;go_ret;exact⟨rfl,HBB.out.step HB6.out⟩
        |true=>
         have hxy:x=y:=by simpa using hcb
         clear hcb;obtain⟨hfo,hvl⟩:=HVL.out (by omega)
         have hall2:∀j:Nat,j<k+1->atI ins j=atI oth j:=fun j hj=>by
          rcases Nat.lt_or_ge j k with h|h
          ·exact HJ.out j h
          ·obtain rfl:j=k:=by omega
           rw[<-HX.out,<-HY.out];exact hxy
         have HJ2:=Ab hall2;obtain⟨z,hz⟩:∃z,z=ltW l m ins k:=⟨_,rfl⟩
         have hv1:atI LV (k:Int)=z:=by
          rw[hvl,hz];exact(Qf (fun i hi=>by rw[<-HFB.out,<-hfo];exact hall2 i (by omega))).symm
         have hw1:atI LW (k:Int)=z:=by rw[HLW.out,hz]
         have hw:=HWW.out.below HB6.out;have hv:=HVV.out.below HB6.out;have xw:=(HB6.out.block _ (Array.getElem?_eq_some_iff.1 HXW.out).1).trans HXW.out;have xv:=(HB6.out.block _ (Array.getElem?_eq_some_iff.1 HXV.out).1).trans HXV.out;clear hall2 hfo hvl hxy hz HX HY
         go_upto_region 20 with(fail)
         have HBD:Hid (∀W,Below wy.drew.heap.size wy.drew W->Below wy.heap.size wy W):=fun W h=>(Below.drew (B:=wy.heap.size) Ad).trans h
         have HW:Hid (∀W,Below wy.drew.heap.size wy.drew W->W.cell? ⟨qxw,0,none⟩=some (.slice wa w1n w1c)/\W.cell? ⟨qxw,1,none⟩=some (.slice wb w2n w2c)):=fun W h=>by
          have hh:=HBD.out W h;have k:=Ae hh xw;exact⟨Aa 0 k,Aa 1 k⟩
         have HV:Hid (∀W,Below wy.drew.heap.size wy.drew W->W.cell? ⟨qxv,0,none⟩=some (.slice va v1n v1c)/\W.cell? ⟨qxv,1,none⟩=some (.slice vb v2n v2c)):=fun W h=>by
          have hh:=HBD.out W h;have k:=Ae hh xv;exact⟨Aa 0 k,Aa 1 k⟩
         have HA1:Hid (∀W,Below wy.drew.heap.size wy.drew W->Calls Tryz.prog 30 #[.agg #[.slice va v1n v1c,.slice vb v2n v2c],.int .i64 (k:Int)] W (Av (.int .i64 z) W)):=fun W h=>by
          have h1:=IS W _ LV (k:Int) (hv.below (HBD.out W h)) IK;rw[hv1]at h1;exact h1
         have HA2:Hid (∀W,Below wy.drew.heap.size wy.drew W->Calls Tryz.prog 30 #[.agg #[.slice wa w1n w1c,.slice wb w2n w2c],.int .i64 (k:Int)] W (Av (.int .i64 z) W)):=fun W h=>by
          have h1:=IS W _ LW (k:Int) (hw.below (HBD.out W h)) IK;rw[hw1]at h1;exact h1
         clear hw hv xw xv hv1 hw1;refine AB hmx (Pb qxv qxw va vb wa wb v1n v1c v2n v2c w1n w1c w2n w2c k z) (fun vs=>{tmps:=(_::_::_::_::_::_::_::_::_::_::_::_::_::_::_::_::_::_::_::_::_::_::_::_::_::_::_::_::_::_::_::_::_::_::_::_::_::_::_::_::_::_::_::_::_::_::_::_::_::_::_::_::_::_::_::_::_::_::_::_::_::_::_::_::_::_::_::_::_::_::_::_::_::_::_::_::_::_::_::_::_::_::_::_::_::_::_::_::_::_::_::_::_::_::_::_::_::_::_::_::_::_::_::_::_::_::_::_::_::_::_::_::_::_::_::_::_::_::vs 0::vs 1::vs 2::vs 3::vs 4::vs 5::vs 6::_::[]).toArray,defers:=_}) (fun n=>[u118,u119,u120,u121,u122,u123,u124].getD n undef) rfl (by kernel_rfl) (fun _ _ _ _ h hb=>h.below hb) ?step ?fin
         case step=>as_aux_lemma=>
          intro ix o ho
          match ix,ho with
          |0,ho=>
           obtain rfl:=osI ho;intro vs W K hB hD hK;have HK:=Ab hK;obtain⟨d0,d1⟩:=HV.out W hB;clear hK hD ho;dsimp only;go_simp;have h:=HK.out _ _ Ad rfl;simp only[upd,Nat.reduceEqDiff,reduceIte]at h;exact h
          |1,ho|4,ho|6,ho=>
           obtain rfl:=osI ho;intro vs W K hB hD hK;have HK:=Ab hK
           try have e2:vs 2=.int .i64 z:=Ac hD 2 rfl
           try have e5:vs 5=.int .i64 z:=Ac hD 5 rfl
           clear hK hD ho;dsimp only;go_simp;have h:=HK.out _ _ Ad rfl;simp only[upd,Nat.reduceEqDiff,reduceIte, *]at h;exact h
          |2,ho=>
           obtain rfl:=osI ho;intro vs W K hB hD hK;have HK:=Ab hK;have e0:vs 0=.agg #[.slice va v1n v1c,.slice vb v2n v2c]:=Ac hD 0 rfl;have e1:vs 1=.int .i64 (k:Int):=Ac hD 1 rfl;clear hK hD ho;dsimp only;go_simp;refine(HA1.out W hB).mono ?_;rintro e W' ⟨rfl,hb⟩;have h:=HK.out _ _ hb rfl;simp only[upd,Nat.reduceEqDiff,reduceIte,e0,e1]at h;exact h
          |3,ho=>
           obtain rfl:=osI ho;intro vs W K hB hD hK;have HK:=Ab hK;obtain⟨d0,d1⟩:=HW.out W hB;clear hK hD ho;dsimp only;go_simp;have h:=HK.out _ _ Ad rfl;simp only[upd,Nat.reduceEqDiff,reduceIte]at h;exact h
          |5,ho=>
           obtain rfl:=osI ho;intro vs W K hB hD hK;have HK:=Ab hK;have e3:vs 3=.agg #[.slice wa w1n w1c,.slice wb w2n w2c]:=Ac hD 3 rfl;have e4:vs 4=.int .i64 (k:Int):=Ac hD 4 rfl;clear hK hD ho;dsimp only;go_simp;refine(HA2.out W hB).mono ?_;rintro e W' ⟨rfl,hb⟩;have h:=HK.out _ _ hb rfl;simp only[upd,Nat.reduceEqDiff,reduceIte,e3,e4]at h;exact h
          |q+7,ho=>exact absurd ho (by simp)
         case fin=>as_aux_lemma=>
          intro vs wq hB hall;have el:vs 6=.bool false:=hall 6 (by decide);have HB7:Hid (Below w72.heap.size w72 wq):=HB6.out.trans ((HBD.out _ hB).mono HB6.out.size);clear hall hB HW HV HA1 HA2 HBD;rw[el];clear el;generalize vs 0=y0q,vs 1=y1q,vs 2=y2q,vs 3=y3q,vs 4=y4q,vs 5=y5q;clear vs;go_wp2
          go_roundg (60-(k+1))
          case measure=>have:=HGK.out;omega
          case rel=>exact⟨k+1,rfl,by go_num,by omega,HJ2,HB7⟩
     ·have i1:¬(k:Int)<60:=by omega
      refine AB hmx (KD qxi qxo qxv ia ib oa ob va vb i1n i1c i2n i2c o1n o1c o2n o2c v1n v1c v2n v2c k x y cb) (fun vs=>{tmps:=(_::_::_::_::_::_::_::_::_::_::_::_::_::_::_::_::_::_::_::_::_::_::_::_::_::_::_::_::_::_::_::_::_::_::_::_::_::_::_::_::_::_::_::_::_::_::_::_::_::_::_::_::_::_::_::_::_::_::_::_::_::_::_::_::_::_::_::_::_::_::_::_::_::_::_::_::_::_::_::_::_::_::_::_::_::_::_::_::_::_::_::_::_::_::_::_::_::_::_::vs 0::vs 1::vs 2::vs 3::vs 4::vs 5::vs 6::vs 7::vs 8::vs 9::vs 10::vs 11::vs 12::vs 13::vs 14::vs 15::vs 16::_::_::_::_::_::_::_::_::_::_::[]).toArray,defers:=_}) (fun n=>[u99,u100,u101,u102,u103,u104,u105,u106,u107,u108,u109,u110,u111,u112,u113,u114,u115].getD n undef) rfl (by kernel_rfl) (fun _ _ _ _ h hb=>h.below hb) ?step ?fin
      case step=>as_aux_lemma=>
       intro ix o ho
       match ix,ho with
       |0,ho|1,ho|2,ho|3,ho|4,ho|5,ho|6,ho|7,ho|8,ho|9,ho|10,ho|11,ho|12,ho|13,ho|14,ho|15,ho|16,ho=>
        obtain rfl:=osI ho;intro vs W K hB hD hK;have HK:=Ab hK
        try have e0:vs 0=.int .i64 (k:Int):=Ac hD 0 rfl
        try have e1:vs 1=.bool false:=Ac hD 1 rfl
        try have e2:vs 2=.bool false:=Ac hD 2 rfl
        try have e6:vs 6=undef:=Ac hD 6 rfl
        try have e7:vs 7=.bool false:=Ac hD 7 rfl
        try have e8:vs 8=.bool false:=Ac hD 8 rfl
        try have e15:vs 15=undef:=Ac hD 15 rfl
        clear hK hD ho;dsimp only;go_simp;have h:=HK.out _ _ Ad rfl;simp only[upd,Nat.reduceEqDiff,reduceIte, *]at h;exact h
       |q+17,ho=>exact absurd ho (by simp)
      case fin=>as_aux_lemma=>
       intro vs wy hB hall;have el:vs 16=.bool false:=hall 16 (by decide);have HB6:BW w wy:=HBB.out.step (HBx.out.trans ((HBD.out _ hB).mono HBx.out.size));clear hall hB HI HO HV HA1 HA2 HBD;rw[el];clear el;generalize vs 0=y0q,vs 1=y1q,vs 2=y2q,vs 3=y3q,vs 4=y4q,vs 5=y5q,vs 6=y6q,vs 7=y7q,vs 8=y8q,vs 9=y9q,vs 10=y10q,vs 11=y11q,vs 12=y12q,vs 13=y13q,vs 14=y14q,vs 15=y15q;clear vs;go_wp2;go_ret;exact⟨rfl,HB6⟩
end Go.Proofs.YtncjeamdkjcebaaGreatDoor
