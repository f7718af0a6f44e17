/- What head computes. -/
import Derived.Test.YtncjeamdkjcebaaGreatDoorYSt13
set_option linter.all false
set_option maxHeartbeats 8000000
set_option maxRecDepth 100000
namespace Go.Proofs.YtncjeamdkjcebaaGreatDoor
open Go.RowKit
theorem Tw(w:World)(hK:B7 w):Calls Tryz.prog 7 #[] w (Av (.bool true) w):=by
 go_enter Tryz.func7,Tryz.ntmps7
 have hB:BW w w:=Ad
 go_wp2_with fail
 refine(Oi _).mono ?_;rintro e w1 ⟨al,cl,rfl,hl,cb⟩
 go_upto_region 2 with(fail)
 go_wp2_with fail
 refine(Kh _).mono ?_;rintro e w2 ⟨am,cm,bm,dm,rfl,hm,bu⟩
 go_upto_region 3 with(fail)
 obtain⟨w3,eW⟩:∃W,W=w2.alloc (.cells #[.int .i64 2,.int .i64 2,.int .i64 0,.slice am 2 cm,.slice bm 2 dm] 25):=⟨_,rfl⟩
 have bk:BW w2 w3:=by rw[eW];exact(by repeat(first|exact Ad|assumption|apply AE|apply AB))
 have y0:w3.heap[w2.heap.size]? =some (.cells #[.int .i64 2,.int .i64 2,.int .i64 0,.slice am 2 cm,.slice bm 2 dm] 25 (0,0)):=by rw[eW];exact(by(repeat(rw[Am];first|rw[if_pos (by first|simp;done|simp;omega)]|rw[if_neg (by first|simp;done|simp;omega)]));(try rfl))
 rw[<-eW];clear eW;have xm:=y0;clear y0;generalize w2.heap.size=dj at*;have k0:=Aa 0 xm;have k1:=Aa 1 xm;have k2:=Aa 2 xm;have k3:=Aa 3 xm;have k4:=Aa 4 xm
 go_wp2_with fail
 obtain⟨w4,eW⟩:∃W,W=w3.alloc (.cells #[.int .i64 0,.int .i64 1,.int .i64 0,.int .i64 1] 3):=⟨_,rfl⟩
 have a7:BW w3 w4:=by rw[eW];exact(by repeat(first|exact Ad|assumption|apply AE|apply AB))
 have z0:w4.heap[w3.heap.size]? =some (.cells #[.int .i64 0,.int .i64 1,.int .i64 0,.int .i64 1] 3 (0,0)):=by rw[eW];exact(by(repeat(rw[Am];first|rw[if_pos (by first|simp;done|simp;omega)]|rw[if_neg (by first|simp;done|simp;omega)]));(try rfl))
 rw[<-eW];clear eW;have hr:Ah w4 (.slice (some ⟨w3.heap.size,0,none⟩) 4 4) [0,1,0,1]:=A8 [0,1,0,1] z0 (by decide) (by simp[I64]);clear z0;generalize w3.heap.size=df at*;clear k0 k1 k2 k3 k4;replace hm:=hm.below (bst bk a7);refine(Tc _ _ _ hm hr).mono ?_;rintro e w5 ⟨v,rfl,ho,bb⟩;obtain⟨ao,co,rfl⟩:∃a c,v=.slice a 4 c:=ho.shape;clear hr
 go_upto_region 4 with(fail)
 go_upto_region 5 with(fail)
 obtain⟨w6,eW⟩:∃W,W=(((w5.alloc (.cells #[.int .i64 0] 3)).alloc (.cells #[.int .i64 0,.int .i64 0] 3)).alloc (.cells #[.slice (some ⟨w5.heap.size+1,0,none⟩) 2 2] 26)).alloc (.cells #[.int .i64 2,.int .i64 2,.int .i64 0,.slice (some ⟨w5.heap.size,0,none⟩) 1 1,.slice (some ⟨w5.heap.size+1+1,0,none⟩) 1 1] 28):=⟨_,rfl⟩
 have a5:BW w5 w6:=by rw[eW];exact(by repeat(first|exact Ad|assumption|apply AE|apply AB))
 have y0:w6.heap[w5.heap.size]? =some (.cells #[.int .i64 0] 3 (0,0)):=by rw[eW];exact(by(repeat(rw[Am];first|rw[if_pos (by first|simp;done|simp;omega)]|rw[if_neg (by first|simp;done|simp;omega)]));(try rfl))
 have y1:w6.heap[w5.heap.size+1]? =some (.cells #[.int .i64 0,.int .i64 0] 3 (0,0)):=by rw[eW];exact(by(repeat(rw[Am];first|rw[if_pos (by first|simp;done|simp;omega)]|rw[if_neg (by first|simp;done|simp;omega)]));(try rfl))
 have y2:w6.heap[w5.heap.size+1+1]? =some (.cells #[.slice (some ⟨w5.heap.size+1,0,none⟩) 2 2] 26 (0,0)):=by rw[eW];exact(by(repeat(rw[Am];first|rw[if_pos (by first|simp;done|simp;omega)]|rw[if_neg (by first|simp;done|simp;omega)]));(try rfl))
 have y3:w6.heap[w5.heap.size+1+1+1]? =some (.cells #[.int .i64 2,.int .i64 2,.int .i64 0,.slice (some ⟨w5.heap.size,0,none⟩) 1 1,.slice (some ⟨w5.heap.size+1+1,0,none⟩) 1 1] 28 (0,0)):=by rw[eW];exact(by(repeat(rw[Am];first|rw[if_pos (by first|simp;done|simp;omega)]|rw[if_neg (by first|simp;done|simp;omega)]));(try rfl))
 rw[<-eW];clear eW
 have yr:=EU [[0,0]] [.slice (some ⟨w5.heap.size+1,0,none⟩) 2 2] y2 rfl (by decide) (fun j hj=>by
  match j,hj with
  |0,_=>exact A8 [0,0] y1 (by decide) (by simp[I64])
  |q+1,h=>exact absurd h (by simp))
 have hz:Dy w6 (.agg #[.int .i64 2,.int .i64 2,.int .i64 0,.slice (some ⟨w5.heap.size,0,none⟩) 1 1,.slice (some ⟨w5.heap.size+1+1,0,none⟩) 1 1]) hZ:=⟨_,_,rfl,by simp[hZ,I64],A8 [0] y0 (by decide) (by simp[I64]),yr⟩;have xz:=y3;clear yr y0 y1 y2 y3;generalize w5.heap.size+1+1+1=c9 at*;generalize w5.heap.size+1+1=c8 at*;generalize w5.heap.size+1=c7 at*;generalize w5.heap.size=c6 at*
 go_upto_region 6 with(fail)
 obtain⟨w7,eW⟩:∃W,W=((((w6.alloc (.cells #[.int .i64 1,.int .i64 0] 3)).alloc (.cells #[.int .i64 0,.int .i64 1] 3)).alloc (.cells #[.int .i64 0,.int .i64 1] 3)).alloc (.cells #[.slice (some ⟨w6.heap.size+1,0,none⟩) 2 2,.slice (some ⟨w6.heap.size+1+1,0,none⟩) 2 2] 26)).alloc (.cells #[.int .i64 2,.int .i64 2,.int .i64 0,.slice (some ⟨w6.heap.size,0,none⟩) 2 2,.slice (some ⟨w6.heap.size+1+1+1,0,none⟩) 2 2] 28):=⟨_,rfl⟩
 have ax:BW w6 w7:=by rw[eW];exact(by repeat(first|exact Ad|assumption|apply AE|apply AB))
 have y0:w7.heap[w6.heap.size]? =some (.cells #[.int .i64 1,.int .i64 0] 3 (0,0)):=by rw[eW];exact(by(repeat(rw[Am];first|rw[if_pos (by first|simp;done|simp;omega)]|rw[if_neg (by first|simp;done|simp;omega)]));(try rfl))
 have y1:w7.heap[w6.heap.size+1]? =some (.cells #[.int .i64 0,.int .i64 1] 3 (0,0)):=by rw[eW];exact(by(repeat(rw[Am];first|rw[if_pos (by first|simp;done|simp;omega)]|rw[if_neg (by first|simp;done|simp;omega)]));(try rfl))
 have y2:w7.heap[w6.heap.size+1+1]? =some (.cells #[.int .i64 0,.int .i64 1] 3 (0,0)):=by rw[eW];exact(by(repeat(rw[Am];first|rw[if_pos (by first|simp;done|simp;omega)]|rw[if_neg (by first|simp;done|simp;omega)]));(try rfl))
 have y3:w7.heap[w6.heap.size+1+1+1]? =some (.cells #[.slice (some ⟨w6.heap.size+1,0,none⟩) 2 2,.slice (some ⟨w6.heap.size+1+1,0,none⟩) 2 2] 26 (0,0)):=by rw[eW];exact(by(repeat(rw[Am];first|rw[if_pos (by first|simp;done|simp;omega)]|rw[if_neg (by first|simp;done|simp;omega)]));(try rfl))
 have y4:w7.heap[w6.heap.size+1+1+1+1]? =some (.cells #[.int .i64 2,.int .i64 2,.int .i64 0,.slice (some ⟨w6.heap.size,0,none⟩) 2 2,.slice (some ⟨w6.heap.size+1+1+1,0,none⟩) 2 2] 28 (0,0)):=by rw[eW];exact(by(repeat(rw[Am];first|rw[if_pos (by first|simp;done|simp;omega)]|rw[if_neg (by first|simp;done|simp;omega)]));(try rfl))
 rw[<-eW];clear eW
 have yr:=EU [[0,1],[0,1]] [.slice (some ⟨w6.heap.size+1,0,none⟩) 2 2,.slice (some ⟨w6.heap.size+1+1,0,none⟩) 2 2] y3 rfl (by decide) (fun j hj=>by
  match j,hj with
  |0,_=>exact A8 [0,1] y1 (by decide) (by simp[I64])
  |1,_=>exact A8 [0,1] y2 (by decide) (by simp[I64])
  |q+2,h=>exact absurd h (by simp))
 have a6:Dy w7 (.agg #[.int .i64 2,.int .i64 2,.int .i64 0,.slice (some ⟨w6.heap.size,0,none⟩) 2 2,.slice (some ⟨w6.heap.size+1+1+1,0,none⟩) 2 2]) UM:=⟨_,_,rfl,by simp[UM,I64],A8 [1,0] y0 (by decide) (by simp[I64]),yr⟩;have xo:=y4;clear yr y0 y1 y2 y3 y4;generalize w6.heap.size+1+1+1+1=c5 at*;generalize w6.heap.size+1+1+1=c4 at*;generalize w6.heap.size+1+1=c3 at*;generalize w6.heap.size+1=c2 at*;generalize w6.heap.size=cz at*
 go_wp2_with fail
 obtain⟨w8,eW⟩:∃W,W=w7.alloc (.cells #[.int .i64 0,.int .i64 0,.int .i64 1,.int .i64 0] 3):=⟨_,rfl⟩
 have ar:BW w7 w8:=by rw[eW];exact(by repeat(first|exact Ad|assumption|apply AE|apply AB))
 have z0:w8.heap[w7.heap.size]? =some (.cells #[.int .i64 0,.int .i64 0,.int .i64 1,.int .i64 0] 3 (0,0)):=by rw[eW];exact(by(repeat(rw[Am];first|rw[if_pos (by first|simp;done|simp;omega)]|rw[if_neg (by first|simp;done|simp;omega)]));(try rfl))
 rw[<-eW];clear eW;have hr:Ah w8 (.slice (some ⟨w7.heap.size,0,none⟩) 4 4) [0,0,1,0]:=A8 [0,0,1,0] z0 (by decide) (by simp[I64]);clear z0;generalize w7.heap.size=dg at*;replace ho:=ho.below (bst (bst a5 ax) ar);refine(Kk _ _ _ [0,0,1,0] ho hr).mono ?_;rintro e w9 ⟨rfl,au⟩;clear hr ho;replace xm:=UF (bst (bst (bst (bst (bst a7 bb) a5) ax) ar) au) xm;have k0:=Aa 0 xm;have k1:=Aa 1 xm;have k2:=Aa 2 xm;have k3:=Aa 3 xm;have k4:=Aa 4 xm
 go_wp2_with fail
 obtain⟨bz,eW⟩:∃W,W=w9.alloc (.cells #[.int .i64 1] 3):=⟨_,rfl⟩
 have x:BW w9 bz:=by rw[eW];exact(by repeat(first|exact Ad|assumption|apply AE|apply AB))
 have z0:bz.heap[w9.heap.size]? =some (.cells #[.int .i64 1] 3 (0,0)):=by rw[eW];exact(by(repeat(rw[Am];first|rw[if_pos (by first|simp;done|simp;omega)]|rw[if_neg (by first|simp;done|simp;omega)]));(try rfl))
 rw[<-eW];clear eW;have hr:Ah bz (.slice (some ⟨w9.heap.size,0,none⟩) 1 1) [1]:=A8 [1] z0 (by decide) (by simp[I64]);clear z0;generalize w9.heap.size=cg at*;clear k0 k1 k2 k3 k4;replace hK:=hK.below (bst (bst (bst (bst (bst (bst (bst (bst (bst cb bu) bk) a7) bb) a5) ax) ar) au) x);replace hl:=hl.below (bst (bst (bst (bst (bst (bst (bst (bst bu bk) a7) bb) a5) ax) ar) au) x);replace hm:=hm.below (bst (bst (bst (bst (bst bb a5) ax) ar) au) x);refine(RH _ _ _ _ hK hl hm ⟨_,_,rfl,CZ _,hr⟩).mono ?_;rintro e bd ⟨v,rfl,hw,y⟩;obtain⟨a0,c0,a1,c1,rfl⟩:=hw.shp;clear hr
 go_wp2_with fail
 obtain⟨b0,eW⟩:∃W,W=bd.alloc (.cells #[.int .i64 1,.int .i64 3] 3):=⟨_,rfl⟩
 have r:BW bd b0:=by rw[eW];exact(by repeat(first|exact Ad|assumption|apply AE|apply AB))
 have z0:b0.heap[bd.heap.size]? =some (.cells #[.int .i64 1,.int .i64 3] 3 (0,0)):=by rw[eW];exact(by(repeat(rw[Am];first|rw[if_pos (by first|simp;done|simp;omega)]|rw[if_neg (by first|simp;done|simp;omega)]));(try rfl))
 rw[<-eW];clear eW;have hr:Ah b0 (.slice (some ⟨bd.heap.size,0,none⟩) 2 2) [1,3]:=A8 [1,3] z0 (by decide) (by simp[I64]);clear z0;generalize bd.heap.size=ch at*;replace hw:=hw.below r;refine(Np _ _ _ ⟨[],[1,3]⟩ hw ⟨_,_,rfl,CZ _,hr⟩).mono ?_;rintro e dn ⟨rfl,z⟩;clear hr hw;replace xm:=UF (bst (bst (bst x y) r) z) xm;have k0:=Aa 0 xm;have k1:=Aa 1 xm;have k2:=Aa 2 xm;have k3:=Aa 3 xm;have k4:=Aa 4 xm;replace xz:=UF (bst (bst (bst (bst (bst (bst ax ar) au) x) y) r) z) xz;have j0:=Aa 0 xz;have j1:=Aa 1 xz;have j2:=Aa 2 xz;have j3:=Aa 3 xz;have j4:=Aa 4 xz
 go_wp2_with fail
 clear k0 k1 k2 k3 k4;clear j0 j1 j2 j3 j4;replace hK:=hK.below (bst (bst y r) z);replace hl:=hl.below (bst (bst y r) z);replace hm:=hm.below (bst (bst y r) z);replace hz:=hz.below (bst (bst (bst (bst (bst (bst ax ar) au) x) y) r) z);refine(Rv _ _ _ _ hK hl hm hz).mono ?_;rintro e be ⟨v,rfl,hw,ah⟩;obtain⟨a0,c0,a1,c1,rfl⟩:=hw.shp
 go_wp2_with fail
 obtain⟨b1,eW⟩:∃W,W=be.alloc (.cells #[.int .i64 0] 3):=⟨_,rfl⟩
 have af:BW be b1:=by rw[eW];exact(by repeat(first|exact Ad|assumption|apply AE|apply AB))
 have z0:b1.heap[be.heap.size]? =some (.cells #[.int .i64 0] 3 (0,0)):=by rw[eW];exact(by(repeat(rw[Am];first|rw[if_pos (by first|simp;done|simp;omega)]|rw[if_neg (by first|simp;done|simp;omega)]));(try rfl))
 rw[<-eW];clear eW;have hr:Ah b1 (.slice (some ⟨be.heap.size,0,none⟩) 1 1) [0]:=A8 [0] z0 (by decide) (by simp[I64]);clear z0;generalize be.heap.size=ci at*;replace hw:=hw.below af;refine(Np _ _ _ ⟨[],[0]⟩ hw ⟨_,_,rfl,CZ _,hr⟩).mono ?_;rintro e dp ⟨rfl,ai⟩;clear hr hw;replace xm:=UF (bst (bst ah af) ai) xm;have k0:=Aa 0 xm;have k1:=Aa 1 xm;have k2:=Aa 2 xm;have k3:=Aa 3 xm;have k4:=Aa 4 xm;replace xo:=UF (bst (bst (bst (bst (bst (bst (bst (bst ar au) x) y) r) z) ah) af) ai) xo;have j0:=Aa 0 xo;have j1:=Aa 1 xo;have j2:=Aa 2 xo;have j3:=Aa 3 xo;have j4:=Aa 4 xo
 go_wp2_with fail
 clear k0 k1 k2 k3 k4;clear j0 j1 j2 j3 j4;replace hK:=hK.below (bst (bst ah af) ai);replace hl:=hl.below (bst (bst ah af) ai);replace hm:=hm.below (bst (bst ah af) ai);replace a6:=a6.below (bst (bst (bst (bst (bst (bst (bst (bst ar au) x) y) r) z) ah) af) ai);refine(Ru _ _ _ _ hK hl hm a6).mono ?_;rintro e bf ⟨v,rfl,hw,aj⟩;obtain⟨a0,c0,a1,c1,rfl⟩:=hw.shp
 go_wp2_with fail
 obtain⟨b2,eW⟩:∃W,W=bf.alloc (.cells #[.int .i64 1,.int .i64 3,.int .i64 0] 3):=⟨_,rfl⟩
 have ag:BW bf b2:=by rw[eW];exact(by repeat(first|exact Ad|assumption|apply AE|apply AB))
 have z0:b2.heap[bf.heap.size]? =some (.cells #[.int .i64 1,.int .i64 3,.int .i64 0] 3 (0,0)):=by rw[eW];exact(by(repeat(rw[Am];first|rw[if_pos (by first|simp;done|simp;omega)]|rw[if_neg (by first|simp;done|simp;omega)]));(try rfl))
 rw[<-eW];clear eW;have hr:Ah b2 (.slice (some ⟨bf.heap.size,0,none⟩) 3 3) [1,3,0]:=A8 [1,3,0] z0 (by decide) (by simp[I64]);clear z0;generalize bf.heap.size=cj at*;replace hw:=hw.below ag;refine(Np _ _ _ ⟨[],[1,3,0]⟩ hw ⟨_,_,rfl,CZ _,hr⟩).mono ?_;rintro e b ⟨rfl,ak⟩;clear hr hw;clear hz xz
 go_upto_region 7 with(fail)
 go_upto_region 8 with(fail)
 obtain⟨az,eW⟩:∃W,W=((((b.alloc (.cells #[.int .i64 0,.int .i64 0,.int .i64 0,.int .i64 0] 3)).alloc (.cells #[.slice (some ⟨b.heap.size,0,none⟩) 4 4] 26)).alloc (.cells #[.int .i64 0,.int .i64 1,.int .i64 1,.int .i64 0] 3)).alloc (.cells #[.slice (some ⟨b.heap.size+1+1,0,none⟩) 4 4] 26)).alloc (.cells #[.int .i64 4,.int .i64 0,.slice (some ⟨b.heap.size+1,0,none⟩) 1 1,.slice (some ⟨b.heap.size+1+1+1,0,none⟩) 1 1] 63):=⟨_,rfl⟩
 have an:BW b az:=by rw[eW];exact(by repeat(first|exact Ad|assumption|apply AE|apply AB))
 have y0:az.heap[b.heap.size]? =some (.cells #[.int .i64 0,.int .i64 0,.int .i64 0,.int .i64 0] 3 (0,0)):=by rw[eW];exact(by(repeat(rw[Am];first|rw[if_pos (by first|simp;done|simp;omega)]|rw[if_neg (by first|simp;done|simp;omega)]));(try rfl))
 have y1:az.heap[b.heap.size+1]? =some (.cells #[.slice (some ⟨b.heap.size,0,none⟩) 4 4] 26 (0,0)):=by rw[eW];exact(by(repeat(rw[Am];first|rw[if_pos (by first|simp;done|simp;omega)]|rw[if_neg (by first|simp;done|simp;omega)]));(try rfl))
 have y2:az.heap[b.heap.size+1+1]? =some (.cells #[.int .i64 0,.int .i64 1,.int .i64 1,.int .i64 0] 3 (0,0)):=by rw[eW];exact(by(repeat(rw[Am];first|rw[if_pos (by first|simp;done|simp;omega)]|rw[if_neg (by first|simp;done|simp;omega)]));(try rfl))
 have y3:az.heap[b.heap.size+1+1+1]? =some (.cells #[.slice (some ⟨b.heap.size+1+1,0,none⟩) 4 4] 26 (0,0)):=by rw[eW];exact(by(repeat(rw[Am];first|rw[if_pos (by first|simp;done|simp;omega)]|rw[if_neg (by first|simp;done|simp;omega)]));(try rfl))
 have y4:az.heap[b.heap.size+1+1+1+1]? =some (.cells #[.int .i64 4,.int .i64 0,.slice (some ⟨b.heap.size+1,0,none⟩) 1 1,.slice (some ⟨b.heap.size+1+1+1,0,none⟩) 1 1] 63 (0,0)):=by rw[eW];exact(by(repeat(rw[Am];first|rw[if_pos (by first|simp;done|simp;omega)]|rw[if_neg (by first|simp;done|simp;omega)]));(try rfl))
 rw[<-eW];clear eW
 have r1:=EU [[0,0,0,0]] [.slice (some ⟨b.heap.size,0,none⟩) 4 4] y1 rfl (by decide) (fun j hj=>by
  match j,hj with
  |0,_=>exact A8 [0,0,0,0] y0 (by decide) (by simp[I64])
  |q+1,h=>exact absurd h (by simp))
 have r3:=EU [[0,1,1,0]] [.slice (some ⟨b.heap.size+1+1,0,none⟩) 4 4] y3 rfl (by decide) (fun j hj=>by
  match j,hj with
  |0,_=>exact A8 [0,1,1,0] y2 (by decide) (by simp[I64])
  |q+1,h=>exact absurd h (by simp))
 have ha:Cw az (.agg #[.int .i64 4,.int .i64 0,.slice (some ⟨b.heap.size+1,0,none⟩) 1 1,.slice (some ⟨b.heap.size+1+1+1,0,none⟩) 1 1]) UI:=⟨_,_,rfl,by simp[UI,I64],r1,r3⟩;have xa:=y4;clear r1 r3 y0 y1 y2 y3 y4;generalize b.heap.size+1+1+1+1=cy at*;generalize b.heap.size+1+1+1=cx at*;generalize b.heap.size+1+1=cw at*;generalize b.heap.size+1=cv at*;generalize b.heap.size=cu at*;have k0:=Aa 0 xa;have k1:=Aa 1 xa;have k2:=Aa 2 xa;have k3:=Aa 3 xa
 go_wp2_with fail
 clear k0 k1 k2 k3;replace hK:=hK.below (bst (bst (bst aj ag) ak) an);replace hl:=hl.below (bst (bst (bst aj ag) ak) an);refine(SS _ _ _ hK hl ha).mono ?_;rintro e bn ⟨vg,vp,rfl,hg,hp,aa⟩;obtain⟨g0,d0,g1,d1,g2,d2,rfl⟩:=hg.shp4;obtain⟨ap,cp,rfl⟩:∃a c,vp=.slice a 4 c:=hp.shape
 go_upto_region 9 with(fail)
 obtain⟨a2,eW⟩:∃W,W=bn.alloc (.cells #[.slice g0 4 d0,.slice g1 4 d1,.slice g2 4 d2] 65):=⟨_,rfl⟩
 have p:BW bn a2:=by rw[eW];exact(by repeat(first|exact Ad|assumption|apply AE|apply AB))
 have y0:a2.heap[bn.heap.size]? =some (.cells #[.slice g0 4 d0,.slice g1 4 d1,.slice g2 4 d2] 65 (0,0)):=by rw[eW];exact(by(repeat(rw[Am];first|rw[if_pos (by first|simp;done|simp;omega)]|rw[if_neg (by first|simp;done|simp;omega)]));(try rfl))
 rw[<-eW];clear eW;have xg:=y0;clear y0;generalize bn.heap.size=di at*;replace xa:=UF (bst aa p) xa;have k0:=Aa 0 xa;have k1:=Aa 1 xa;have k2:=Aa 2 xa;have k3:=Aa 3 xa
 go_wp2_with fail
 obtain⟨b5,eW⟩:∃W,W=a2.alloc (.cells #[.int .i64 (-1),.int .i64 3,.int .i64 3,.int .i64 (-1)] 3):=⟨_,rfl⟩
 have n:BW a2 b5:=by rw[eW];exact(by repeat(first|exact Ad|assumption|apply AE|apply AB))
 have z0:b5.heap[a2.heap.size]? =some (.cells #[.int .i64 (-1),.int .i64 3,.int .i64 3,.int .i64 (-1)] 3 (0,0)):=by rw[eW];exact(by(repeat(rw[Am];first|rw[if_pos (by first|simp;done|simp;omega)]|rw[if_neg (by first|simp;done|simp;omega)]));(try rfl))
 rw[<-eW];clear eW;have hr:Ah b5 (.slice (some ⟨a2.heap.size,0,none⟩) 4 4) [-1,3,3,-1]:=A8 [-1,3,3,-1] z0 (by decide) (by simp[I64]);clear z0;generalize a2.heap.size=ck at*;clear k0 k1 k2 k3;replace hK:=hK.below (bst (bst aa p) n);replace ha:=ha.below (bst (bst aa p) n);replace hl:=hl.below (bst (bst aa p) n);replace hp:=hp.below (bst p n);refine(TQ _ _ _ _ _ hK hl ha hp hr).mono ?_;rintro e bp ⟨v,rfl,hx,o⟩;obtain⟨x3,m3,x4,m4,rfl⟩:=hx.shpX;clear hr
 go_upto_region 10 with(fail)
 obtain⟨a3,eW⟩:∃W,W=bp.alloc (.cells #[.int .i64 2,.int .i64 2,.int .i64 0,.slice x3 1 m3,.slice x4 1 m4] 25):=⟨_,rfl⟩
 have l:BW bp a3:=by rw[eW];exact(by repeat(first|exact Ad|assumption|apply AE|apply AB))
 have y0:a3.heap[bp.heap.size]? =some (.cells #[.int .i64 2,.int .i64 2,.int .i64 0,.slice x3 1 m3,.slice x4 1 m4] 25 (0,0)):=by rw[eW];exact(by(repeat(rw[Am];first|rw[if_pos (by first|simp;done|simp;omega)]|rw[if_neg (by first|simp;done|simp;omega)]));(try rfl))
 rw[<-eW];clear eW;have xx:=y0;clear y0;generalize bp.heap.size=dk at*;replace xa:=UF (bst (bst n o) l) xa;have k0:=Aa 0 xa;have k1:=Aa 1 xa;have k2:=Aa 2 xa;have k3:=Aa 3 xa
 go_wp2_with fail
 obtain⟨b6,eW⟩:∃W,W=a3.alloc (.cells #[.int .i64 1,.int .i64 (-1),.int .i64 (-1),.int .i64 2] 3):=⟨_,rfl⟩
 have f:BW a3 b6:=by rw[eW];exact(by repeat(first|exact Ad|assumption|apply AE|apply AB))
 have z0:b6.heap[a3.heap.size]? =some (.cells #[.int .i64 1,.int .i64 (-1),.int .i64 (-1),.int .i64 2] 3 (0,0)):=by rw[eW];exact(by(repeat(rw[Am];first|rw[if_pos (by first|simp;done|simp;omega)]|rw[if_neg (by first|simp;done|simp;omega)]));(try rfl))
 rw[<-eW];clear eW;have hr:Ah b6 (.slice (some ⟨a3.heap.size,0,none⟩) 4 4) [1,-1,-1,2]:=A8 [1,-1,-1,2] z0 (by decide) (by simp[I64]);clear z0;generalize a3.heap.size=cn at*;clear k0 k1 k2 k3;replace hK:=hK.below (bst (bst o l) f);replace ha:=ha.below (bst (bst o l) f);replace hl:=hl.below (bst (bst o l) f);replace hp:=hp.below (bst (bst o l) f);refine(TP _ _ _ _ _ hK hl ha hp hr).mono ?_;rintro e bq ⟨v,rfl,hy,m⟩;obtain⟨y3,n3,y4,n4,rfl⟩:=hy.shpY;clear hr
 go_upto_region 11 with(fail)
 obtain⟨a4,eW⟩:∃W,W=bq.alloc (.cells #[.int .i64 2,.int .i64 2,.int .i64 0,.slice y3 2 n3,.slice y4 2 n4] 28):=⟨_,rfl⟩
 have i:BW bq a4:=by rw[eW];exact(by repeat(first|exact Ad|assumption|apply AE|apply AB))
 have y0:a4.heap[bq.heap.size]? =some (.cells #[.int .i64 2,.int .i64 2,.int .i64 0,.slice y3 2 n3,.slice y4 2 n4] 28 (0,0)):=by rw[eW];exact(by(repeat(rw[Am];first|rw[if_pos (by first|simp;done|simp;omega)]|rw[if_neg (by first|simp;done|simp;omega)]));(try rfl))
 rw[<-eW];clear eW;have xy:=y0;clear y0;generalize bq.heap.size=dl at*;replace xg:=UF (bst (bst (bst (bst (bst n o) l) f) m) i) xg;have k0:=Aa 0 xg;have k1:=Aa 1 xg;have k2:=Aa 2 xg;replace xx:=UF (bst (bst f m) i) xx;have j0:=Aa 0 xx;have j1:=Aa 1 xx;have j2:=Aa 2 xx;have j3:=Aa 3 xx;have j4:=Aa 4 xx;have i0:=Aa 0 xy;have i1:=Aa 1 xy;have i2:=Aa 2 xy;have i3:=Aa 3 xy;have i4:=Aa 4 xy;replace hx:=hx.below (bst (bst (bst l f) m) i);obtain⟨bo,oo,so,cf,ce,bc⟩:=hx.rowX;replace hy:=hy.below i;obtain⟨dd,oy,bv,bw,bx⟩:=hy.inY
 subst bv
 obtain⟨a0,c0,rfl⟩:∃a c,so=.slice a 2 c:=bc.shape;subst cf
 go_upto_region 13 with(fail)
 go_wp2_with fail
 clear k0 k1 k2;clear j0 j1 j2 j3 j4;clear i0 i1 i2 i3 i4;clear ce bw bx;obtain⟨b7,eW⟩:∃W,W=a4.alloc (.cells #[.int .i64 0,.int .i64 1] 3):=⟨_,rfl⟩
 have d:BW a4 b7:=by rw[eW];exact(by repeat(first|exact Ad|assumption|apply AE|apply AB))
 have z0:b7.heap[a4.heap.size]? =some (.cells #[.int .i64 0,.int .i64 1] 3 (0,0)):=by rw[eW];exact(by(repeat(rw[Am];first|rw[if_pos (by first|simp;done|simp;omega)]|rw[if_neg (by first|simp;done|simp;omega)]));(try rfl))
 rw[<-eW];clear eW;have hr:Ah b7 (.slice (some ⟨a4.heap.size,0,none⟩) 2 2) [0,1]:=A8 [0,1] z0 (by decide) (by simp[I64]);clear z0;generalize a4.heap.size=cq at*;replace bc:=bc.below d;refine(Kk _ _ _ [0,1] bc hr).mono ?_;rintro e ay ⟨rfl,k⟩;clear hr bc;replace xg:=UF (bst d k) xg;have k0:=Aa 0 xg;have k1:=Aa 1 xg;have k2:=Aa 2 xg;replace xx:=UF (bst d k) xx;have j0:=Aa 0 xx;have j1:=Aa 1 xx;have j2:=Aa 2 xx;have j3:=Aa 3 xx;have j4:=Aa 4 xx;replace xy:=UF (bst d k) xy;have i0:=Aa 0 xy;have i1:=Aa 1 xy;have i2:=Aa 2 xy;have i3:=Aa 3 xy;have i4:=Aa 4 xy;replace hy:=hy.below (bst d k);obtain⟨dc,de,bv,bw,bx⟩:=hy.inY
 injection bv with hby1
 injection hby1 with hby2 hby3
 subst hby2 hby3
 go_wp2_with fail
 obtain⟨bg,eW⟩:∃W,W=(ay.alloc (.cells #[.bool true,.bool true,.bool true,.bool true] 4)).alloc (.cells #[.int .i64 1,.int .i64 (-1),.int .i64 (-1),.int .i64 2] 3):=⟨_,rfl⟩
 have s:BW ay bg:=by rw[eW];exact(by repeat(first|exact Ad|assumption|apply AE|apply AB))
 have z0:bg.heap[ay.heap.size]? =some (.cells #[.bool true,.bool true,.bool true,.bool true] 4 (0,0)):=by rw[eW];exact(by(repeat(rw[Am];first|rw[if_pos (by first|simp;done|simp;omega)]|rw[if_neg (by first|simp;done|simp;omega)]));(try rfl))
 have z1:bg.heap[ay.heap.size+1]? =some (.cells #[.int .i64 1,.int .i64 (-1),.int .i64 (-1),.int .i64 2] 3 (0,0)):=by rw[eW];exact(by(repeat(rw[Am];first|rw[if_pos (by first|simp;done|simp;omega)]|rw[if_neg (by first|simp;done|simp;omega)]));(try rfl))
 rw[<-eW];clear eW;have hs:Bf bg (.slice (some ⟨ay.heap.size,0,none⟩) 4 4) [true,true,true,true]:=JF [true,true,true,true] z0 (by decide);have hr:Ah bg (.slice (some ⟨ay.heap.size+1,0,none⟩) 4 4) [1,-1,-1,2]:=A8 [1,-1,-1,2] z1 (by decide) (by simp[I64]);clear z0 z1;generalize ay.heap.size+1=db at*;generalize ay.heap.size=da at*;clear k0 k1 k2;clear j0 j1 j2 j3 j4;clear i0 i1 i2 i3 i4;clear bw bx;replace hg:=hg.below (bst (bst (bst (bst (bst (bst (bst (bst (bst p n) o) l) f) m) i) d) k) s);refine(RE _ _ _ _ hg hs hr).mono ?_;rintro e bh ⟨rfl,ab⟩;clear hs hr
 go_upto_region 14 with(fail)
 replace xm:=UF (bst (bst (bst (bst (bst (bst (bst (bst (bst (bst (bst (bst (bst (bst (bst aj ag) ak) an) aa) p) n) o) l) f) m) i) d) k) s) ab) xm;have k0:=Aa 0 xm;have k1:=Aa 1 xm;have k2:=Aa 2 xm;have k3:=Aa 3 xm;have k4:=Aa 4 xm
 go_wp2_with fail
 obtain⟨b8,eW⟩:∃W,W=bh.alloc (.cells #[.bool false,.bool true] 4):=⟨_,rfl⟩
 have ac:BW bh b8:=by rw[eW];exact(by repeat(first|exact Ad|assumption|apply AE|apply AB))
 have z0:b8.heap[bh.heap.size]? =some (.cells #[.bool false,.bool true] 4 (0,0)):=by rw[eW];exact(by(repeat(rw[Am];first|rw[if_pos (by first|simp;done|simp;omega)]|rw[if_neg (by first|simp;done|simp;omega)]));(try rfl))
 rw[<-eW];clear eW;have hs:Bf b8 (.slice (some ⟨bh.heap.size,0,none⟩) 2 2) [false,true]:=JF [false,true] z0 (by decide);clear z0;generalize bh.heap.size=cr at*;clear k0 k1 k2 k3 k4;replace hK:=hK.below (bst (bst (bst (bst (bst (bst m i) d) k) s) ab) ac);replace hl:=hl.below (bst (bst (bst (bst (bst (bst m i) d) k) s) ab) ac);replace hm:=hm.below (bst (bst (bst (bst (bst (bst (bst (bst (bst (bst (bst (bst (bst (bst (bst (bst aj ag) ak) an) aa) p) n) o) l) f) m) i) d) k) s) ab) ac);refine(Rj _ _ _ _ _ hK hl hm hm hs).mono ?_;rintro e br ⟨v,rfl,bl,ad⟩;obtain⟨b3,e3,b4,e4,rfl⟩:=bl.shpM;clear hs
 go_upto_region 15 with(fail)
 obtain⟨cd,eW⟩:∃W,W=br.alloc (.cells #[.int .i64 2,.int .i64 2,.int .i64 0,.slice b3 2 e3,.slice b4 2 e4] 25):=⟨_,rfl⟩
 have u:BW br cd:=by rw[eW];exact(by repeat(first|exact Ad|assumption|apply AE|apply AB))
 have y0:cd.heap[br.heap.size]? =some (.cells #[.int .i64 2,.int .i64 2,.int .i64 0,.slice b3 2 e3,.slice b4 2 e4] 25 (0,0)):=by rw[eW];exact(by(repeat(rw[Am];first|rw[if_pos (by first|simp;done|simp;omega)]|rw[if_neg (by first|simp;done|simp;omega)]));(try rfl))
 rw[<-eW];clear eW;have xb:=y0;clear y0;generalize br.heap.size=dh at*;replace xm:=UF (bst (bst ac ad) u) xm;have k0:=Aa 0 xm;have k1:=Aa 1 xm;have k2:=Aa 2 xm;have k3:=Aa 3 xm;have k4:=Aa 4 xm;have j0:=Aa 0 xb;have j1:=Aa 1 xb;have j2:=Aa 2 xb;have j3:=Aa 3 xb;have j4:=Aa 4 xb
 go_wp2_with fail
 clear k0 k1 k2 k3 k4;clear j0 j1 j2 j3 j4;replace bl:=bl.below u;replace hm:=hm.below (bst ad u);refine(RA _ _ _ bl hm).mono ?_;rintro e dq ⟨rfl,ae⟩;replace xm:=UF ae xm;have k0:=Aa 0 xm;have k1:=Aa 1 xm;have k2:=Aa 2 xm;have k3:=Aa 3 xm;have k4:=Aa 4 xm
 go_wp2_with fail
 clear k0 k1 k2 k3 k4;replace hm:=hm.below ae;refine(T3 _ _ hm).mono ?_;rintro e dr ⟨rfl,aq⟩;replace xo:=UF (bst (bst (bst (bst (bst (bst (bst (bst (bst (bst (bst (bst (bst (bst (bst (bst (bst (bst (bst (bst aj ag) ak) an) aa) p) n) o) l) f) m) i) d) k) s) ab) ac) ad) u) ae) aq) xo;have k0:=Aa 0 xo;have k1:=Aa 1 xo;have k2:=Aa 2 xo;have k3:=Aa 3 xo;have k4:=Aa 4 xo
 go_wp2_with fail
 clear k0 k1 k2 k3 k4;replace a6:=a6.below (bst (bst (bst (bst (bst (bst (bst (bst (bst (bst (bst (bst (bst (bst (bst (bst (bst (bst (bst (bst aj ag) ak) an) aa) p) n) o) l) f) m) i) d) k) s) ab) ac) ad) u) ae) aq);refine(T1 _ _ a6).mono ?_;rintro e ds ⟨rfl,av⟩
 go_wp2_with fail
 refine(T2 _ _ (Et _)).mono ?_;rintro e dt ⟨rfl,aw⟩
 go_wp2_with fail
 replace hK:=hK.below (bst (bst (bst (bst (bst ad u) ae) aq) av) aw);replace hl:=hl.below (bst (bst (bst (bst (bst ad u) ae) aq) av) aw);refine(T5 _ _ hK hl).mono ?_;rintro e bi ⟨rfl,a8⟩
 go_wp2_with fail
 obtain⟨b9,eW⟩:∃W,W=bi.alloc (.cells #[.int .i64 1] 3):=⟨_,rfl⟩
 have a9:BW bi b9:=by rw[eW];exact(by repeat(first|exact Ad|assumption|apply AE|apply AB))
 have z0:b9.heap[bi.heap.size]? =some (.cells #[.int .i64 1] 3 (0,0)):=by rw[eW];exact(by(repeat(rw[Am];first|rw[if_pos (by first|simp;done|simp;omega)]|rw[if_neg (by first|simp;done|simp;omega)]));(try rfl))
 rw[<-eW];clear eW;have hr:Ah b9 (.slice (some ⟨bi.heap.size,0,none⟩) 1 1) [1]:=A8 [1] z0 (by decide) (by simp[I64]);clear z0;generalize bi.heap.size=cs at*;refine(T6 _ _ ⟨_,_,rfl,CZ _,hr⟩).mono ?_;rintro e bj ⟨rfl,ba⟩;clear hr;replace xa:=UF (bst (bst (bst (bst (bst (bst (bst (bst (bst (bst (bst (bst (bst (bst (bst (bst f m) i) d) k) s) ab) ac) ad) u) ae) aq) av) aw) a8) a9) ba) xa;have k0:=Aa 0 xa;have k1:=Aa 1 xa;have k2:=Aa 2 xa;have k3:=Aa 3 xa
 go_wp2_with fail
 obtain⟨ca,eW⟩:∃W,W=bj.alloc (.cells #[.int .i64 0] 3):=⟨_,rfl⟩
 have bs:BW bj ca:=by rw[eW];exact(by repeat(first|exact Ad|assumption|apply AE|apply AB))
 have z0:ca.heap[bj.heap.size]? =some (.cells #[.int .i64 0] 3 (0,0)):=by rw[eW];exact(by(repeat(rw[Am];first|rw[if_pos (by first|simp;done|simp;omega)]|rw[if_neg (by first|simp;done|simp;omega)]));(try rfl))
 rw[<-eW];clear eW;have hr:Ah ca (.slice (some ⟨bj.heap.size,0,none⟩) 1 1) [0]:=A8 [0] z0 (by decide) (by simp[I64]);clear z0;generalize bj.heap.size=ct at*;clear k0 k1 k2 k3;replace ha:=ha.below (bst (bst (bst (bst (bst (bst (bst (bst (bst (bst (bst (bst (bst (bst (bst (bst m i) d) k) s) ab) ac) ad) u) ae) aq) av) aw) a8) a9) ba) bs);refine(TX _ _ _ ha ⟨_,_,rfl,CZ _,hr⟩).mono ?_;rintro e du ⟨rfl,cc⟩;clear hr
 go_wp2_with fail
 go_ret;replace hB:=hB.step (bst (bst (bst (bst (bst (bst (bst (bst (bst (bst (bst (bst (bst (bst (bst (bst (bst (bst (bst (bst (bst (bst (bst (bst (bst (bst (bst (bst (bst (bst (bst (bst (bst (bst (bst (bst (bst (bst (bst (bst (bst (bst (bst cb bu) bk) a7) bb) a5) ax) ar) au) x) y) r) z) ah) af) ai) aj) ag) ak) an) aa) p) n) o) l) f) m) i) d) k) s) ab) ac) ad) u) ae) aq) av) aw) a8) a9) ba) bs) cc);exact⟨rfl,hB⟩
theorem Cn.shp6{w:World}{v:Value}{l:Ls}(h:Cn w v l):∃a n c b k d,v=.agg #[.slice a n c,.slice b k d]:=by
 obtain⟨a0,c0,a1,c1,rfl⟩:=h.shp;exact⟨_,_,_,_,_,_,rfl⟩
theorem PF(w:World)(vl:Value)(l:List Sig)(hl:AD w vl l):Calls Tryz.prog 8 #[vl] w (Av (.bool (FE l)) w):=
 (PE w vl l hl).mono fun e w' h=>⟨h.1,by rw[h.2];exact Ad⟩
theorem M1{m:My}{q:Nat}{ins:List Int}{k:Nat}:CQ m q ins (k+1)=CQ m q ins k++[Bt m (stM m q ins k) (ins.getD k 0).toNat]:=by simp[CQ,List.range_succ]
theorem Tb(w:World)(vm vi:Value)(m:My)(q:Int)(ins:List Int)(hm:BB w vm m)(hi:Ah w vi ins)(hl:ins.length<=1000):
  Calls Tryz.prog 13 #[vm,.int .i64 q,vi] w (IE (Ha m q ins).1 (Ha m q ins).2 w):=by
 have bl:Tryz.prog.follows .mixedOrders=true:=by kernel_rfl
 have ar:Hid (∀W,Below w.heap.size w W->Calls Tryz.prog 19 #[vm] W (Av (.bool (A5 m)) W)):=fun W h=>Hj W _ _ (hm.below h)
 obtain⟨ai,ci,rfl⟩:=hi.shape;obtain⟨bi,oi,di,ni,fi⟩:=hi.data;have ag:=Ab fi;have ab:Hid (¬Ep m q ins=true->Ha m q ins=([],0)):=N7;have af:Hid (Ep m q ins=true->Ha m q ins=(CQ m q.toNat ins ins.length,(stM m q.toNat ins ins.length:Int))):=L6;have ak:Hid (Ep m q ins=(A5 m&&(decide (0<=q)&&decide (q<m.out.length))&&BG ins.length m.ins ins)):=rfl;have o:Hid (Ep m q ins=true↔MyV m/\0<=q/\q<m.out.length/\∀k,k<ins.length->0<=ins.getD k 0/\ins.getD k 0<m.ins):=Ka;obtain⟨v3,v4,rfl,hI,h3,h4⟩:=hm;obtain⟨a3,c3,rfl⟩:=h3.shape;obtain⟨a4,c4,rfl⟩:=h4.shape;obtain⟨b3,o3,d3,m3,f3⟩:=h3.dat2;obtain⟨b4,o4,d4,m4,f4⟩:=h4.dat2;have a8:=Ab f3;have a9:=Ab f4;clear f3 f4 h3 h4 fi hi;generalize hQ:Ha m q ins=Q at*;clear hQ;generalize hK:Ep m q ins=K at*;clear hK
 go_enter Tryz.func13,Tryz.ntmps13
 go_upto_region 1 with(fail)
 obtain⟨hx,-,hB⟩:=Aw (w0:=w) Ad leR #[.int .i64 m.ins,.int .i64 m.outs,.int .i64 m.start,.slice a3 m.out.length c3,.slice a4 m.next.length c4] 25;generalize w.alloc (.cells #[.int .i64 m.ins,.int .i64 m.outs,.int .i64 m.start,.slice a3 m.out.length c3,.slice a4 m.next.length c4] 25)=w1 at*;have k0:=Aa 0 hx;have k1:=Aa 1 hx;have k2:=Aa 2 hx;have k3:=Aa 3 hx;have k4:=Aa 4 hx
 go_wp2_with fail
 refine(ar.out _ hB).mono ?_;rintro e w2 ⟨rfl,hb⟩;replace hx:=B8 hb hx;replace hB:=hB.trans (hb.mono hB.size);clear hb k0 k1 k2 k3 k4;have k0:=Aa 0 hx;have k4:=Aa 4 hx
 cases hv:A5 m with
 |false=>
  have HQ:=Ab (ab.out (by rw[ak.out,hv];simp));clear hv;go_wp2;go_ret2;exact Ek HQ.out hB
 |true=>
 have b:=Ab (Fd.1 hv);have c:=Ab b.out.nl;have HV:=Ab hv;clear hv
 go_wp2_with fail
 refine(DI _ q m.next.length).mono ?_;rintro e w' ⟨rfl,rfl⟩
 by_cases hq:0<=q/\q<(m.next.length:Int)
 case neg=>
  have hd:(decide (0<=q)&&decide (q<(m.next.length:Int)))=false:=by rw[Bool.and_eq_false_iff,decide_eq_false_iff_not,decide_eq_false_iff_not];omega
  have HQ:=Ab (ab.out (by rw[ak.out,<-c.out,hd];simp));rw[hd];clear hd hq;go_wp2;go_ret2;exact Ek HQ.out hB
 have hd:(decide (0<=q)&&decide (q<(m.next.length:Int)))=true:=by simp[hq.1,hq.2]
 rw[hd];clear hd;obtain⟨qn,rfl⟩:∃qn:Nat,q=(qn:Int):=⟨q.toNat,by omega⟩;obtain rfl:=d3 (by have:=c.out;omega);obtain rfl:=d4 (by omega);have HX:=Ab hx;have ao:=Ab hB;have ah:=Ab hq;have bg:Hid (m.ins<=64):=b.out.i2
 have ae:Hid (∀k,k<ins.length->¬(0<=ins.getD k 0/\ins.getD k 0<m.ins)->Q=([],0)):=fun k hk h=>ab.out fun hK=>h ((o.out.1 hK).2.2.2 k hk)
 have l:Hid ((∀k,k<ins.length->0<=ins.getD k 0/\ins.getD k 0<m.ins)->Q=(CQ m qn ins ins.length,(stM m qn ins ins.length:Int))):=fun h=>by
  have:=af.out (o.out.2 ⟨b.out,by omega,by have:=c.out;have:=ah.out;omega,h⟩)
  rwa [Int.toNat_natCast]at this
 clear hx hB hq k0 k4 ab af ak o HV ar hI;generalize hnn:ins.length=n at*
 go_wp2_with fail
 go_loopg [8] n (fun gh i wr=>∃k:Nat,gh=n-k/\i=.int .i64 (k:Int)/\k<=n/\Hid (∀j,j<k->0<=ins.getD j 0/\ins.getD j 0<m.ins)/\Hid (Below w2.heap.size w2 wr))
 case atStart=>exact⟨0,rfl,rfl,by omega,fun j hj=>absurd hj (by omega),Ad⟩
 case round=>
  obtain⟨k,r,rfl,hk,HA,HB⟩:=hrel;have aa:=Ab r;clear r;have a:=Ab (ao.out.trans (HB.out.mono ao.out.size))
  by_cases hlt:k<n
  ·obtain rfl:=di (by omega)
   have be:(0:Int)<=(k:Int):=by omega
   have ac:(k:Int)<(n:Int):=by omega
   have cI:=Ag a.out (ag.out k hlt);have q:=(HB.out.block _ (Array.getElem?_eq_some_iff.1 HX.out).1).trans HX.out;have q0:=Aa 0 q;have a6:=Ab (ae.out k hlt)
   have az:Hid (0<=ins.getD k 0/\ins.getD k 0<m.ins->∀j,j<k+1->0<=ins.getD j 0/\ins.getD j 0<m.ins):=fun h i hi=>by
    rcases Nat.lt_or_ge i k with h1|h1
    ·exact HA.out i h1
    ·obtain rfl:i=k:=by omega
     exact h
   clear q;generalize ins.getD k 0=y at*
   go_upto_region 6 with(fail)
   go_quiet ((go_at_call 46;exact Calls.quiet_of_same ((DI _ _ _).mono fun _ _ h=>⟨h.1,h.2.symm⟩)))
   by_cases h:0<=y/\y<m.ins
   ·have hd:(decide (0<=y)&&decide (y<m.ins))=true:=by simp[h.1,h.2]
    have ay:=Ab (az.out h);rw[hd];clear hd h;go_wp2
    go_roundg (n-(k+1))
    case measure=>have:=aa.out;omega
    case rel=>exact⟨k+1,rfl,by go_num,by omega,ay,HB.out.trans (Aj _ _ _)⟩
   ·have hd:(decide (0<=y)&&decide (y<m.ins))=false:=by rw[Bool.and_eq_false_iff,decide_eq_false_iff_not,decide_eq_false_iff_not];omega
    have HQ:=Ab (a6.out h);rw[hd];clear hd h;go_wp2;go_ret2;exact Ek HQ.out (by repeat(first|exact Ad|assumption|(refine AE ?_ _)|(refine AB ?_ _)|(refine Below.drew ?_)))
  ·have ac:¬(k:Int)<(n:Int):=by omega
   have HQ:=Ab (l.out fun j hj=>HA.out j (by omega))
   have d:Hid (∀j,j<n->0<=ins.getD j 0/\ins.getD j 0<m.ins):=fun j hj=>HA.out j (by omega)
   clear HA ae l aa;obtain⟨w5,rfl⟩:∃x:World,x=wr:=⟨_,rfl⟩
   go_wp2_with fail
   go_loopg [1,10,11] n (fun gh q s i wr=>∃(k t:Nat),gh=n-k/\q=.int .i64 (t:Int)/\i=.int .i64 (k:Int)/\k<=n/\t<m.out.length/\Hid (t=stM m qn ins k)/\Hid (OI wr w5.heap.size s (CQ m qn ins k))/\Hid (Below w5.heap.size w5 wr))
   case atStart=>exact⟨0,qn,rfl,rfl,rfl,by omega,by have:=c.out;have:=ah.out;omega,rfl,Br _ _,Ad⟩
   case round=>
    obtain⟨k,t,r,rfl,rfl,hk,ht,HT,HO,z⟩:=hrel;have aa:=Ab r;clear r hlt ac
    by_cases hlt:k<n
    ·obtain rfl:=di (by omega)
     have be:(0:Int)<=(k:Int):=by omega
     have ac:(k:Int)<(n:Int):=by omega
     have bm:(0:Int)<=(t:Int):=by omega
     have bn:(t:Int)<(m.out.length:Int):=by omega
     have bo:(t:Int)<(m.next.length:Int):=by have:=c.out;omega
     have f:=z;have p:=Ab (a.out.trans (f.out.mono a.out.size));have cI:=Ag p.out (ag.out k hlt);have ad:=d.out k hlt;obtain⟨x,hx⟩:∃x:Nat,ins.getD k 0=(x:Int):=⟨(ins.getD k 0).toNat,by omega⟩;have au:=Ab hx;rw[hx]at cI ad;obtain⟨v1,v2,v3⟩:=b.out.out' ht ad.2;obtain⟨u1,u2,u3⟩:=b.out.nx' ht ad.2;obtain⟨a1,e1,c1,r1⟩:=a8.out t ht;obtain⟨a2,d2,c2,r2⟩:=a9.out t (by omega);obtain⟨p1,y1,z1,-,g1⟩:=r1.data;obtain⟨p2,y2,z2,-,g2⟩:=r2.data;obtain rfl:=z1 (by omega);obtain rfl:=z2 (by omega);replace g1:=Ag p.out (g1 x v1);replace c1:=Ag p.out c1;replace g2:=g2 x u1
     have aj:Hid (∀W,Below w5.heap.size w5 W->W.cell? ⟨w.heap.size,4,none⟩=some (.slice (some ⟨b4,o4,none⟩) m.next.length c4)/\W.cell? ⟨b4,o4+t,none⟩=some (.slice (some ⟨p2,y2,none⟩) (m.next.getD t []).length d2)/\W.cell? ⟨p2,y2+x,none⟩=some (.int .i64 ((m.next.getD t []).getD x 0))/\W.cell? ⟨bi,oi+k,none⟩=some (.int .i64 (x:Int))):=fun W h=>⟨Aa 4 (((HB.out.trans (h.mono HB.out.size)).block _ (Array.getElem?_eq_some_iff.1 HX.out).1).trans HX.out),Ag (a.out.trans (h.mono a.out.size)) c2,Ag (a.out.trans (h.mono a.out.size)) g2,by rw[<-hx];exact Ag (a.out.trans (h.mono a.out.size)) (ag.out k hlt)⟩
     have q3:wr.cell? ⟨w.heap.size,3,none⟩=some (.slice (some ⟨b3,o3,none⟩) m.out.length c3):=Aa 3 (((HB.out.trans (f.out.mono HB.out.size)).block _ (Array.getElem?_eq_some_iff.1 HX.out).1).trans HX.out)
     have bh:(0:Int)<=(x:Int):=by omega
     have bj:(x:Int)<((m.out.getD t []).length:Int):=by omega
     have bk:(x:Int)<((m.next.getD t []).length:Int):=by omega
     have ap:Hid (CQ m qn ins k++[(m.out.getD t []).getD x 0]=CQ m qn ins (k+1)):=by
      show _=_;rw[M1,<-HT.out,au.out];rfl
     have aq:Hid (((m.next.getD t []).getD x 0).toNat=stM m qn ins (k+1)):=by
      show _=(nxI m (stM m qn ins k) (ins.getD k 0).toNat).toNat;rw[<-HT.out,au.out];rfl
     obtain⟨s',am⟩:∃s':Nat,(m.next.getD t []).getD x 0=(s':Int):=⟨((m.next.getD t []).getD x 0).toNat,by have:0<=(m.next.getD t []).getD x 0:=u2;omega⟩
     have bf:s'<m.out.length:=by have:(m.next.getD t []).getD x 0<m.out.length:=u3;omega
     rw[am]at aj;clear g2 c2
     have a7:Hid (s'=stM m qn ins (k+1)):=by
      show _=_;rw[<-aq.out,am];simp
     have HL:=Ab (DF (m:=m) (q:=qn) (ins:=ins) (n:=k));generalize(m.out.getD t []).getD x 0=y at*;generalize(m.out.getD t []).length=l1 at*;generalize(m.next.getD t []).length=l2 at*;clear aq am hx u2 u3 v2 v3 r1 r2 z1 z2 ad;have al:=f.out.size;obtain⟨w7,rfl⟩:∃x:World,x=wr:=⟨_,rfl⟩
     go_upto_region 13 with(fail)
     go_cut [10] (fun v wx=>Hid (OI wx w5.heap.size v (CQ m qn ins (k+1)))/\Hid (Below w5.heap.size w5 wx))
     case first=>
      go_region_law ((rw[if_pos (by rfl)];refine GE w7 _ _ y (by rfl) w5.heap.size _ _ (by rfl) HO.out (by rfl) (by rw[HL.out];omega) al ?_;intro v6 w6 u av ax;have bb:=Ab u;have a0:=Ab (f.out.grown av al (fun g hg=>HO.out.ge g hg));clear u av ax))
      all_goals
       go_wp2_with fail
       go_meet
       case rel=>exact⟨by rw[<-ap.out];exact bb,a0⟩
     case rest=>
      obtain⟨bc,an⟩:=hcut;clear cI q3 g1 c1 HO f z ap al;obtain⟨q4,c2,g2,cI⟩:=aj.out _ an.out
      go_upto_region 14 with(fail)
      go_quiet (fail)
      clear q4 c2 g2 cI aj;go_wp2
      go_roundg (n-(k+1))
      case measure=>have:=aa.out;omega
      case rel=>exact⟨k+1,s',rfl,rfl,by go_num,by omega,bf,a7,bc.out.below (Aj _ _ _),an.out.trans (Aj _ _ _)⟩
    ·have ac:¬(k:Int)<(n:Int):=by omega
     have bd:Hid (Q=(CQ m qn ins n,(t:Int))):=by show _=_;rw[HQ.out,HT.out,show k=n by omega]
     have a5:Hid (Below w.heap.size w wr):=a.out.trans (z.out.mono a.out.size)
     have ba:Hid (Ah wr u10 (CQ m qn ins n)):=by
      show Ah _ _ _;have h1:=HO.out;rw[show k=n by omega]at h1
      refine h1.is (by rw[DF];unfold Bg;omega) fun y hy=> ?_
      obtain⟨j,hj,rfl⟩:=List.mem_iff_getElem.1 hy
      have aw:j<n:=by rw[DF]at hj;exact hj
      rw[<-Ae _ 0 j hj,Ja aw];have hq:=b.out.st (q:=qn) (ins:=ins) (by have:=c.out;have:=ah.out;omega) (fun k hk=>d.out k (by omega)) j (by omega);have hx:=d.out j aw;have h3:=b.out.out' hq (x:=(ins.getD j 0).toNat) (by omega);have h4:=b.out.o2
      constructor<;>omega
     clear HO HT HQ z;go_wp2;go_ret2;exact JK bd.out ba.out a5.out
end Go.Proofs.YtncjeamdkjcebaaGreatDoor
