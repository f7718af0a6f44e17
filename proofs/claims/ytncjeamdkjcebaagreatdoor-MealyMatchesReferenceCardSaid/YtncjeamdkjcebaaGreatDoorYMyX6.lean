/- What the closure in mealy.ExtractEnv compute. -/
import Derived.Test.YtncjeamdkjcebaaGreatDoorYMyZ2
set_option linter.all false
set_option maxHeartbeats 8000000
set_option maxRecDepth 100000
namespace Go.Proofs.YtncjeamdkjcebaaGreatDoor
open Go.RowKit
structure EK(w0:World)(pr:Nat)(ci co:Int)(ins:Nat->Int)(k:Nat)(v3:Value)(H:Nat->Prop)(W:World):Prop where
 hH:∀q,H q↔(q=pr\/v3.ownBlock=some q)
 on:Af (fun q=>w0.heap.size<=q\/q=pr) w0 W
 box:W.heap[pr]? =some (.cells #[.int .i64 ci,.int .i64 co,.int .i64 0,v3,.slice none 0 0] 28 (0,0))
 own:OI W w0.heap.size v3 ((List.range k).map ins)
 pz:pr<w0.heap.size
def EJ(w0:World)(pr:Nat)(ci co:Int)(ins:Nat->Int)(k:Nat)(H:Nat->Prop)(W:World):Prop:=∃v3,EK w0 pr ci co ins k v3 H W
section
variable {w0 W W' W2:World} {pr k:Nat} {ci co:Int} {ins:Nat->Int} {H:Nat->Prop} {v3 v':Value}
theorem EK.lt(h:EK w0 pr ci co ins k v3 H W):∀q,H q->q<W.heap.size:=fun q e=>by
 rcases(h.hH q).1 e with e|e
 ·rw[e];exact Nat.lt_of_lt_of_le h.pz h.on.size
 ·exact h.own.lt' q e
theorem EK.keep(h:EK w0 pr ci co ins k v3 H W)(ho:Af (fun q=>w0.heap.size<=q/\¬H q) W W'):EK w0 pr ci co ins k v3 H W':=by
 have hn:∀q,H q->¬(w0.heap.size<=q/\¬H q):=fun q e k=>k.2 e
 exact⟨h.hH,h.on.trans (ho.mono fun q _ e=>.inl e.1),(ho.block _ (Nat.lt_of_lt_of_le h.pz h.on.size) (hn _ ((h.hH _).2 (.inl rfl)))).trans h.box,h.own.only ho fun q e=>hn q ((h.hH q).2 (.inr e)),h.pz⟩
theorem EK.start(h:W.heap[pr]? =some (.cells #[.int .i64 ci,.int .i64 co,.int .i64 0,.slice none 0 0,.slice none 0 0] 28 (0,0))):EJ W pr ci co ins 0 (fun q=>q=pr) W:=
 ⟨.slice none 0 0,fun q=>by simp[Value.ownBlock],Af.refl _ _,h,Br _ _,(ltE h)⟩
theorem EK.push(h:EK w0 pr ci co ins k v3 H W)(ho:OI W' w0.heap.size v' ((List.range k).map ins++[ins k]))(hg:W.grownBy W' v3.ownBlock)(hm:AS W v3 v'):
  (W'.heap[pr]? =some (.cells #[.int .i64 ci,.int .i64 co,.int .i64 0,v3,.slice none 0 0] 28 (0,0)))/\∃H',EJ w0 pr ci co ins (k+1) H' (W'.setCell ⟨pr,3,none⟩ v')/\Af H W (W'.setCell ⟨pr,3,none⟩ v')/\∀q,H' q->H q\/W.heap.size<=q:=by
 have hz:=Nat.lt_of_lt_of_le h.pz h.on.size;have d:=h.pz
 have b:v3.ownBlock≠some pr:=fun e=>by have:=h.own.ge pr e;omega
 have o1:Af (fun q=>v3.ownBlock=some q) W W':=Af.of_grown hg;have a:W'.heap[pr]? =some (.cells #[.int .i64 ci,.int .i64 co,.int .i64 0,v3,.slice none 0 0] 28 (0,0)):=(o1.block pr hz b).trans h.box;have oP:Af (fun q=>q=pr) W' (W'.setCell ⟨pr,3,none⟩ v'):=Af.set _ _ _ rfl
 have c:v'.ownBlock≠some pr:=fun e=>by
  rcases hm pr e with k|k
  ·exact b k
  ·omega
 have o3:Af H W (W'.setCell ⟨pr,3,none⟩ v'):=(o1.mono fun q _ e=>(h.hH q).2 (.inr e)).trans (oP.mono fun q _ e=>(h.hH q).2 (.inl e));refine⟨a,fun q=>q=pr\/v'.ownBlock=some q,⟨v',fun _=>Iff.rfl, ?_,heap_setCell_same _ _ 3 _ _ _ a, ?_,h.pz⟩,o3,fun q e=> ?_⟩
 ·refine h.on.trans (o3.mono fun q _ e=> ?_)
  rcases(h.hH q).1 e with e|e
  ·exact .inr e
  ·exact .inl (h.own.ge q e)
 ·rw[List.range_succ,List.map_append]
  exact ho.only oP fun q e k=>c (k▸e)
 ·rcases e with e|e
  ·exact .inl ((h.hH q).2 (.inl e))
  ·exact(hm q e).imp (fun k=>(h.hH q).2 (.inr k)) id
end
theorem SV(W w0:World)(pq pp pz pr:Nat)(a:Au)(d:List UE)(f:List Int)(l:List Sig)(ci co:Int)(c t q i k:Nat)(ins:Nat->Int)(H:Nat->Prop)(ap:Option Addr)(cp:Nat)
  (hq:W.heap[pq]? =some (.cells #[.slice ap d.length cp] 66 (0,0))) (az:CA W (.slice ap d.length cp) d) (ax:W.heap[pp]? =some (.cells #[.pointer (some ⟨pz,0,none⟩)] 115 (0,0)))
  (s:∀W',Af (fun q=>w0.heap.size<=q\/q=pr) w0 W'->Ew W' pz a d d f l/\W'.heap[pp]? =some (.cells #[.pointer (some ⟨pz,0,none⟩)] 115 (0,0))) (hj:EJ w0 pr ci co ins k H W)
  (bd:c<d.length) (bo:f.length=d.length) (a0:(d.getD c pl0).st=(q:Int)) (ht:f.getD c 0=(t:Int)) (bf:t<d.length) (a3:(d.getD t pl0).st=(q:Int)) (a2:(d.getD t pl0).pr=-1) (a1:(d.getD t pl0).inn=(i:Int)) (be:(i:Int)<ci)
  (a4:AC a=true) (ay:q<a.next.length) (hi:i<(Ap l).length) (ar:((Ap l).getD i []).length<=64) (hx:∀j,j<((Ap l).getD i []).length->0<=((Ap l).getD i []).getD j 0/\((Ap l).getD i []).getD j 0<a.letters)
  (hm:∀j,j<((Ap l).getD i []).length->plA a q (((Ap l).getD i []).getD j 0)∈d) (z:ins k=(i:Int)) (hk:k<4000):
  Calls Tryz.prog 83 #[.int .i64 (c:Int),.pointer (some ⟨pq,0,none⟩),.pointer (some ⟨pp,0,none⟩),.pointer (some ⟨pr,0,none⟩)] W (Kn (((Ap l).getD i []).map fun x=>((d.idxOf (plA a q x):Nat):Int)) (EJ w0 pr ci co ins (k+1)) H W):=by
 obtain⟨v3,hJ⟩:=hj;have au:=(s W hJ.on).1
 have ai:Hid (Calls Tryz.prog 84 #[.pointer (some ⟨pz,0,none⟩),.int .i64 (c:Int)] W (fun e W9=>e=.returned (.tuple #[.agg #[.int .i64 (q:Int),.int .i64 (i:Int),.int .i64 (-1)],.bool true])/\Below W.heap.size W W9)):=by
  have h1:=Lk W pz a d d f l c t au (by omega) ht bf;rw[show plV (d.getD t pl0)=.agg #[.int .i64 (q:Int),.int .i64 (i:Int),.int .i64 (-1)]by show Value.agg #[.int .i64 (d.getD t pl0).st,.int .i64 (d.getD t pl0).inn,.int .i64 (d.getD t pl0).pr]=_;rw[a3,a2,a1]]at h1;exact h1
 have ah:Hid (∀W',Af (fun q=>w0.heap.size<=q\/q=pr) w0 W'->Calls Tryz.prog 85 #[.pointer (some ⟨pz,0,none⟩),.int .i64 (q:Int),.int .i64 (i:Int)] W' (SH (((Ap l).getD i []).map fun x=>((d.idxOf (plA a q x):Nat):Int)) W')):=fun W' ho=>RJ W' pz a d f l q i (s W' ho).1 a4 ay hi ar hx hm
 have an:Hid (∀W',Af (fun q=>w0.heap.size<=q\/q=pr) w0 W'->W'.heap[pp]? =some (.cells #[.pointer (some ⟨pz,0,none⟩)] 115 (0,0))):=fun W' ho=>(s W' ho).2
 obtain⟨b,o,ad,-,hd⟩:=az.dat3;obtain rfl:=ad (by omega);obtain⟨e0,-,-,-⟩:=hd c bd;rw[a0]at e0;have z0:=Aa 0 hq;have zp:=Aa 0 ax;have HJ:=Ab hJ;have ak:=Ab z
 have bm:(0:Int)<=(c:Int):=by omega
 have bn:(c:Int)<(d.length:Int):=by omega
 have t2:decide ((i:Int)<0)=false:=by simp
 have t3:decide (ci<=(i:Int))=false:=by simp;omega
 clear hq az ax s hJ au hd a0 ht a3 a2 a1 a4 ay hi ar hx hm z ad be;generalize(((Ap l).getD i []).map fun x=>((d.idxOf (plA a q x):Nat):Int))=TT at*
 go_enter Tryz.func83,Tryz.ntmps83
 go_wp2_with fail
 refine ai.out.mono ?_;rintro e w1 ⟨rfl,u⟩
 go_upto_region 3 with(fail)
 obtain⟨p,av,-⟩:=Aw (w0:=w1) (B:=w1.heap.size) Ad leR #[.int .i64 (q:Int),.int .i64 (i:Int),.int .i64 (-1)] 108;generalize w1.alloc (.cells #[.int .i64 (q:Int),.int .i64 (i:Int),.int .i64 (-1)] 108)=w2 at*;have ab:Below W.heap.size W w2:=u.trans (av.mono u.size);have m:=HJ.out.keep (Af.of_below ab);have al:=Ab m;have a6:=Ab ab;have y0:=Aa 0 p;have y1:=Aa 1 p;have y2:=Aa 2 p;have r0:=Aa 0 m.box;have r3:=Aa 3 m.box;have bb:=Ab p;have bh:w1.heap.size<w2.heap.size:=(ltE p);have bp:W.heap.size<=w1.heap.size:=u.size;obtain⟨a7,c7,rfl⟩:=m.own.slice' (n:=k) (by simp);have bc:w0.heap.size<=w2.heap.size:=m.on.size;clear u av p ab m ai z0 zp e0;generalize w1.heap.size=zs at*
 go_upto_region 6 with(at_builtin;refine C8 rfl _ _ (i:Int) rfl w0.heap.size (.slice a7 k c7) ((List.range k).map ins) al.out.own rfl _ (by simp) rfl (by simp;omega) bc ?_;intro v' w8 af ae aw;obtain⟨a8,c8,bg⟩:=af.slice' (n:=k+1) (by simp);subst bg;have r:=Ab (al.out.push (by rw[ak.out];exact af) ae aw);have z9:=Aa 3 r.out.1;have f9:=At 3 r.out.1;have aj:Hid (w8.heap[zs]? =w2.heap[zs]?):=ae.block zs bh (fun e=>by have:=HJ.out.own.lt' zs e.symm;omega);clear af ae aw)
 obtain⟨-,H',q1,q2,q3⟩:=r.out;have bj:pr<W.heap.size:=(Array.getElem?_eq_some_iff.1 HJ.out.box).1;have a5:(w8.setCell ⟨pr,3,none⟩ (.slice a8 (k+1) c8)).heap[zs]? =some (.cells #[.int .i64 (q:Int),.int .i64 (i:Int),.int .i64 (-1)] 108 (0,0)):=(heap_setCell_other _ _ _ _ (by simp;omega)).trans (aj.out.trans bb.out);have ao:=Ab q1;have aq:=Ab q2;have ba:=Ab q3;clear r q1 q2 q3 z9 f9 y0 y1 y2 r0 r3 aj;generalize w8.setCell ⟨pr,3,none⟩ (.slice a8 (k+1) c8)=w9 at*;obtain⟨v9,aa⟩:=ao.out;have ag:=aa.on;have y1:=Aa 1 a5;have zp:=Aa 0 (an.out w9 ag);have am:=Ab aa;have y:=Ab (ah.out w9 ag);clear aa ag a5 ao ah an
 go_wp2_with fail
 refine y.out.mono ?_;rintro e bi ⟨v,rfl,w,ac⟩;obtain⟨aV,cV,rfl⟩:=w.slice
 have bl:W.heap.size<=w2.heap.size:=by omega
 have bk:=aq.out.size
 have a9:Hid (Kn TT (EJ w0 pr ci co ins (k+1)) H W (.returned (.tuple #[.slice aV TT.length cV,.bool true])) bi):=by
  refine⟨_,H',rfl,w.base (by omega),fun q e1 e2=> ?_,⟨v9,am.out.keep (Af.of_below ac)⟩, ?_,fun q e=> ?_⟩
  ·have h1:=w.ge q e1;have h2:=am.out.lt q e2;omega
  ·exact((Af.of_below a6.out).trans aq.out).trans (Af.of_below ac)
  ·exact(ba.out q e).imp id fun h=>by omega
 clear w ac y;go_wp2;go_ret2;exact a9.out
def Rl(a:Au)(pls:List UE)(says:List Int)(l:List Sig)(c q t i:Nat):Prop:=
 c<pls.length/\(pls.getD c pl0).st=(q:Int)/\says.getD c 0=(t:Int)/\t<pls.length/\(pls.getD t pl0).st=(q:Int)/\(pls.getD t pl0).pr=-1/\(pls.getD t pl0).inn=(i:Int)/\i<(Al l).toNat/\q<a.next.length/\
  ∀j,j<((Ap l).getD i []).length->plA a q (((Ap l).getD i []).getD j 0)∈pls
def Ps(m:Mo)(k:Int)(w:World)(e:Ending)(w':World):Prop:=∃v,e=.returned (.tuple #[v,.int .i64 k])/\Dy w' v m/\Below w.heap.size w w'
theorem Qh{w W:World}{n:Nat}{m:Mo}{x0 x1 x2 x3 x4 y:Value}{k:Int}(hb:Below w.heap.size w W)(hn:w.heap.size<=n)(hy:∀W',Af (fun q=>q=n) W W'->Dy W' y m):
  Ps m k w (.returned (.tuple #[y,.int .i64 k])) (((((W.setCell ⟨n,0,none⟩ x0).setCell ⟨n,1,none⟩ x1).setCell ⟨n,2,none⟩ x2).setCell ⟨n,3,none⟩ x3).setCell ⟨n,4,none⟩ x4):=
 ⟨y,rfl,hy _ (FN _ _ _ _ _ _),hb.trans ((FN _ _ _ _ _ _).below w.heap.size (fun q e=>by omega) hb.size)⟩
theorem Ki(w:World)(vl va vp vs:Value)(l:List Sig)(a:Au)(f:List UE)(z:List Int)(hK:B7 w)(hl:AD w vl l)(ha:Cw w va a)(hp:CA w vp f)(hs:Ah w vs z)
  (av:As l=true) (au:AC a=true) (bc:a.letters=Ay l) (cj:f.length<=2900) (be:z.length=f.length) (bw:f.Nodup)
  (nx:Int->Nat->Int) (ins:Nat->Int) (K:Nat) (ao:Kj nx 0 0 (Ai l).toNat K) (cx:K<=2900) (h0:(f.getD 0 pl0).inn=-1/\0<=(f.getD 0 pl0).st/\(f.getD 0 pl0).st<a.next.length) (cg:0<f.length)
  (bf:∀k,k<=K->∀x∈UH nx 0 0 (Ai l).toNat k,0<=x/\x<f.length)
  (aq:∀k,k<K->∃q t i:Nat,Rl a f z l (gP nx 0 0 (Ai l).toNat k).toNat q t i/\ins k=(i:Int)/\(((Ap l).getD i []).map fun x=>((f.idxOf (plA a q x):Nat):Int))=(List.range (Ai l).toNat).map (nx (gP nx 0 0 (Ai l).toNat k))):
  Calls Tryz.prog 39 #[vl,va,vp,vs] w (Ps ⟨Al l,Ai l,0,(List.range K).map ins,UG nx 0 0 (Ai l).toNat K⟩ 0 w):=by
 have c1:Tryz.prog.follows .mixedOrders=true:=by kernel_rfl
 have bl:Hid (∀W,Below w.heap.size w W->Calls Tryz.prog 77 #[vl,va,vp,vs] W (It a f z l W)):=fun W h=>JV W _ _ _ _ l a f z (hK.below h) (hl.below h) (ha.below h) (hp.below h) (hs.below h) av au bc cj be bw
 have bj:Hid (∀W,Below w.heap.size w W->Calls Tryz.prog 78 #[vl] W (Av (.int .i64 (Al l)) W)):=fun W h=>Eb W _ _ (hK.below h) (hl.below h)
 have bb:Hid (∀W,Below w.heap.size w W->Calls Tryz.prog 79 #[vl] W (Av (.int .i64 (Ai l)) W)):=fun W h=>Dg W _ _ (hK.below h) (hl.below h)
 obtain⟨⟨cy,cz⟩,⟨c6,c8⟩⟩:=Dv av;obtain⟨n,hn⟩:∃n:Nat,Ai l=(n:Int):=⟨(Ai l).toNat,by omega⟩
 have bx:(Ai l).toNat=n:=by omega
 have c5:a.next.length<=3000:=by
  simp only[AC,Bool.and_eq_true,decide_eq_true_eq]at au;exact au.1.1.1.2.2
 have c0:Al l<=64:=by omega
 rw[bx]at ao bf aq⊢
 have ak:Hid (∀k,k<K->∃q t i:Nat,Rl a f z l (gP nx 0 0 n k).toNat q t i/\ins k=(i:Int)/\(((Ap l).getD i []).map fun x=>((f.idxOf (plA a q x):Nat):Int))=(List.range n).map (nx (gP nx 0 0 n k))/\(i:Int)<Al l/\i<(Ap l).length/\((Ap l).getD i []).length<=64/\∀j,j<((Ap l).getD i []).length->0<=((Ap l).getD i []).getD j 0/\((Ap l).getD i []).getD j 0<a.letters):=fun k hk=>by
  obtain⟨q,t,i,h1,h2,h3⟩:=aq k hk;have hi:i<(Al l).toNat:=h1.2.2.2.2.2.2.2.1;obtain⟨j1,j2,j3⟩:=IZ (l:=l) hi;refine⟨q,t,i,h1,h2,h3,by omega,j1,by rw[j2];omega,fun j hj=> ?_⟩;rw[j2]at hj;rw[j3 j hj,bc];obtain⟨⟨a1,a2⟩,-⟩:=DP av (i:=(i:Int)) (o:=(j:Int)) (by omega) (by omega) (by omega) (by omega);exact⟨a1,a2⟩
 have b5:=Ab au;rw[hn]at bb⊢;generalize hci:Al l=ci at*;obtain⟨ap,cp,rfl⟩:=hp.shape;have HP:=Ab hp;have b3:=Ab be;obtain⟨v2,v3,rfl,⟨cv,cw⟩,h2,h3⟩:=ha;obtain⟨sa,sc,rfl⟩:=hl.shape;obtain⟨a2,c2,rfl⟩:=h2.shape;obtain⟨a3,c3,rfl⟩:=h3.shape;have bi:=Ab ao;have bm:=Ab bf
 have cr:n<=64:=by omega
 have c4:0<n:=by omega
 have H0:=Ab h0;clear hl hp hs hK h2 h3 av au bc bw be aq ao bf hn bx h0 hci
 go_enter Tryz.func39,Tryz.ntmps39
 go_upto_region 1 with(fail)
 obtain⟨aa,-,bo⟩:=Aw (w0:=w) Ad leR #[.int .i64 a.letters,.int .i64 a.start,.slice a2 a.next.length c2,.slice a3 a.prio.length c3] 63
 have bg:(w.alloc (.cells #[.int .i64 a.letters,.int .i64 a.start,.slice a2 a.next.length c2,.slice a3 a.prio.length c3] 63)).heap.size=w.heap.size+1:=by simp
 generalize w.alloc (.cells #[.int .i64 a.letters,.int .i64 a.start,.slice a2 a.next.length c2,.slice a3 a.prio.length c3] 63)=w1 at*;obtain⟨p,-,bq⟩:=Aw (w0:=w) bo (by omega) #[.slice ap f.length cp] 66
 have bh:(w1.alloc (.cells #[.slice ap f.length cp] 66)).heap.size=w.heap.size+1+1:=by simp[bg]
 have a4:=(Dm w1 (.cells #[.slice ap f.length cp] 66) (r:=w.heap.size) (by omega)).trans aa;generalize w1.alloc (.cells #[.slice ap f.length cp] 66)=aw at*;obtain⟨u,-,m⟩:=Aw (w0:=w) bq (by omega) #[.int .i64 0,.int .i64 0,.int .i64 0,.slice none 0 0,.slice none 0 0] 28
 have cq:(aw.alloc (.cells #[.int .i64 0,.int .i64 0,.int .i64 0,.slice none 0 0,.slice none 0 0] 28)).heap.size=w.heap.size+1+1+1:=by simp[bh]
 have aa:=(Dm aw (.cells #[.int .i64 0,.int .i64 0,.int .i64 0,.slice none 0 0,.slice none 0 0] 28) (r:=w.heap.size) (by omega)).trans a4;have p:=(Dm aw (.cells #[.int .i64 0,.int .i64 0,.int .i64 0,.slice none 0 0,.slice none 0 0] 28) (r:=w1.heap.size) (by omega)).trans p;generalize aw.alloc (.cells #[.int .i64 0,.int .i64 0,.int .i64 0,.slice none 0 0,.slice none 0 0] 28)=w2 at*;rw[bg]at p;rw[bh]at u;clear bo bq bg bh a4;have l0:=Aa 0 p;have k0:=Aa 0 aa;have k1:=Aa 1 aa;have k2:=Aa 2 aa;have k3:=Aa 3 aa
 go_wp2_with fail
 refine(bl.out _ m).mono ?_;rintro e w3 ⟨pz,rfl,c9,bs,hb⟩;replace aa:=(hb.block _ (by omega)).trans aa;replace p:=(hb.block _ (by omega)).trans p;replace u:=(hb.block _ (by omega)).trans u;replace m:=m.trans (hb.mono m.size)
 have co:w.heap.size+1+1+1<=w3.heap.size:=by have:=hb.size;omega
 have ac:=Ab bs;clear hb cq k0 k1 k2 k3 l0 bs
 go_upto_region 2 with(fail)
 obtain⟨ab,ah,-⟩:=Aw (w0:=w3) (B:=w3.heap.size) Ad leR #[.pointer (some ⟨pz,0,none⟩)] 115
 have cm:(w3.alloc (.cells #[.pointer (some ⟨pz,0,none⟩)] 115)).heap.size=w3.heap.size+1:=by simp
 generalize w3.alloc (.cells #[.pointer (some ⟨pz,0,none⟩)] 115)=w4 at*;replace aa:=(ah.block _ (by omega)).trans aa;replace p:=(ah.block _ (by omega)).trans p;replace u:=(ah.block _ (by omega)).trans u;replace m:=m.trans (ah.mono m.size);replace ac:=Ab (ac.out.below ah)
 have ar:w3.heap.size<w4.heap.size:=by omega
 have cs:w.heap.size+1+1+1<=w3.heap.size:=co;generalize w3.heap.size=pp at*;clear ah cm;have l0:=Aa 0 p;have k2:=Aa 2 aa;obtain⟨bp,op,ad,-,hd⟩:=(HP.out.below m).dat3;obtain rfl:=ad (by omega);obtain⟨d0,d1,-,-⟩:=hd 0 cg;rw[H0.out.1]at d1;rw[Nat.zero_mul,Nat.add_zero]at d0 d1;have ck:=H0.out.2.1;have cl:=H0.out.2.2
 have t0:((f.length:Int)==0)=false:=by rw[beq_eq_false_iff_ne];omega
 have ch:(0:Int)<(f.length:Int):=by omega
 have t1:decide ((f.getD 0 pl0).st<0)=false:=decide_eq_false (by omega);have t2:decide ((a.next.length:Int)<=(f.getD 0 pl0).st)=false:=decide_eq_false (by omega);clear ad hd;generalize(f.getD 0 pl0).st=db at*
 go_upto_region 2 with(fail)
 go_quiet (fail)
 have a5:(w4.drewN nq).heap[w.heap.size+1]? =some (.cells #[.slice (some ⟨bp,op,none⟩) f.length cp] 66 (0,0)):=p;have a6:(w4.drewN nq).heap[w.heap.size+1+1]? =some (.cells #[.int .i64 0,.int .i64 0,.int .i64 0,.slice none 0 0,.slice none 0 0] 28 (0,0)):=u;have a8:(w4.drewN nq).heap[pp]? =some (.cells #[.pointer (some ⟨pz,0,none⟩)] 115 (0,0)):=ab;have ay:Below w.heap.size w (w4.drewN nq):=m.trans (Aj _ _ _);have az:=ac.out.below (Aj w4 w4.heap.size nq);have a0:pp<(w4.drewN nq).heap.size:=ar;clear aa p u ab m ac ar d0 d1 t0 t1 t2 k2 l0 ck cl ch;generalize w4.drewN nq=dd at*;have p:=a5;have u:=a6;have ab:=a8;have m:=ay;have ar:=a0;have ac:=Ab az;clear a5 a6 a8 ay a0 az
 go_wp2_with fail
 refine(bj.out _ m).mono ?_;rintro e w5 ⟨rfl,hb⟩;replace p:=(hb.block _ (by omega)).trans p;replace u:=(hb.block _ (by omega)).trans u;replace ab:=(hb.block _ (by omega)).trans ab;replace m:=m.trans (hb.mono m.size);replace ac:=Ab (ac.out.below hb)
 replace ar:pp<w5.heap.size:=by have:=hb.size;omega
 clear hb
 go_wp2_with fail
 refine(bb.out _ m).mono ?_;rintro e w6 ⟨rfl,hb⟩;replace p:=(hb.block _ (by omega)).trans p;replace u:=(hb.block _ (by omega)).trans u;replace ab:=(hb.block _ (by omega)).trans ab;replace m:=m.trans (hb.mono m.size);replace ac:=Ab (ac.out.below hb)
 replace ar:pp<w6.heap.size:=by have:=hb.size;omega
 clear hb
 go_upto_region 5 with(fail)
 obtain⟨b0,ai,-⟩:=Aw (w0:=w6) (B:=w6.heap.size) Ad leR #[.int .i64 ci,.int .i64 (n:Int),.int .i64 0,.slice none 0 0,.slice none 0 0] 28
 have da:(w6.alloc (.cells #[.int .i64 ci,.int .i64 (n:Int),.int .i64 0,.slice none 0 0,.slice none 0 0] 28)).heap.size=w6.heap.size+1:=by simp
 generalize w6.alloc (.cells #[.int .i64 ci,.int .i64 (n:Int),.int .i64 0,.slice none 0 0,.slice none 0 0] 28)=w9 at*;replace p:=(ai.block _ (by omega)).trans p;replace u:=(ai.block _ (by omega)).trans u;replace ab:=(ai.block _ (by omega)).trans ab;have ax:=Ab m;replace m:=m.trans (ai.mono m.size);have bz:w.heap.size<=w6.heap.size:=ax.out.size
 have al:Hid (∀W,Af (fun q=>w9.heap.size<=q\/q=w6.heap.size) w9 W->Ew W pz a f f z l/\CA W (.slice (some ⟨bp,op,none⟩) f.length cp) f):=fun W ho=>by
  have bv:Below w6.heap.size w6 W:=ai.trans (ho.below _ (fun q e=>by omega) (by omega));exact⟨ac.out.below bv,HP.out.below (ax.out.trans (bv.mono bz))⟩
 clear ai;generalize w6.heap.size=pr at*;have b6:=Ab p;have b7:=Ab u;have b8:=Ab ab;have b9:=Ab b0;have a9:=Ab m
 have ag:Hid (∀W,Af (fun q=>w9.heap.size<=q\/q=pr) w9 W->W.heap[pp]? =some (.cells #[.pointer (some ⟨pz,0,none⟩)] 115 (0,0))/\W.heap[w.heap.size+1]? =some (.cells #[.slice (some ⟨bp,op,none⟩) f.length cp] 66 (0,0))):=fun W ho=>⟨(ho.block pp (by omega) (by omega)).trans b8.out,(ho.block _ (by omega) (by omega)).trans b6.out⟩
 have br:F3 w9.heap.size 83 #[.pointer (some ⟨w.heap.size+1,0,none⟩),.pointer (some ⟨pp,0,none⟩),.pointer (some ⟨pr,0,none⟩)] n K (gP nx 0 0 n) nx (EJ w9 pr ci (n:Int) ins):=by
  refine⟨fun k H W ⟨v3,h⟩=>h.lt,fun k H W W' ⟨v3,h⟩ ho=>⟨v3,h.keep ho⟩,fun k H W hj hBW hk=> ?_⟩
  have ho:Af (fun q=>w9.heap.size<=q\/q=pr) w9 W:=by obtain⟨v3,h⟩:=hj;exact h.on
  obtain⟨q,t,i,⟨e1,e2,e3,e4,e5,e6,e7,e8,e9,cf⟩,g1,g2,g3,g4,g5,g6⟩:=ak.out k hk;have hx:=bm.out k (by omega) (gP nx 0 0 n k) (by unfold gP;rw[Ae _ _ _ (bi.out.2 k hk)];exact List.getElem_mem _);have h1:=SV W w9 (w.heap.size+1) pp pz pr a f z l ci (n:Int) (gP nx 0 0 n k).toNat t q i k ins H (some ⟨bp,op,none⟩) cp (ag.out W ho).2 (al.out W ho).2 (ag.out W ho).1 (fun W' ho'=>⟨(al.out W' ho').1,(ag.out W' ho').1⟩) hj e1 b3.out e2 e3 e4 e5 e6 e7 g3 b5.out e9 g4 g5 g6 cf g1 (by omega);rw[show(((gP nx 0 0 n k).toNat:Nat):Int)=gP nx 0 0 n k by omega,g2]at h1;exact h1
 have bu:∀k,k<=K->∀x∈UH nx 0 0 n k,I64 x:=fun k hk x hx=>by
  have h1:=bm.out k hk x hx;unfold I64;omega
 have b4:Hid (Calls Tryz.prog 82 #[.int .i64 0,.int .i64 3000,.func (.func 83) #[] #[.pointer (some ⟨w.heap.size+1,0,none⟩),.pointer (some ⟨pp,0,none⟩),.pointer (some ⟨pr,0,none⟩)]] w9 (GK w9.heap.size (EJ w9 pr ci (n:Int) ins K) (UG nx 0 0 n K))):=
  Kb w9 83 _ (enters_of Tryz.func83 (by kernel_rfl) rfl) nx 0 n K 3000 _ _ br bi.out (by omega) (by omega) (by omega) bu (EK.start b9.out)
 have bk:Hid (∀k,k<K->I64 (ins k)):=fun k hk=>by
  obtain⟨q,t,i,-,g1,-,g3,-⟩:=ak.out k hk;rw[g1];unfold I64;omega
 clear br bu al ag ak bl bj bb
 go_wp2_with fail
 refine b4.out.mono ?_;rintro e af ⟨vS,vT,H,rfl,⟨v3,ae⟩,cu,hT⟩;have ba:=Ab ae;have HT:=Ab hT;have z4:=Aa 4 ae.box;have zf:=At 4 ae.box;obtain⟨aT,cT,cn⟩:=(hT af (Af.refl _ _)).shape;obtain⟨a7,c7,e7⟩:=ae.own.slice' (n:=K) (by simp);subst cn e7;have bd:(UG nx 0 0 n K).length=K:=Ez;rw[bd];have aj:=heap_setCell_same _ _ 4 _ _ (.slice aT K cT) ae.box;have am:Below w.heap.size w af:=a9.out.trans (ae.on.below _ (fun q e=>by have:=a9.out.size;omega) a9.out.size);have ct:=ae.pz;have s:(af.setCell ⟨pr,4,none⟩ (.slice aT K cT)).heap[w.heap.size+1+1]? =some (.cells #[.int .i64 0,.int .i64 0,.int .i64 0,.slice none 0 0,.slice none 0 0] 28 (0,0)):=(heap_setCell_other _ _ _ _ (by simp;omega)).trans ((ae.on.block _ (by omega) (by omega)).trans b7.out);have bn:=Ab s;have b1:Hid (Below w.heap.size w (af.setCell ⟨pr,4,none⟩ (.slice aT K cT))):=am.trans ((Af.set (S:=fun q=>q=pr) pr 4 _ rfl).below _ (fun q e=>by omega) am.size)
 have b2:Hid (∀W',Af (fun q=>q=w.heap.size+1+1) (af.setCell ⟨pr,4,none⟩ (.slice aT K cT)) W'->Dy W' (.agg #[.int .i64 ci,.int .i64 (n:Int),.int .i64 0,.slice a7 K c7,.slice aT K cT]) ⟨ci,(n:Int),0,(List.range K).map ins,UG nx 0 0 n K⟩):=fun W' hW=>by
  have h1:Af (fun q=>q=pr\/q<w9.heap.size) af W':=((Af.set (S:=fun q=>q=pr\/q<w9.heap.size) pr 4 (.slice aT K cT) (.inl rfl))).trans (hW.mono fun q _ e=>.inr (by omega));refine⟨_,_,rfl,⟨by show I64 ci;unfold I64;omega,by show I64 (n:Int);unfold I64;omega,by show I64 0;unfold I64;omega⟩, ?_, ?_⟩
  ·refine(ba.out.own.only h1 fun q e k=>by have:=ba.out.own.ge q e;omega).is (by simp;unfold Bg;omega) fun x hx=> ?_
   obtain⟨y,hy,rfl⟩:=List.mem_map.1 hx;exact bk.out y (List.mem_range.1 hy)
  ·have h3:=HT.out W' (h1.mono fun q _ e=> ?_)
   ·rwa [bd]at h3
   rcases e with e|e
   ·exact .inr ((ba.out.hH q).2 (.inl e))
   ·exact .inl e
 have q0:=Aa 0 s;have q1:=Aa 1 s;have q2:=Aa 2 s;have q3:=Aa 3 s;have q4:=Aa 4 s;have f0:=At 0 s;have f1:=At 1 s;have f2:=At 2 s;have f3:=At 3 s;have f4:=At 4 s;have r0:=Aa 0 aj;have r1:=Aa 1 aj;have r2:=Aa 2 aj;have r3:=Aa 3 aj;have r4:=Aa 4 aj;clear ae hT aj s am bd p u ab b0 m
 go_upto_region 9 with(fail)
 clear z4 zf;generalize af.setCell ⟨pr,4,none⟩ (.slice aT K cT)=dc at*;go_wp2;have an:=C4 (a:=.int .i64 ci) (b:=.int .i64 (n:Int)) (c:=.int .i64 0) (d:=.slice a7 K c7) (e:=.slice aT K cT) bn.out;have ca:=Aa 0 an;have cb:=Aa 1 an;have cc:=Aa 2 an;have cd:=Aa 3 an;have ce:=Aa 4 an;refine bodyPost_ret (v:=.tuple #[.agg #[.int .i64 ci,.int .i64 (n:Int),.int .i64 0,.slice a7 K c7,.slice aT K cT],.int .i64 0]) (by simp[results,Tryz.results39,go_sem,ca,cb,cc,cd,ce]) rfl ?_;exact Qh b1.out (by omega) (fun W' h=>b2.out W' h)
def PL(a:Au)(w:Ls)(b:Bool):Prop:=∃(j d:Nat)(v:Int),0<d/\stN a w (j+d)=stN a w j/\TV (lsN a w) j d v/\b=(Int.tmod v 2==0)
def stL(a:Au)(w:Ls)(n:Nat):List Int:=(List.range n).map (stN a w)
def lsL(a:Au)(w:Ls)(n:Nat):List Int:=(List.range n).map (lsN a w)
theorem Ma(a:Au)(w:Ls)(n:Nat):stL a w (n+1)=stL a w n++[stN a w n]:=by simp[stL,List.range_succ]
theorem QH(a:Au)(w:Ls)(n:Nat):lsL a w (n+1)=lsL a w n++[lsN a w n]:=by simp[lsL,List.range_succ]
theorem TK(a:Au)(w:Ls)(n k:Nat)(h:k<(stL a w n).length):(stL a w n)[k]=stN a w k:=by simp[stL]
theorem Ty(a:Au)(w:Ls)(n k:Nat)(h:k<n):(lsL a w n).getD k 0=lsN a w k:=by simp[lsL,h]
theorem QY{a:Au}(hv:AC a=true){q m:Int}(h0:0<=q)(h1:q<a.next.length)(hm:0<=m):∀{ls:List Int},(∀x∈ls,0<=x/\x<a.letters)->0<=(C5 a (q,m) ls).2/\(C5 a (q,m) ls).2<=m:=by
 intro ls
 induction ls generalizing q m with
 |nil=>intro _;exact⟨hm,Int.le_refl _⟩
 |cons x ls ih=>
  intro hl;have hx:=hl x List.mem_cons_self;have hn:=SO hv h0 h1 hx.1 hx.2;have hr:=Cy hv (s:=q.toNat) (by omega);have hp:=H6 hv (s:=q.toNat) (by omega) x.toNat (by omega);have b:0<=prL a q x:=hp.1
  have:=ih (m:=min m (prL a q x)) hn.1 hn.2 (by omega) fun y hy=>hl y (List.mem_cons_of_mem _ hy)
  exact⟨this.1,Int.le_trans this.2 (by omega)⟩
theorem Kf{w:Ls}{k:Int}(h:Ch k w=true):(∀x∈w.stem,0<=x/\x<k)/\(∀x∈w.loop,0<=x/\x<k)/\0<w.loop.length:=by
 simp only[Ch,Bool.and_eq_true,List.all_eq_true,decide_eq_true_eq]at h;obtain⟨⟨h1,h2⟩,h3⟩:=h;obtain⟨-,h4,-,h5,h6⟩:=(DD w).1 h1;exact⟨fun x hx=>⟨((ER x).1 (h5 x hx)).1,h2 x hx⟩,fun x hx=>⟨((ER x).1 (h6 x hx)).1,h3 x hx⟩,h4⟩
theorem TL{a:Au}{w:Ls}(hv:AC a=true)(hw:Ch a.letters w=true)(i:Nat):0<=stN a w i/\stN a w i<a.next.length:=by
 obtain⟨h1,h2,-⟩:=Kf hw;have h:=hv;simp only[AC,Bool.and_eq_true,decide_eq_true_eq]at h
 induction i with
 |zero=>exact Ji hv h.1.2.1 h.1.2.2 h1
 |succ i ih=>exact Ji hv ih.1 ih.2 h2
theorem Jq{n:Nat}{L:List Int}(hn:L.Nodup)(h0:∀q∈L,0<=q/\q<n):L.length<=n:=by
 have h1:(L.map Int.toNat).Nodup:=by
  induction L with
  |nil=>simp
  |cons q L ih=>
   rw[List.map_cons,List.nodup_cons];rw[List.nodup_cons]at hn;refine⟨fun hm=> ?_,ih hn.2 (fun y hy=>h0 y (List.mem_cons_of_mem _ hy))⟩;obtain⟨y,hy,e⟩:=List.mem_map.1 hm;have a1:=h0 y (List.mem_cons_of_mem _ hy);have a2:=h0 q List.mem_cons_self
   have:y=q:=by omega
   exact hn.1 (this▸hy)
 have h2:(L.map Int.toNat).Perm ((List.range n).filter fun x=>decide (x∈L.map Int.toNat)):=(List.perm_ext_iff_of_nodup h1 (List.Nodup.sublist List.filter_sublist List.nodup_range)).2 fun x=>by
  rw[List.mem_filter,List.mem_range,decide_eq_true_eq];refine⟨fun hx=>⟨?_,hx⟩,fun hx=>hx.2⟩;obtain⟨y,hy,rfl⟩:=List.mem_map.1 hx;have:=h0 y hy;omega
 have h3:=h2.length_eq;have h4:=List.length_filter_le (fun x=>decide (x∈L.map Int.toNat)) (List.range n);rw[List.length_map]at h3;rw[List.length_range]at h4;omega
theorem Ah.dropS{w:World}{b a n c j:Nat}{l:List Int}(h:Ah w (.slice (some ⟨b,a,none⟩) n c) l)(hj:j<n):Ah w (.slice (some ⟨b,a+j,none⟩) (n-j) (c-j)) (l.drop j):=by
 obtain⟨⟨a',c',b',o',hv,ha⟩,hr⟩:=h;simp only[Value.slice.injEq]at hv;obtain⟨rfl,rfl,rfl⟩:=hv;have d:=ha.ad (by omega);simp only[Option.some.injEq,Addr.mk.injEq,and_true]at d;obtain⟨rfl,rfl⟩:=d;have h1:=ha.lc;have h2:=ha.cm;have h3:=ha.nm;refine⟨⟨_,c-j,b,a+j,by rw[List.length_drop],by rw[List.length_drop];omega,by omega,by rw[List.length_drop];omega,(fun h=>by cases h),(fun _=>rfl),fun i hi=> ?_⟩,fun x hx=>hr x (List.mem_of_mem_drop hx)⟩;rw[List.length_drop]at hi;have:=ha.el (j+i) (by omega);rw[show a+j+i=a+(j+i)by omega,this];simp[ivF,List.getD]
theorem Th(w:World)(va vw:Value)(a:Au)(l:Ls)(ha:Cw w va a)(hl:Cn w vw l)(hv:AC a=true)(hw:Ch a.letters l=true):
  Calls Tryz.prog 43 #[va,vw] w (fun e w'=>∃b,e=.returned (.bool b)/\PL a l b/\Below w.heap.size w w'):=by
 obtain⟨p2,n2,k2,p3,n3,k3,rfl⟩:=ha.shp;obtain⟨a0,c0,a1,c1,rfl⟩:=hl.shp
 go_enter Tryz.func43,Tryz.ntmps43
 go_upto_region 1 with(fail)
 obtain⟨hx,hz,hB⟩:((w.alloc (.cells #[.int .i64 a.letters,.int .i64 a.start,.slice p2 n2 k2,.slice p3 n3 k3] 63)).alloc (.cells #[.slice a0 l.stem.length c0,.slice a1 l.loop.length c1] 30)).heap[w.heap.size]? =some (.cells #[.int .i64 a.letters,.int .i64 a.start,.slice p2 n2 k2,.slice p3 n3 k3] 63 (0,0))/\((w.alloc (.cells #[.int .i64 a.letters,.int .i64 a.start,.slice p2 n2 k2,.slice p3 n3 k3] 63)).alloc (.cells #[.slice a0 l.stem.length c0,.slice a1 l.loop.length c1] 30)).heap[w.heap.size+1]? =some (.cells #[.slice a0 l.stem.length c0,.slice a1 l.loop.length c1] 30 (0,0))/\Below w.heap.size w ((w.alloc (.cells #[.int .i64 a.letters,.int .i64 a.start,.slice p2 n2 k2,.slice p3 n3 k3] 63)).alloc (.cells #[.slice a0 l.stem.length c0,.slice a1 l.loop.length c1] 30)):=⟨(by(repeat(rw[Am];first|rw[if_pos (by first|simp;done|simp;omega)]|rw[if_neg (by first|simp;done|simp;omega)]));(try rfl)),(by(repeat(rw[Am];first|rw[if_pos (by first|simp;done|simp;omega)]|rw[if_neg (by first|simp;done|simp;omega)]));(try rfl)),(by repeat(first|exact Ad|assumption|apply AE|apply AB))⟩;replace ha:=ha.below hB;replace hl:=hl.below hB;generalize(w.alloc (.cells #[.int .i64 a.letters,.int .i64 a.start,.slice p2 n2 k2,.slice p3 n3 k3] 63)).alloc (.cells #[.slice a0 l.stem.length c0,.slice a1 l.loop.length c1] 30)=w1 at*
 have HE:Hid (∀W,Below w1.heap.size w1 W->Below w.heap.size w W):=fun W h=>hB.trans (h.mono hB.size)
 clear hB;generalize w.heap.size+1=zw at*;generalize hza:w.heap.size=za at*;have b8:=Ab hza;clear hza;have d0:=Aa 0 hx;have d1:=Aa 1 hx;have d2:=Aa 2 hx;have d3:=Aa 3 hx
 go_wp2_with fail
 refine(IF _ _ a ha).mono ?_;rw[hv];rintro e w2 ⟨rfl,hb⟩;replace hx:=B8 hb hx;replace hz:=B8 hb hz;replace ha:=ha.below hb;replace hl:=hl.below hb;clear d0 d1 d2 d3;have d0:=Aa 0 hx;have e0:=Aa 0 hz;have e1:=Aa 1 hz
 go_wp2_with fail
 refine(IK _ _ l a.letters hl).mono ?_;rw[hw];rintro e w3 ⟨rfl,p⟩;replace hx:=B8 p hx;replace hz:=B8 p hz;replace ha:=ha.below p;replace hl:=hl.below p;replace hb:=hb.trans (p.mono hb.size);clear d0 e0 e1 p;have d1:=Aa 1 hx;obtain⟨h1,h2,bl⟩:=Kf hw;obtain⟨bj,bk⟩:=hl.parts;obtain⟨v2,v3,bq,bd,hN,hP⟩:=id ha;simp only[Value.agg.injEq,Array.mk.injEq,List.cons.injEq,and_true,true_and]at bq;obtain⟨rfl,rfl⟩:=bq
 have f:0<=a.start/\a.start<a.next.length:=by
  have h:=hv;simp only[AC,Bool.and_eq_true,decide_eq_true_eq]at h;exact h.1.2
 have au:a.next.length<=3000:=by
  have h:=hv;simp only[AC,Bool.and_eq_true,decide_eq_true_eq]at h;omega
 have a9:Hid (∀W vls ls q,Below w3.heap.size w3 W->Ah w3 vls ls->W.heap[w3.heap.size]? =some (.cells #[.int .i64 q] 3 (0,0))->0<=q->q<a.next.length->(∀x∈ls,0<=x/\x<a.letters)->Calls Tryz.prog 91 #[vls,.pointer (some ⟨za,0,none⟩),.pointer (some ⟨w3.heap.size,0,none⟩)] W (fun e w'=>e=.returned (.int .i64 (C5 a (q,20000) ls).2)/\Below w3.heap.size w3 w'/\W.grownBy w' (some w3.heap.size)/\w'.heap[w3.heap.size]? =some (.cells #[.int .i64 (C5 a (q,20000) ls).1] 3 (0,0)))):=fun W vls ls q hB hi hs h0 h1 hls=>TF w3 W vls ls a za w3.heap.size n2 k2 n3 k3 p2 p3 q hv hB hi hx hN hP leR hs h0 h1 hls
 have a7:Hid (∀W,Below w3.heap.size w3 W->W.cell? ⟨zw,0,none⟩=some (.slice a0 l.stem.length c0)/\W.cell? ⟨zw,1,none⟩=some (.slice a1 l.loop.length c1)):=fun W h=>by
  have k:=B8 h hz;exact⟨Aa 0 k,Aa 1 k⟩
 have am:=Ab (fun i=>TL hv hw i);have HN:=Ab au;have HV:=Ab hv;have HB:=Ab hb;have bz:=Ab bj;have b0:=Ab bk;have an:=Ab (And.intro h1 (And.intro h2 bl))
 go_upto_region 4 with(fail)
 have av:=Ao (w:=w3) (.cells #[.int .i64 a.start] 3);have hs:=heap_alloc_new w3 (.cells #[.int .i64 a.start] 3);generalize w3.alloc (.cells #[.int .i64 a.start] 3)=w4 at*;obtain⟨e0,-⟩:=a7.out w4 av;clear d1 hx hz ha hl hb hN hP bj bk au h1 h2 bl bd hv
 go_wp2_with fail
 refine(a9.out w4 _ _ _ av bz.out hs f.1 f.2 an.out.1).mono ?_;rintro e w5 ⟨rfl,aw,-,bm⟩;clear e0 av hs f;have s:w5.heap[w3.heap.size]? =some (.cells #[.int .i64 (stN a l 0)] 3 (0,0)):=bm;clear bm;have b4:=@run_makeMap Tryz.prog;have ax:=Ao (w:=w5) (.map #[] 0);have be:=DA.made w5
 have br:w5.heap.size<(w5.alloc (.map #[] 0)).heap.size:=by simp
 have cf:w3.heap.size<w5.heap.size:=(Array.getElem?_eq_some_iff.1 s).1;have bn:=(ax.block _ cf).trans s;have bb:Below w3.heap.size w3 (w5.alloc (.map #[] 0)):=aw.trans (ax.mono aw.size)
 go_wp2_with fail
 clear b4 ax s aw;generalize w5.alloc (.map #[] 0)=w6 at*;generalize w5.heap.size=zm at*;generalize hzq:w3.heap.size=zs at*
 go_loopg [7] (a.next.length+1) (fun gh vL wr=>∃n:Nat,gh=a.next.length+1-n/\n<=a.next.length/\Hid ((stL a l n).Nodup)/\wr.heap[zs]? =some (.cells #[.int .i64 (stN a l n)] 3 (0,0))/\DA wr zm (stL a l n)/\OI wr (zm+1) vL (lsL a l n)/\Below zs w3 wr/\zm+1<=wr.heap.size)
 case atStart=>exact⟨0,by omega,by omega,by simp[Hid,stL],bn,be,Br _ _,bb,br⟩
 case round=>
  obtain⟨n,bi,hn,b5,hs,hM,hO,aa,ca⟩:=hrel;have bx:=Ab bi;clear bi bn be bb br;obtain⟨q0,q1⟩:=am.out n;have au:=HN.out
  have aj:I64 (stN a l n):=by unfold I64;omega
  have ah:(stL a l n).length=n:=by simp[stL]
  have d:(lsL a l n).length=n:=by simp[lsL]
  obtain⟨u,a2⟩:=hM.get aj;have s0:=Aa 0 hs
  have b1:Hid (∀x∈lsL a l n,I64 x):=fun x hx=>by
   obtain⟨i,-,rfl⟩:=List.mem_map.1 hx;have h1:=am.out i;have:=QY HV.out h1.1 h1.2 (m:=20000) (by omega) an.out.2.1;unfold lsN I64;omega
  by_cases hm:stN a l n∈stL a l n
  case pos=>as_aux_lemma=>
   have ak:=u hm;have hj:=R3 hm;have az:(stL a l n)[(stL a l n).idxOf (stN a l n)]=stN a l n:=List.getElem_idxOf hj
   have HJ:Hid (stN a l ((stL a l n).idxOf (stN a l n))=stN a l n):=by
    show _=_;rw[TK]at az;exact az
   rw[ah]at hj;obtain⟨g,ap,ae,-,-⟩:=hO.row (by omega);subst ae;have ab:=hO.is (by rw[d];simp only[Bg];omega) b1.out;rw[d]at ab⊢
   have cg:n<=ap:=by
    obtain⟨⟨_,_,_,_,bp,b9⟩,-⟩:=ab;simp only[Value.slice.injEq]at bp;obtain⟨-,-,rfl⟩:=bp;have:=b9.lc;omega
   generalize(stL a l n).idxOf (stN a l n)=j at*;have a6:=Ab (ab.dropS hj);have bu:=Ab aa
   have cj:(j:Int)<=(n:Int):=by omega
   have ci:(0:Int)<=(j:Int):=Int.natCast_nonneg _
   have cl:(n:Int)<=(ap:Int):=by omega
   have o:Hid (((lsL a l n).drop j).length=n-j):=by show _=_;rw[List.length_drop,d]
   have z:Hid (j<n):=hj;clear u a2 az hO ab hM hs aa d
   go_wp2_with fail
   have bh:Ah wr (.slice (some ⟨g,j,none⟩) (n-j) (ap-j)) ((lsL a l n).drop j):=by
    have:=a6.out
    rwa [Nat.zero_add]at this
   refine(TW _ _ _ bh (by rw[o.out];have:=z.out;omega)).mono ?_;rintro e w8 ⟨rfl,rfl⟩;have a5:=OH (l:=(lsL a l n).drop j) (by rw[o.out];have:=z.out;omega) (n-j) (by have:=z.out;omega) (by rw[o.out];omega);rw[o.out]
   have ay:∀i,i<n-j->((lsL a l n).drop j).getD i 0=lsN a l (j+i):=fun i hi=>by
    rw[<-Ty a l n (j+i) (by omega)];simp[List.getD]
   generalize Io ((lsL a l n).drop j) (n-j)=v at*
   have HW:Hid (PL a l (Int.tmod v 2==0)):=by
    have ch:=z.out;refine⟨j,n-j,v,by omega,by rw[show j+(n-j)=n by omega];exact HJ.out.symm,⟨?_,fun i hi=> ?_⟩,rfl⟩
    ·obtain⟨⟨i,hi,e⟩,-⟩:=a5;exact⟨i,hi,by rw[<-ay i hi];exact e⟩
    ·rw[<-ay i hi];exact a5.2 i hi
   clear a5 ay bh a6;go_wp2;go_ret;exact⟨_,rfl,HW.out,by rw[b8.out];exact HE.out _ (HB.out.trans (bu.out.mono (by rw[<-hzq];exact HB.out.size)))⟩
  case neg=>as_aux_lemma=>
   obtain⟨c,ak⟩:=a2 hm;obtain⟨w7,al,ar,r⟩:=hM.upd aj hm (by omega);rw[ah]at al
   have af:Hid ((stL a l (n+1)).Nodup):=by
    show List.Nodup _;rw[Ma,List.nodup_append];exact⟨b5.out,by simp,fun x hx y hy=>by rw[List.mem_singleton.1 hy];rintro rfl;exact hm hx⟩
   have cb:n+1<=a.next.length:=by
    have h1:=Jq (n:=a.next.length) af.out fun q hq=>by
     obtain⟨i,-,rfl⟩:=List.mem_map.1 hq;exact am.out i
    simpa[stL]using h1
   rw[<-Ma]at ar
   have ce:zs<wr.heap.size:=by omega
   have a4:=(r.block zs ce (fun e=>by injection e with e;omega)).trans hs;have aq:Below zs w3 w7:=aa.grown r (by omega) (fun k hk=>by injection hk with hk;omega)
   have bf:=hO.grown r (by
    cases hvb:u7.ownBlock with
    |none=>exact .inl rfl
    |some g=>exact .inr (fun e=>by have:=hO.ge g hvb;injection e with e;omega))
   obtain⟨-,e1⟩:=a7.out w7 aq;obtain⟨ba,ag,ae⟩:=hO.slice;rw[d]at ae;have s7:=Aa 0 a4;subst ae;have a8:=Ab bf;have b2:=Ab ar;have bv:=Ab aq;have b6:=Ab a4;have cd:zm+1<=w7.heap.size:=Nat.le_trans ca r.size;clear u a2 hO hM hs aa bf ar r aq a4
   go_wp2_with fail
   refine(a9.out w7 _ _ _ bv.out b0.out b6.out q0 q1 an.out.2.1).mono ?_;rintro e w8 ⟨rfl,bc,ac,bo⟩;have b7:Hid (w8.heap[zs]? =some (.cells #[.int .i64 (stN a l (n+1))] 3 (0,0))):=bo;have b3:=Ab (b2.out.kept ac (fun e=>by injection e with e;omega))
   have bg:=a8.out.grown ac (by
    cases hvb:(Value.slice ba n ag).ownBlock with
    |none=>exact .inl rfl
    |some g=>exact .inr (fun e=>by have:=a8.out.ge g hvb;injection e with e;omega))
   have ao:=Ab bg;have bw:=Ab bc;have bs:zm+1<=w8.heap.size:=Nat.le_trans cd ac.size
   have cc:(lsL a l n).length<17592186043904:=by omega
   clear bo bg bc ac e1 s7 s0 ak al
   go_wp2_with (at_builtin;refine C8 rfl _ _ (lsN a l n) rfl (zm+1) _ _ ao.out rfl _ (by simp) rfl cc bs ?_;intro v' w9 a3 ad ck)
   have ai:∀k,k<zm+1->some k≠(Value.slice ba n ag).ownBlock:=fun k hk e=>by
    have:=ao.out.ge k e.symm;omega
   go_roundg (a.next.length+1-(n+1))
   case measure=>have:=bx.out;omega
   case rel=>
    refine⟨n+1,rfl,cb,af,(ad.block zs (by omega) (ai zs (by omega))).trans b7.out,b3.out.kept ad (ai zm (by omega)),by rw[QH];exact a3,bw.out.grown ad (by omega) (fun k hk=>by have:=ao.out.ge k hk;omega),Nat.le_trans bs ad.size⟩
def RF{N:Ls}(b o n k c B:Nat)(ix:Nat)(u:Value)(W:World):Prop:=
 match ix with
 |0|3=>u=.slice (some ⟨b,o,none⟩) n c
 |1|4=>u=.int .i64 (k:Int)
 |2=>u=.slice (some ⟨b,o,none⟩) k c
 |5=>u=.slice (some ⟨b,o+k,none⟩) (n-k) (c-k)
 |6=>u=.agg #[.slice (some ⟨b,o,none⟩) k c,.slice (some ⟨b,o+k,none⟩) (n-k) (c-k)]
 |7=>Cn W u N
 |8=>∃z,u=.pointer (some ⟨z,0,none⟩)/\B<=z/\W.heap[z]? =some (.cells #[.slice none 0 0,.slice none 0 0] 30 (0,0))
 | _=>True
theorem RF.below{N:Ls}{ix:Nat}{u:Value}{W W':World}{b o n k c B:Nat}(h:RF (N:=N) b o n k c B ix u W)(hb:Below W.heap.size W W'):RF (N:=N) b o n k c B ix u W':=by
 unfold RF at*
 split at h<;>first
  |exact h
  |trivial
  |(exact Cn.below h hb)
  |(obtain⟨z,h1,h2,h3⟩:=h;exact⟨z,h1,h2,(hb.block z (ltE h3)).trans h3⟩)
theorem Nr(w:World)(v:Value)(l:List Int)(k:Nat)(hl:Ah w v l)(hk:k<l.length)(hn:l.length<=100000):
  Calls Tryz.prog 59 #[v,.int .i64 (k:Int)] w (Dz (EC ⟨l.take k,l.drop k⟩) w):=by
 have ak:Tryz.prog.follows .mixedOrders=true:=by kernel_rfl
 obtain⟨⟨a,c,b,o,rfl,g⟩,r⟩:=hl;have hI:Ah w (.slice a l.length c) l:=⟨⟨a,c,b,o,rfl,g⟩,r⟩;have an:=g.lc;have am:=g.cm;obtain rfl:=g.ad (by omega)
 have HA:Hid (∀W,Below w.heap.size w W->Ah W (.slice (some ⟨b,o,none⟩) k c) (l.take k)):=fun W h=>(Ah.take g r k (by omega)).below h
 have HD:Hid (∀W,Below w.heap.size w W->Ah W (.slice (some ⟨b,o+k,none⟩) (l.length-k) (c-k)) (l.drop k)):=fun W h=>(hI.dropS hk).below h
 have HS:Hid (∀W,Below w.heap.size w W->Calls Tryz.prog 100 #[.agg #[.slice (some ⟨b,o,none⟩) k c,.slice (some ⟨b,o+k,none⟩) (l.length-k) (c-k)]] W (Dz (BC ⟨l.take k,l.drop k⟩) W)):=fun W h=>Mv W _ ⟨l.take k,l.drop k⟩ ⟨_,_,rfl,HA.out W h,HD.out W h⟩ (by simp;omega) (by simp;omega) (by simp;omega)
 have HF:Hid (∀W v',Cn W v' (BC ⟨l.take k,l.drop k⟩)->Calls Tryz.prog 66 #[v'] W (Av (.bool (CD (BC ⟨l.take k,l.drop k⟩))) W)):=fun W v' h=>Hi W v' _ h
 have HY:Hid (CD (BC ⟨l.take k,l.drop k⟩)=true->EC ⟨l.take k,l.drop k⟩=BC ⟨l.take k,l.drop k⟩):=fun h=>if_pos h
 have HN:Hid (CD (BC ⟨l.take k,l.drop k⟩)=false->EC ⟨l.take k,l.drop k⟩=C7):=fun h=>if_neg (by rw[h];simp)
 have ao:=g.nb;clear g r hI HA HD;generalize BC ⟨l.take k,l.drop k⟩=N at*;generalize EC ⟨l.take k,l.drop k⟩=S at*;generalize l.length=n at*
 have h1:(0:Int)<=(k:Int):=by omega
 have h2:(k:Int)<=(n:Int):=by omega
 have h3:(k:Int)<=(c:Int):=by omega
 have h4:k<=c:=by omega
 have h5:k<=n:=by omega
 have h6:¬c=k:=by omega
 go_enter Tryz.func59,Tryz.ntmps59
 go_upto_region 1 with(fail)
 obtain⟨ac,-,f⟩:=Aw (w0:=w) Ad leR #[.slice none 0 0,.slice none 0 0] 30
 have ap:(w.alloc (.cells #[.slice none 0 0,.slice none 0 0] 30)).heap.size=w.heap.size+1:=by simp
 generalize w.alloc (.cells #[.slice none 0 0,.slice none 0 0] 30)=w1 at*;refine B9 ak (RF (N:=N) b o n k c w1.heap.size) (fun vs=>{tmps:=(_::_::_::_::_::vs 8::vs 0::vs 1::vs 2::vs 3::vs 4::vs 5::vs 6::vs 7::_::_::_::_::[]).toArray,defers:=_}) (fun _=>undef) 9 rfl (by kernel_rfl) (by kernel_rfl) (fun _ _ _ _ h hb=>h.below hb) ?step ?last
 case step=>
   intro ix o hlt ho
   match ix,hlt,ho with
   |0,hlt,ho|1,hlt,ho|2,hlt,ho|3,hlt,ho|4,hlt,ho|5,hlt,ho|6,hlt,ho=>
    obtain rfl:=osI ho;intro vs W K hB hD hK;have HK:=Ab hK
    try have e0:vs 0=.slice (some ⟨b,o,none⟩) n c:=Ac hD 0 rfl
    try have e1:vs 1=.int .i64 (k:Int):=Ac hD 1 rfl
    try have e2:vs 2=.slice (some ⟨b,o,none⟩) k c:=Ac hD 2 rfl
    try have e3:vs 3=.slice (some ⟨b,o,none⟩) n c:=Ac hD 3 rfl
    try have e4:vs 4=.int .i64 (k:Int):=Ac hD 4 rfl
    try have e5:vs 5=.slice (some ⟨b,o+k,none⟩) (n-k) (c-k):=Ac hD 5 rfl
    clear hK hD ho;dsimp only;go_simp;have h:=HK.out _ _ Ad rfl;simp only[upd,Nat.reduceEqDiff,reduceIte, *]at h;exact h
   |7,hlt,ho=>
    obtain rfl:=osI ho;intro vs W K hB hD hK;have HK:=Ab hK;have e6:vs 6=.agg #[.slice (some ⟨b,o,none⟩) k c,.slice (some ⟨b,o+k,none⟩) (n-k) (c-k)]:=Ac hD 6 rfl;clear hK hD ho;dsimp only;go_simp;refine(HS.out W (f.trans (((Below.drew Ad).trans hB:Below w1.heap.size w1 W).mono f.size))).mono ?_;rintro e W' ⟨v5,rfl,al,hb⟩;have h:=HK.out _ _ hb al;simp only[upd,Nat.reduceEqDiff,reduceIte,e6]at h;exact h
   |8,hlt,ho=>
    obtain rfl:=osI ho;intro vs W K hB hD hK;have HK:=Ab hK;have aj:=hB.size;clear hK hD ho;dsimp only;go_simp;have h:=HK.out _ _ (Ao _) ⟨W.heap.size,rfl,(by simpa using aj),heap_alloc_new _ _⟩;simp only[upd,Nat.reduceEqDiff,reduceIte]at h;exact h
   |q+9,hlt,_=>exact absurd hlt (by omega)
 case last=>
  intro o ho;obtain rfl:=osI ho;intro vs W K hB hD hK;have ae:=Ab hK;have hP:=hD 7 (by decide);obtain⟨z,e8,m,hz⟩:=hD 8 (by decide);obtain⟨x0,x1,e7,i0,i1⟩:=hP;obtain⟨y0,z0,rfl⟩:=i0.shape;obtain⟨y1,z1,rfl⟩:=i1.shape;have ag:Below w1.heap.size w1 W:=(Below.drew Ad).trans hB
  have m:w1.heap.size<=z:=by simpa using m
  clear hK hD hB ho;obtain⟨k0,k1,f0,f1⟩:=ME hz;have HZ:=Ab (Bq (a:=.slice y0 N.stem.length z0) (b:=.slice y1 N.loop.length z1) hz);have u:=Ab (i0.setTwo (p:=.slice y0 N.stem.length z0) (q:=.slice y1 N.loop.length z1) hz);have x:=Ab (i1.setTwo (p:=.slice y0 N.stem.length z0) (q:=.slice y1 N.loop.length z1) hz);have s:Hid (Below w1.heap.size w1 ((W.setCell ⟨z,0,none⟩ (.slice y0 N.stem.length z0)).setCell ⟨z,1,none⟩ (.slice y1 N.loop.length z1))):=(ag.setCell m _).setCell m _;clear i0 i1 hz ag;dsimp only;go_simp;refine ae.out _ _ ?_;clear ae k0 k1 f0 f1;generalize(W.setCell ⟨z,0,none⟩ (.slice y0 N.stem.length z0)).setCell ⟨z,1,none⟩ (.slice y1 N.loop.length z1)=w8 at*;generalize vs 0=q0 at*;generalize vs 1=q1 at*;generalize vs 2=q2 at*;generalize vs 3=q3 at*;generalize vs 4=q4 at*;generalize vs 5=q5 at*;generalize vs 6=q6 at*;have ah:w8.heap[w.heap.size]? =some (.cells #[.slice none 0 0,.slice none 0 0] 30 (0,0)):=(s.out.block _ (ltE ac)).trans ac;have ab:=f.trans (s.out.mono f.size);have k0:=Aa 0 HZ.out;have k1:=Aa 1 HZ.out
  go_wp2_with fail
  refine(HF.out _ _ ⟨_,_,rfl,u.out,x.out⟩).mono ?_;rintro e w9 ⟨rfl,d⟩;have ai:=(d.block _ (Array.getElem?_eq_some_iff.1 HZ.out).1).trans HZ.out;have j:=B8 d ah;have af:=ab.trans (d.mono ab.size);have J0:=Ab (u.out.below d);have J1:=Ab (x.out.below d);clear ah ab k0 k1 d ac f HZ u x s HF HS;obtain⟨g0,g1,g2,g3⟩:=ME j
  cases hfb:CD N with
  |false=>
   have HE:=Ab (HN.out hfb);clear hfb HY HN;go_wp2;rw[HE.out]
   (have i:=Bq (a:=.slice none 0 0) (b:=.slice none 0 0) j);(have y:=Aa 0 i);(have aa:=Aa 1 i);(refine bodyPost_ret (v:=.agg #[.slice none 0 0,.slice none 0 0]) (by simp[results,Tryz.results59,go_sem,y,aa]) rfl ?_)
   exact CR af leR
  |true=>
   have HE:=Ab (HY.out hfb);have k0:=Aa 0 ai;have k1:=Aa 1 ai;clear hfb HY HN;go_wp2;rw[HE.out]
   (have i:=Bq (a:=.slice y0 N.stem.length z0) (b:=.slice y1 N.loop.length z1) j);(have y:=Aa 0 i);(have aa:=Aa 1 i);(refine bodyPost_ret (v:=.agg #[.slice y0 N.stem.length z0,.slice y1 N.loop.length z1]) (by simp[results,Tryz.results59,go_sem,y,aa]) rfl ?_)
   exact If j J0.out J1.out af leR
theorem TZ(w:World)(v:Value)(l:Ls)(i:Nat)(hl:Cn w v l)(hp:0<l.loop.length)(hi:I64 i):
  Calls Tryz.prog 101 #[v,.int .i64 (i:Int)] w (Av (.int .i64 (atL l i)) w):=by
 obtain⟨v0,v1,rfl,h0,h1⟩:=hl;obtain⟨⟨a0,c0,b0,o0,rfl,g0⟩,-⟩:=h0;obtain⟨⟨a1,c1,b1,o1,rfl,g1⟩,-⟩:=h1;have b:=g0.nb;have c:=g1.nb;unfold I64 at hi;have a:Below w.heap.size w (w.alloc (Obj.cells #[Value.slice a0 l.stem.length c0,Value.slice a1 l.loop.length c1] 30)):=Ao _
 by_cases hlt:i<l.stem.length
 ·obtain rfl:=g0.ad (by omega);have e1:=Ag a (g0.el i hlt);unfold ivF at e1;rw[Ae _ _ _ hlt]at e1;have HR:=Ab (Ot hlt);generalize l.stem[i]=x at*
  go_enter Tryz.func101,Tryz.ntmps101
  go_wp2;go_ret;exact⟨Cj HR.out.symm,a⟩
 ·have hm:=Nat.mod_lt (i-l.stem.length) hp;obtain rfl:=g1.ad hp;have e1:=Ag a (g1.el _ hm);unfold ivF at e1;rw[Ae _ _ _ hm]at e1;have HR:=Ab (RN (by omega) hm)
  have e:IntKind.i64.wrap ((i:Int)-l.stem.length)=((i-l.stem.length:Nat):Int):=by rw[IntWalk.i64_in _ ⟨by omega,by omega⟩];omega
  have ht:((i-l.stem.length:Nat):Int).tmod (l.loop.length:Int)=(((i-l.stem.length)%l.loop.length:Nat):Int):=by rw[Int.tmod_eq_emod_of_nonneg (by omega)];omega
  have hz:¬(l.loop.length:Int)=0:=by omega
  have f:IntKind.i64.wrap (((i-l.stem.length)%l.loop.length:Nat):Int)=(((i-l.stem.length)%l.loop.length:Nat):Int):=IntWalk.i64_in _ ⟨by omega,by omega⟩;generalize(i-l.stem.length)%l.loop.length=q at*;generalize l.loop[q]=x at*;generalize i-l.stem.length=d at*
  go_enter Tryz.func101,Tryz.ntmps101
  go_wp2;have cA:(w.alloc (Obj.cells #[Value.slice a0 l.stem.length c0,Value.slice (some ⟨b1,o1,none⟩) l.loop.length c1] 30)).cell? ⟨w.heap.size,0,none⟩=some (Value.slice a0 l.stem.length c0):=C9 0 Ad rfl;have cB:(w.alloc (Obj.cells #[Value.slice a0 l.stem.length c0,Value.slice (some ⟨b1,o1,none⟩) l.loop.length c1] 30)).cell? ⟨w.heap.size,1,none⟩=some (Value.slice (some ⟨b1,o1,none⟩) l.loop.length c1):=C9 1 Ad rfl;generalize(w.alloc (Obj.cells #[Value.slice a0 l.stem.length c0,Value.slice (some ⟨b1,o1,none⟩) l.loop.length c1] 30))=w1 at*
  go_quiet (fail)
  go_wp2;go_ret;exact⟨Cj HR.out.symm,AB a _⟩
theorem TY(w:World)(v:Value)(l:Ls)(i:Int)(hl:Cn w v l)(hi:I64 i):
  Calls Tryz.prog 60 #[v,.int .i64 i] w (Av (.int .i64 (atI l i)) w):=by
 have HF:=Ab (fun(W:World)(hW:Below w.heap.size w W)=>Hi W v l (hl.below hW))
 by_cases h0:i<0
 ·have HR:=Ab (RL (l:=l) h0);obtain⟨v0,v1,rfl,h0,h1⟩:=hl;obtain⟨⟨a0,c0,b0,o0,rfl,g0⟩,-⟩:=h0;obtain⟨⟨a1,c1,b1,o1,rfl,g1⟩,-⟩:=h1;clear g0 g1
  go_enter Tryz.func60,Tryz.ntmps60
  go_wp2;go_ret;exact⟨Cj HR.out.symm,Ao _⟩
 by_cases hf:CD l=true
 ·obtain⟨k,rfl⟩:∃k:Nat,i=k:=⟨i.toNat,by omega⟩;have HP:=Ab (fun(W:World)(hW:Below w.heap.size w W)=>TZ W v l k (hl.below hW) (Qj hf) hi)
  have HR:Hid (atI l (k:Int)=atL l k):=by show _=_;rw[Nv (by omega) hf];rfl
  obtain⟨v0,v1,rfl,h0,h1⟩:=hl;obtain⟨⟨a0,c0,b0,o0,rfl,g0⟩,-⟩:=h0;obtain⟨⟨a1,c1,b1,o1,rfl,g1⟩,-⟩:=h1;rw[hf]at HF;clear g0 g1 hf
  go_enter Tryz.func60,Tryz.ntmps60
  go_wp2_with fail
  refine(HF.out _ (Ao _)).mono ?_;rintro e w2 ⟨rfl,a⟩;have b:=(Ao (w:=w) (Obj.cells #[Value.slice a0 l.stem.length c0,Value.slice a1 l.loop.length c1] 30)).trans (a.mono (by simp));have cA:w2.cell? ⟨w.heap.size,0,none⟩=some (Value.slice a0 l.stem.length c0):=C9 0 a rfl;have cB:w2.cell? ⟨w.heap.size,1,none⟩=some (Value.slice a1 l.loop.length c1):=C9 1 a rfl;clear a
  go_wp2_with fail
  refine(HP.out _ b).mono ?_;rintro e w3 ⟨rfl,c⟩;go_wp2;go_ret;exact⟨Cj HR.out.symm,b.trans (c.mono b.size)⟩
 ·rw[Bool.not_eq_true]at hf;have HR:=Ab (RM (i:=i) hf);obtain⟨v0,v1,rfl,h0,h1⟩:=hl;obtain⟨⟨a0,c0,b0,o0,rfl,g0⟩,-⟩:=h0;obtain⟨⟨a1,c1,b1,o1,rfl,g1⟩,-⟩:=h1;rw[hf]at HF;clear g0 g1 hf
  go_enter Tryz.func60,Tryz.ntmps60
  go_wp2_with fail
  refine(HF.out _ (Ao _)).mono ?_;rintro e w2 ⟨rfl,a⟩;go_wp2;go_ret;exact⟨Cj HR.out.symm,(Ao _).trans (a.mono (by simp))⟩
end Go.Proofs.YtncjeamdkjcebaaGreatDoor
