/- What the closure in mealy.ExtractEnv computes: the input of a state, and its successors. -/
import Derived.Test.YtncjeamdkjcebaaDoorZMyZ2
set_option linter.all false
set_option maxHeartbeats 8000000
set_option maxRecDepth 100000
namespace Go.Proofs.YtncjeamdkjcebaaDoor
open Go.RowKit
structure EK(w0:World)(pr:Nat)(ci co:Int)(ins:Nat->Int)(k:Nat)(v3:Value)(H:Nat->Prop)(W:World):Prop where
 hH:∀q,H q↔(q=pr\/v3.ownBlock=some q)
 on:Ae (fun q=>w0.heap.size<=q\/q=pr) w0 W
 box:W.heap[pr]? =some (.cells #[.int .i64 ci,.int .i64 co,.int .i64 0,v3,.slice none 0 0] 37 (0,0))
 own:OI W w0.heap.size v3 ((List.range k).map ins)
 pz:pr<w0.heap.size
def EJ(w0:World)(pr:Nat)(ci co:Int)(ins:Nat->Int)(k:Nat)(H:Nat->Prop)(W:World):Prop:=∃v3,EK w0 pr ci co ins k v3 H W
section
variable {w0 W W' W2:World} {pr k:Nat} {ci co:Int} {ins:Nat->Int} {H:Nat->Prop} {v3 v':Value}
theorem EK.lt(h:EK w0 pr ci co ins k v3 H W):∀q,H q->q<W.heap.size:=fun q e=>by
 rcases(h.hH q).1 e with e|e
 ·rw[e];exact Nat.lt_of_lt_of_le h.pz h.on.size
 ·exact h.own.lt' q e
theorem EK.keep(h:EK w0 pr ci co ins k v3 H W)(ho:Ae (fun q=>w0.heap.size<=q/\¬H q) W W'):EK w0 pr ci co ins k v3 H W':=by
 have hn:∀q,H q->¬(w0.heap.size<=q/\¬H q):=fun q e k=>k.2 e
 exact⟨h.hH,h.on.trans (ho.mono fun q _ e=>.inl e.1),(ho.block _ (Nat.lt_of_lt_of_le h.pz h.on.size) (hn _ ((h.hH _).2 (.inl rfl)))).trans h.box,h.own.only ho fun q e=>hn q ((h.hH q).2 (.inr e)),h.pz⟩
theorem EK.start(h:W.heap[pr]? =some (.cells #[.int .i64 ci,.int .i64 co,.int .i64 0,.slice none 0 0,.slice none 0 0] 37 (0,0))):EJ W pr ci co ins 0 (fun q=>q=pr) W:=
 ⟨.slice none 0 0,fun q=>by simp[Value.ownBlock],Ae.refl _ _,h,Bl _ _,(ltE h)⟩
theorem EK.push(h:EK w0 pr ci co ins k v3 H W)(ho:OI W' w0.heap.size v' ((List.range k).map ins++[ins k]))(hg:W.grownBy W' v3.ownBlock)(hm:AX W v3 v'):
  (W'.heap[pr]? =some (.cells #[.int .i64 ci,.int .i64 co,.int .i64 0,v3,.slice none 0 0] 37 (0,0)))/\∃H',EJ w0 pr ci co ins (k+1) H' (W'.setCell ⟨pr,3,none⟩ v')/\Ae H W (W'.setCell ⟨pr,3,none⟩ v')/\∀q,H' q->H q\/W.heap.size<=q:=by
 have hz:=Nat.lt_of_lt_of_le h.pz h.on.size;have hpz:=h.pz
 have hp3:v3.ownBlock≠some pr:=fun e=>by have:=h.own.ge pr e;omega
 have o1:Ae (fun q=>v3.ownBlock=some q) W W':=Ae.of_grown hg;have hbox:W'.heap[pr]? =some (.cells #[.int .i64 ci,.int .i64 co,.int .i64 0,v3,.slice none 0 0] 37 (0,0)):=(o1.block pr hz hp3).trans h.box;have oP:Ae (fun q=>q=pr) W' (W'.setCell ⟨pr,3,none⟩ v'):=Ae.set _ _ _ rfl
 have hv'p:v'.ownBlock≠some pr:=fun e=>by
  rcases hm pr e with k|k
  ·exact hp3 k
  ·omega
 have o3:Ae H W (W'.setCell ⟨pr,3,none⟩ v'):=(o1.mono fun q _ e=>(h.hH q).2 (.inr e)).trans (oP.mono fun q _ e=>(h.hH q).2 (.inl e));refine⟨hbox,fun q=>q=pr\/v'.ownBlock=some q,⟨v',fun _=>Iff.rfl, ?_,heap_setCell_same _ _ 3 _ _ _ hbox, ?_,h.pz⟩,o3,fun q e=> ?_⟩
 ·refine h.on.trans (o3.mono fun q _ e=> ?_)
  rcases(h.hH q).1 e with e|e
  ·exact .inr e
  ·exact .inl (h.own.ge q e)
 ·rw[List.range_succ,List.map_append]
  exact ho.only oP fun q e k=>hv'p (k▸e)
 ·rcases e with e|e
  ·exact .inl ((h.hH q).2 (.inl e))
  ·exact(hm q e).imp (fun k=>(h.hH q).2 (.inr k)) id
end
theorem QI(W w0:World)(pq pp pz pr:Nat)(a:Au)(pls:List Pl)(says:List Int)(l:List Sig)(ci co:Int)(c t q i k:Nat)(ins:Nat->Int)(H:Nat->Prop)(ap:Option Addr)(cp:Nat)
  (hq:W.heap[pq]? =some (.cells #[.slice ap pls.length cp] 47 (0,0))) (hqp:Cd W (.slice ap pls.length cp) pls) (hpp:W.heap[pp]? =some (.cells #[.pointer (some ⟨pz,0,none⟩)] 87 (0,0)))
  (hPM:∀W',Ae (fun q=>w0.heap.size<=q\/q=pr) w0 W'->DC W' pz a pls pls says l/\W'.heap[pp]? =some (.cells #[.pointer (some ⟨pz,0,none⟩)] 87 (0,0))) (hj:EJ w0 pr ci co ins k H W)
  (hcl:c<pls.length) (hsl:says.length=pls.length) (hst:(pls.getD c pl0).st=(q:Int)) (ht:says.getD c 0=(t:Int)) (htl:t<pls.length) (hts:(pls.getD t pl0).st=(q:Int)) (htp:(pls.getD t pl0).pr=-1) (hti:(pls.getD t pl0).inn=(i:Int)) (hic:(i:Int)<ci)
  (hva:Az a=true) (hqn:q<a.next.length) (hi:i<(Al l).length) (h64:((Al l).getD i []).length<=64) (hx:∀j,j<((Al l).getD i []).length->0<=((Al l).getD i []).getD j 0/\((Al l).getD i []).getD j 0<a.letters)
  (hm:∀j,j<((Al l).getD i []).length->plA a q (((Al l).getD i []).getD j 0)∈pls) (hins:ins k=(i:Int)) (hk:k<4000):
  Calls Tryd.prog 45 #[.int .i64 (c:Int),.pointer (some ⟨pq,0,none⟩),.pointer (some ⟨pp,0,none⟩),.pointer (some ⟨pr,0,none⟩)] W (IZ (((Al l).getD i []).map fun x=>((pls.idxOf (plA a q x):Nat):Int)) (EJ w0 pr ci co ins (k+1)) H W):=by
 obtain⟨v3,hJ⟩:=hj;have hP0:=(hPM W hJ.on).1
 have HCH:Hid (Calls Tryd.prog 46 #[.pointer (some ⟨pz,0,none⟩),.int .i64 (c:Int)] W (fun e W9=>e=.returned (.tuple #[.agg #[.int .i64 (q:Int),.int .i64 (i:Int),.int .i64 (-1)],.bool true])/\Below W.heap.size W W9)):=by
  have h1:=JJ W pz a pls pls says l c t hP0 (by omega) ht htl;rw[show plV (pls.getD t pl0)=.agg #[.int .i64 (q:Int),.int .i64 (i:Int),.int .i64 (-1)]by show Value.agg #[.int .i64 (pls.getD t pl0).st,.int .i64 (pls.getD t pl0).inn,.int .i64 (pls.getD t pl0).pr]=_;rw[hts,htp,hti]]at h1;exact h1
 have HAF:Hid (∀W',Ae (fun q=>w0.heap.size<=q\/q=pr) w0 W'->Calls Tryd.prog 47 #[.pointer (some ⟨pz,0,none⟩),.int .i64 (q:Int),.int .i64 (i:Int)] W' (Qw (((Al l).getD i []).map fun x=>((pls.idxOf (plA a q x):Nat):Int)) W')):=fun W' ho=>PC W' pz a pls says l q i (hPM W' ho).1 hva hqn hi h64 hx hm
 have HPM:Hid (∀W',Ae (fun q=>w0.heap.size<=q\/q=pr) w0 W'->W'.heap[pp]? =some (.cells #[.pointer (some ⟨pz,0,none⟩)] 87 (0,0))):=fun W' ho=>(hPM W' ho).2
 obtain⟨b,o,ad,-,hd⟩:=hqp.dat3;obtain rfl:=ad (by omega);obtain⟨e0,-,-,-⟩:=hd c hcl;rw[hst]at e0;have z0:=Aa 0 hq;have zp:=Aa 0 hpp;have HJ:=Ab hJ;have HINS:=Ab hins
 have hc0:(0:Int)<=(c:Int):=by omega
 have hc1:(c:Int)<(pls.length:Int):=by omega
 have t2:decide ((i:Int)<0)=false:=by simp
 have t3:decide (ci<=(i:Int))=false:=by simp;omega
 clear hq hqp hpp hPM hJ hP0 hd hst ht hts htp hti hva hqn hi h64 hx hm hins ad hic;generalize(((Al l).getD i []).map fun x=>((pls.idxOf (plA a q x):Nat):Int))=TT at*
 go_enter Tryd.func45,Tryd.ntmps45
 go_wp2_with fail
 refine HCH.out.mono ?_;rintro e w1 ⟨rfl,hb1⟩
 go_upto_region 3 with(fail)
 obtain⟨hx8,hb8,-⟩:=AA (w0:=w1) (B:=w1.heap.size) Ad leR #[.int .i64 (q:Int),.int .i64 (i:Int),.int .i64 (-1)] 79;generalize w1.alloc (.cells #[.int .i64 (q:Int),.int .i64 (i:Int),.int .i64 (-1)] 79)=w2 at*;have hb2:Below W.heap.size W w2:=hb1.trans (hb8.mono hb1.size);have hJ2:=HJ.out.keep (Ae.of_below hb2);have HJ2:=Ab hJ2;have HB2:=Ab hb2;have y0:=Aa 0 hx8;have y1:=Aa 1 hx8;have y2:=Aa 2 hx8;have r0:=Aa 0 hJ2.box;have r3:=Aa 3 hJ2.box;have HX8:=Ab hx8;have hzs:w1.heap.size<w2.heap.size:=(ltE hx8);have hzw:W.heap.size<=w1.heap.size:=hb1.size;obtain⟨a7,c7,rfl⟩:=hJ2.own.slice' (n:=k) (by simp);have hBz:w0.heap.size<=w2.heap.size:=hJ2.on.size;clear hb1 hb8 hx8 hb2 hJ2 HCH z0 zp e0;generalize w1.heap.size=zs at*
 go_upto_region 6 with(at_builtin;refine DD rfl _ _ (i:Int) rfl w0.heap.size (.slice a7 k c7) ((List.range k).map ins) HJ2.out.own rfl _ (by simp) rfl (by simp;omega) hBz ?_;intro v' w8 ho8 hg8 hm8;obtain⟨a8,c8,hv8⟩:=ho8.slice' (n:=k+1) (by simp);subst hv8;have HPU:=Ab (HJ2.out.push (by rw[HINS.out];exact ho8) hg8 hm8);have z9:=Aa 3 HPU.out.1;have f9:=Aw 3 HPU.out.1;have HG8:Hid (w8.heap[zs]? =w2.heap[zs]?):=hg8.block zs hzs (fun e=>by have:=HJ.out.own.lt' zs e.symm;omega);clear ho8 hg8 hm8)
 obtain⟨-,H',q1,q2,q3⟩:=HPU.out;have hprW:pr<W.heap.size:=(Array.getElem?_eq_some_iff.1 HJ.out.box).1;have hx9:(w8.setCell ⟨pr,3,none⟩ (.slice a8 (k+1) c8)).heap[zs]? =some (.cells #[.int .i64 (q:Int),.int .i64 (i:Int),.int .i64 (-1)] 79 (0,0)):=(heap_setCell_other _ _ _ _ (by simp;omega)).trans (HG8.out.trans HX8.out);have HQ1:=Ab q1;have HQ2:=Ab q2;have HQ3:=Ab q3;clear HPU q1 q2 q3 z9 f9 y0 y1 y2 r0 r3 HG8;generalize w8.setCell ⟨pr,3,none⟩ (.slice a8 (k+1) c8)=w9 at*;obtain⟨v9,hJ9⟩:=HQ1.out;have on9:=hJ9.on;have y1:=Aa 1 hx9;have zp:=Aa 0 (HPM.out w9 on9);have HJ9:=Ab hJ9;have HAF9:=Ab (HAF.out w9 on9);clear hJ9 on9 hx9 HQ1 HAF HPM
 go_wp2_with fail
 refine HAF9.out.mono ?_;rintro e w10 ⟨v,rfl,hov,hbv⟩;obtain⟨aV,cV,rfl⟩:=hov.slice
 have hW2:W.heap.size<=w2.heap.size:=by omega
 have h29:=HQ2.out.size
 have HFI:Hid (IZ TT (EJ w0 pr ci co ins (k+1)) H W (.returned (.tuple #[.slice aV TT.length cV,.bool true])) w10):=by
  refine⟨_,H',rfl,hov.base (by omega),fun q e1 e2=> ?_,⟨v9,HJ9.out.keep (Ae.of_below hbv)⟩, ?_,fun q e=> ?_⟩
  ·have h1:=hov.ge q e1;have h2:=HJ9.out.lt q e2;omega
  ·exact((Ae.of_below HB2.out).trans HQ2.out).trans (Ae.of_below hbv)
  ·exact(HQ3.out q e).imp id fun h=>by omega
 clear hov hbv HAF9;go_wp2;go_ret2;exact HFI.out
def Ph(a:Au)(pls:List Pl)(says:List Int)(l:List Sig)(c q t i:Nat):Prop:=
 c<pls.length/\(pls.getD c pl0).st=(q:Int)/\says.getD c 0=(t:Int)/\t<pls.length/\(pls.getD t pl0).st=(q:Int)/\(pls.getD t pl0).pr=-1/\(pls.getD t pl0).inn=(i:Int)/\i<(An l).toNat/\q<a.next.length/\
  ∀j,j<((Al l).getD i []).length->plA a q (((Al l).getD i []).getD j 0)∈pls
def Np(m:Mo)(k:Int)(w:World)(e:Ending)(w':World):Prop:=∃v,e=.returned (.tuple #[v,.int .i64 k])/\DI w' v m/\Below w.heap.size w w'
theorem N4{w W:World}{n:Nat}{m:Mo}{x0 x1 x2 x3 x4 y:Value}{k:Int}(hb:Below w.heap.size w W)(hn:w.heap.size<=n)(hy:∀W',Ae (fun q=>q=n) W W'->DI W' y m):
  Np m k w (.returned (.tuple #[y,.int .i64 k])) (((((W.setCell ⟨n,0,none⟩ x0).setCell ⟨n,1,none⟩ x1).setCell ⟨n,2,none⟩ x2).setCell ⟨n,3,none⟩ x3).setCell ⟨n,4,none⟩ x4):=
 ⟨y,rfl,hy _ (EM _ _ _ _ _ _),hb.trans ((EM _ _ _ _ _ _).below w.heap.size (fun q e=>by omega) hb.size)⟩
theorem IV(w:World)(vl va vp vs:Value)(l:List Sig)(a:Au)(pls:List Pl)(says:List Int)(hK:Bt w)(hl:AJ w vl l)(ha:B4 w va a)(hp:Cd w vp pls)(hs:Af w vs says)
  (hvs:Ax l=true) (hva:Az a=true) (hal:a.letters=AB l) (hpl:pls.length<=2900) (hsl:says.length=pls.length) (hnd:pls.Nodup)
  (nx:Int->Nat->Int) (ins:Nat->Int) (K:Nat) (hend:IW nx 0 0 (Ah l).toNat K) (hK9:K<=2900) (h0:(pls.getD 0 pl0).inn=-1/\0<=(pls.getD 0 pl0).st/\(pls.getD 0 pl0).st<a.next.length) (h0l:0<pls.length)
  (hst:∀k,k<=K->∀x∈Sx nx 0 0 (Ah l).toNat k,0<=x/\x<pls.length)
  (henv:∀k,k<K->∃q t i:Nat,Ph a pls says l (gP nx 0 0 (Ah l).toNat k).toNat q t i/\ins k=(i:Int)/\(((Al l).getD i []).map fun x=>((pls.idxOf (plA a q x):Nat):Int))=(List.range (Ah l).toNat).map (nx (gP nx 0 0 (Ah l).toNat k))):
  Calls Tryd.prog 16 #[vl,va,vp,vs] w (Np ⟨An l,Ah l,0,(List.range K).map ins,gN nx 0 0 (Ah l).toNat K⟩ 0 w):=by
 have hmx:Tryd.prog.follows .mixedOrders=true:=by kernel_rfl
 have HNP:Hid (∀W,Below w.heap.size w W->Calls Tryd.prog 39 #[vl,va,vp,vs] W (GG a pls says l W)):=fun W h=>Iy W _ _ _ _ l a pls says (hK.below h) (hl.below h) (ha.below h) (hp.below h) (hs.below h) hvs hva hal hpl hsl hnd
 have HI0:Hid (∀W,Below w.heap.size w W->Calls Tryd.prog 40 #[vl] W (AC (.int .i64 (An l)) W)):=fun W h=>Dq W _ _ (hK.below h) (hl.below h)
 have HO0:Hid (∀W,Below w.heap.size w W->Calls Tryd.prog 41 #[vl] W (AC (.int .i64 (Ah l)) W)):=fun W h=>CG W _ _ (hK.below h) (hl.below h)
 obtain⟨⟨hi0,hi1⟩,⟨ho0,ho1⟩⟩:=C5 hvs;obtain⟨n,hn⟩:∃n:Nat,Ah l=(n:Int):=⟨(Ah l).toNat,by omega⟩
 have hnn:(Ah l).toNat=n:=by omega
 have hnx:a.next.length<=3000:=by
  simp only[Az,Bool.and_eq_true,decide_eq_true_eq]at hva;exact hva.1.1.1.2.2
 have hin:An l<=64:=by omega
 rw[hnn]at hend hst henv⊢
 have HENV:Hid (∀k,k<K->∃q t i:Nat,Ph a pls says l (gP nx 0 0 n k).toNat q t i/\ins k=(i:Int)/\(((Al l).getD i []).map fun x=>((pls.idxOf (plA a q x):Nat):Int))=(List.range n).map (nx (gP nx 0 0 n k))/\(i:Int)<An l/\i<(Al l).length/\((Al l).getD i []).length<=64/\∀j,j<((Al l).getD i []).length->0<=((Al l).getD i []).getD j 0/\((Al l).getD i []).getD j 0<a.letters):=fun k hk=>by
  obtain⟨q,t,i,h1,h2,h3⟩:=henv k hk;have hi:i<(An l).toNat:=h1.2.2.2.2.2.2.2.1;obtain⟨j1,j2,j3⟩:=G6 (l:=l) hi;refine⟨q,t,i,h1,h2,h3,by omega,j1,by rw[j2];omega,fun j hj=> ?_⟩;rw[j2]at hj;rw[j3 j hj,hal];obtain⟨⟨a1,a2⟩,-⟩:=DX hvs (i:=(i:Int)) (o:=(j:Int)) (by omega) (by omega) (by omega) (by omega);exact⟨a1,a2⟩
 have HVA:=Ab hva;rw[hn]at HO0⊢;generalize hci:An l=ci at*;obtain⟨ap,cp,rfl⟩:=hp.shape;have HP:=Ab hp;have HSL:=Ab hsl;obtain⟨v2,v3,rfl,⟨hIa,hIb⟩,h2,h3⟩:=ha;obtain⟨sa,sc,rfl⟩:=hl.shape;obtain⟨a2,c2,rfl⟩:=h2.shape;obtain⟨a3,c3,rfl⟩:=h3.shape;have HEN:=Ab hend;have HST:=Ab hst
 have hn64:n<=64:=by omega
 have hn1:0<n:=by omega
 have H0:=Ab h0;clear hl hp hs hK h2 h3 hvs hva hal hnd hsl henv hend hst hn hnn h0 hci
 go_enter Tryd.func16,Tryd.ntmps16
 go_upto_region 1 with(fail)
 obtain⟨hx5,-,hB5⟩:=AA (w0:=w) Ad leR #[.int .i64 a.letters,.int .i64 a.start,.slice a2 a.next.length c2,.slice a3 a.prio.length c3] 44
 have hz5:(w.alloc (.cells #[.int .i64 a.letters,.int .i64 a.start,.slice a2 a.next.length c2,.slice a3 a.prio.length c3] 44)).heap.size=w.heap.size+1:=by simp
 generalize w.alloc (.cells #[.int .i64 a.letters,.int .i64 a.start,.slice a2 a.next.length c2,.slice a3 a.prio.length c3] 44)=w1 at*;obtain⟨hx6,-,hB6⟩:=AA (w0:=w) hB5 (by omega) #[.slice ap pls.length cp] 47
 have hz6:(w1.alloc (.cells #[.slice ap pls.length cp] 47)).heap.size=w.heap.size+1+1:=by simp[hz5]
 have hx5':=(DK w1 (.cells #[.slice ap pls.length cp] 47) (r:=w.heap.size) (by omega)).trans hx5;generalize w1.alloc (.cells #[.slice ap pls.length cp] 47)=w1b at*;obtain⟨hx7,-,hB7⟩:=AA (w0:=w) hB6 (by omega) #[.int .i64 0,.int .i64 0,.int .i64 0,.slice none 0 0,.slice none 0 0] 37
 have hz7:(w1b.alloc (.cells #[.int .i64 0,.int .i64 0,.int .i64 0,.slice none 0 0,.slice none 0 0] 37)).heap.size=w.heap.size+1+1+1:=by simp[hz6]
 have hx5:=(DK w1b (.cells #[.int .i64 0,.int .i64 0,.int .i64 0,.slice none 0 0,.slice none 0 0] 37) (r:=w.heap.size) (by omega)).trans hx5';have hx6:=(DK w1b (.cells #[.int .i64 0,.int .i64 0,.int .i64 0,.slice none 0 0,.slice none 0 0] 37) (r:=w1.heap.size) (by omega)).trans hx6;generalize w1b.alloc (.cells #[.int .i64 0,.int .i64 0,.int .i64 0,.slice none 0 0,.slice none 0 0] 37)=w2 at*;rw[hz5]at hx6;rw[hz6]at hx7;clear hB5 hB6 hz5 hz6 hx5';have l0:=Aa 0 hx6;have k0:=Aa 0 hx5;have k1:=Aa 1 hx5;have k2:=Aa 2 hx5;have k3:=Aa 3 hx5
 go_wp2_with fail
 refine(HNP.out _ hB7).mono ?_;rintro e w3 ⟨pz,rfl,hpz,hPM,hb⟩;replace hx5:=(hb.block _ (by omega)).trans hx5;replace hx6:=(hb.block _ (by omega)).trans hx6;replace hx7:=(hb.block _ (by omega)).trans hx7;replace hB7:=hB7.trans (hb.mono hB7.size)
 have hz3:w.heap.size+1+1+1<=w3.heap.size:=by have:=hb.size;omega
 have HPM:=Ab hPM;clear hb hz7 k0 k1 k2 k3 l0 hPM
 go_upto_region 2 with(fail)
 obtain⟨hx8,hb8,-⟩:=AA (w0:=w3) (B:=w3.heap.size) Ad leR #[.pointer (some ⟨pz,0,none⟩)] 87
 have hs8:(w3.alloc (.cells #[.pointer (some ⟨pz,0,none⟩)] 87)).heap.size=w3.heap.size+1:=by simp
 generalize w3.alloc (.cells #[.pointer (some ⟨pz,0,none⟩)] 87)=w4 at*;replace hx5:=(hb8.block _ (by omega)).trans hx5;replace hx6:=(hb8.block _ (by omega)).trans hx6;replace hx7:=(hb8.block _ (by omega)).trans hx7;replace hB7:=hB7.trans (hb8.mono hB7.size);replace HPM:=Ab (HPM.out.below hb8)
 have hpp:w3.heap.size<w4.heap.size:=by omega
 have hpp2:w.heap.size+1+1+1<=w3.heap.size:=hz3;generalize w3.heap.size=pp at*;clear hb8 hs8;have l0:=Aa 0 hx6;have k2:=Aa 2 hx5;obtain⟨bp,op,ad,-,hd⟩:=(HP.out.below hB7).dat3;obtain rfl:=ad (by omega);obtain⟨d0,d1,-,-⟩:=hd 0 h0l;rw[H0.out.1]at d1;rw[Nat.zero_mul,Nat.add_zero]at d0 d1;have hs0:=H0.out.2.1;have hs1:=H0.out.2.2
 have t0:((pls.length:Int)==0)=false:=by rw[beq_eq_false_iff_ne];omega
 have hl0:(0:Int)<(pls.length:Int):=by omega
 have t1:decide ((pls.getD 0 pl0).st<0)=false:=decide_eq_false (by omega);have t2:decide ((a.next.length:Int)<=(pls.getD 0 pl0).st)=false:=decide_eq_false (by omega);clear ad hd;generalize(pls.getD 0 pl0).st=s0q at*
 go_upto_region 2 with(fail)
 go_quiet (fail)
 have hx6d:(w4.drewN nq).heap[w.heap.size+1]? =some (.cells #[.slice (some ⟨bp,op,none⟩) pls.length cp] 47 (0,0)):=hx6;have hx7d:(w4.drewN nq).heap[w.heap.size+1+1]? =some (.cells #[.int .i64 0,.int .i64 0,.int .i64 0,.slice none 0 0,.slice none 0 0] 37 (0,0)):=hx7;have hx8d:(w4.drewN nq).heap[pp]? =some (.cells #[.pointer (some ⟨pz,0,none⟩)] 87 (0,0)):=hx8;have hB7d:Below w.heap.size w (w4.drewN nq):=hB7.trans (Ai _ _ _);have hPMd:=HPM.out.below (Ai w4 w4.heap.size nq);have hppd:pp<(w4.drewN nq).heap.size:=hpp;clear hx5 hx6 hx7 hx8 hB7 HPM hpp d0 d1 t0 t1 t2 k2 l0 hs0 hs1 hl0;generalize w4.drewN nq=w4b at*;have hx6:=hx6d;have hx7:=hx7d;have hx8:=hx8d;have hB7:=hB7d;have hpp:=hppd;have HPM:=Ab hPMd;clear hx6d hx7d hx8d hB7d hppd hPMd
 go_wp2_with fail
 refine(HI0.out _ hB7).mono ?_;rintro e w5 ⟨rfl,hb⟩;replace hx6:=(hb.block _ (by omega)).trans hx6;replace hx7:=(hb.block _ (by omega)).trans hx7;replace hx8:=(hb.block _ (by omega)).trans hx8;replace hB7:=hB7.trans (hb.mono hB7.size);replace HPM:=Ab (HPM.out.below hb)
 replace hpp:pp<w5.heap.size:=by have:=hb.size;omega
 clear hb
 go_wp2_with fail
 refine(HO0.out _ hB7).mono ?_;rintro e w6 ⟨rfl,hb⟩;replace hx6:=(hb.block _ (by omega)).trans hx6;replace hx7:=(hb.block _ (by omega)).trans hx7;replace hx8:=(hb.block _ (by omega)).trans hx8;replace hB7:=hB7.trans (hb.mono hB7.size);replace HPM:=Ab (HPM.out.below hb)
 replace hpp:pp<w6.heap.size:=by have:=hb.size;omega
 clear hb
 go_upto_region 5 with(fail)
 obtain⟨hx9,hb9,-⟩:=AA (w0:=w6) (B:=w6.heap.size) Ad leR #[.int .i64 ci,.int .i64 (n:Int),.int .i64 0,.slice none 0 0,.slice none 0 0] 37
 have hs9:(w6.alloc (.cells #[.int .i64 ci,.int .i64 (n:Int),.int .i64 0,.slice none 0 0,.slice none 0 0] 37)).heap.size=w6.heap.size+1:=by simp
 generalize w6.alloc (.cells #[.int .i64 ci,.int .i64 (n:Int),.int .i64 0,.slice none 0 0,.slice none 0 0] 37)=w9 at*;replace hx6:=(hb9.block _ (by omega)).trans hx6;replace hx7:=(hb9.block _ (by omega)).trans hx7;replace hx8:=(hb9.block _ (by omega)).trans hx8;have HB7w:=Ab hB7;replace hB7:=hB7.trans (hb9.mono hB7.size);have hszw:w.heap.size<=w6.heap.size:=HB7w.out.size
 have HPM9:Hid (∀W,Ae (fun q=>w9.heap.size<=q\/q=w6.heap.size) w9 W->DC W pz a pls pls says l/\Cd W (.slice (some ⟨bp,op,none⟩) pls.length cp) pls):=fun W ho=>by
  have hbW:Below w6.heap.size w6 W:=hb9.trans (ho.below _ (fun q e=>by omega) (by omega));exact⟨HPM.out.below hbW,HP.out.below (HB7w.out.trans (hbW.mono hszw))⟩
 clear hb9;generalize w6.heap.size=pr at*;have HX6:=Ab hx6;have HX7:=Ab hx7;have HX8:=Ab hx8;have HX9:=Ab hx9;have HB7:=Ab hB7
 have HPP9:Hid (∀W,Ae (fun q=>w9.heap.size<=q\/q=pr) w9 W->W.heap[pp]? =some (.cells #[.pointer (some ⟨pz,0,none⟩)] 87 (0,0))/\W.heap[w.heap.size+1]? =some (.cells #[.slice (some ⟨bp,op,none⟩) pls.length cp] 47 (0,0))):=fun W ho=>⟨(ho.block pp (by omega) (by omega)).trans HX8.out,(ho.block _ (by omega) (by omega)).trans HX6.out⟩
 have hNQ:E3 w9.heap.size 45 #[.pointer (some ⟨w.heap.size+1,0,none⟩),.pointer (some ⟨pp,0,none⟩),.pointer (some ⟨pr,0,none⟩)] n K (gP nx 0 0 n) nx (EJ w9 pr ci (n:Int) ins):=by
  refine⟨fun k H W ⟨v3,h⟩=>h.lt,fun k H W W' ⟨v3,h⟩ ho=>⟨v3,h.keep ho⟩,fun k H W hj hBW hk=> ?_⟩
  have ho:Ae (fun q=>w9.heap.size<=q\/q=pr) w9 W:=by obtain⟨v3,h⟩:=hj;exact h.on
  obtain⟨q,t,i,⟨e1,e2,e3,e4,e5,e6,e7,e8,e9,e10⟩,g1,g2,g3,g4,g5,g6⟩:=HENV.out k hk;have hx:=HST.out k (by omega) (gP nx 0 0 n k) (by unfold gP;rw[Ag _ _ _ (HEN.out.2 k hk)];exact List.getElem_mem _);have h1:=QI W w9 (w.heap.size+1) pp pz pr a pls says l ci (n:Int) (gP nx 0 0 n k).toNat t q i k ins H (some ⟨bp,op,none⟩) cp (HPP9.out W ho).2 (HPM9.out W ho).2 (HPP9.out W ho).1 (fun W' ho'=>⟨(HPM9.out W' ho').1,(HPP9.out W' ho').1⟩) hj e1 HSL.out e2 e3 e4 e5 e6 e7 g3 HVA.out e9 g4 g5 g6 e10 g1 (by omega);rw[show(((gP nx 0 0 n k).toNat:Nat):Int)=gP nx 0 0 n k by omega,g2]at h1;exact h1
 have hWF:∀k,k<=K->∀x∈Sx nx 0 0 n k,I64 x:=fun k hk x hx=>by
  have h1:=HST.out k hk x hx;unfold I64;omega
 have HSR:Hid (Calls Tryd.prog 44 #[.int .i64 0,.int .i64 3000,.func (.func 45) #[] #[.pointer (some ⟨w.heap.size+1,0,none⟩),.pointer (some ⟨pp,0,none⟩),.pointer (some ⟨pr,0,none⟩)]] w9 (FF w9.heap.size (EJ w9 pr ci (n:Int) ins K) (gN nx 0 0 n K))):=
  IM w9 45 _ (enters_of Tryd.func45 (by kernel_rfl) rfl) nx 0 n K 3000 _ _ hNQ HEN.out (by omega) (by omega) (by omega) hWF (EK.start HX9.out)
 have HINB:Hid (∀k,k<K->I64 (ins k)):=fun k hk=>by
  obtain⟨q,t,i,-,g1,-,g3,-⟩:=HENV.out k hk;rw[g1];unfold I64;omega
 clear hNQ hWF HPM9 HPP9 HENV HNP HI0 HO0
 go_wp2_with fail
 refine HSR.out.mono ?_;rintro e w10 ⟨vS,vT,H,rfl,⟨v3,hEK⟩,hBz,hT⟩;have HEK:=Ab hEK;have HT:=Ab hT;have z4:=Aa 4 hEK.box;have zf:=Aw 4 hEK.box;obtain⟨aT,cT,hvT⟩:=(hT w10 (Ae.refl _ _)).shape;obtain⟨a7,c7,e7⟩:=hEK.own.slice' (n:=K) (by simp);subst hvT e7;have hgl:(gN nx 0 0 n K).length=K:=DJ;rw[hgl];have hbx:=heap_setCell_same _ _ 4 _ _ (.slice aT K cT) hEK.box;have hB10:Below w.heap.size w w10:=HB7.out.trans (hEK.on.below _ (fun q e=>by have:=HB7.out.size;omega) HB7.out.size);have hpz9:=hEK.pz;have hx7':(w10.setCell ⟨pr,4,none⟩ (.slice aT K cT)).heap[w.heap.size+1+1]? =some (.cells #[.int .i64 0,.int .i64 0,.int .i64 0,.slice none 0 0,.slice none 0 0] 37 (0,0)):=(heap_setCell_other _ _ _ _ (by simp;omega)).trans ((hEK.on.block _ (by omega) (by omega)).trans HX7.out);have HX7':=Ab hx7';have HBR:Hid (Below w.heap.size w (w10.setCell ⟨pr,4,none⟩ (.slice aT K cT))):=hB10.trans ((Ae.set (S:=fun q=>q=pr) pr 4 _ rfl).below _ (fun q e=>by omega) hB10.size)
 have HIS:Hid (∀W',Ae (fun q=>q=w.heap.size+1+1) (w10.setCell ⟨pr,4,none⟩ (.slice aT K cT)) W'->DI W' (.agg #[.int .i64 ci,.int .i64 (n:Int),.int .i64 0,.slice a7 K c7,.slice aT K cT]) ⟨ci,(n:Int),0,(List.range K).map ins,gN nx 0 0 n K⟩):=fun W' hW=>by
  have h1:Ae (fun q=>q=pr\/q<w9.heap.size) w10 W':=((Ae.set (S:=fun q=>q=pr\/q<w9.heap.size) pr 4 (.slice aT K cT) (.inl rfl))).trans (hW.mono fun q _ e=>.inr (by omega));refine⟨_,_,rfl,⟨by show I64 ci;unfold I64;omega,by show I64 (n:Int);unfold I64;omega,by show I64 0;unfold I64;omega⟩, ?_, ?_⟩
  ·refine(HEK.out.own.only h1 fun q e k=>by have:=HEK.out.own.ge q e;omega).is (by simp;unfold Bg;omega) fun x hx=> ?_
   obtain⟨y,hy,rfl⟩:=List.mem_map.1 hx;exact HINB.out y (List.mem_range.1 hy)
  ·have h3:=HT.out W' (h1.mono fun q _ e=> ?_)
   ·rwa [hgl]at h3
   rcases e with e|e
   ·exact .inr ((HEK.out.hH q).2 (.inl e))
   ·exact .inl e
 have q0:=Aa 0 hx7';have q1:=Aa 1 hx7';have q2:=Aa 2 hx7';have q3:=Aa 3 hx7';have q4:=Aa 4 hx7';have f0:=Aw 0 hx7';have f1:=Aw 1 hx7';have f2:=Aw 2 hx7';have f3:=Aw 3 hx7';have f4:=Aw 4 hx7';have r0:=Aa 0 hbx;have r1:=Aa 1 hbx;have r2:=Aa 2 hbx;have r3:=Aa 3 hbx;have r4:=Aa 4 hbx;clear hEK hT hbx hx7' hB10 hgl hx6 hx7 hx8 hx9 hB7
 go_upto_region 9 with(fail)
 clear z4 zf;generalize w10.setCell ⟨pr,4,none⟩ (.slice aT K cT)=w11 at*;go_wp2;have hc5:=DS (a:=.int .i64 ci) (b:=.int .i64 (n:Int)) (c:=.int .i64 0) (d:=.slice a7 K c7) (e:=.slice aT K cT) HX7'.out;have cc0:=Aa 0 hc5;have cc1:=Aa 1 hc5;have cc2:=Aa 2 hc5;have cc3:=Aa 3 hc5;have cc4:=Aa 4 hc5;refine bodyPost_ret (v:=.tuple #[.agg #[.int .i64 ci,.int .i64 (n:Int),.int .i64 0,.slice a7 K c7,.slice aT K cT],.int .i64 0]) (by simp[results,Tryd.results16,go_sem,cc0,cc1,cc2,cc3,cc4]) rfl ?_;exact N4 HBR.out (by omega) (fun W' h=>HIS.out W' h)
end Go.Proofs.YtncjeamdkjcebaaDoor
