/- What the closure in mealy.ExtractEnv computes: the input of a state, and its successors. -/
import Derived.ChangeAlike
import Derived.Test.YtncjeamdkjcebaaGreatDoorZMyZ2
set_option linter.all false
set_option maxHeartbeats 8000000
set_option maxRecDepth 100000
namespace Go.Proofs.YtncjeamdkjcebaaGreatDoor
open Go.RowKit
structure EK(w0:World)(pr:Nat)(ci co:Int)(ins:Nat->Int)(k:Nat)(v3:Value)(H:Nat->Prop)(W:World):Prop where
 hH:∀q,H q↔(q=pr\/v3.ownBlock=some q)
 on:Ag (fun q=>w0.heap.size<=q\/q=pr) w0 W
 box:W.heap[pr]? =some (.cells #[.int .i64 ci,.int .i64 co,.int .i64 0,v3,.slice none 0 0] 28 (0,0))
 own:OI W w0.heap.size v3 ((List.range k).map ins)
 pz:pr<w0.heap.size
def EJ(w0:World)(pr:Nat)(ci co:Int)(ins:Nat->Int)(k:Nat)(H:Nat->Prop)(W:World):Prop:=∃v3,EK w0 pr ci co ins k v3 H W
section
variable {w0 W W' W2:World} {pr k:Nat} {ci co:Int} {ins:Nat->Int} {H:Nat->Prop} {v3 v':Value}
theorem EK.lt(h:EK w0 pr ci co ins k v3 H W):∀q,H q->q<W.heap.size:=fun q e=>by
 rcases(h.hH q).1 e with e|e
 ·rw[e];exact Nat.lt_of_lt_of_le h.pz h.on.size
 ·exact h.own.lt' q e
theorem EK.keep(h:EK w0 pr ci co ins k v3 H W)(ho:Ag (fun q=>w0.heap.size<=q/\¬H q) W W'):EK w0 pr ci co ins k v3 H W':=by
 have hn:∀q,H q->¬(w0.heap.size<=q/\¬H q):=fun q e k=>k.2 e
 exact⟨h.hH,h.on.trans (ho.mono fun q _ e=>.inl e.1),(ho.block _ (Nat.lt_of_lt_of_le h.pz h.on.size) (hn _ ((h.hH _).2 (.inl rfl)))).trans h.box,h.own.only ho fun q e=>hn q ((h.hH q).2 (.inr e)),h.pz⟩
theorem EK.start(h:W.heap[pr]? =some (.cells #[.int .i64 ci,.int .i64 co,.int .i64 0,.slice none 0 0,.slice none 0 0] 28 (0,0))):EJ W pr ci co ins 0 (fun q=>q=pr) W:=
 ⟨.slice none 0 0,fun q=>by simp[Value.ownBlock],Ag.refl _ _,h,BC _ _,(ltE h)⟩
theorem EK.push(h:EK w0 pr ci co ins k v3 H W)(ho:OI W' w0.heap.size v' ((List.range k).map ins++[ins k]))(hg:W.grownBy W' v3.ownBlock)(hm:A7 W v3 v'):
  (W'.heap[pr]? =some (.cells #[.int .i64 ci,.int .i64 co,.int .i64 0,v3,.slice none 0 0] 28 (0,0)))/\∃H',EJ w0 pr ci co ins (k+1) H' (W'.setCell ⟨pr,3,none⟩ v')/\Ag H W (W'.setCell ⟨pr,3,none⟩ v')/\∀q,H' q->H q\/W.heap.size<=q:=by
 have hz:=Nat.lt_of_lt_of_le h.pz h.on.size;have hpz:=h.pz
 have hp3:v3.ownBlock≠some pr:=fun e=>by have:=h.own.ge pr e;omega
 have o1:Ag (fun q=>v3.ownBlock=some q) W W':=Ag.of_grown hg;have hbox:W'.heap[pr]? =some (.cells #[.int .i64 ci,.int .i64 co,.int .i64 0,v3,.slice none 0 0] 28 (0,0)):=(o1.block pr hz hp3).trans h.box;have oP:Ag (fun q=>q=pr) W' (W'.setCell ⟨pr,3,none⟩ v'):=Ag.set _ _ _ rfl
 have hv'p:v'.ownBlock≠some pr:=fun e=>by
  rcases hm pr e with k|k
  ·exact hp3 k
  ·omega
 have o3:Ag H W (W'.setCell ⟨pr,3,none⟩ v'):=(o1.mono fun q _ e=>(h.hH q).2 (.inr e)).trans (oP.mono fun q _ e=>(h.hH q).2 (.inl e));refine⟨hbox,fun q=>q=pr\/v'.ownBlock=some q,⟨v',fun _=>Iff.rfl, ?_,heap_setCell_same _ _ 3 _ _ _ hbox, ?_,h.pz⟩,o3,fun q e=> ?_⟩
 ·refine h.on.trans (o3.mono fun q _ e=> ?_)
  rcases(h.hH q).1 e with e|e
  ·exact .inr e
  ·exact .inl (h.own.ge q e)
 ·rw[List.range_succ,List.map_append]
  exact ho.only oP fun q e k=>hv'p (k▸e)
 ·rcases e with e|e
  ·exact .inl ((h.hH q).2 (.inl e))
  ·exact(hm q e).imp (fun k=>(h.hH q).2 (.inr k)) id
end
theorem Sj(W w0:World)(pq pp pz pr:Nat)(a:Au)(pls:List T4)(says:List Int)(l:List Sig)(ci co:Int)(c t q i k:Nat)(ins:Nat->Int)(H:Nat->Prop)(ap:Option Addr)(cp:Nat)
  (hq:W.heap[pq]? =some (.cells #[.slice ap pls.length cp] 66 (0,0))) (hqp:Ct W (.slice ap pls.length cp) pls) (hpp:W.heap[pp]? =some (.cells #[.pointer (some ⟨pz,0,none⟩)] 115 (0,0)))
  (hPM:∀W',Ag (fun q=>w0.heap.size<=q\/q=pr) w0 W'->DY W' pz a pls pls says l/\W'.heap[pp]? =some (.cells #[.pointer (some ⟨pz,0,none⟩)] 115 (0,0))) (hj:EJ w0 pr ci co ins k H W)
  (hcl:c<pls.length) (hsl:says.length=pls.length) (hst:(pls.getD c pl0).st=(q:Int)) (ht:says.getD c 0=(t:Int)) (htl:t<pls.length) (hts:(pls.getD t pl0).st=(q:Int)) (htp:(pls.getD t pl0).pr=-1) (hti:(pls.getD t pl0).inn=(i:Int)) (hic:(i:Int)<ci)
  (hva:AF a=true) (hqn:q<a.next.length) (hi:i<(Aq l).length) (h64:((Aq l).getD i []).length<=64) (hx:∀j,j<((Aq l).getD i []).length->0<=((Aq l).getD i []).getD j 0/\((Aq l).getD i []).getD j 0<a.letters)
  (hm:∀j,j<((Aq l).getD i []).length->plA a q (((Aq l).getD i []).getD j 0)∈pls) (hins:ins k=(i:Int)) (hk:k<4000):
  Calls Tryz.prog 83 #[.int .i64 (c:Int),.pointer (some ⟨pq,0,none⟩),.pointer (some ⟨pp,0,none⟩),.pointer (some ⟨pr,0,none⟩)] W (JV (((Aq l).getD i []).map fun x=>((pls.idxOf (plA a q x):Nat):Int)) (EJ w0 pr ci co ins (k+1)) H W):=by
 obtain⟨v3,hJ⟩:=hj;have hP0:=(hPM W hJ.on).1
 have HCH:Hid (Calls Tryz.prog 84 #[.pointer (some ⟨pz,0,none⟩),.int .i64 (c:Int)] W (fun e W9=>e=.returned (.tuple #[.agg #[.int .i64 (q:Int),.int .i64 (i:Int),.int .i64 (-1)],.bool true])/\Below W.heap.size W W9)):=by
  have h1:=KV W pz a pls pls says l c t hP0 (by omega) ht htl;rw[show plV (pls.getD t pl0)=.agg #[.int .i64 (q:Int),.int .i64 (i:Int),.int .i64 (-1)]by show Value.agg #[.int .i64 (pls.getD t pl0).st,.int .i64 (pls.getD t pl0).inn,.int .i64 (pls.getD t pl0).pr]=_;rw[hts,htp,hti]]at h1;exact h1
 have HAF:Hid (∀W',Ag (fun q=>w0.heap.size<=q\/q=pr) w0 W'->Calls Tryz.prog 85 #[.pointer (some ⟨pz,0,none⟩),.int .i64 (q:Int),.int .i64 (i:Int)] W' (R7 (((Aq l).getD i []).map fun x=>((pls.idxOf (plA a q x):Nat):Int)) W')):=fun W' ho=>Re W' pz a pls says l q i (hPM W' ho).1 hva hqn hi h64 hx hm
 have HPM:Hid (∀W',Ag (fun q=>w0.heap.size<=q\/q=pr) w0 W'->W'.heap[pp]? =some (.cells #[.pointer (some ⟨pz,0,none⟩)] 115 (0,0))):=fun W' ho=>(hPM W' ho).2
 obtain⟨b,o,ad,-,hd⟩:=hqp.dat3;obtain rfl:=ad (by omega);obtain⟨e0,-,-,-⟩:=hd c hcl;rw[hst]at e0;have z0:=Aa 0 hq;have zp:=Aa 0 hpp;have HJ:=Ab hJ;have HINS:=Ab hins
 have hc0:(0:Int)<=(c:Int):=by omega
 have hc1:(c:Int)<(pls.length:Int):=by omega
 have t2:decide ((i:Int)<0)=false:=by simp
 have t3:decide (ci<=(i:Int))=false:=by simp;omega
 clear hq hqp hpp hPM hJ hP0 hd hst ht hts htp hti hva hqn hi h64 hx hm hins ad hic;generalize(((Aq l).getD i []).map fun x=>((pls.idxOf (plA a q x):Nat):Int))=TT at*
 go_enter Tryz.func83,Tryz.ntmps83
 go_wp2_with fail
 refine HCH.out.mono ?_;rintro e w1 ⟨rfl,hb1⟩
 go_upto_region 3 with(fail)
 obtain⟨hx8,hb8,-⟩:=Az (w0:=w1) (B:=w1.heap.size) Ad leR #[.int .i64 (q:Int),.int .i64 (i:Int),.int .i64 (-1)] 108;generalize w1.alloc (.cells #[.int .i64 (q:Int),.int .i64 (i:Int),.int .i64 (-1)] 108)=w2 at*;have hb2:Below W.heap.size W w2:=hb1.trans (hb8.mono hb1.size);have hJ2:=HJ.out.keep (Ag.of_below hb2);have HJ2:=Ab hJ2;have HB2:=Ab hb2;have y0:=Aa 0 hx8;have y1:=Aa 1 hx8;have y2:=Aa 2 hx8;have r0:=Aa 0 hJ2.box;have r3:=Aa 3 hJ2.box;have HX8:=Ab hx8;have hzs:w1.heap.size<w2.heap.size:=(ltE hx8);have hzw:W.heap.size<=w1.heap.size:=hb1.size;obtain⟨a7,c7,rfl⟩:=hJ2.own.slice' (n:=k) (by simp);have hBz:w0.heap.size<=w2.heap.size:=hJ2.on.size;clear hb1 hb8 hx8 hb2 hJ2 HCH z0 zp e0;generalize w1.heap.size=zs at*
 go_upto_region 6 with(at_builtin;refine DZ rfl _ _ (i:Int) rfl w0.heap.size (.slice a7 k c7) ((List.range k).map ins) HJ2.out.own rfl _ (by simp) rfl (by simp;omega) hBz ?_;intro v' w8 ho8 hg8 hm8;obtain⟨a8,c8,hv8⟩:=ho8.slice' (n:=k+1) (by simp);subst hv8;have HPU:=Ab (HJ2.out.push (by rw[HINS.out];exact ho8) hg8 hm8);have z9:=Aa 3 HPU.out.1;have f9:=Ay 3 HPU.out.1;have HG8:Hid (w8.heap[zs]? =w2.heap[zs]?):=hg8.block zs hzs (fun e=>by have:=HJ.out.own.lt' zs e.symm;omega);clear ho8 hg8 hm8)
 obtain⟨-,H',q1,q2,q3⟩:=HPU.out;have hprW:pr<W.heap.size:=(Array.getElem?_eq_some_iff.1 HJ.out.box).1;have hx9:(w8.setCell ⟨pr,3,none⟩ (.slice a8 (k+1) c8)).heap[zs]? =some (.cells #[.int .i64 (q:Int),.int .i64 (i:Int),.int .i64 (-1)] 108 (0,0)):=(heap_setCell_other _ _ _ _ (by simp;omega)).trans (HG8.out.trans HX8.out);have HQ1:=Ab q1;have HQ2:=Ab q2;have HQ3:=Ab q3;clear HPU q1 q2 q3 z9 f9 y0 y1 y2 r0 r3 HG8;generalize w8.setCell ⟨pr,3,none⟩ (.slice a8 (k+1) c8)=w9 at*;obtain⟨v9,hJ9⟩:=HQ1.out;have on9:=hJ9.on;have y1:=Aa 1 hx9;have zp:=Aa 0 (HPM.out w9 on9);have HJ9:=Ab hJ9;have HAF9:=Ab (HAF.out w9 on9);clear hJ9 on9 hx9 HQ1 HAF HPM
 go_wp2_with fail
 refine HAF9.out.mono ?_;rintro e w10 ⟨v,rfl,hov,hbv⟩;obtain⟨aV,cV,rfl⟩:=hov.slice
 have hW2:W.heap.size<=w2.heap.size:=by omega
 have h29:=HQ2.out.size
 have HFI:Hid (JV TT (EJ w0 pr ci co ins (k+1)) H W (.returned (.tuple #[.slice aV TT.length cV,.bool true])) w10):=by
  refine⟨_,H',rfl,hov.base (by omega),fun q e1 e2=> ?_,⟨v9,HJ9.out.keep (Ag.of_below hbv)⟩, ?_,fun q e=> ?_⟩
  ·have h1:=hov.ge q e1;have h2:=HJ9.out.lt q e2;omega
  ·exact((Ag.of_below HB2.out).trans HQ2.out).trans (Ag.of_below hbv)
  ·exact(HQ3.out q e).imp id fun h=>by omega
 clear hov hbv HAF9;go_wp2;go_ret2;exact HFI.out
def QW(a:Au)(pls:List T4)(says:List Int)(l:List Sig)(c q t i:Nat):Prop:=
 c<pls.length/\(pls.getD c pl0).st=(q:Int)/\says.getD c 0=(t:Int)/\t<pls.length/\(pls.getD t pl0).st=(q:Int)/\(pls.getD t pl0).pr=-1/\(pls.getD t pl0).inn=(i:Int)/\i<(Ap l).toNat/\q<a.next.length/\
  ∀j,j<((Aq l).getD i []).length->plA a q (((Aq l).getD i []).getD j 0)∈pls
def O1(m:Mo)(k:Int)(w:World)(e:Ending)(w':World):Prop:=∃v,e=.returned (.tuple #[v,.int .i64 k])/\Dl w' v m/\Below w.heap.size w w'
theorem PH{w W:World}{n:Nat}{m:Mo}{x0 x1 x2 x3 x4 y:Value}{k:Int}(hb:Below w.heap.size w W)(hn:w.heap.size<=n)(hy:∀W',Ag (fun q=>q=n) W W'->Dl W' y m):
  O1 m k w (.returned (.tuple #[y,.int .i64 k])) (((((W.setCell ⟨n,0,none⟩ x0).setCell ⟨n,1,none⟩ x1).setCell ⟨n,2,none⟩ x2).setCell ⟨n,3,none⟩ x3).setCell ⟨n,4,none⟩ x4):=
 ⟨y,rfl,hy _ (Fn _ _ _ _ _ _),hb.trans ((Fn _ _ _ _ _ _).below w.heap.size (fun q e=>by omega) hb.size)⟩
theorem JP(w:World)(vl va vp vs:Value)(l:List Sig)(a:Au)(pls:List T4)(says:List Int)(hK:BN w)(hl:AH w vl l)(ha:Cm w va a)(hp:Ct w vp pls)(hs:Ai w vs says)
  (hvs:At l=true) (hva:AF a=true) (hal:a.letters=AC l) (hpl:pls.length<=2900) (hsl:says.length=pls.length) (hnd:pls.Nodup)
  (nx:Int->Nat->Int) (ins:Nat->Int) (K:Nat) (hend:JQ nx 0 0 (Aj l).toNat K) (hK9:K<=2900) (h0:(pls.getD 0 pl0).inn=-1/\0<=(pls.getD 0 pl0).st/\(pls.getD 0 pl0).st<a.next.length) (h0l:0<pls.length)
  (hst:∀k,k<=K->∀x∈Ue nx 0 0 (Aj l).toNat k,0<=x/\x<pls.length)
  (henv:∀k,k<K->∃q t i:Nat,QW a pls says l (gP nx 0 0 (Aj l).toNat k).toNat q t i/\ins k=(i:Int)/\(((Aq l).getD i []).map fun x=>((pls.idxOf (plA a q x):Nat):Int))=(List.range (Aj l).toNat).map (nx (gP nx 0 0 (Aj l).toNat k))):
  Calls Tryz.prog 39 #[vl,va,vp,vs] w (O1 ⟨Ap l,Aj l,0,(List.range K).map ins,gN nx 0 0 (Aj l).toNat K⟩ 0 w):=by
 have hmx:Tryz.prog.follows .mixedOrders=true:=by kernel_rfl
 have HNP:Hid (∀W,Below w.heap.size w W->Calls Tryz.prog 77 #[vl,va,vp,vs] W (Ht a pls says l W)):=fun W h=>Jw W _ _ _ _ l a pls says (hK.below h) (hl.below h) (ha.below h) (hp.below h) (hs.below h) hvs hva hal hpl hsl hnd
 have HI0:Hid (∀W,Below w.heap.size w W->Calls Tryz.prog 78 #[vl] W (Av (.int .i64 (Ap l)) W)):=fun W h=>DJ W _ _ (hK.below h) (hl.below h)
 have HO0:Hid (∀W,Below w.heap.size w W->Calls Tryz.prog 79 #[vl] W (Av (.int .i64 (Aj l)) W)):=fun W h=>CY W _ _ (hK.below h) (hl.below h)
 obtain⟨⟨hi0,hi1⟩,⟨ho0,ho1⟩⟩:=C7 hvs;obtain⟨n,hn⟩:∃n:Nat,Aj l=(n:Int):=⟨(Aj l).toNat,by omega⟩
 have hnn:(Aj l).toNat=n:=by omega
 have hnx:a.next.length<=3000:=by
  simp only[AF,Bool.and_eq_true,decide_eq_true_eq]at hva;exact hva.1.1.1.2.2
 have hin:Ap l<=64:=by omega
 rw[hnn]at hend hst henv⊢
 have HENV:Hid (∀k,k<K->∃q t i:Nat,QW a pls says l (gP nx 0 0 n k).toNat q t i/\ins k=(i:Int)/\(((Aq l).getD i []).map fun x=>((pls.idxOf (plA a q x):Nat):Int))=(List.range n).map (nx (gP nx 0 0 n k))/\(i:Int)<Ap l/\i<(Aq l).length/\((Aq l).getD i []).length<=64/\∀j,j<((Aq l).getD i []).length->0<=((Aq l).getD i []).getD j 0/\((Aq l).getD i []).getD j 0<a.letters):=fun k hk=>by
  obtain⟨q,t,i,h1,h2,h3⟩:=henv k hk;have hi:i<(Ap l).toNat:=h1.2.2.2.2.2.2.2.1;obtain⟨j1,j2,j3⟩:=Iq (l:=l) hi;refine⟨q,t,i,h1,h2,h3,by omega,j1,by rw[j2];omega,fun j hj=> ?_⟩;rw[j2]at hj;rw[j3 j hj,hal];obtain⟨⟨a1,a2⟩,-⟩:=Cc hvs (i:=(i:Int)) (o:=(j:Int)) (by omega) (by omega) (by omega) (by omega);exact⟨a1,a2⟩
 have HVA:=Ab hva;rw[hn]at HO0⊢;generalize hci:Ap l=ci at*;obtain⟨ap,cp,rfl⟩:=hp.shape;have HP:=Ab hp;have HSL:=Ab hsl;obtain⟨v2,v3,rfl,⟨hIa,hIb⟩,h2,h3⟩:=ha;obtain⟨sa,sc,rfl⟩:=hl.shape;obtain⟨a2,c2,rfl⟩:=h2.shape;obtain⟨a3,c3,rfl⟩:=h3.shape;have HEN:=Ab hend;have HST:=Ab hst
 have hn64:n<=64:=by omega
 have hn1:0<n:=by omega
 have H0:=Ab h0;clear hl hp hs hK h2 h3 hvs hva hal hnd hsl henv hend hst hn hnn h0 hci
 go_enter Tryz.func39,Tryz.ntmps39
 go_upto_region 1 with(fail)
 obtain⟨hx5,-,hB5⟩:=Az (w0:=w) Ad leR #[.int .i64 a.letters,.int .i64 a.start,.slice a2 a.next.length c2,.slice a3 a.prio.length c3] 63
 have hz5:(w.alloc (.cells #[.int .i64 a.letters,.int .i64 a.start,.slice a2 a.next.length c2,.slice a3 a.prio.length c3] 63)).heap.size=w.heap.size+1:=by simp
 generalize w.alloc (.cells #[.int .i64 a.letters,.int .i64 a.start,.slice a2 a.next.length c2,.slice a3 a.prio.length c3] 63)=w1 at*;obtain⟨hx6,-,hB6⟩:=Az (w0:=w) hB5 (by omega) #[.slice ap pls.length cp] 66
 have hz6:(w1.alloc (.cells #[.slice ap pls.length cp] 66)).heap.size=w.heap.size+1+1:=by simp[hz5]
 have hx5':=(Dt w1 (.cells #[.slice ap pls.length cp] 66) (r:=w.heap.size) (by omega)).trans hx5;generalize w1.alloc (.cells #[.slice ap pls.length cp] 66)=w1b at*;obtain⟨hx7,-,hB7⟩:=Az (w0:=w) hB6 (by omega) #[.int .i64 0,.int .i64 0,.int .i64 0,.slice none 0 0,.slice none 0 0] 28
 have hz7:(w1b.alloc (.cells #[.int .i64 0,.int .i64 0,.int .i64 0,.slice none 0 0,.slice none 0 0] 28)).heap.size=w.heap.size+1+1+1:=by simp[hz6]
 have hx5:=(Dt w1b (.cells #[.int .i64 0,.int .i64 0,.int .i64 0,.slice none 0 0,.slice none 0 0] 28) (r:=w.heap.size) (by omega)).trans hx5';have hx6:=(Dt w1b (.cells #[.int .i64 0,.int .i64 0,.int .i64 0,.slice none 0 0,.slice none 0 0] 28) (r:=w1.heap.size) (by omega)).trans hx6;generalize w1b.alloc (.cells #[.int .i64 0,.int .i64 0,.int .i64 0,.slice none 0 0,.slice none 0 0] 28)=w2 at*;rw[hz5]at hx6;rw[hz6]at hx7;clear hB5 hB6 hz5 hz6 hx5';have l0:=Aa 0 hx6;have k0:=Aa 0 hx5;have k1:=Aa 1 hx5;have k2:=Aa 2 hx5;have k3:=Aa 3 hx5
 go_wp2_with fail
 refine(HNP.out _ hB7).mono ?_;rintro e w3 ⟨pz,rfl,hpz,hPM,hb⟩;replace hx5:=(hb.block _ (by omega)).trans hx5;replace hx6:=(hb.block _ (by omega)).trans hx6;replace hx7:=(hb.block _ (by omega)).trans hx7;replace hB7:=hB7.trans (hb.mono hB7.size)
 have hz3:w.heap.size+1+1+1<=w3.heap.size:=by have:=hb.size;omega
 have HPM:=Ab hPM;clear hb hz7 k0 k1 k2 k3 l0 hPM
 go_upto_region 2 with(fail)
 obtain⟨hx8,hb8,-⟩:=Az (w0:=w3) (B:=w3.heap.size) Ad leR #[.pointer (some ⟨pz,0,none⟩)] 115
 have hs8:(w3.alloc (.cells #[.pointer (some ⟨pz,0,none⟩)] 115)).heap.size=w3.heap.size+1:=by simp
 generalize w3.alloc (.cells #[.pointer (some ⟨pz,0,none⟩)] 115)=w4 at*;replace hx5:=(hb8.block _ (by omega)).trans hx5;replace hx6:=(hb8.block _ (by omega)).trans hx6;replace hx7:=(hb8.block _ (by omega)).trans hx7;replace hB7:=hB7.trans (hb8.mono hB7.size);replace HPM:=Ab (HPM.out.below hb8)
 have hpp:w3.heap.size<w4.heap.size:=by omega
 have hpp2:w.heap.size+1+1+1<=w3.heap.size:=hz3;generalize w3.heap.size=pp at*;clear hb8 hs8;have l0:=Aa 0 hx6;have k2:=Aa 2 hx5;obtain⟨bp,op,ad,-,hd⟩:=(HP.out.below hB7).dat3;obtain rfl:=ad (by omega);obtain⟨d0,d1,-,-⟩:=hd 0 h0l;rw[H0.out.1]at d1;rw[Nat.zero_mul,Nat.add_zero]at d0 d1;have hs0:=H0.out.2.1;have hs1:=H0.out.2.2
 have t0:((pls.length:Int)==0)=false:=by rw[beq_eq_false_iff_ne];omega
 have hl0:(0:Int)<(pls.length:Int):=by omega
 have t1:decide ((pls.getD 0 pl0).st<0)=false:=decide_eq_false (by omega);have t2:decide ((a.next.length:Int)<=(pls.getD 0 pl0).st)=false:=decide_eq_false (by omega);clear ad hd;generalize(pls.getD 0 pl0).st=s0q at*
 go_upto_region 2 with(fail)
 go_quiet (fail)
 have hx6d:(w4.drewN nq).heap[w.heap.size+1]? =some (.cells #[.slice (some ⟨bp,op,none⟩) pls.length cp] 66 (0,0)):=hx6;have hx7d:(w4.drewN nq).heap[w.heap.size+1+1]? =some (.cells #[.int .i64 0,.int .i64 0,.int .i64 0,.slice none 0 0,.slice none 0 0] 28 (0,0)):=hx7;have hx8d:(w4.drewN nq).heap[pp]? =some (.cells #[.pointer (some ⟨pz,0,none⟩)] 115 (0,0)):=hx8;have hB7d:Below w.heap.size w (w4.drewN nq):=hB7.trans (Am _ _ _);have hPMd:=HPM.out.below (Am w4 w4.heap.size nq);have hppd:pp<(w4.drewN nq).heap.size:=hpp;clear hx5 hx6 hx7 hx8 hB7 HPM hpp d0 d1 t0 t1 t2 k2 l0 hs0 hs1 hl0;generalize w4.drewN nq=w4b at*;have hx6:=hx6d;have hx7:=hx7d;have hx8:=hx8d;have hB7:=hB7d;have hpp:=hppd;have HPM:=Ab hPMd;clear hx6d hx7d hx8d hB7d hppd hPMd
 go_wp2_with fail
 refine(HI0.out _ hB7).mono ?_;rintro e w5 ⟨rfl,hb⟩;replace hx6:=(hb.block _ (by omega)).trans hx6;replace hx7:=(hb.block _ (by omega)).trans hx7;replace hx8:=(hb.block _ (by omega)).trans hx8;replace hB7:=hB7.trans (hb.mono hB7.size);replace HPM:=Ab (HPM.out.below hb)
 replace hpp:pp<w5.heap.size:=by have:=hb.size;omega
 clear hb
 go_wp2_with fail
 refine(HO0.out _ hB7).mono ?_;rintro e w6 ⟨rfl,hb⟩;replace hx6:=(hb.block _ (by omega)).trans hx6;replace hx7:=(hb.block _ (by omega)).trans hx7;replace hx8:=(hb.block _ (by omega)).trans hx8;replace hB7:=hB7.trans (hb.mono hB7.size);replace HPM:=Ab (HPM.out.below hb)
 replace hpp:pp<w6.heap.size:=by have:=hb.size;omega
 clear hb
 go_upto_region 5 with(fail)
 obtain⟨hx9,hb9,-⟩:=Az (w0:=w6) (B:=w6.heap.size) Ad leR #[.int .i64 ci,.int .i64 (n:Int),.int .i64 0,.slice none 0 0,.slice none 0 0] 28
 have hs9:(w6.alloc (.cells #[.int .i64 ci,.int .i64 (n:Int),.int .i64 0,.slice none 0 0,.slice none 0 0] 28)).heap.size=w6.heap.size+1:=by simp
 generalize w6.alloc (.cells #[.int .i64 ci,.int .i64 (n:Int),.int .i64 0,.slice none 0 0,.slice none 0 0] 28)=w9 at*;replace hx6:=(hb9.block _ (by omega)).trans hx6;replace hx7:=(hb9.block _ (by omega)).trans hx7;replace hx8:=(hb9.block _ (by omega)).trans hx8;have HB7w:=Ab hB7;replace hB7:=hB7.trans (hb9.mono hB7.size);have hszw:w.heap.size<=w6.heap.size:=HB7w.out.size
 have HPM9:Hid (∀W,Ag (fun q=>w9.heap.size<=q\/q=w6.heap.size) w9 W->DY W pz a pls pls says l/\Ct W (.slice (some ⟨bp,op,none⟩) pls.length cp) pls):=fun W ho=>by
  have hbW:Below w6.heap.size w6 W:=hb9.trans (ho.below _ (fun q e=>by omega) (by omega));exact⟨HPM.out.below hbW,HP.out.below (HB7w.out.trans (hbW.mono hszw))⟩
 clear hb9;generalize w6.heap.size=pr at*;have HX6:=Ab hx6;have HX7:=Ab hx7;have HX8:=Ab hx8;have HX9:=Ab hx9;have HB7:=Ab hB7
 have HPP9:Hid (∀W,Ag (fun q=>w9.heap.size<=q\/q=pr) w9 W->W.heap[pp]? =some (.cells #[.pointer (some ⟨pz,0,none⟩)] 115 (0,0))/\W.heap[w.heap.size+1]? =some (.cells #[.slice (some ⟨bp,op,none⟩) pls.length cp] 66 (0,0))):=fun W ho=>⟨(ho.block pp (by omega) (by omega)).trans HX8.out,(ho.block _ (by omega) (by omega)).trans HX6.out⟩
 have hNQ:FC w9.heap.size 83 #[.pointer (some ⟨w.heap.size+1,0,none⟩),.pointer (some ⟨pp,0,none⟩),.pointer (some ⟨pr,0,none⟩)] n K (gP nx 0 0 n) nx (EJ w9 pr ci (n:Int) ins):=by
  refine⟨fun k H W ⟨v3,h⟩=>h.lt,fun k H W W' ⟨v3,h⟩ ho=>⟨v3,h.keep ho⟩,fun k H W hj hBW hk=> ?_⟩
  have ho:Ag (fun q=>w9.heap.size<=q\/q=pr) w9 W:=by obtain⟨v3,h⟩:=hj;exact h.on
  obtain⟨q,t,i,⟨e1,e2,e3,e4,e5,e6,e7,e8,e9,e10⟩,g1,g2,g3,g4,g5,g6⟩:=HENV.out k hk;have hx:=HST.out k (by omega) (gP nx 0 0 n k) (by unfold gP;rw[Af _ _ _ (HEN.out.2 k hk)];exact List.getElem_mem _);have h1:=Sj W w9 (w.heap.size+1) pp pz pr a pls says l ci (n:Int) (gP nx 0 0 n k).toNat t q i k ins H (some ⟨bp,op,none⟩) cp (HPP9.out W ho).2 (HPM9.out W ho).2 (HPP9.out W ho).1 (fun W' ho'=>⟨(HPM9.out W' ho').1,(HPP9.out W' ho').1⟩) hj e1 HSL.out e2 e3 e4 e5 e6 e7 g3 HVA.out e9 g4 g5 g6 e10 g1 (by omega);rw[show(((gP nx 0 0 n k).toNat:Nat):Int)=gP nx 0 0 n k by omega,g2]at h1;exact h1
 have hWF:∀k,k<=K->∀x∈Ue nx 0 0 n k,I64 x:=fun k hk x hx=>by
  have h1:=HST.out k hk x hx;unfold I64;omega
 have HSR:Hid (Calls Tryz.prog 82 #[.int .i64 0,.int .i64 3000,.func (.func 83) #[] #[.pointer (some ⟨w.heap.size+1,0,none⟩),.pointer (some ⟨pp,0,none⟩),.pointer (some ⟨pr,0,none⟩)]] w9 (Gf w9.heap.size (EJ w9 pr ci (n:Int) ins K) (gN nx 0 0 n K))):=
  JJ w9 83 _ (enters_of Tryz.func83 (by kernel_rfl) rfl) nx 0 n K 3000 _ _ hNQ HEN.out (by omega) (by omega) (by omega) hWF (EK.start HX9.out)
 have HINB:Hid (∀k,k<K->I64 (ins k)):=fun k hk=>by
  obtain⟨q,t,i,-,g1,-,g3,-⟩:=HENV.out k hk;rw[g1];unfold I64;omega
 clear hNQ hWF HPM9 HPP9 HENV HNP HI0 HO0
 go_wp2_with fail
 refine HSR.out.mono ?_;rintro e w10 ⟨vS,vT,H,rfl,⟨v3,hEK⟩,hBz,hT⟩;have HEK:=Ab hEK;have HT:=Ab hT;have z4:=Aa 4 hEK.box;have zf:=Ay 4 hEK.box;obtain⟨aT,cT,hvT⟩:=(hT w10 (Ag.refl _ _)).shape;obtain⟨a7,c7,e7⟩:=hEK.own.slice' (n:=K) (by simp);subst hvT e7;have hgl:(gN nx 0 0 n K).length=K:=D4;rw[hgl];have hbx:=heap_setCell_same _ _ 4 _ _ (.slice aT K cT) hEK.box;have hB10:Below w.heap.size w w10:=HB7.out.trans (hEK.on.below _ (fun q e=>by have:=HB7.out.size;omega) HB7.out.size);have hpz9:=hEK.pz;have hx7':(w10.setCell ⟨pr,4,none⟩ (.slice aT K cT)).heap[w.heap.size+1+1]? =some (.cells #[.int .i64 0,.int .i64 0,.int .i64 0,.slice none 0 0,.slice none 0 0] 28 (0,0)):=(heap_setCell_other _ _ _ _ (by simp;omega)).trans ((hEK.on.block _ (by omega) (by omega)).trans HX7.out);have HX7':=Ab hx7';have HBR:Hid (Below w.heap.size w (w10.setCell ⟨pr,4,none⟩ (.slice aT K cT))):=hB10.trans ((Ag.set (S:=fun q=>q=pr) pr 4 _ rfl).below _ (fun q e=>by omega) hB10.size)
 have HIS:Hid (∀W',Ag (fun q=>q=w.heap.size+1+1) (w10.setCell ⟨pr,4,none⟩ (.slice aT K cT)) W'->Dl W' (.agg #[.int .i64 ci,.int .i64 (n:Int),.int .i64 0,.slice a7 K c7,.slice aT K cT]) ⟨ci,(n:Int),0,(List.range K).map ins,gN nx 0 0 n K⟩):=fun W' hW=>by
  have h1:Ag (fun q=>q=pr\/q<w9.heap.size) w10 W':=((Ag.set (S:=fun q=>q=pr\/q<w9.heap.size) pr 4 (.slice aT K cT) (.inl rfl))).trans (hW.mono fun q _ e=>.inr (by omega));refine⟨_,_,rfl,⟨by show I64 ci;unfold I64;omega,by show I64 (n:Int);unfold I64;omega,by show I64 0;unfold I64;omega⟩, ?_, ?_⟩
  ·refine(HEK.out.own.only h1 fun q e k=>by have:=HEK.out.own.ge q e;omega).is (by simp;unfold Bk;omega) fun x hx=> ?_
   obtain⟨y,hy,rfl⟩:=List.mem_map.1 hx;exact HINB.out y (List.mem_range.1 hy)
  ·have h3:=HT.out W' (h1.mono fun q _ e=> ?_)
   ·rwa [hgl]at h3
   rcases e with e|e
   ·exact .inr ((HEK.out.hH q).2 (.inl e))
   ·exact .inl e
 have q0:=Aa 0 hx7';have q1:=Aa 1 hx7';have q2:=Aa 2 hx7';have q3:=Aa 3 hx7';have q4:=Aa 4 hx7';have f0:=Ay 0 hx7';have f1:=Ay 1 hx7';have f2:=Ay 2 hx7';have f3:=Ay 3 hx7';have f4:=Ay 4 hx7';have r0:=Aa 0 hbx;have r1:=Aa 1 hbx;have r2:=Aa 2 hbx;have r3:=Aa 3 hbx;have r4:=Aa 4 hbx;clear hEK hT hbx hx7' hB10 hgl hx6 hx7 hx8 hx9 hB7
 go_upto_region 9 with(fail)
 clear z4 zf;generalize w10.setCell ⟨pr,4,none⟩ (.slice aT K cT)=w11 at*;go_wp2;have hc5:=Ee (a:=.int .i64 ci) (b:=.int .i64 (n:Int)) (c:=.int .i64 0) (d:=.slice a7 K c7) (e:=.slice aT K cT) HX7'.out;have cc0:=Aa 0 hc5;have cc1:=Aa 1 hc5;have cc2:=Aa 2 hc5;have cc3:=Aa 3 hc5;have cc4:=Aa 4 hc5;refine bodyPost_ret (v:=.tuple #[.agg #[.int .i64 ci,.int .i64 (n:Int),.int .i64 0,.slice a7 K c7,.slice aT K cT],.int .i64 0]) (by simp[results,Tryz.results39,go_sem,cc0,cc1,cc2,cc3,cc4]) rfl ?_;exact PH HBR.out (by omega) (fun W' h=>HIS.out W' h)
def Pg(a:Au)(w:Ls)(b:Bool):Prop:=∃(j d:Nat)(v:Int),0<d/\stN a w (j+d)=stN a w j/\Tk (lsN a w) j d v/\b=(Int.tmod v 2==0)
def stL(a:Au)(w:Ls)(n:Nat):List Int:=(List.range n).map (stN a w)
def lsL(a:Au)(w:Ls)(n:Nat):List Int:=(List.range n).map (lsN a w)
theorem LQ(a:Au)(w:Ls)(n:Nat):stL a w (n+1)=stL a w n++[stN a w n]:=by simp[stL,List.range_succ]
theorem Qc(a:Au)(w:Ls)(n:Nat):lsL a w (n+1)=lsL a w n++[lsN a w n]:=by simp[lsL,List.range_succ]
theorem Tb(a:Au)(w:Ls)(n k:Nat)(h:k<(stL a w n).length):(stL a w n)[k]=stN a w k:=by simp[stL]
theorem SV(a:Au)(w:Ls)(n k:Nat)(h:k<n):(lsL a w n).getD k 0=lsN a w k:=by simp[lsL,h]
theorem Qw{a:Au}(hv:AF a=true){q m:Int}(h0:0<=q)(h1:q<a.next.length)(hm:0<=m):∀{ls:List Int},(∀x∈ls,0<=x/\x<a.letters)->0<=(CU a (q,m) ls).2/\(CU a (q,m) ls).2<=m:=by
 intro ls
 induction ls generalizing q m with
 |nil=>intro _;exact⟨hm,Int.le_refl _⟩
 |cons x ls ih=>
  intro hl;have hx:=hl x List.mem_cons_self;have hn:=Sd hv h0 h1 hx.1 hx.2;have hr:=Cr hv (s:=q.toNat) (by omega);have hp:=Ha hv (s:=q.toNat) (by omega) x.toNat (by omega);have hp':0<=prL a q x:=hp.1
  have:=ih (m:=min m (prL a q x)) hn.1 hn.2 (by omega) fun y hy=>hl y (List.mem_cons_of_mem _ hy)
  exact⟨this.1,Int.le_trans this.2 (by omega)⟩
theorem JM{w:Ls}{k:Int}(h:Bi k w=true):(∀x∈w.stem,0<=x/\x<k)/\(∀x∈w.loop,0<=x/\x<k)/\0<w.loop.length:=by
 simp only[Bi,Bool.and_eq_true,List.all_eq_true,decide_eq_true_eq]at h;obtain⟨⟨h1,h2⟩,h3⟩:=h;obtain⟨-,h4,-,h5,h6⟩:=(CB w).1 h1;exact⟨fun x hx=>⟨((Ek x).1 (h5 x hx)).1,h2 x hx⟩,fun x hx=>⟨((Ek x).1 (h6 x hx)).1,h3 x hx⟩,h4⟩
theorem Tc{a:Au}{w:Ls}(hv:AF a=true)(hw:Bi a.letters w=true)(i:Nat):0<=stN a w i/\stN a w i<a.next.length:=by
 obtain⟨h1,h2,-⟩:=JM hw;have h:=hv;simp only[AF,Bool.and_eq_true,decide_eq_true_eq]at h
 induction i with
 |zero=>exact IG hv h.1.2.1 h.1.2.2 h1
 |succ i ih=>exact IG hv ih.1 ih.2 h2
theorem IU{n:Nat}{L:List Int}(hn:L.Nodup)(h0:∀q∈L,0<=q/\q<n):L.length<=n:=by
 have h1:(L.map Int.toNat).Nodup:=by
  induction L with
  |nil=>simp
  |cons q L ih=>
   rw[List.map_cons,List.nodup_cons];rw[List.nodup_cons]at hn;refine⟨fun hm=> ?_,ih hn.2 (fun y hy=>h0 y (List.mem_cons_of_mem _ hy))⟩;obtain⟨y,hy,e⟩:=List.mem_map.1 hm;have a1:=h0 y (List.mem_cons_of_mem _ hy);have a2:=h0 q List.mem_cons_self
   have:y=q:=by omega
   exact hn.1 (this▸hy)
 have h2:(L.map Int.toNat).Perm ((List.range n).filter fun x=>decide (x∈L.map Int.toNat)):=(List.perm_ext_iff_of_nodup h1 (List.Nodup.sublist List.filter_sublist List.nodup_range)).2 fun x=>by
  rw[List.mem_filter,List.mem_range,decide_eq_true_eq];refine⟨fun hx=>⟨?_,hx⟩,fun hx=>hx.2⟩;obtain⟨y,hy,rfl⟩:=List.mem_map.1 hx;have:=h0 y hy;omega
 have h3:=h2.length_eq;have h4:=List.length_filter_le (fun x=>decide (x∈L.map Int.toNat)) (List.range n);rw[List.length_map]at h3;rw[List.length_range]at h4;omega
theorem Ai.dropS{w:World}{b off n c j:Nat}{l:List Int}(h:Ai w (.slice (some ⟨b,off,none⟩) n c) l)(hj:j<n):Ai w (.slice (some ⟨b,off+j,none⟩) (n-j) (c-j)) (l.drop j):=by
 obtain⟨⟨a',c',b',o',hv,ha⟩,hr⟩:=h;simp only[Value.slice.injEq]at hv;obtain⟨rfl,rfl,rfl⟩:=hv;have had:=ha.ad (by omega);simp only[Option.some.injEq,Addr.mk.injEq,and_true]at had;obtain⟨rfl,rfl⟩:=had;have h1:=ha.lc;have h2:=ha.cm;have h3:=ha.nm;refine⟨⟨_,c-j,b,off+j,by rw[List.length_drop],by rw[List.length_drop];omega,by omega,by rw[List.length_drop];omega,(fun h=>by cases h),(fun _=>rfl),fun i hi=> ?_⟩,fun x hx=>hr x (List.mem_of_mem_drop hx)⟩;rw[List.length_drop]at hi;have:=ha.el (j+i) (by omega);rw[show off+j+i=off+(j+i)by omega,this];simp[ivF,List.getD]
theorem SB(w:World)(va vw:Value)(a:Au)(l:Ls)(ha:Cm w va a)(hl:Co w vw l)(hv:AF a=true)(hw:Bi a.letters l=true):
  Calls Tryz.prog 43 #[va,vw] w (fun e w'=>∃b,e=.returned (.bool b)/\Pg a l b/\Below w.heap.size w w'):=by
 obtain⟨p2,n2,k2,p3,n3,k3,rfl⟩:=ha.shp;obtain⟨a0,c0,a1,c1,rfl⟩:=hl.shp
 go_enter Tryz.func43,Tryz.ntmps43
 go_upto_region 1 with(fail)
 obtain⟨hx,hz,hB⟩:((w.alloc (.cells #[.int .i64 a.letters,.int .i64 a.start,.slice p2 n2 k2,.slice p3 n3 k3] 63)).alloc (.cells #[.slice a0 l.stem.length c0,.slice a1 l.loop.length c1] 30)).heap[w.heap.size]? =some (.cells #[.int .i64 a.letters,.int .i64 a.start,.slice p2 n2 k2,.slice p3 n3 k3] 63 (0,0))/\((w.alloc (.cells #[.int .i64 a.letters,.int .i64 a.start,.slice p2 n2 k2,.slice p3 n3 k3] 63)).alloc (.cells #[.slice a0 l.stem.length c0,.slice a1 l.loop.length c1] 30)).heap[w.heap.size+1]? =some (.cells #[.slice a0 l.stem.length c0,.slice a1 l.loop.length c1] 30 (0,0))/\Below w.heap.size w ((w.alloc (.cells #[.int .i64 a.letters,.int .i64 a.start,.slice p2 n2 k2,.slice p3 n3 k3] 63)).alloc (.cells #[.slice a0 l.stem.length c0,.slice a1 l.loop.length c1] 30)):=⟨(by(repeat(rw[Al];first|rw[if_pos (by first|simp;done|simp;omega)]|rw[if_neg (by first|simp;done|simp;omega)]));(try rfl)),(by(repeat(rw[Al];first|rw[if_pos (by first|simp;done|simp;omega)]|rw[if_neg (by first|simp;done|simp;omega)]));(try rfl)),(by repeat(first|exact Ad|assumption|apply AD|apply AE))⟩;replace ha:=ha.below hB;replace hl:=hl.below hB;generalize(w.alloc (.cells #[.int .i64 a.letters,.int .i64 a.start,.slice p2 n2 k2,.slice p3 n3 k3] 63)).alloc (.cells #[.slice a0 l.stem.length c0,.slice a1 l.loop.length c1] 30)=w1 at*
 have HE:Hid (∀W,Below w1.heap.size w1 W->Below w.heap.size w W):=fun W h=>hB.trans (h.mono hB.size)
 clear hB;generalize w.heap.size+1=zw at*;generalize hza:w.heap.size=za at*;have HZA:=Ab hza;clear hza;have d0:=Aa 0 hx;have d1:=Aa 1 hx;have d2:=Aa 2 hx;have d3:=Aa 3 hx
 go_wp2_with fail
 refine(H8 _ _ a ha).mono ?_;rw[hv];rintro e w2 ⟨rfl,hb⟩;replace hx:=Ae hb hx;replace hz:=Ae hb hz;replace ha:=ha.below hb;replace hl:=hl.below hb;clear d0 d1 d2 d3;have d0:=Aa 0 hx;have e0:=Aa 0 hz;have e1:=Aa 1 hz
 go_wp2_with fail
 refine(Ic _ _ l a.letters hl).mono ?_;rw[hw];rintro e w3 ⟨rfl,hb3⟩;replace hx:=Ae hb3 hx;replace hz:=Ae hb3 hz;replace ha:=ha.below hb3;replace hl:=hl.below hb3;replace hb:=hb.trans (hb3.mono hb.size);clear d0 e0 e1 hb3;have d1:=Aa 1 hx;obtain⟨h1,h2,hlp⟩:=JM hw;obtain⟨hl0,hl1⟩:=hl.parts;obtain⟨v2,v3,hve,hI64,hN,hP⟩:=id ha;simp only[Value.agg.injEq,Array.mk.injEq,List.cons.injEq,and_true,true_and]at hve;obtain⟨rfl,rfl⟩:=hve
 have hstart:0<=a.start/\a.start<a.next.length:=by
  have h:=hv;simp only[AF,Bool.and_eq_true,decide_eq_true_eq]at h;exact h.1.2
 have hN3:a.next.length<=3000:=by
  have h:=hv;simp only[AF,Bool.and_eq_true,decide_eq_true_eq]at h;omega
 have HRD:Hid (∀W vls ls q,Below w3.heap.size w3 W->Ai w3 vls ls->W.heap[w3.heap.size]? =some (.cells #[.int .i64 q] 3 (0,0))->0<=q->q<a.next.length->(∀x∈ls,0<=x/\x<a.letters)->Calls Tryz.prog 91 #[vls,.pointer (some ⟨za,0,none⟩),.pointer (some ⟨w3.heap.size,0,none⟩)] W (fun e w'=>e=.returned (.int .i64 (CU a (q,20000) ls).2)/\Below w3.heap.size w3 w'/\W.grownBy w' (some w3.heap.size)/\w'.heap[w3.heap.size]? =some (.cells #[.int .i64 (CU a (q,20000) ls).1] 3 (0,0)))):=fun W vls ls q hB hi hs h0 h1 hls=>S7 w3 W vls ls a za w3.heap.size n2 k2 n3 k3 p2 p3 q hv hB hi hx hN hP leR hs h0 h1 hls
 have HEZ:Hid (∀W,Below w3.heap.size w3 W->W.cell? ⟨zw,0,none⟩=some (.slice a0 l.stem.length c0)/\W.cell? ⟨zw,1,none⟩=some (.slice a1 l.loop.length c1)):=fun W h=>by
  have k:=Ae h hz;exact⟨Aa 0 k,Aa 1 k⟩
 have HBD:=Ab (fun i=>Tc hv hw i);have HN:=Ab hN3;have HV:=Ab hv;have HB:=Ab hb;have HL0:=Ab hl0;have HL1:=Ab hl1;have HLT:=Ab (And.intro h1 (And.intro h2 hlp))
 go_upto_region 4 with(fail)
 have hb4:=Ao (w:=w3) (.cells #[.int .i64 a.start] 3);have hs:=heap_alloc_new w3 (.cells #[.int .i64 a.start] 3);generalize w3.alloc (.cells #[.int .i64 a.start] 3)=w4 at*;obtain⟨e0,-⟩:=HEZ.out w4 hb4;clear d1 hx hz ha hl hb hN hP hl0 hl1 hN3 h1 h2 hlp hI64 hv
 go_wp2_with fail
 refine(HRD.out w4 _ _ _ hb4 HL0.out hs hstart.1 hstart.2 HLT.out.1).mono ?_;rintro e w5 ⟨rfl,hb5,-,hs5⟩;clear e0 hb4 hs hstart;have hs5':w5.heap[w3.heap.size]? =some (.cells #[.int .i64 (stN a l 0)] 3 (0,0)):=hs5;clear hs5;have HMM:=@run_makeMap Tryz.prog;have hb6:=Ao (w:=w5) (.map #[] 0);have hM6:=Da.made w5
 have hz6:w5.heap.size<(w5.alloc (.map #[] 0)).heap.size:=by simp
 have hzs:w3.heap.size<w5.heap.size:=(Array.getElem?_eq_some_iff.1 hs5').1;have hs6:=(hb6.block _ hzs).trans hs5';have hB6:Below w3.heap.size w3 (w5.alloc (.map #[] 0)):=hb5.trans (hb6.mono hb5.size)
 go_wp2_with fail
 clear HMM hb6 hs5' hb5;generalize w5.alloc (.map #[] 0)=w6 at*;generalize w5.heap.size=zm at*;generalize hzq:w3.heap.size=zs at*
 go_loopg [7] (a.next.length+1) (fun gh vL wr=>∃n:Nat,gh=a.next.length+1-n/\n<=a.next.length/\Hid ((stL a l n).Nodup)/\wr.heap[zs]? =some (.cells #[.int .i64 (stN a l n)] 3 (0,0))/\Da wr zm (stL a l n)/\OI wr (zm+1) vL (lsL a l n)/\Below zs w3 wr/\zm+1<=wr.heap.size)
 case atStart=>exact⟨0,by omega,by omega,by simp[Hid,stL],hs6,hM6,BC _ _,hB6,hz6⟩
 case round=>
  obtain⟨n,hgn,hn,HND,hs,hM,hO,hBr,hmr⟩:=hrel;have HGN:=Ab hgn;clear hgn hs6 hM6 hB6 hz6;obtain⟨q0,q1⟩:=HBD.out n;have hN3:=HN.out
  have hq64:I64 (stN a l n):=by unfold I64;omega
  have hlen:(stL a l n).length=n:=by simp[stL]
  have hlenL:(lsL a l n).length=n:=by simp[lsL]
  obtain⟨hyes,hno⟩:=hM.get hq64;have s0:=Aa 0 hs
  have HLB:Hid (∀x∈lsL a l n,I64 x):=fun x hx=>by
   obtain⟨i,-,rfl⟩:=List.mem_map.1 hx;have h1:=HBD.out i;have:=Qw HV.out h1.1 h1.2 (m:=20000) (by omega) HLT.out.2.1;unfold lsN I64;omega
  by_cases hm:stN a l n∈stL a l n
  case pos=>as_aux_lemma=>
   have hrun:=hyes hm;have hj:=Rv hm;have hjv:(stL a l n)[(stL a l n).idxOf (stN a l n)]=stN a l n:=List.getElem_idxOf hj
   have HJ:Hid (stN a l ((stL a l n).idxOf (stN a l n))=stN a l n):=by
    show _=_;rw[Tb]at hjv;exact hjv
   rw[hlen]at hj;obtain⟨g,cap,hvL,-,-⟩:=hO.row (by omega);subst hvL;have hOi:=hO.is (by rw[hlenL];simp only[Bk];omega) HLB.out;rw[hlenL]at hOi⊢
   have hcap:n<=cap:=by
    obtain⟨⟨_,_,_,_,hv',ha'⟩,-⟩:=hOi;simp only[Value.slice.injEq]at hv';obtain⟨-,-,rfl⟩:=hv';have:=ha'.lc;omega
   generalize(stL a l n).idxOf (stN a l n)=j at*;have HDR:=Ab (hOi.dropS hj);have HB5:=Ab hBr
   have hjn:(j:Int)<=(n:Int):=by omega
   have hj0:(0:Int)<=(j:Int):=Int.natCast_nonneg _
   have hnc:(n:Int)<=(cap:Int):=by omega
   have HLEN:Hid (((lsL a l n).drop j).length=n-j):=by show _=_;rw[List.length_drop,hlenL]
   have HJN:Hid (j<n):=hj;clear hyes hno hjv hO hOi hM hs hBr hlenL
   go_wp2_with fail
   have hdr:Ai wr (.slice (some ⟨g,j,none⟩) (n-j) (cap-j)) ((lsL a l n).drop j):=by
    have:=HDR.out
    rwa [Nat.zero_add]at this
   refine(Tl _ _ _ hdr (by rw[HLEN.out];have:=HJN.out;omega)).mono ?_;rintro e w8 ⟨rfl,rfl⟩;have hsp:=Oj (l:=(lsL a l n).drop j) (by rw[HLEN.out];have:=HJN.out;omega) (n-j) (by have:=HJN.out;omega) (by rw[HLEN.out];omega);rw[HLEN.out]
   have hdg:∀i,i<n-j->((lsL a l n).drop j).getD i 0=lsN a l (j+i):=fun i hi=>by
    rw[<-SV a l n (j+i) (by omega)];simp[List.getD]
   generalize Ho ((lsL a l n).drop j) (n-j)=v at*
   have HW:Hid (Pg a l (Int.tmod v 2==0)):=by
    have hjn':=HJN.out;refine⟨j,n-j,v,by omega,by rw[show j+(n-j)=n by omega];exact HJ.out.symm,⟨?_,fun i hi=> ?_⟩,rfl⟩
    ·obtain⟨⟨i,hi,e⟩,-⟩:=hsp;exact⟨i,hi,by rw[<-hdg i hi];exact e⟩
    ·rw[<-hdg i hi];exact hsp.2 i hi
   clear hsp hdg hdr HDR;go_wp2;go_ret;exact⟨_,rfl,HW.out,by rw[HZA.out];exact HE.out _ (HB.out.trans (HB5.out.mono (by rw[<-hzq];exact HB.out.size)))⟩
  case neg=>as_aux_lemma=>
   obtain⟨c,hrun⟩:=hno hm;obtain⟨w7,hupd,hM7,hg7⟩:=hM.upd hq64 hm (by omega);rw[hlen]at hupd
   have HND1:Hid ((stL a l (n+1)).Nodup):=by
    show List.Nodup _;rw[LQ,List.nodup_append];exact⟨HND.out,by simp,fun x hx y hy=>by rw[List.mem_singleton.1 hy];rintro rfl;exact hm hx⟩
   have hn1:n+1<=a.next.length:=by
    have h1:=IU (n:=a.next.length) HND1.out fun q hq=>by
     obtain⟨i,-,rfl⟩:=List.mem_map.1 hq;exact HBD.out i
    simpa[stL]using h1
   rw[<-LQ]at hM7
   have hzl:zs<wr.heap.size:=by omega
   have hs7:=(hg7.block zs hzl (fun e=>by injection e with e;omega)).trans hs;have hB7:Below zs w3 w7:=hBr.grown hg7 (by omega) (fun k hk=>by injection hk with hk;omega)
   have hO7:=hO.grown hg7 (by
    cases hvb:u7.ownBlock with
    |none=>exact .inl rfl
    |some g=>exact .inr (fun e=>by have:=hO.ge g hvb;injection e with e;omega))
   obtain⟨-,e1⟩:=HEZ.out w7 hB7;obtain⟨aoL,capL,hvL⟩:=hO.slice;rw[hlenL]at hvL;have s7:=Aa 0 hs7;subst hvL;have HO7:=Ab hO7;have HM7:=Ab hM7;have HB7:=Ab hB7;have HS7:=Ab hs7;have hz7:zm+1<=w7.heap.size:=Nat.le_trans hmr hg7.size;clear hyes hno hO hM hs hBr hO7 hM7 hg7 hB7 hs7
   go_wp2_with fail
   refine(HRD.out w7 _ _ _ HB7.out HL1.out HS7.out q0 q1 HLT.out.2.1).mono ?_;rintro e w8 ⟨rfl,hB8,hg8,hs8⟩;have HS8:Hid (w8.heap[zs]? =some (.cells #[.int .i64 (stN a l (n+1))] 3 (0,0))):=hs8;have HM8:=Ab (HM7.out.kept hg8 (fun e=>by injection e with e;omega))
   have hO8:=HO7.out.grown hg8 (by
    cases hvb:(Value.slice aoL n capL).ownBlock with
    |none=>exact .inl rfl
    |some g=>exact .inr (fun e=>by have:=HO7.out.ge g hvb;injection e with e;omega))
   have HO8:=Ab hO8;have HB8:=Ab hB8;have hz8:zm+1<=w8.heap.size:=Nat.le_trans hz7 hg8.size
   have hnl:(lsL a l n).length<17592186043904:=by omega
   clear hs8 hO8 hB8 hg8 e1 s7 s0 hrun hupd
   go_wp2_with (at_builtin;refine DZ rfl _ _ (lsN a l n) rfl (zm+1) _ _ HO8.out rfl _ (by simp) rfl hnl hz8 ?_;intro v' w9 hown' hg9 hmv)
   have hne9:∀k,k<zm+1->some k≠(Value.slice aoL n capL).ownBlock:=fun k hk e=>by
    have:=HO8.out.ge k e.symm;omega
   go_roundg (a.next.length+1-(n+1))
   case measure=>have:=HGN.out;omega
   case rel=>
    refine⟨n+1,rfl,hn1,HND1,(hg9.block zs (by omega) (hne9 zs (by omega))).trans HS8.out,HM8.out.kept hg9 (hne9 zm (by omega)),by rw[Qc];exact hown',HB8.out.grown hg9 (by omega) (fun k hk=>by have:=HO8.out.ge k hk;omega),Nat.le_trans hz8 hg9.size⟩
def RF{N:Ls}(b o n k c B:Nat)(ix:Nat)(u:Value)(W:World):Prop:=
 match ix with
 |0|3=>u=.slice (some ⟨b,o,none⟩) n c
 |1|4=>u=.int .i64 (k:Int)
 |2=>u=.slice (some ⟨b,o,none⟩) k c
 |5=>u=.slice (some ⟨b,o+k,none⟩) (n-k) (c-k)
 |6=>u=.agg #[.slice (some ⟨b,o,none⟩) k c,.slice (some ⟨b,o+k,none⟩) (n-k) (c-k)]
 |7=>Co W u N
 |8=>∃z,u=.pointer (some ⟨z,0,none⟩)/\B<=z/\W.heap[z]? =some (.cells #[.slice none 0 0,.slice none 0 0] 30 (0,0))
 | _=>True
theorem RF.below{N:Ls}{ix:Nat}{u:Value}{W W':World}{b o n k c B:Nat}(h:RF (N:=N) b o n k c B ix u W)(hb:Below W.heap.size W W'):RF (N:=N) b o n k c B ix u W':=by
 unfold RF at*
 split at h<;>first
  |exact h
  |trivial
  |(exact Co.below h hb)
  |(obtain⟨z,h1,h2,h3⟩:=h;exact⟨z,h1,h2,(hb.block z (ltE h3)).trans h3⟩)
theorem Fi(w:World)(vl vm vi:Value)(l:List Sig)(m:My)(ins:Ls)(hK:BN w)(hl:AH w vl l)(hm:BM w vm m)(hi:Co w vi ins):
  Calls Tryz.prog 23 #[vl,vm,vi] w (Fx (BL l m ins) w):=by
 have HF0:Hid (∀W,Below w.heap.size w W->Calls Tryz.prog 47 #[vl,vm] W (Av (.bool (Bm l m)) W)):=fun W h=>J9 W _ _ l m (hK.below h) (hl.below h) (hm.below h)
 have HV0:Hid (∀W,Below w.heap.size w W->Calls Tryz.prog 42 #[.int .i64 m.ins,vi] W (Av (.bool (Bi m.ins ins)) W)):=fun W h=>Ic W _ _ m.ins (hi.below h)
 have HJ0:Hid (At l=true->∀W,Below w.heap.size w W->Calls Tryz.prog 56 #[vl] W (Et (Aq l) W)):=fun hv W h=>MB W _ l (hK.below h) (hl.below h) hv
 have HLS:=Ab (rfl:ins.loop.length=ins.loop.length);obtain⟨v3,v4,rfl,⟨-,-,hI3⟩,i3,i4⟩:=hm;obtain⟨s0,s1,rfl,j0,j1⟩:=hi
 have HI3:Hid (∀W,Below w.heap.size w W->Ar W v3 m.out):=fun W h=>i3.below h
 have HI4:Hid (∀W,Below w.heap.size w W->Ar W v4 m.next):=fun W h=>i4.below h
 have HJ1:Hid (∀W,Below w.heap.size w W->Ai W s0 ins.stem):=fun W h=>j0.below h
 have HJ2:Hid (∀W,Below w.heap.size w W->Ai W s1 ins.loop):=fun W h=>j1.below h
 obtain⟨a3,c3,rfl⟩:=i3.shape;obtain⟨a4,c4,rfl⟩:=i4.shape;obtain⟨d0,f0,rfl⟩:=j0.shape;obtain⟨d1,f1,rfl⟩:=j1.shape;clear hK hl i3 i4 j0 j1;have HLEN:=Ab (rfl:w.heap.size=w.heap.size)
 go_enter Tryz.func23,Tryz.ntmps23
 go_upto_region 1 with(fail)
 obtain⟨hx5,-,hB5⟩:=Az (w0:=w) Ad leR #[.int .i64 m.ins,.int .i64 m.outs,.int .i64 m.start,(.slice a3 m.out.length c3),(.slice a4 m.next.length c4)] 25
 have hz5:(w.alloc (.cells #[.int .i64 m.ins,.int .i64 m.outs,.int .i64 m.start,(.slice a3 m.out.length c3),(.slice a4 m.next.length c4)] 25)).heap.size=w.heap.size+1:=by simp
 generalize w.alloc (.cells #[.int .i64 m.ins,.int .i64 m.outs,.int .i64 m.start,(.slice a3 m.out.length c3),(.slice a4 m.next.length c4)] 25)=w1 at*;obtain⟨hx6,-,hB6⟩:=Az (w0:=w) hB5 (by omega) #[.slice d0 ins.stem.length f0,.slice d1 ins.loop.length f1] 30
 have hz6:(w1.alloc (.cells #[.slice d0 ins.stem.length f0,.slice d1 ins.loop.length f1] 30)).heap.size=w.heap.size+1+1:=by simp[hz5]
 have hx5':=(Dt w1 (.cells #[.slice d0 ins.stem.length f0,.slice d1 ins.loop.length f1] 30) (r:=w.heap.size) (by omega)).trans hx5;generalize w1.alloc (.cells #[.slice d0 ins.stem.length f0,.slice d1 ins.loop.length f1] 30)=w2 at*;obtain⟨hx7,-,hB7⟩:=Az (w0:=w) hB6 (by omega) #[.slice none 0 0,.slice none 0 0] 30
 have hz7:(w2.alloc (.cells #[.slice none 0 0,.slice none 0 0] 30)).heap.size=w.heap.size+1+1+1:=by simp[hz6]
 have hx5:=(Dt w2 (.cells #[.slice none 0 0,.slice none 0 0] 30) (r:=w.heap.size) (by omega)).trans hx5';have hx6:=(Dt w2 (.cells #[.slice none 0 0,.slice none 0 0] 30) (r:=w1.heap.size) (by omega)).trans hx6;generalize w2.alloc (.cells #[.slice none 0 0,.slice none 0 0] 30)=w3 at*;clear hx5' hB5 hB6;rw[hz5]at hx6;rw[hz6]at hx7;have k0:=Aa 0 hx5;have k1:=Aa 1 hx5;have k2:=Aa 2 hx5;have k3:=Aa 3 hx5;have k4:=Aa 4 hx5
 go_wp2_with fail
 refine(HF0.out _ hB7).mono ?_;rintro e w4 ⟨rfl,hb⟩;replace hx5:=(hb.block _ (by omega)).trans hx5;replace hx6:=(hb.block _ (by omega)).trans hx6;replace hx7:=(hb.block _ (by omega)).trans hx7;replace hB7:=hB7.trans (hb.mono hB7.size)
 have hz4:w.heap.size+1+1+1<=w4.heap.size:=by have:=hb.size;omega
 clear hb hz7 k0 k1 k2 k3 k4 hz5 hz6;have q0:=Aa 0 hx7;have q1:=Aa 1 hx7;have k0:=Aa 0 hx5;have u0:=Aa 0 hx6;have u1:=Aa 1 hx6
 cases hf:Bm l m with
 |false=>
  have hE:BL l m ins=C9:=if_neg (by rw[hf];simp);have HE:=Ab hE;have fz:=Ay 0 hx7;have fz1:=Ay 1 hx7;clear hE;go_wp2;rw[HE.out]
  (have hc3:=CG (a:=.slice none 0 0) (b:=.slice none 0 0) hx7);(have cc0:=Aa 0 hc3);(have cc1:=Aa 1 hc3);(refine bodyPost_ret (v:=.agg #[.slice none 0 0,.slice none 0 0]) (by simp[results,Tryz.results23,go_sem,cc0,cc1]) rfl ?_)
  exact DC hB7 (by omega)
 |true=>
 go_wp2_with fail
 refine(HV0.out _ hB7).mono ?_;rintro e w5 ⟨rfl,hb⟩;replace hx5:=(hb.block _ (by omega)).trans hx5;replace hx6:=(hb.block _ (by omega)).trans hx6;replace hx7:=(hb.block _ (by omega)).trans hx7;replace hB7:=hB7.trans (hb.mono hB7.size)
 replace hz4:w.heap.size+1+1+1<=w5.heap.size:=by have:=hb.size;omega
 clear hb q0 q1 k0 u0 u1
 cases hv:Bi m.ins ins with
 |false=>
  have hE:BL l m ins=C9:=if_neg (by rw[hv];simp);have HE:=Ab hE;have q0:=Aa 0 hx7;have q1:=Aa 1 hx7;have fz:=Ay 0 hx7;have fz1:=Ay 1 hx7;clear hE;go_wp2;rw[HE.out]
  (have hc3:=CG (a:=.slice none 0 0) (b:=.slice none 0 0) hx7);(have cc0:=Aa 0 hc3);(have cc1:=Aa 1 hc3);(refine bodyPost_ret (v:=.agg #[.slice none 0 0,.slice none 0 0]) (by simp[results,Tryz.results23,go_sem,cc0,cc1]) rfl ?_)
  exact DC hB7 (by omega)
 |true=>
 have HE:Hid (BL l m ins=GI (stW m ins) (ltW l m ins)):=if_pos ⟨hf,hv⟩;have HJ:=Ab (HJ0.out (AN.1 hf).1);have HMV:=Ab (AN.1 hf).2.1;have HIV:=Ab (Df hv);have HF:=Ab hf;clear hf hv HJ0 HF0 HV0
 go_wp2_with fail
 refine(HJ.out _ hB7).mono ?_;rintro e w6 ⟨vj,rfl,ij,hb⟩;replace hx5:=(hb.block _ (by omega)).trans hx5;replace hx6:=(hb.block _ (by omega)).trans hx6;replace hx7:=(hb.block _ (by omega)).trans hx7;replace hB7:=hB7.trans (hb.mono hB7.size)
 replace hz4:w.heap.size+1+1+1<=w6.heap.size:=by have:=hb.size;omega
 have HIJ:Hid (∀W,Below w6.heap.size w6 W->Ar W vj (Aq l)):=fun W h=>ij.below h
 obtain⟨aj,cj,rfl⟩:=ij.shape;clear hb ij
 go_upto_region 4 with(fail)
 obtain⟨hx8,-,hB8⟩:=Az (w0:=w6) Ad leR #[.slice aj (Aq l).length cj] 23;generalize w6.alloc (.cells #[.slice aj (Aq l).length cj] 23)=w8 at*;have HIJ8:=Ab (HIJ.out _ hB8);replace hx5:=(hB8.block _ (by omega)).trans hx5;replace hx6:=(hB8.block _ (by omega)).trans hx6;replace hx7:=(hB8.block _ (by omega)).trans hx7;replace hB7:=hB7.trans (hB8.mono hB7.size);have hz8:w6.heap.size<w8.heap.size:=(ltE hx8);have k3:=Aa 3 hx5;have k6:=Aa 0 hx6
 have l5:w.heap.size<w8.heap.size:=by omega
 have l6:w.heap.size+1<w8.heap.size:=by omega
 have l7:w.heap.size<w8.heap.size+1:=by omega
 have l8:w.heap.size+1<w8.heap.size+1:=by omega
 go_cut [8,9] (fun s8 s9 wx=>∃p1 p3,s8=.pointer (some ⟨p1,0,none⟩)/\s9=.pointer (some ⟨p3,0,none⟩)/\Hid (wx.cell? ⟨p1,0,none⟩=some (.int .i64 (m.out.length:Int))/\wx.cell? ⟨p3,0,none⟩=some (.int .i64 (ins.stem.length:Int))/\Below w8.heap.size w8 wx))
 case first=>
  go_region
  all_goals
   go_wp2_with fail
   go_meet
   case rel=>
    refine⟨_,_,rfl,rfl, ?_⟩;show _/\_/\_;exact⟨cell_of_row _ _ 0 #[.int .i64 (m.out.length:Int)] 3 _ (by rw[CA];repeat(rw[Al];first|rw[if_pos (by first|simp;done|simp;omega)]|rw[if_neg (by first|simp;done|simp;omega)])),cell_of_row _ _ 0 #[.int .i64 (ins.stem.length:Int)] 3 _ (by rw[CA];repeat(rw[Al];first|rw[if_pos (by first|simp;done|simp;omega)]|rw[if_neg (by first|simp;done|simp;omega)])),(by repeat(first|exact Ad|assumption|(refine AD ?_ _)|(refine AE ?_ _)|(refine Below.drew ?_)))⟩
 case rest=>
  obtain⟨p1,p3,rfl,rfl,HC⟩:=hcut;have hbc:=HC.out.2.2;have HC1:=Ab HC.out.1;have HC3:=Ab HC.out.2.1;clear HC k3 k6 l5 l6 l7 l8;replace hx5:=(hbc.block _ (by omega)).trans hx5;replace hx6:=(hbc.block _ (by omega)).trans hx6;replace hx7:=(hbc.block _ (by omega)).trans hx7;replace hx8:=(hbc.block _ (by omega)).trans hx8;replace hB7:=hB7.trans (hbc.mono hB7.size);have HIJC:Hid (Ar wc (.slice aj (Aq l).length cj) (Aq l)):=HIJ8.out.below hbc;have hzc:=hbc.size;have hs60:=HIV.out.s;have hl40:=HIV.out.l;have u0:=Aa 0 hx6;have u1:=Aa 1 hx6
  have l6:w.heap.size+1<wc.heap.size:=by omega
  go_upto_region 5 with(fail)
  go_cut [10] (fun s10 wx=>∃p2,s10=.pointer (some ⟨p2,0,none⟩)/\Hid (Below wc.heap.size wc wx/\∃v,wx.cell? ⟨p2,0,none⟩=some v/\Ai wx v (ins.stem++ins.loop)))
  case first=>
   go_region_law (first
    |(rw[if_pos (by rfl)];refine Hk _ _ _ (by rfl) _ (.slice none 0 0) (.slice d0 ins.stem.length f0) [] ins.stem (by rfl) (BC _ _) (by rfl) (HJ1.out _ (hB7.trans (Below.mono (by repeat(first|exact Ad|assumption|(refine AD ?_ _)|(refine AE ?_ _)|(refine Below.drew ?_))) hB7.size))) (by simp;omega) leR ?_
      intro v6 w7 hown6 hg6;rw[List.nil_append]at hown6;have hb67:=Ad.grown hg6 leR (fun k hk=>by cases hk);have hX7:Below wc.heap.size wc w7:=Below.trans (by repeat(first|exact Ad|assumption|(refine AD ?_ _)|(refine AE ?_ _)|(refine Below.drew ?_))) (hb67.mono (by simp));have y7:=Aa 1 ((hX7.block _ l6).trans hx6);have l67:w.heap.size+1<w7.heap.size:=Nat.lt_of_lt_of_le l6 hX7.size
      (try(have bx7:=(hb67.block wc.heap.size (Array.getElem?_eq_some_iff.1 (heap_alloc_new wc (.cells #[.slice none 0 0] 26))).1).trans (heap_alloc_new wc (.cells #[.slice none 0 0] 26));have kb7:=Aa 0 bx7;have fb7:=Ay 0 bx7)))
    |(rw[if_pos (by rfl)];refine Hk _ _ _ (by rfl) _ v6 (.slice d1 ins.loop.length f1) ins.stem ins.loop (by rfl) (hown6.below (by repeat(first|exact Ad|assumption|(refine AD ?_ _)|(refine AE ?_ _)|(refine Below.drew ?_)))) (by rfl) (HJ2.out _ (hB7.trans (Below.mono (hX7.trans (Below.mono (by repeat(first|exact Ad|assumption|(refine AD ?_ _)|(refine AE ?_ _)|(refine Below.drew ?_))) hX7.size)) hB7.size))) (by omega) (by have:=hb67.size;simp at this⊢;omega) ?_
      intro v8 w9 hown8 hg8;have hlt6:=World.ownsRow.lt hown6;have hb89:Below wc.heap.size _ w9:=Ad.grown hg8 (by have:=hX7.size;simp;omega) (fun k hk=>by have:=(hlt6 k hk).1;simp at this;omega);have hX9:Below wc.heap.size wc w9:=Below.trans (hX7.trans (Below.mono (by repeat(first|exact Ad|assumption|(refine AD ?_ _)|(refine AE ?_ _)|(refine Below.drew ?_))) hX7.size)) hb89
      (try(have bx9:=(hg8.block wc.heap.size (ltE bx7) (fun e=>Nat.lt_irrefl _ (Nat.lt_of_lt_of_le (Array.getElem?_eq_some_iff.1 (heap_alloc_new wc (.cells #[.slice none 0 0] 26))).1 (hlt6 _ e.symm).1))).trans bx7;have kb9:=Aa 0 bx9;have fb9:=Ay 0 bx9))
      (try(have bx9:=(hg8.block w7.heap.size (Array.getElem?_eq_some_iff.1 (heap_alloc_new w7 (.cells #[.slice none 0 0] 26))).1 (fun e=>Nat.lt_irrefl _ (hlt6 _ e.symm).2)).trans (heap_alloc_new w7 (.cells #[.slice none 0 0] 26));have kb9:=Aa 0 bx9;have fb9:=Ay 0 bx9))
      have HV8:=Ab (hown8.is (by have:=HIV.out;simp[Bk];omega) (fun x hx=>by
       rcases List.mem_append.1 hx with hx|hx
       ·exact(HJ1.out _ hB7).2 x hx
       ·exact(HJ2.out _ hB7).2 x hx))
      obtain⟨a8,c8,rfl⟩:=hown8.slice))
   all_goals
    go_wp2_with fail
    go_meet
    case rel=>
     have HV9:Ai w9 (.slice a8 (ins.stem.length+ins.loop.length) c8) (ins.stem++ins.loop):=by have:=HV8.out;rwa [List.length_append]at this
     first
      |exact⟨_,rfl,(show _/\_ from⟨(by repeat(first|exact Ad|assumption|(refine AD ?_ _)|(refine AE ?_ _)|(refine Below.drew ?_))),_,Aa 0 (heap_alloc_new _ _),HV9.below (Ao _)⟩)⟩
      |exact⟨_,rfl,(show _/\_ from⟨BY hX9 hX7.size,_,Aa 0 (heap_setCell_same _ _ 0 _ _ _ bx9),HV9.setOther kb9 (fun _ _ e=>by cases e)⟩)⟩
      |exact⟨_,rfl,(show _/\_ from⟨BY hX9 leR,_,Aa 0 (heap_setCell_same _ _ 0 _ _ _ bx9),HV9.setOther kb9 (fun _ _ e=>by cases e)⟩)⟩
  case rest=>
   obtain⟨p2,rfl,HA⟩:=hcut;obtain⟨hba,va,hca,hva⟩:=HA.out;clear HA u0 u1 l6;replace hx5:=(hba.block _ (by omega)).trans hx5;replace hx6:=(hba.block _ (by omega)).trans hx6;replace hx7:=(hba.block _ (by omega)).trans hx7;replace hx8:=(hba.block _ (by omega)).trans hx8;replace hB7:=hB7.trans (hba.mono hB7.size);have hsz:=hba.size;have hE:Pf wc p1 p2 p3 w6.heap.size w.heap.size l m ins:=⟨Ah hba HC1.out,⟨va,hca,hva⟩,Ah hba HC3.out,⟨_,Aa 0 hx8,HIJC.out.below hba⟩,⟨_,_,hx5,HI3.out _ hB7,HI4.out _ hB7⟩⟩
   have hst:∀i,stW m ins i<m.out.length*(ins.stem.length+ins.loop.length):=fun i=>M0 HMV.out HIV.out i
   have hN:m.out.length*(ins.stem.length+ins.loop.length)<=3000*100:=Nat.mul_le_mul HMV.out.n (by omega);obtain⟨mm,nn,hrep,hnn⟩:=MT hst
   have hlt:=fun k=>Qe HF.out HIV.out k
   have hR:BL l m ins=Bc (AW (ltW l m ins) mm nn).stem (AW (ltW l m ins) mm nn).loop:=by rw[HE.out,Hi hrep hlt]
   have hm0:(m.start:Int)=((stW m ins 0:Nat):Int):=by rw[QH];have:=HMV.out.s0;omega
   have HLC:Hid (Calls Tryz.prog 57 #[.int .i64 ((m.out.length*(ins.stem.length+ins.loop.length):Nat):Int),.int .i64 m.start,.func (.func 58) #[] #[.pointer (some ⟨p1,0,none⟩),.pointer (some ⟨p2,0,none⟩),.pointer (some ⟨p3,0,none⟩),.pointer (some ⟨w6.heap.size,0,none⟩),.pointer (some ⟨w.heap.size,0,none⟩)]] wc (Fx (BL l m ins) wc)):=by
    rw[hm0,hR];exact Nu wc 58 _ (enters_of Tryz.func58 (by kernel_rfl) rfl) (stW m ins) (ltW l m ins) _ mm nn (by omega) hst hrep hnn (fun W k hW _=>Rb W p1 p2 p3 _ _ l m ins k (hE.below hW) HF.out HIV.out) (fun k=>⟨(hlt k).1,by have:=(hlt k).2;omega⟩)
   have hw:=IntWalk.i64_in (((m.out.length*(ins.stem.length+ins.loop.length):Nat):Int)) ⟨by omega,by omega⟩;rw[Int.natCast_mul]at hw
   have hmul:(m.out.length:Int)*((ins.stem.length+ins.loop.length:Nat):Int)=((m.out.length*(ins.stem.length+ins.loop.length):Nat):Int):=by rw[Int.natCast_mul]
   have hc1:=Ah hba HC1.out;obtain⟨aa,ca,rfl⟩:=hva.shape;rw[List.length_append]at hca;have k2:=Aa 2 hx5;clear hrep hst hlt hR hm0 hE hva hnn;generalize ins.stem.length+ins.loop.length=Len at*;rw[<-hmul]at HLC;clear hmul
   go_upto_region 6 with(fail)
   go_wp2_with fail
   refine HLC.out.mono ?_;rintro e w12 ⟨v,rfl,⟨x0,x1,rfl,i0,i1⟩,hb⟩;replace hx7:=(hb.block _ (by omega)).trans hx7;replace hB7:=hB7.trans (hb.mono hB7.size);clear hb hx5 hx6 hx8 HLC hc1 hca k2;obtain⟨y0,z0,rfl⟩:=i0.shape;obtain⟨y1,z1,rfl⟩:=i1.shape;have hh:=SF hx7;obtain⟨g0,g1,g2,g3⟩:=hh;have H0:=Ab i0;have H1:=Ab i1;clear i0 i1;go_wp2
   (have hc3:=CG (a:=.slice y0 (BL l m ins).stem.length z0) (b:=.slice y1 (BL l m ins).loop.length z1) hx7);(have cc0:=Aa 0 hc3);(have cc1:=Aa 1 hc3);(refine bodyPost_ret (v:=.agg #[.slice y0 (BL l m ins).stem.length z0,.slice y1 (BL l m ins).loop.length z1]) (by simp[results,Tryz.results23,go_sem,cc0,cc1]) rfl ?_)
   exact Nv hx7 H0.out H1.out hB7 (by omega)
end Go.Proofs.YtncjeamdkjcebaaGreatDoor
