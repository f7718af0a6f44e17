/- What a plan's choice answers. -/
import Derived.Test.YtncjeamdkjcebaaGreatDoorZMyX1
set_option linter.all false
set_option maxHeartbeats 8000000
set_option maxRecDepth 100000
namespace Go.Proofs.YtncjeamdkjcebaaGreatDoor
open Go.RowKit
abbrev pl0:T4:=⟨0,0,0⟩
theorem DY.open{W:World}{pz:Nat}{a:Au}{pls idx:List T4}{says:List Int}{l:List Sig}(h:DY W pz a pls idx says l):
  ∃a2 c2 a3 c3 ap cp aw cs mz aj cj,W.heap[pz]? =some (.cells #[.int .i64 a.letters,.int .i64 a.start,.slice a2 a.next.length c2,.slice a3 a.prio.length c3,.slice ap pls.length cp,.slice aw says.length cs,.map (some mz),.slice aj (Aq l).length cj] 154 (0,0))/\Ar W (.slice a2 a.next.length c2) a.next/\Ar W (.slice a3 a.prio.length c3) a.prio/\Ct W (.slice ap pls.length cp) pls/\Ai W (.slice aw says.length cs) says/\Cu W mz idx/\Ar W (.slice aj (Aq l).length cj) (Aq l):=by
 obtain⟨v2,v3,vp,vs,mz,vj,h0,h1,h2,h3,h4,h5,h6⟩:=h.p;obtain⟨a2,c2,rfl⟩:=h1.shape;obtain⟨a3,c3,rfl⟩:=h2.shape;obtain⟨ap,cp,rfl⟩:=h3.shape;obtain⟨aw,cs,rfl⟩:=h4.shape;obtain⟨aj,cj,rfl⟩:=h6.shape;exact⟨a2,c2,a3,c3,ap,cp,aw,cs,mz,aj,cj,h0,h1,h2,h3,h4,h5,h6⟩
theorem KV(W:World)(pz:Nat)(a:Au)(pls idx:List T4)(says:List Int)(l:List Sig)(c t:Nat)(h:DY W pz a pls idx says l)(hc:c<says.length)(ht:says.getD c 0=(t:Int))(htl:t<pls.length):
  Calls Tryz.prog 84 #[.pointer (some ⟨pz,0,none⟩),.int .i64 (c:Int)] W (fun e W'=>e=.returned (.tuple #[plV (pls.getD t pl0),.bool true])/\Below W.heap.size W W'):=by
 obtain⟨a2,c2,a3,c3,ap,cp,aw,cs,mz,aj,cj,hx,-,-,hp,hs,-,-⟩:=h.open;obtain⟨bs,os,ad,-,ds⟩:=hs.data;obtain rfl:=ad (by omega);have es:=ds c hc;rw[ht]at es;obtain⟨b,o,ad,-,dp⟩:=hp.dat3;obtain rfl:=ad (by omega);obtain⟨e0,e1,e2,-⟩:=dp t htl;have z4:=Aa 4 hx;have z5:=Aa 5 hx;have hpz:=(ltE hx);show Calls _ _ _ _ (fun e W'=>e=.returned (.tuple #[.agg #[.int .i64 (pls.getD t pl0).st,.int .i64 (pls.getD t pl0).inn,.int .i64 (pls.getD t pl0).pr],.bool true])/\Below W.heap.size W W')
 have hc0:(0:Int)<=(c:Int):=by omega
 have hc1:(c:Int)<(says.length:Int):=by omega
 have ht0:(0:Int)<=(t:Int):=by omega
 have ht1:(t:Int)<(pls.length:Int):=by omega
 have ht2:decide ((t:Int)<0)=false:=by simp
 have ht3:decide ((pls.length:Int)<=(t:Int))=false:=by simp;omega
 clear hp hs ds dp h ad hc ht htl;generalize(pls.getD t pl0)=y at*;generalize says.length=sl at*;generalize pls.length=np at*
 go_enter Tryz.func84,Tryz.ntmps84
 go_upto_region 1 with(fail)
 obtain⟨hx0,hb0,-⟩:=Az (w0:=W) (B:=W.heap.size) Ad leR #[.int .i64 0,.int .i64 0,.int .i64 0] 108;generalize W.alloc (.cells #[.int .i64 0,.int .i64 0,.int .i64 0] 108)=w1 at*;replace z4:=Ah hb0 z4;replace z5:=Ah hb0 z5;replace es:=Ah hb0 es;replace e0:=Ah hb0 e0;replace e1:=Ah hb0 e1;replace e2:=Ah hb0 e2;have q0:=Aa 0 hx0;have q1:=Aa 1 hx0;have q2:=Aa 2 hx0;have f0:=Ay 0 hx0;have f1:=Ay 1 hx0;have f2:=Ay 2 hx0;have HX:=Ab hx0;have HB:=Ab hb0;clear hx hx0 hb0;go_wp2;have hc3:=Fu (a:=.int .i64 y.st) (b:=.int .i64 y.inn) (c:=.int .i64 y.pr) HX.out;have cc0:=Aa 0 hc3;have cc1:=Aa 1 hc3;have cc2:=Aa 2 hc3;refine bodyPost_ret (v:=.tuple #[.agg #[.int .i64 y.st,.int .i64 y.inn,.int .i64 y.pr],.bool true]) (by simp[results,Tryz.results84,go_sem,cc0,cc1,cc2]) rfl ?_;exact⟨rfl,KS HB.out leR⟩
def mvN(a:Au)(q:Nat)(x:Int):Int:=(a.next.getD q []).getD x.toNat 0
def mvP(a:Au)(q:Nat)(x:Int):Int:=(a.prio.getD q []).getD x.toNat 0
theorem Pp(W:World)(pz:Nat)(a:Au)(pls:List T4)(says:List Int)(l:List Sig)(q i c t o:Nat)(h:DY W pz a pls pls says l)(hva:AF a=true)(hq:q<a.next.length)
  (hi:i<(Aq l).length) (ho:o<((Aq l).getD i []).length) (h64:((Aq l).getD i []).length<=64) (hx:∀j,j<((Aq l).getD i []).length->0<=((Aq l).getD i []).getD j 0/\((Aq l).getD i []).getD j 0<a.letters)
  (hm:(⟨(q:Int),(i:Int),-1⟩:T4)∈pls) (hc:pls.idxOf ⟨(q:Int),(i:Int),-1⟩=c) (hcs:c<says.length) (ht:says.getD c 0=(t:Int)) (htl:t<pls.length) (hti:(pls.getD t pl0).inn=-1)
  (hno:∀j,j<o->¬(mvN a q (((Aq l).getD i []).getD j 0)=(pls.getD t pl0).st/\mvP a q (((Aq l).getD i []).getD j 0)=(pls.getD t pl0).pr))
  (hyes:mvN a q (((Aq l).getD i []).getD o 0)=(pls.getD t pl0).st/\mvP a q (((Aq l).getD i []).getD o 0)=(pls.getD t pl0).pr):
  Calls Tryz.prog 81 #[.pointer (some ⟨pz,0,none⟩),.int .i64 (q:Int),.int .i64 (i:Int)] W (fun e W'=>e=.returned (.tuple #[.int .i64 (o:Int),.int .i64 (pls.getD t pl0).st,.bool true])/\Below W.heap.size W W'):=by
 have HCH:Hid (∀W',Below W.heap.size W W'->Calls Tryz.prog 84 #[.pointer (some ⟨pz,0,none⟩),.int .i64 (c:Int)] W' (fun e W9=>e=.returned (.tuple #[.agg #[.int .i64 (pls.getD t pl0).st,.int .i64 (pls.getD t pl0).inn,.int .i64 (pls.getD t pl0).pr],.bool true])/\Below W'.heap.size W' W9)):=fun W' hb=>KV W' pz a pls pls says l c t (h.below hb) hcs ht htl
 obtain⟨a2,c2,a3,c3,ap,cp,aw,cs,mz,aj,cj,hx0,h2,h3,hp,-,hn,hj⟩:=h.open
 have hwf:WfP ⟨(q:Int),(i:Int),-1⟩:=by
  obtain⟨ao,cap,b,off,-,-,hw⟩:=hp;exact hw _ hm
 have hlk:=(hn.get hwf).1 hm;rw[hc]at hlk;have hlk2:(Instr.lookup 109 (.map (some mz)) (.agg #[.int .i64 (q:Int),.int .i64 (i:Int),.int .i64 (-1)]) true).run Tryz.prog W=.ok (.tuple #[.int .i64 (c:Int),.bool true]) W:=hlk;obtain⟨hr1,hr2,-⟩:=Cr hva hq
 have hpn:a.prio.length=a.next.length:=by
  simp only[AF,Bool.and_eq_true,decide_eq_true_eq]at hva;exact hva.1.1.2
 rw[hpn]at h3;have hxv:=Ab hx;have HNO:=Ab hno;have HYES:=Ab hyes;have hq0:q<a.next.length:=hq;obtain⟨b2,o2,rfl⟩:=Cf h2 (by omega);obtain⟨b3,o3,rfl⟩:=Cf h3 (by omega);obtain⟨bj,oj,rfl⟩:=Cf hj (by omega);obtain⟨rj,tj,ej,J1,-⟩:=BT hj hi ho
 have HJJ:Hid (∀k,k<((Aq l).getD i []).length->W.cell? ⟨rj,tj+k,none⟩=some (.int .i64 (((Aq l).getD i []).getD k 0))):=fun k hk=>by
  obtain⟨r',t',e',J1',J2'⟩:=BT hj hi hk;rw[J1']at J1;simp only[Option.some.injEq,Value.slice.injEq,Addr.mk.injEq]at J1;obtain⟨⟨rfl,rfl,-⟩,-,rfl⟩:=J1;exact J2'
 have HN:Hid (∀x:Nat,(x:Int)<a.letters->∃r t c,W.cell? ⟨b2,o2+q,none⟩=some (.slice (some ⟨r,t,none⟩) (a.next.getD q []).length c)/\W.cell? ⟨r,t+x,none⟩=some (.int .i64 (mvN a q (x:Int)))):=fun x hx=>by
  obtain⟨r,t,c,h1,h4⟩:=BT h2 hq0 (x:=x) (by omega);exact⟨r,t,c,h1,h4⟩
 have HPR:Hid (∀x:Nat,(x:Int)<a.letters->∃r t c,W.cell? ⟨b3,o3+q,none⟩=some (.slice (some ⟨r,t,none⟩) (a.prio.getD q []).length c)/\W.cell? ⟨r,t+x,none⟩=some (.int .i64 (mvP a q (x:Int)))):=fun x hx=>by
  obtain⟨r,t,c,h1,h4⟩:=BT h3 hq0 (x:=x) (by omega);exact⟨r,t,c,h1,h4⟩
 have z6:=Aa 6 hx0;have HX0:=Ab hx0;have hHno:=hno;clear hno hHno hyes hx hn hwf hm hc hcs ht htl hlk hp h hj h2 h3 hva hx0;generalize hY:pls.getD t pl0=y at*
 have tI:(y.inn !=(-1:Int))=false:=by rw[hti];rfl
 clear hY hti
 have hi1:(i:Int)<((Aq l).length:Int):=by omega
 generalize(Aq l).getD i []=row at*;generalize hnj:(Aq l).length=nj at*;clear hnj;generalize hll:row.length=ll at*;clear hll
 go_enter Tryz.func81,Tryz.ntmps81
 go_wp2_with fail
 refine(HCH.out _ Ad).mono ?_;rintro e w1 ⟨rfl,hb1⟩
 go_upto_region 5 with(fail)
 obtain⟨hx8,hb8,-⟩:=Az (w0:=w1) (B:=w1.heap.size) Ad leR #[.int .i64 y.st,.int .i64 y.inn,.int .i64 y.pr] 108;generalize w1.alloc (.cells #[.int .i64 y.st,.int .i64 y.inn,.int .i64 y.pr] 108)=w2 at*;have hb2:Below W.heap.size W w2:=hb1.trans (hb8.mono hb1.size);have HB2:=Ab hb2;have HX8:=Ab hx8;have y1:=Aa 1 hx8;have z7:=Aa 7 ((hb2.block _ (Array.getElem?_eq_some_iff.1 HX0.out).1).trans HX0.out);have jj:=Ah hb2 J1
 have hi0:(0:Int)<=(i:Int):=by omega
 clear hb1 hb8 hx8 hb2 z6 hlk2 HCH;generalize w1.heap.size=zs at*
 go_wp2_with fail
 clear y1 z7 jj
 go_loopg [48] (o+1) (fun gh iv wx=>∃k:Nat,gh=o+1-k/\iv=.int .i64 (k:Int)/\k<=o/\Hid (Below w2.heap.size w2 wx))
 case atStart=>exact⟨0,rfl,rfl,Nat.zero_le _,Ad⟩
 case round=>
  obtain⟨k,hgk,rfl,hk,HB⟩:=hrel;have HGK:=Ab hgk;clear hgk
  have hk0:(0:Int)<=(k:Int):=by omega
  have hk1:(k:Int)<(ll:Int):=by omega
  have HBW:Hid (Below W.heap.size W wr):=HB2.out.trans (HB.out.mono HB2.out.size);have hv:=hxv.out k (by omega);obtain⟨x,hx⟩:∃x:Nat,row.getD k 0=(x:Int):=⟨(row.getD k 0).toNat,by omega⟩;have cx:=Ah HBW.out (HJJ.out k (by omega));rw[hx]at cx hv;have HX:=Ab hx;obtain⟨r2,t2,d2,A2,A2'⟩:=HN.out x hv.2;obtain⟨r3,t3,d3,A3,A3'⟩:=HPR.out x hv.2;have e2:=Ah HBW.out A2;have e2':=Ah HBW.out A2';have e3:=Ah HBW.out A3;have e3':=Ah HBW.out A3';have p8:=(HBW.out.block _ (Array.getElem?_eq_some_iff.1 HX0.out).1).trans HX0.out;have z2:=Aa 2 p8;have z3:=Aa 3 p8;have b8:=(HB.out.block _ (Array.getElem?_eq_some_iff.1 HX8.out).1).trans HX8.out;have y0:=Aa 0 b8;have y2:=Aa 2 b8
  have hx0':(0:Int)<=(x:Int):=by omega
  have hx2:(x:Int)<((a.next.getD q []).length:Int):=by omega
  have hx3:(x:Int)<((a.prio.getD q []).length:Int):=by omega
  have hq00:(0:Int)<=(q:Int):=by omega
  have hq1:(q:Int)<(a.next.length:Int):=by omega
  have hq3:(q:Int)<(a.prio.length:Int):=by omega
  have HNK:Hid (k<o->¬(mvN a q (x:Int)=y.st/\mvP a q (x:Int)=y.pr)):=fun h=>by have:=HNO.out k h;rwa [HX.out]at this
  have HYK:Hid (k=o->mvN a q (x:Int)=y.st/\mvP a q (x:Int)=y.pr):=fun h=>by have:=HYES.out;rw[<-h,HX.out]at this;exact this
  clear hx A2 A2' A3 A3' p8 b8 hv;generalize mvN a q (x:Int)=N1 at*;generalize mvP a q (x:Int)=N2 at*;generalize(a.next.getD q []).length=l2 at*;generalize(a.prio.getD q []).length=l3 at*;generalize hnl:a.next.length=nl at*;generalize hpl:a.prio.length=npl at*
  go_upto_region 10 with(fail)
  by_cases hko:k=o
  ·obtain⟨g1,g2⟩:=HYK.out hko
   have t1:(N1==y.st)=true:=by rw[g1];simp
   have t2':(N2==y.pr)=true:=by rw[g2];simp
   subst hko;clear g1 g2
   go_quiet (fail)
   go_upto_region 11 with(fail)
   go_quiet (fail)
   go_wp2;refine bodyPost_ret (v:=.tuple #[.int .i64 (k:Int),.int .i64 y.st,.bool true]) (by simp[results,Tryz.results81,go_sem]) rfl ?_;exact⟨rfl,HBW.out.trans (Am _ _ _)⟩
  ·have hno:=HNK.out (by omega)
   have HK2:Hid (k+1<=o):=by show _<=_;omega
   cases t1:(N1==y.st)with
   |false=>
    clear hno
    go_quiet (fail)
    have HBn:Hid (Below w2.heap.size w2 (wr.drewN nq)):=HB.out.trans (Am _ _ _);go_wp2
    go_roundg (o+1-(k+1))
    case measure=>have:=HGK.out;have:=HK2.out;omega
    case rel=>exact⟨k+1,rfl,by go_num,HK2.out,HBn⟩
   |true=>
    have t2':(N2==y.pr)=false:=by
     rw[beq_eq_false_iff_ne];intro h;exact hno ⟨by simpa using t1,h⟩
    clear hno
    go_quiet (fail)
    have HBn:Hid (Below w2.heap.size w2 (wr.drewN nq)):=HB.out.trans (Am _ _ _);go_wp2
    go_roundg (o+1-(k+1))
    case measure=>have:=HGK.out;have:=HK2.out;omega
    case rel=>exact⟨k+1,rfl,by go_num,HK2.out,HBn⟩
def plA(a:Au)(q:Nat)(x:Int):T4:=⟨mvN a q x,-1,mvP a q x⟩
def R7(ll:List Int)(w:World)(e:Ending)(w':World):Prop:=∃v,e=.returned (.tuple #[v,.bool true])/\OI w' w.heap.size v ll/\Below w.heap.size w w'
theorem Re(W:World)(pz:Nat)(a:Au)(pls:List T4)(says:List Int)(l:List Sig)(q i:Nat)(h:DY W pz a pls pls says l)(hva:AF a=true)(hq:q<a.next.length)
  (hi:i<(Aq l).length) (h64:((Aq l).getD i []).length<=64) (hx:∀j,j<((Aq l).getD i []).length->0<=((Aq l).getD i []).getD j 0/\((Aq l).getD i []).getD j 0<a.letters)
  (hm:∀j,j<((Aq l).getD i []).length->plA a q (((Aq l).getD i []).getD j 0)∈pls):
  Calls Tryz.prog 85 #[.pointer (some ⟨pz,0,none⟩),.int .i64 (q:Int),.int .i64 (i:Int)] W (R7 (((Aq l).getD i []).map fun x=>((pls.idxOf (plA a q x):Nat):Int)) W):=by
 obtain⟨a2,c2,a3,c3,ap,cp,aw,cs,mz,aj,cj,hx0,h2,h3,hp,-,hn,hj⟩:=h.open
 have HWF:Hid (∀y∈pls,WfP y):=by
  obtain⟨ao,cap,b,off,-,-,hw⟩:=hp;exact hw
 obtain⟨hr1,hr2,-⟩:=Cr hva hq
 have hpn:a.prio.length=a.next.length:=by
  simp only[AF,Bool.and_eq_true,decide_eq_true_eq]at hva;exact hva.1.1.2
 rw[hpn]at h3;have hq0:q<a.next.length:=hq;obtain⟨b2,o2,rfl⟩:=Cf h2 (by omega);obtain⟨b3,o3,rfl⟩:=Cf h3 (by omega);obtain⟨bj,oj,rfl⟩:=Cf hj (by omega)
 have HN:Hid (∀x:Nat,(x:Int)<a.letters->∃r t c,W.cell? ⟨b2,o2+q,none⟩=some (.slice (some ⟨r,t,none⟩) (a.next.getD q []).length c)/\W.cell? ⟨r,t+x,none⟩=some (.int .i64 (mvN a q (x:Int)))):=fun x hx=>by
  obtain⟨r,t,c,h1,h4⟩:=BT h2 hq0 (x:=x) (by omega);exact⟨r,t,c,h1,h4⟩
 have HPR:Hid (∀x:Nat,(x:Int)<a.letters->∃r t c,W.cell? ⟨b3,o3+q,none⟩=some (.slice (some ⟨r,t,none⟩) (a.prio.getD q []).length c)/\W.cell? ⟨r,t+x,none⟩=some (.int .i64 (mvP a q (x:Int)))):=fun x hx=>by
  obtain⟨r,t,c,h1,h4⟩:=BT h3 hq0 (x:=x) (by omega);exact⟨r,t,c,h1,h4⟩
 obtain⟨bj',oj',ej',hjd⟩:=hj.dat2;obtain⟨-,hjd⟩:=hjd;have e:=ej' (by omega);simp only[Option.some.injEq,Addr.mk.injEq]at e;obtain⟨rfl,rfl,-⟩:=e;obtain⟨rj,ej,J1,hrow⟩:=hjd i hi;have HROW:=Ab hrow;have HX0:=Ab hx0;have HXV:=Ab hx;have HM:=Ab hm;have HNM:=Ab hn;have z7:=Aa 7 hx0
 have hi0:(0:Int)<=(i:Int):=by omega
 have hi1:(i:Int)<((Aq l).length:Int):=by omega
 clear hx hm hn hp h hj h2 h3 hva hx0 hrow hjd ej';generalize(Aq l).getD i []=row at*;generalize hnj:(Aq l).length=nj at*;clear hnj
 have HTK:Hid (∀k,k<row.length->((row.take (k+1)).map fun x=>((pls.idxOf (plA a q x):Nat):Int))=((row.take k).map fun x=>((pls.idxOf (plA a q x):Nat):Int))++[((pls.idxOf (plA a q (row.getD k 0)):Nat):Int)]):=fun k hk=>by
  rw[List.take_succ_eq_append_getElem hk,List.map_append,Af _ _ _ hk];rfl
 have HTL:Hid (∀k,k<=row.length->((row.take k).map fun x=>((pls.idxOf (plA a q x):Nat):Int)).length=k):=fun k hk=>by rw[List.length_map,List.length_take];omega
 have HTE:Hid (((row.take row.length).map fun x=>((pls.idxOf (plA a q x):Nat):Int))=row.map fun x=>((pls.idxOf (plA a q x):Nat):Int)):=by show _=_;rw[List.take_length]
 generalize hT:(fun k=>(row.take k).map fun x=>((pls.idxOf (plA a q x):Nat):Int))=T at*
 have HTK2:Hid (∀k,k<row.length->T (k+1)=T k++[((pls.idxOf (plA a q (row.getD k 0)):Nat):Int)]):=fun k hk=>by rw[<-hT];exact HTK.out k hk
 have HTL2:Hid (∀k,k<=row.length->(T k).length=k):=fun k hk=>by rw[<-hT];exact HTL.out k hk
 have HTE2:Hid (T row.length=row.map fun x=>((pls.idxOf (plA a q x):Nat):Int)):=by show _=_;rw[<-hT];exact HTE.out
 have HT0:Hid (T 0=[]):=by show _=_;rw[<-hT];simp
 clear hT HTK HTL HTE;generalize(row.map fun x=>((pls.idxOf (plA a q x):Nat):Int))=TT at*;generalize hll:row.length=ll at*;clear hll
 go_enter Tryz.func85,Tryz.ntmps85
 go_wp2_with fail
 clear z7
 go_loopg [8,21] ll (fun gh sv iv wx=>∃k:Nat,gh=ll-k/\iv=.int .i64 (k:Int)/\k<=ll/\Hid (OI wx W.heap.size sv (T k)/\Below W.heap.size W wx))
 case atStart=>exact⟨0,rfl,rfl,Nat.zero_le _,by rw[HT0.out];exact BC _ _,Ad⟩
 case round=>
  obtain⟨k,hgk,rfl,hk,HI⟩:=hrel;have HGK:=Ab hgk;clear hgk;have HBW:=Ab HI.out.2;obtain⟨aV,cV,rfl⟩:=HI.out.1.slice' (HTL2.out k hk)
  by_cases hlt:k<ll
  ·have hk0:(0:Int)<=(k:Int):=by omega
   have hk1:(k:Int)<(ll:Int):=by omega
   obtain⟨bs,os,ad,-,ds⟩:=(HROW.out.below HBW.out).data;obtain rfl:=ad (by omega);have cx:=ds k hlt;have hv:=HXV.out k hlt;obtain⟨x,hx⟩:∃x:Nat,row.getD k 0=(x:Int):=⟨(row.getD k 0).toNat,by omega⟩;rw[hx]at cx hv;obtain⟨r2,t2,d2,A2,A2'⟩:=HN.out x hv.2;obtain⟨r3,t3,d3,A3,A3'⟩:=HPR.out x hv.2;have e2:=Ah HBW.out A2;have e2':=Ah HBW.out A2';have e3:=Ah HBW.out A3;have e3':=Ah HBW.out A3';have p8:=(HBW.out.block _ (Array.getElem?_eq_some_iff.1 HX0.out).1).trans HX0.out;have z2:=Aa 2 p8;have z3:=Aa 3 p8;have z6:=Aa 6 p8
   have hx0':(0:Int)<=(x:Int):=by omega
   have hx2:(x:Int)<((a.next.getD q []).length:Int):=by omega
   have hx3:(x:Int)<((a.prio.getD q []).length:Int):=by omega
   have hq00:(0:Int)<=(q:Int):=by omega
   have hq1:(q:Int)<(a.next.length:Int):=by omega
   have hq3:(q:Int)<(a.prio.length:Int):=by omega
   have hmx:=HM.out k hlt;rw[hx]at hmx;have HTX:=Ab (HTK2.out k hlt);rw[hx]at HTX
   have hlk:∀m,(Instr.lookup 109 (.map (some mz)) (.agg #[.int .i64 (mvN a q (x:Int)),.int .i64 (-1),.int .i64 (mvP a q (x:Int))]) true).run Tryz.prog (wr.drewN m)=.ok (.tuple #[.int .i64 ((pls.idxOf (plA a q (x:Int)):Nat):Int),.bool true]) (wr.drewN m):=fun m=>((HNM.out.below (HBW.out.trans (Am _ _ m))).get (HWF.out _ hmx)).1 hmx
   have HTL3:Hid ((T k).length=k):=HTL2.out k hk;clear hx A2 A2' A3 A3' p8 hv hmx ds ad;generalize mvN a q (x:Int)=N1 at*;generalize mvP a q (x:Int)=N2 at*;generalize pls.idxOf (plA a q (x:Int))=ix at*;generalize(a.next.getD q []).length=l2 at*;generalize(a.prio.getD q []).length=l3 at*
   go_upto_region 5 with(fail)
   go_quiet (fail)
   have HI2:Hid (OI (wr.drewN nq) W.heap.size (.slice aV k cV) (T k)/\Below W.heap.size W (wr.drewN nq)):=⟨HI.out.1.below (Am _ _ _),HI.out.2.trans (Am _ _ _)⟩;clear hlk cx e2 e2' e3 e3' z2 z3 z6 HI HBW;generalize wr.drewN nq=w8 at*;have hsz:=HI2.out.2.size
   go_wp2_with (at_builtin;refine DZ rfl _ _ (ix:Int) rfl W.heap.size (.slice aV k cV) (T k) HI2.out.1 rfl _ (by simp) rfl (by rw[HTL3.out];omega) hsz ?_;intro v' w9 ho9 hg9 hm9;rw[<-HTX.out]at ho9;have HO9:=Ab ho9;have HB9:Hid (Below W.heap.size W w9):=HI2.out.2.grown hg9 hsz (fun q e=>HI2.out.1.ge q e);clear ho9 hg9 hm9)
   go_roundg (ll-(k+1))
   case measure=>have:=HGK.out;omega
   case rel=>exact⟨k+1,rfl,by go_num,hlt,HO9.out,HB9.out⟩
  ·have hk1:¬(k:Int)<(ll:Int):=by omega
   have HE:Hid (OI wr W.heap.size (.slice aV k cV) TT):=by
    have h1:=HI.out.1;rw[show k=ll by omega,HTE2.out]at h1;rw[show k=ll by omega];exact h1
   clear HI;go_wp2;go_ret2;exact⟨_,rfl,HE.out,HBW.out⟩
theorem Da.blk{w w':World}{b:Nat}{l:List Int}(h:Da w b l)(e:w'.heap[b]? =w.heap[b]?):Da w' b l:=by
 obtain⟨D,⟨es,c,h1,h2⟩,h3⟩:=h;exact⟨D,⟨es,c,e.trans h1,h2⟩,h3⟩
def JV(l:List Int)(J:(Nat->Prop)->World->Prop)(H:Nat->Prop)(W:World)(e:Ending)(W':World):Prop:=∃v H',e=.returned (.tuple #[v,.bool true])/\OI W' W.heap.size v l/\(∀q,v.ownBlock=some q->¬H' q)/\J H' W'/\Ag H W W'/\∀q,H' q->H q\/W.heap.size<=q
structure FC(B:Nat)(f:Nat)(lb:Array Value)(n K:Nat)(st:Nat->Int)(nx:Int->Nat->Int)(J:Nat->(Nat->Prop)->World->Prop):Prop where
 lt:∀k H W,J k H W->∀q,H q->q<W.heap.size
 keep:∀k H W W',J k H W->Ag (fun q=>B<=q/\¬H q) W W'->J k H W'
 call:∀k H W,J k H W->B<=W.heap.size->k<K->Calls Tryz.prog f (#[.int .i64 (st k)]++lb) W (JV ((List.range n).map (nx (st k))) (J (k+1)) H W)
structure SZ(B zm:Nat)(J:Nat->(Nat->Prop)->World->Prop)(k:Nat)(S:List Int)(tR:List (List Int))(R:List Int)(vS vT vR:Value)(vals:List Value)(H:Nat->Prop)(W:World):Prop where
 j:J k H W
 z:B<=zm
 o:OI W B vS S
 m:Da W zm S
 t:W.ownsRow B 26 1 vT tR.length vals
 r:OI W B vR R
 kr:KR (fun q=>q<B\/Bo zm vS vT vR q\/H q) W vals tR
 a1:vS.ownBlock≠some zm
 a2:vT.ownBlock≠some zm
 a3:vR.ownBlock≠some zm
 a4:AQ vS vT
 a5:AQ vS vR
 a6:AQ vT vR
 h:∀q,H q->¬Bo zm vS vT vR q
section
variable {B zm:Nat} {f:Nat} {lb:Array Value} {n K:Nat} {st:Nat->Int} {nx:Int->Nat->Int} {J:Nat->(Nat->Prop)->World->Prop} {k:Nat} {S:List Int} {tR:List (List Int)} {R:List Int} {vS vT vR v':Value} {vals:List Value} {H H':Nat->Prop} {W W':World}
theorem SZ.hlt(h:SZ B zm J k S tR R vS vT vR vals H W):∀q,Bo zm vS vT vR q->B<=q/\q<W.heap.size:=by
 rintro q (e|e|e|e)
 ·rw[e];exact⟨h.z,h.m.lt⟩
 ·exact⟨h.o.ge q e,h.o.lt' q e⟩
 ·exact World.ownsRow.lt h.t q e
 ·exact⟨h.r.ge q e,h.r.lt' q e⟩
theorem SZ.only(hn:FC B f lb n K st nx J)(h:SZ B zm J k S tR R vS vT vR vals H W)(ho:Ag (fun q=>False) W W'):SZ B zm J k S tR R vS vT vR vals H W':=
 ⟨hn.keep _ _ _ _ h.j (ho.mono fun _ _ e=>e.elim),h.z,h.o.only ho fun _ _ e=>e,h.m.blk (ho.block _ h.m.lt fun e=>e),Ax h.t ho fun _ _ e=>e,h.r.only ho fun _ _ e=>e,h.kr.move (ho.mono fun _ _ e=>e.elim) fun _ _ e=>e,h.a1,h.a2,h.a3,h.a4,h.a5,h.a6,h.h⟩
theorem SZ.below(hn:FC B f lb n K st nx J)(h:SZ B zm J k S tR R vS vT vR vals H W)(hb:Below W.heap.size W W'):SZ B zm J k S tR R vS vT vR vals H W':=h.only hn (Ag.of_below hb)
theorem SZ.asked(h:SZ B zm J k S tR R vS vT vR vals H W)(hj:J (k+1) H' W')(ho:Ag H W W')(hH:∀q,H' q->H q\/W.heap.size<=q):SZ B zm J (k+1) S tR R vS vT vR vals H' W':=by
 have hne:∀q,Bo zm vS vT vR q->¬H q:=fun q e1 e2=>h.h q e2 e1
 refine⟨hj,h.z,h.o.only ho fun q e=>hne q (.inr (.inl e)),h.m.blk (ho.block _ h.m.lt (hne _ (.inl rfl))),Ax h.t ho fun q e=>hne q (.inr (.inr (.inl e))),h.r.only ho fun q e=>hne q (.inr (.inr (.inr e))),h.kr.move (ho.mono fun _ _ e=>.inr (.inr e)) fun q hq e=> ?_,h.a1,h.a2,h.a3,h.a4,h.a5,h.a6,fun q e1 e2=> ?_⟩
 ·rcases e with e|e|e
  ·exact .inl e
  ·exact .inr (.inl e)
  ·rcases hH q e with e|e
   ·exact .inr (.inr e)
   ·omega
 ·rcases hH q e1 with e|e
  ·exact h.h q e e2
  ·have:=(h.hlt q e2).2;omega
theorem SZ.row(hn:FC B f lb n K st nx J)(h:SZ B zm J k S tR [] vS vT (.slice none 0 0) vals H W){m:Nat}(ho:OI W' B (.slice (some ⟨W.heap.size,0,none⟩) m m) R)(hg:W.grownBy W' none):SZ B zm J k S tR R vS vT (.slice (some ⟨W.heap.size,0,none⟩) m m) vals H W':=by
 have hb:Below W.heap.size W W':=Ad.grown hg leR (fun k hk=>by cases hk);have g:=h.below hn hb
 have hv:∀q,(Value.slice (some ⟨W.heap.size,0,none⟩) m m).ownBlock=some q->q=W.heap.size:=fun q e=>by simpa[Value.ownBlock]using e.symm
 have hHl:=hn.lt _ _ _ h.j;refine⟨g.j,g.z,g.o,g.m,g.t,ho,h.kr.move (Ag.of_below hb) fun q hq e=> ?_,g.a1,g.a2,fun e=> ?_,g.a4,fun q e e2=> ?_,fun q e e2=> ?_,fun q e1 e2=> ?_⟩
 ·rcases e with e|(e|e|e|e)|e
  ·exact .inl e
  ·exact .inr (.inl (.inl e))
  ·exact .inr (.inl (.inr (.inl e)))
  ·exact .inr (.inl (.inr (.inr (.inl e))))
  ·have:=hv q e;omega
  ·exact .inr (.inr e)
 ·have:=hv _ e;have:=h.m.lt;omega
 ·have:=h.o.lt' q e;have:=hv q e2;omega
 ·have:=(World.ownsRow.lt h.t q e).2;have:=hv q e2;omega
 ·rcases e2 with e|e|e|e
  ·exact h.h q e1 (.inl e)
  ·exact h.h q e1 (.inr (.inl e))
  ·exact h.h q e1 (.inr (.inr (.inl e)))
  ·have:=hv q e;have:=hHl q e1;omega
theorem SZ.jk(hn:FC B f lb n K st nx J)(h:SZ B zm J k S tR R vS vT vR vals H W){T:Nat->Prop}(ho:Ag T W W')(hT:∀q,T q->Bo zm vS vT vR q):J k H W':=
 hn.keep _ _ _ _ h.j (ho.mono fun q _ e=>⟨(h.hlt q (hT q e)).1,fun e2=>h.h q e2 (hT q e)⟩)
theorem SZ.kk(h:SZ B zm J k S tR R vS vT vR vals H W){T:Nat->Prop}{vS' vT' vR':Value}(ho:Ag T W W')(hT:∀q,T q->Bo zm vS vT vR q)(h':∀q,q<W.heap.size->Bo zm vS' vT' vR' q->Bo zm vS vT vR q):KR (fun q=>q<B\/Bo zm vS' vT' vR' q\/H q) W' vals tR:=
 h.kr.move (ho.mono fun q _ e=>.inr (.inl (hT q e))) fun q hq e=>by
  rcases e with e|e|e
  ·exact .inl e
  ·exact .inr (.inl (h' q hq e))
  ·exact .inr (.inr e)
theorem SZ.num(hn:FC B f lb n K st nx J)(h:SZ B zm J k S tR R vS vT vR vals H W){y:Int}{S':List Int}(hm:Da W' zm S')(hg:W.grownBy W' (some zm)){W2:World}(hb:Below W'.heap.size W' W2){W3:World}(ho:OI W3 B v' (S++[y]))(hg2:W2.grownBy W3 vS.ownBlock)(hm2:A7 W2 vS v')(he:S'=S++[y]):SZ B zm J k (S++[y]) tR R v' vT vR vals H W3:=by
 have o1:Ag (Bo zm vS vT vR) W W':=(Ag.of_grown hg).mono fun q _ e=>.inl (Option.some.inj e).symm
 have o2:Ag (Bo zm vS vT vR) W' W2:=Ag.of_below hb
 have o3:Ag (Bo zm vS vT vR) W2 W3:=(Ag.of_grown hg2).mono fun q _ e=>.inr (.inl e)
 have oA:=(o1.trans o2).trans o3;have hsz:W.heap.size<=W2.heap.size:=(o1.trans o2).size
 have hmv:∀q,v'.ownBlock=some q->vS.ownBlock=some q\/W.heap.size<=q:=fun q e=>(hm2 q e).imp id fun k=>Nat.le_trans hsz k
 have hin:∀q,q<W.heap.size->Bo zm v' vT vR q->Bo zm vS vT vR q:=by
  rintro q hq (e|e|e|e)
  ·exact .inl e
  ·exact(hmv q e).elim (fun k=>.inr (.inl k)) fun k=>by omega
  ·exact .inr (.inr (.inl e))
  ·exact .inr (.inr (.inr e))
 have ot:Ag (fun q=>q=zm\/vS.ownBlock=some q) W W3:=(((Ag.of_grown hg).mono fun q _ e=>.inl (Option.some.inj e).symm).trans (Ag.of_below hb)).trans ((Ag.of_grown hg2).mono fun q _ e=>.inr e);have hzm:=h.m.lt;refine⟨h.jk hn oA fun _ e=>e,h.z,ho, ?_,Ax h.t ot fun q e k=> ?_,h.r.only ot fun q e k=> ?_,h.kk oA (fun _ e=>e) hin,fun e=> ?_,h.a2,h.a3,fun q e e2=> ?_,fun q e e2=> ?_,h.a6,fun q e1 e2=>h.h q e1 (hin q (hn.lt _ _ _ h.j q e1) e2)⟩
 ·rw[<-he];refine hm.blk ?_;rw[hg2.block _ (Nat.lt_of_lt_of_le hm.lt hb.size) fun e=>h.a1 e.symm,hb.block _ hm.lt]
 ·rcases k with k|k
  ·exact h.a2 (k▸e)
  ·exact h.a4 q k e
 ·rcases k with k|k
  ·exact h.a3 (k▸e)
  ·exact h.a5 q k e
 ·rcases hmv _ e with k|k
  ·exact h.a1 k
  ·omega
 ·rcases hmv _ e with k|k
  ·exact h.a4 q k e2
  ·have:=(World.ownsRow.lt h.t q e2).2;omega
 ·rcases hmv _ e with k|k
  ·exact h.a5 q k e2
  ·have:=h.r.lt' q e2;omega
theorem SZ.set(hn:FC B f lb n K st nx J){g c j m:Nat}{x:Int}(h:SZ B zm J k S tR R vS vT (.slice (some ⟨g,0,none⟩) m c) vals H W)(hm:m=R.length):SZ B zm J k S tR (R.set j x) vS vT (.slice (some ⟨g,0,none⟩) m c) vals H (W.setCell ⟨g,j,none⟩ (.int .i64 x)):=by
 have o1:Ag (fun q=>q=g) W (W.setCell ⟨g,j,none⟩ (.int .i64 x)):=Ag.set g j _ rfl
 have hT:∀q,q=g->Bo zm vS vT (.slice (some ⟨g,0,none⟩) m c) q:=fun q e=>.inr (.inr (.inr (by rw[e];rfl)))
 refine⟨h.jk hn o1 hT,h.z,h.o.only o1 fun q e k=> ?_,h.m.blk (o1.block _ h.m.lt fun e=>h.a3 (by rw[e];rfl)),Ax h.t o1 fun q e k=> ?_,h.r.set hm j x,h.kk o1 hT fun _ _ e=>e,h.a1,h.a2,h.a3,h.a4,h.a5,h.a6,h.h⟩
 ·exact h.a5 q e (by rw[k];rfl)
 ·exact h.a6 q e (by rw[k];rfl)
theorem SZ.app(hn:FC B f lb n K st nx J)(h:SZ B zm J k S tR R vS vT vR vals H W)(hl:R.length<=100000)(hr:∀x∈R,I64 x){W2:World}(hb:Below W.heap.size W W2)(ho:W'.ownsRow B 26 1 v' (tR.length+1) (vals++[vR]))(hg:W2.grownBy W' vT.ownBlock)(hm:A7 W2 vT v'):SZ B zm J k S (tR++[R]) [] vS v' (.slice none 0 0) (vals++[vR]) H W':=by
 have o1:Ag (fun q=>vT.ownBlock=some q) W W':=(Ag.of_below hb).trans (Ag.of_grown hg)
 have hmv:∀q,v'.ownBlock=some q->vT.ownBlock=some q\/W.heap.size<=q:=fun q e=>(hm q e).imp id fun k=>Nat.le_trans hb.size k
 have hT:∀q,vT.ownBlock=some q->Bo zm vS vT vR q:=fun q e=>.inr (.inr (.inl e))
 have hin:∀q,q<W.heap.size->Bo zm vS v' (.slice none 0 0) q->q=zm\/vS.ownBlock=some q\/vT.ownBlock=some q:=by
  rintro q hq (e|e|e|e)
  ·exact .inl e
  ·exact .inr (.inl e)
  ·exact(hmv q e).elim (fun k=>.inr (.inr k)) fun k=>by omega
  ·cases e
 have hin2:∀q,q<W.heap.size->Bo zm vS v' (.slice none 0 0) q->Bo zm vS vT vR q:=fun q hq e=>by
  rcases hin q hq e with k|k|k
  ·exact .inl k
  ·exact .inr (.inl k)
  ·exact .inr (.inr (.inl k))
 have hR:∀q,vR.ownBlock=some q->¬(q<B\/Bo zm vS v' (.slice none 0 0) q\/H q):=fun q e k=>by
  have hq:=h.r.lt' q e
  rcases k with k|k|k
  ·have:=h.r.ge q e;omega
  ·rcases hin q hq k with k|k|k
   ·exact h.a3 (k▸e)
   ·exact h.a5 q k e
   ·exact h.a6 q k e
  ·exact h.h q k (.inr (.inr (.inr e)))
 refine⟨h.jk hn o1 hT,h.z,h.o.only o1 fun q e k=>h.a4 q e k,h.m.blk (o1.block _ h.m.lt fun e=>h.a2 e),by rw[List.length_append];exact ho,BC _ _,(h.kk o1 hT hin2).add fun W9 hW=> ?_,h.a1,fun e=> ?_,(fun e=>by cases e),fun q e e2=> ?_,Cz _,Cz _,fun q e1 e2=>h.h q e1 (hin2 q (hn.lt _ _ _ h.j q e1) e2)⟩
 ·have r1:OI W' B vR R:=h.r.only o1 fun q e k=>h.a6 q k e
  exact(r1.only hW fun q e k=>hR q e k).is (by unfold Bk;omega) hr
 ·rcases hmv _ e with k|k
  ·exact h.a2 k
  ·have:=h.m.lt;omega
 ·rcases hmv _ e2 with k|k
  ·exact h.a4 q e k
  ·have:=h.o.lt' q e;omega
end
end Go.Proofs.YtncjeamdkjcebaaGreatDoor
