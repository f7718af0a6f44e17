/- What mealy.search computes, for pairs of sta. -/
import Derived.Test.YtncjeamdkjcebaaGreatDoorYMyB6
set_option linter.all false
set_option maxHeartbeats 4000000
set_option maxRecDepth 100000
namespace Go.Proofs.YtncjeamdkjcebaaGreatDoor
open Go.RowKit
def Gi(B:Nat)(J:(Nat->Prop)->World->Prop)(rows:List (List Int))(e:Ending)(W':World):Prop:=∃vS vT H,e=.returned (.tuple #[vS,vT,.bool true])/\J H W'/\B<=W'.heap.size/\∀W9,Af (fun q=>q<B\/H q) W' W9->Ar W9 vT rows
section
variable {B zm:Nat} {f:Nat} {lb:Array Value} {n K:Nat} {st:Nat->Pr} {nx:Pr->Nat->Pr} {J:Nat->(Nat->Prop)->World->Prop} {k:Nat} {S:List Pr} {tR:List (List Int)} {R:List Int} {vS vT vR v' vU vS' vT' vR':Value} {vals:List Value} {H:Nat->Prop} {W W' W3:World} {U:List Pr}
theorem SQ.numO(_:SQ B zm J k S tR R vS vT vR vals H W)(hg:W.grownBy W' (some zm))(a:W'.grownBy W3 vS.ownBlock)(b:AS W' vS v'):Af (Bv zm vS vT vR) W W3/\∀q,q<W.heap.size->Bv zm v' vT vR q->Bv zm vS vT vR q:=by
 have o1:Af (Bv zm vS vT vR) W W':=(Af.of_grown hg).mono fun q _ e=>.inl (Option.some.inj e).symm
 have o3:Af (Bv zm vS vT vR) W' W3:=(Af.of_grown a).mono fun q _ e=>.inr (.inl e)
 refine⟨o1.trans o3, ?_⟩;rintro q hq (e|e|e|e)
 ·exact .inl e
 ·rcases b q e with k|k
  ·exact .inr (.inl k)
  ·have:=o1.size;omega
 ·exact .inr (.inr (.inl e))
 ·exact .inr (.inr (.inr e))
theorem SQ.is(h:SQ B zm J k S tR R vS vT vR vals H W)(hl:tR.length<=100000):∀W9,Af (fun q=>q<B\/H q) W W9->Ar W9 vT tR:=fun W9 ho=>by
 have h1:=Ax h.t ho fun q e k=>by
  rcases k with k|k
  ·have:=(World.ownsRow.lt h.t q e).1;omega
  ·exact h.h q k (.inr (.inr (.inl e)))
 exact(h.kr.move (S1:=fun _=>False) (ho.mono fun q _ e=>e.elim .inl fun k=>.inr (.inr k)) fun _ _ e=>e.elim).is h1 hl
structure UQ(B zm:Nat)(vS vT vR vU:Value)(U:List Pr)(W:World):Prop where
 o:OQ W B vU U
 d:∀q,vU.ownBlock=some q->¬Bv zm vS vT vR q
theorem UQ.step(h:UQ B zm vS vT vR vU U W)(ho:Af (Bv zm vS vT vR) W W')(hi:∀q,q<W.heap.size->Bv zm vS' vT' vR' q->Bv zm vS vT vR q):UQ B zm vS' vT' vR' vU U W':=
 ⟨h.o.only ho fun q e k=>h.d q e k,fun q e k=>h.d q e (hi q (h.o.lt' q e) k)⟩
theorem UQ.below(h:UQ B zm vS vT vR vU U W)(hb:Below W.heap.size W W'):UQ B zm vS vT vR vU U W':=h.step (Af.of_below hb) fun _ _ e=>e
end
theorem Pb(w:World)(f:Nat)(lb:Array Value)(HE:∀args W,(callFunc f args).run Tryz.prog W=.ok (.enter f args) W)(nx:Pr->Nat->Pr)(s0:Pr)(n K:Nat)(u:Int)(J:Nat->(Nat->Prop)->World->Prop)(H0:Nat->Prop)
  (hn:GI w.heap.size f lb n K (gP nx s0 (0,0) n) nx J) (a0:Kj nx s0 (0,0) n K) (hK:K<=3000) (c5:(K:Int)<=u) (dk:n<=1000) (hw:∀k,k<=K->∀x∈UH nx s0 (0,0) n k,WfQ x) (hj:J 0 H0 w):
  Calls Tryz.prog 50 #[prV s0,.int .i64 u,.func (.func f) #[] lb] w (Gi w.heap.size (J K) (UG nx s0 (0,0) n K)):=by
 have c:=Ab hn;have ao:=Ab a0;have HW:=Ab hw;have cm:WfQ s0:=hw 0 (Nat.zero_le _) s0 (by simp[UH]);have cx:=Ab cm;have bq:=Ab hj;clear hn a0 hw hj cm;have dd:=@run_makeMap Tryz.prog;show Calls Tryz.prog 50 #[.agg #[.int .i64 ((s0.1:Nat):Int),.int .i64 ((s0.2:Nat):Int)],.int .i64 u,.func (.func f) #[] lb] w _;obtain⟨B,hB⟩:∃B,B=w.heap.size:=⟨_,rfl⟩;have HB:=Ab hB
 go_enter Tryz.func50,Tryz.ntmps50
 go_upto_region 1 with(fail)
 obtain⟨bm,b7,-⟩:=Aw (w0:=w) (B:=w.heap.size) Ad leR #[.int .i64 ((s0.1:Nat):Int),.int .i64 ((s0.2:Nat):Int)] 80
 have cg:(w.alloc (.cells #[.int .i64 ((s0.1:Nat):Int),.int .i64 ((s0.2:Nat):Int)] 80)).heap.size=w.heap.size+1:=by simp
 generalize w.alloc (.cells #[.int .i64 ((s0.1:Nat):Int),.int .i64 ((s0.2:Nat):Int)] 80)=w1 at*;have c0:=Aa 0 bm;have c1:=Aa 1 bm
 go_upto_region 2 with(fail)
 have be:OQ (w1.alloc (.cells #[.int .i64 ((s0.1:Nat):Int),.int .i64 ((s0.2:Nat):Int)] 80)) w1.heap.size (.slice (some ⟨w1.heap.size,0,none⟩) 1 1) [s0]:=S9 w1 s0;obtain⟨da,ar,-⟩:=Aw (w0:=w1) (B:=w1.heap.size) Ad leR #[.int .i64 ((s0.1:Nat):Int),.int .i64 ((s0.2:Nat):Int)] 80
 have ch:(w1.alloc (.cells #[.int .i64 ((s0.1:Nat):Int),.int .i64 ((s0.2:Nat):Int)] 80)).heap.size=w1.heap.size+1:=by simp
 rw[cg]at be ch;replace c0:=Ag ar c0;replace c1:=Ag ar c1;generalize w1.alloc (.cells #[.int .i64 ((s0.1:Nat):Int),.int .i64 ((s0.2:Nat):Int)] 80)=w2 at*;have b3:=Gh.made w2;have ai:Below w2.heap.size w2 (w2.alloc (.map #[] 0)):=Ao _
 have c7:(w2.alloc (.map #[] 0)).heap.size=w2.heap.size+1:=by simp
 obtain⟨w4,s,b4,bg⟩:=b3.upd cx.out (by simp) (by simp);have bl:(Instr.mapUpdate 136 (.map (some w2.heap.size)) (.agg #[.int .i64 ((s0.1:Nat):Int),.int .i64 ((s0.2:Nat):Int)]) (.int .i64 0)).run Tryz.prog (w2.alloc (.map #[] 0))=.ok () w4:=s;have cz:=Ag ai c0;have c2:=Ag ai c1
 have b5:OQ w4 w.heap.size (.slice (some ⟨w.heap.size+1,0,none⟩) 1 1) [s0]:=by
  refine((be.base (by omega):OQ w2 w.heap.size _ _).only (S:=fun _=>False) (Af.of_below ai) fun _ _ e=>e).only (Af.of_grown bg) fun q e k=> ?_
  have e:w.heap.size+1=q:=Option.some.inj e;have k:w2.heap.size=q:=Option.some.inj k;omega
 have az:Below w.heap.size w w4:=((b7.trans (ar.mono (by omega))).trans (ai.mono (by omega))).grown bg (by omega) (fun q e=>by have e:w2.heap.size=q:=Option.some.inj e;omega)
 have b6:SQ w.heap.size w2.heap.size J 0 (UH nx s0 (0,0) n 0) (UG nx s0 (0,0) n 0) [] (.slice (some ⟨w.heap.size+1,0,none⟩) 1 1) (.slice none 0 0) (.slice none 0 0) [] H0 w4:=by
  refine⟨c.out.keep _ _ _ _ bq.out (Af.of_below az),by omega,b5,b4,World.ownsRow_nil _ _ _ _,Br _ _,KR.nil _ _, ?_,(fun e=>by cases e),(fun e=>by cases e),BQ _,BQ _,ES _,fun q e k=> ?_⟩
  ·simp[Value.ownBlock];omega
  ·have:=c.out.lt _ _ _ bq.out q e
   rcases k with k|k|k|k
   ·omega
   ·have k:w.heap.size+1=q:=Option.some.inj k;omega
   ·cases k
   ·cases k
 have bx:=Ab b6;clear be da b3 b4 bg s b5 az b6 b7 ar ai bm cg ch c7 c0 c1
 go_upto_region 3 with(fail)
 clear bl cz c2;generalize w2.heap.size=zm at*;have ct:Hid ((UH nx s0 (0,0) n 0).length=1):=rfl
 go_wp2_with fail
 go_loopg [9,11,12] K (fun gh sv tv kv wr=>∃(k:Nat)(vals:List Value)(H:Nat->Prop),gh=K-k/\kv=.int .i64 (k:Int)/\k<=K/\Hid (SQ w.heap.size zm J k (UH nx s0 (0,0) n k) (UG nx s0 (0,0) n k) [] sv tv (.slice none 0 0) vals H wr))
 case atStart=>exact⟨0,_,_,rfl,rfl,Nat.zero_le _,bx⟩
 case round=>
  clear bx ct;obtain⟨k,vals,H,b9,rfl,hk,HQ⟩:=hrel;have cr:=Ab b9;clear b9
  by_cases hlt:k<K
  ·have au:=ao.out.2 k hlt;obtain⟨g,cS,c8,-,-⟩:=HQ.out.o.row (by omega);subst c8;have bj:=GV (i:=0) ao.out hlt (Nat.zero_le _);have aj:=HQ.out.o.at' rfl k au;have ca:(UH nx s0 (0,0) n k)[k]=gP nx s0 (0,0) n k:=(Ae _ _ _ au).symm;rw[ca]at aj;obtain⟨c0,c1⟩:=aj
   have dh:(0:Int)<=(k:Int):=by omega
   have bi:(k:Int)<((UH nx s0 (0,0) n k).length:Int):=by omega
   have bz:w.heap.size<=wr.heap.size:=Nat.le_trans HQ.out.z (Nat.le_of_lt HQ.out.m.lt);have bo:=Ab (c.out.call k H wr HQ.out.j bz hlt);clear ca
   go_wp2_with fail
   refine bo.out.mono ?_;rintro e w5 ⟨v,H',rfl,av,c6,cc,bk,b2⟩;have a9:=Ab (HQ.out.asked cc bk b2);obtain⟨aU,cU,ag⟩:=av.slice;rw[show((List.range n).map (nx (gP nx s0 (0,0) n k))).length=n by simp]at ag;have ci:=bk.size
   have ap:Hid (UQ w.heap.size zm (.slice (some ⟨g,0,none⟩) (UH nx s0 (0,0) n k).length cS) u11 (.slice none 0 0) v ((List.range n).map (nx (gP nx s0 (0,0) n k))) w5):=⟨av.base bz,fun q e h=>by
    have h1:=av.ge q e;have h2:=(HQ.out.hlt q h).2
    omega⟩
   subst ag
   have ax:w.heap.size<=w5.heap.size:=by omega
   clear av c6 cc bk b2 bo c0 c1;obtain⟨F,hF⟩:∃F,F=nx (gP nx s0 (0,0) n k):=⟨_,rfl⟩;obtain⟨S0,ab⟩:∃S0,S0=UH nx s0 (0,0) n k:=⟨_,rfl⟩
   have ba:Hid (UH nx s0 (0,0) n (k+1)=rwG F S0 n):=by rw[hF,ab];rfl
   have cs:Hid (UG nx s0 (0,0) n (k+1)=UG nx s0 (0,0) n k++[Gu F S0 n]):=by rw[hF,ab];exact NH
   have an:Hid (∀i,i<=n->(rwG F S0 i).length<=K):=fun i hi=>by rw[hF,ab];exact GV ao.out hlt hi
   have cy:Hid (∀i,i<=n->∀x∈rwG F S0 i,WfQ x):=fun i hi x hx=>by
    have h1:=(IA (f:=F) (S:=S0) hi).subset hx;rw[<-ba.out]at h1;exact HW.out (k+1) hlt x h1
   rw[<-hF]at ap;rw[<-ab]at a9 ap;rw[<-ab]at bi au bj⊢;rw[<-hF]at bj;clear hF ab HQ bj
   go_upto_region 11 with(at_make;refine FA rfl _ _ _ Tryz.underlying26 rfl w.heap.size (n:Int) n rfl rfl rfl (by omega) ax ?_;intro w6 a4 bh;have bv:=Ab (a9.out.row c.out a4 bh))
   have p:Hid (UQ w.heap.size zm (.slice (some ⟨g,0,none⟩) S0.length cS) u11 (.slice (some ⟨w5.heap.size,0,none⟩) n n) (.slice aU n cU) ((List.range n).map F) w6):=by
    refine ap.out.step (Af.of_below (Ad.grown bh leR (fun k hk=>by cases hk))) ?_;rintro q hq (e|e|e|e)
    ·exact .inl e
    ·exact .inr (.inl e)
    ·exact .inr (.inr (.inl e))
    ·have e:w5.heap.size=q:=Option.some.inj e;omega
   clear a4 bh
   have bw:Hid (SQ w.heap.size zm J (k+1) (rwG F S0 0) (UG nx s0 (0,0) n k) (nwG F S0 n 0) (.slice (some ⟨g,0,none⟩) S0.length cS) u11 (.slice (some ⟨w5.heap.size,0,none⟩) n n) vals H' w6):=by
    rw[LQ];exact bv.out
   clear a9 ap bv ax ci;generalize w5.heap.size=gR at*;have de:=Ab (rfl:rwG F S0 0=S0);have a2:S0.length<=K:=an.out 0 (Nat.zero_le _);have dc:=Ab a2;clear bi au a2;generalize S0.length=ls at*
   go_wp2_with fail
   go_loopg [9,47] n (fun gh sv iv wx=>∃(i:Nat),gh=n-i/\iv=.int .i64 (i:Int)/\i<=n/\Hid (SQ w.heap.size zm J (k+1) (rwG F S0 i) (UG nx s0 (0,0) n k) (nwG F S0 n i) sv u11 (.slice (some ⟨gR,0,none⟩) n n) vals H' wx)/\Hid (UQ w.heap.size zm sv u11 (.slice (some ⟨gR,0,none⟩) n n) (.slice aU n cU) ((List.range n).map F) wx))
   case atStart=>exact⟨0,rfl,rfl,by omega,bw,p⟩
   case round=>
    clear bw p;obtain⟨i,b8,rfl,hi,HI,HU⟩:=hrel;have bp:=Ab b8;clear b8
    by_cases hlti:i<n
    ·have dg:(0:Int)<=(i:Int):=by omega
     have c4:(i:Int)<(n:Int):=by omega
     have ae:((List.range n).map F).length=n:=by simp
     obtain⟨gU,df,ag,-,-⟩:=HU.out.o.row (by rw[ae];omega);rw[ae]at ag;simp only[Value.slice.injEq]at ag;obtain⟨rfl,-,rfl⟩:=ag;have aj:=HU.out.o.at' ae.symm i (by rw[ae];exact hlti);rw[show((List.range n).map F)[i]'(by rw[ae];exact hlti)=F i by simp]at aj;obtain⟨c0,c1⟩:=aj;obtain⟨y,hy⟩:∃y,y=F i:=⟨_,rfl⟩;rw[<-hy]at c0 c1
     have cn:WfQ y:=by
      refine cy.out (i+1) hlti y ?_;rw[hy];show F i∈Il (rwG F S0 i) (F i);unfold Il
      split
      ·assumption
      ·simp
     have bd:=Ab cn;have HY:=Ab hy;clear ae cn hy
     go_upto_region 14 with(fail)
     obtain⟨aw,bf,-⟩:=Aw (w0:=wr) (B:=wr.heap.size) Ad leR #[.int .i64 ((y.1:Nat):Int),.int .i64 ((y.2:Nat):Int)] 80
     have dl:wr.heap.size<(wr.alloc (.cells #[.int .i64 ((y.1:Nat):Int),.int .i64 ((y.2:Nat):Int)] 80)).heap.size:=by simp
     have db:zm≠wr.heap.size:=Nat.ne_of_lt HI.out.m.lt;generalize wr.alloc (.cells #[.int .i64 ((y.1:Nat):Int),.int .i64 ((y.2:Nat):Int)] 80)=w6 at*;have b:=Ab (HI.out.below c.out bf);have p:=Ab (HU.out.below bf);generalize wr.heap.size=zs at*;have k0:=Aa 0 aw;have k1:=Aa 1 aw;obtain⟨aS,aq,rfl⟩:=b.out.o.slice;have dj:(rwG F S0 i).length<=K:=an.out i (Nat.le_of_lt hlti);have b0:w.heap.size<=w6.heap.size:=Nat.le_trans b.out.z (Nat.le_of_lt b.out.m.lt);have d:Hid (n=(nwG F S0 n i).length):=(NX (Nat.le_of_lt hlti)).symm
     have a6:Hid ((nwG F S0 n i).set i (((rwG F S0 i).idxOf y:Nat):Int)=nwG F S0 n (i+1)):=by rw[HY.out];exact NY hlti
     clear HI HU bf c0 c1
     by_cases hmem:y∈rwG F S0 i
     ·have ce:(Instr.lookup 136 (.map (some zm)) (.agg #[.int .i64 ((y.1:Nat):Int),.int .i64 ((y.2:Nat):Int)]) true).run Tryz.prog w6=.ok (.tuple #[.int .i64 (((rwG F S0 i).idxOf y:Nat):Int),.bool true]) w6:=(b.out.m.get bd.out).1 hmem
      have ah:rwG F S0 (i+1)=rwG F S0 i:=by
       show Il (rwG F S0 i) (F i)=_;rw[<-HY.out];exact if_pos hmem
      obtain⟨cv,c9⟩:∃cv,w6.cell? ⟨gR,i,none⟩=some (.int .i64 cv):=⟨_,b.out.r.at' d.out i (by rw[<-d.out];exact hlti)⟩;have f9:=b.out.r.fz d.out i;have p9:=b.out.set c.out (j:=i) (x:=(((rwG F S0 i).idxOf y:Nat):Int)) d.out;rw[a6.out]at p9
      have am:=p.out.step (W':=w6.setCell ⟨gR,i,none⟩ (.int .i64 (((rwG F S0 i).idxOf y:Nat):Int))) (vS':=.slice aS (rwG F S0 i).length aq) (vT':=u11) (vR':=.slice (some ⟨gR,0,none⟩) n n) (Af.set _ _ _ (.inr (.inr (.inr rfl)))) fun _ _ e=>e
      have a8:=Ab p9;have bc:=Ab am;have bb:=Ab ah;clear p9 am ah hmem b p;generalize(rwG F S0 i).idxOf y=ix at*;go_wp2
      go_roundg (n-(i+1))
      case measure=>have:=bp.out;omega
      case rel=>exact⟨i+1,rfl,by go_num,by omega,by rw[bb.out];exact a8,bc⟩
     ·obtain⟨cq,a3⟩:=(b.out.m.get bd.out).2 hmem;have ce:(Instr.lookup 136 (.map (some zm)) (.agg #[.int .i64 ((y.1:Nat):Int),.int .i64 ((y.2:Nat):Int)]) true).run Tryz.prog w6=.ok (.tuple #[.int .i64 cq,.bool false]) w6:=a3;obtain⟨w7,al,cf,ak⟩:=b.out.m.upd bd.out hmem (by omega);have s:(Instr.mapUpdate 136 (.map (some zm)) (.agg #[.int .i64 ((y.1:Nat):Int),.int .i64 ((y.2:Nat):Int)]) (.int .i64 ((rwG F S0 i).length:Int))).run Tryz.prog w6=.ok () w7:=al
      have ah:rwG F S0 (i+1)=rwG F S0 i++[y]:=by
       show Il (rwG F S0 i) (F i)=_;rw[<-HY.out];exact if_neg hmem
      have cb:(rwG F S0 i).idxOf y=(rwG F S0 i).length:=Lz hmem;rw[cb]at a6;have bn:w7.heap[zs]? =some (.cells #[.int .i64 ((y.1:Nat):Int),.int .i64 ((y.2:Nat):Int)] 80 (0,0)):=(ak.block _ (ltE aw) (fun e=>db (Option.some.inj e).symm)).trans aw;have dm:=Aa 0 bn;have dn:=Aa 1 bn
      have co:Af (fun q=>q=zm) w6 w7:=(Af.of_grown ak).mono fun q _ e=>(Option.some.inj e).symm
      have ay:OQ w7 w.heap.size (.slice aS (rwG F S0 i).length aq) (rwG F S0 i):=b.out.o.only co fun q e k=>b.out.a1 (k▸e)
      have bu:=Ab ay;have b1:w.heap.size<=w7.heap.size:=Nat.le_trans b0 ak.size;have bb:=Ab ah;have bs:=Ab cf;have a5:=Ab ak;clear cb ah hmem a3 al cf ak co ay bn;generalize hlr:(rwG F S0 i).length=lr at*;have br:=Ab hlr;clear hlr
      go_upto_region 19 with(at_builtin;refine Ti rfl _ _ y rfl w.heap.size (.slice aS lr aq) (rwG F S0 i) bu.out rfl _ (by simp) rfl (by rw[br.out];omega) b1 ?_;intro v' w8 af ac ad;obtain⟨aX,cX,cl⟩:=af.slice;rw[List.length_append,List.length_singleton,br.out]at cl;subst cl;have aa:=Ab (b.out.num c.out bs.out a5.out Ad af ac ad rfl);have a7:=Ab (b.out.numO a5.out ac ad);clear af ac ad)
      obtain⟨cv,c9⟩:∃cv,w8.cell? ⟨gR,i,none⟩=some (.int .i64 cv):=⟨_,aa.out.r.at' d.out i (by rw[<-d.out];exact hlti)⟩;have f9:=aa.out.r.fz d.out i;have p9:=aa.out.set c.out (j:=i) (x:=(lr:Int)) d.out;rw[a6.out,<-bb.out]at p9;have cj:=p.out.step a7.out.1 a7.out.2
      have am:=cj.step (W':=w8.setCell ⟨gR,i,none⟩ (.int .i64 (lr:Int))) (vS':=.slice aX (lr+1) cX) (vT':=u11) (vR':=.slice (some ⟨gR,0,none⟩) n n) (Af.set _ _ _ (.inr (.inr (.inr rfl)))) fun _ _ e=>e
      have a8:=Ab p9;have bc:=Ab am;clear p9 cj am aa a7 b p bs a5 ce s;go_wp2
      go_roundg (n-(i+1))
      case measure=>have:=bp.out;omega
      case rel=>exact⟨i+1,rfl,by go_num,by omega,a8,bc⟩
    ·have c4:¬(i:Int)<(n:Int):=by omega
     have HE:Hid (SQ w.heap.size zm J (k+1) (UH nx s0 (0,0) n (k+1)) (UG nx s0 (0,0) n k) (Gu F S0 n) u9 u11 (.slice (some ⟨gR,0,none⟩) n n) vals H' wr):=by
      have h1:=HI.out;rw[show i=n by omega,NW,<-ba.out]at h1;exact h1
     have di:(UH nx s0 (0,0) n (k+1)).length<=K:=by rw[ba.out];exact an.out n leR
     obtain⟨aS,aq,rfl⟩:=HE.out.o.slice
     have tM:¬u<((UH nx s0 (0,0) n (k+1)).length:Int):=by omega
     obtain⟨aT,cT,ck⟩:=AG HE.out.t;rw[Ez]at ck;subst ck;have c3:w.heap.size<=wr.heap.size:=Nat.le_trans HE.out.z (Nat.le_of_lt HE.out.m.lt)
     have cw:Hid ((Gu F S0 n).length=n):=by show _=_;simp[Gu]
     have cu:Hid (∀x∈Gu F S0 n,I64 x):=fun x hx=>by
      obtain⟨j,hj,rfl⟩:=List.mem_map.1 hx;have h1:=List.idxOf_le_length (a:=F j) (l:=rwG F S0 j);have h2:=an.out j (Nat.le_of_lt (List.mem_range.1 hj));unfold I64;omega
     clear HI HU;generalize hlr:(UH nx s0 (0,0) n (k+1)).length=lr at*;clear hlr
     go_wp2_with (at_builtin;refine EM rfl _ _ (.slice (some ⟨gR,0,none⟩) n n) rfl w.heap.size (.slice aT k cT) k vals (by have:=HE.out.t;rwa [Ez]at this) rfl _ (by simp) rfl rfl (by omega) c3 ?_;intro v' w8 af ac ad;have aa:=Ab (HE.out.app c.out (by rw[cw.out];omega) cu.out Ad (by rw[Ez];exact af) ac ad);clear af ac ad)
     go_roundg (K-(k+1))
     case measure=>have:=cr.out;omega
     case rel=>exact⟨k+1,_,H',rfl,by go_num,hlt,by rw[cs.out];exact aa⟩
  ·have cd:=ao.out.1
   obtain rfl:K=k:=by omega
   obtain⟨aS,cS,rfl⟩:=HQ.out.o.slice
   have bi:¬(K:Int)<((UH nx s0 (0,0) n K).length:Int):=by omega
   have cp:Hid (Gi w.heap.size (J K) (UG nx s0 (0,0) n K) (.returned (.tuple #[.slice aS (UH nx s0 (0,0) n K).length cS,u11,.bool true])) wr):=⟨_,_,H,rfl,HQ.out.j,Nat.le_trans HQ.out.z (Nat.le_of_lt HQ.out.m.lt),HQ.out.is (by rw[Ez];omega)⟩;clear cd HQ;go_wp2;refine bodyPost_ret (v:=.tuple #[.slice aS (UH nx s0 (0,0) n K).length cS,u11,.bool true]) (by simp[results,Tryz.results50,go_sem]) rfl ?_;exact cp.out
theorem QF{p:Nat->Prop}(h:∃k,p k):∃k,p k/\∀j,j<k->¬p j:=by
 obtain⟨k,hk⟩:=h
 induction k using Nat.strongRecOn with
 | _ k ih=>
  by_cases h:∃j,j<k/\p j
  ·obtain⟨j,hj,hp⟩:=h;exact ih j hj hp
  ·exact⟨k,hk,fun j hj hp=>h ⟨j,hj,hp⟩⟩
theorem QA{a b:My}{n N:Nat}(c:∀k,(∀j,j<k->j<(bfS a b n j).length)->(bfS a b n k).length<=N):∃K,EF a b n K/\K<=N:=by
 have e:∃k,¬k<(bfS a b n k).length:=by
  refine Classical.byContradiction fun h=> ?_
  have h1:∀k,k<(bfS a b n k).length:=fun k=>Classical.byContradiction fun h2=>h ⟨k,h2⟩
  have h2:=c (N+1) fun j _=>h1 j
  have h3:=h1 (N+1);omega
 obtain⟨K,h1,d⟩:=QF e
 have h2:∀j,j<K->j<(bfS a b n j).length:=fun j hj=>Classical.not_not.1 (d j hj)
 have h3:=c K h2
 have hl:K<=(bfS a b n K).length:=by
  rcases Nat.eq_zero_or_pos K with h0|h0
  ·omega
  ·have h4:=h2 (K-1) (by omega);have h5:=(Nw (a:=a) (b:=b) (n:=n) (i:=K-1) (j:=K) (by omega)).length_le;omega
 exact⟨K,⟨by omega,h2⟩,by omega⟩
theorem BK.is{w0 W:World}{pr k:Nat}{ci co:Int}{a:Nat->List Int}{H:Nat->Prop}{v3:Value}{n3:List Value}(h:BK w0 pr ci co a k v3 n3 H W)(hk:k<=100000)(hl:∀j,j<k->(a j).length<=100000/\∀x∈a j,I64 x):
  ∀W9,Af (fun q=>q=pr\/q<w0.heap.size) W W9->Ar W9 v3 ((List.range k).map a):=fun W9 ho=>by
 have d:=h.pz
 have h1:=Ax h.own ho fun q e k=>by have:=(World.ownsRow.lt h.own q e).1;omega
 have c:((List.range k).map a).length=k:=by simp
 refine⟨fun j=>n3.getD j undef, ?_,fun j hj=> ?_⟩
 ·rw[c]
  refine Ct h1 (by unfold Bg;omega) _ fun j hj=> ?_
  have:j<n3.length:=by rw[h.ln];exact hj
  rw[Ae _ _ _ this];simp[this]
 ·have b:j<k:=by rw[c]at hj;exact hj
  have hm:n3.getD j undef∈n3:=by
   have:j<n3.length:=by rw[h.ln];exact b
   rw[Ae _ _ _ this];exact List.getElem_mem _
  have e:((List.range k).map a).getD j []=a j:=by rw[Ae _ _ _ hj];simp
  rw[e];exact((h.row j b).only ho fun q e k=>by have:=(h.mem_lt hm e).1;omega).is (by have:=(hl j b).1;unfold Bg;omega) (hl j b).2
theorem Pm(w:World)(vl va vb vo:Value)(l:List Sig)(a b:My)(own:List Bool)(hK:B7 w)(hl:AD w vl l)(ha:BB w va a)(hb:BB w vb b)(ho:Bf w vo own)(bw:a.out.length<=50)(bx:b.out.length<=50):
  Calls Tryz.prog 14 #[vl,va,vb,vo] w (H8 (DN l a b own).1 (DN l a b own).2 w):=by
 have c8:Tryz.prog.follows .mixedOrders=true:=by kernel_rfl
 have bg:Hid (∀W,Below w.heap.size w W->Calls Tryz.prog 47 #[vl,va] W (Av (.bool (BH l a)) W)):=fun W h=>KA W _ _ l a (hK.below h) (hl.below h) (ha.below h)
 have bh:Hid (∀W,Below w.heap.size w W->Calls Tryz.prog 47 #[vl,vb] W (Av (.bool (BH l b)) W)):=fun W h=>KA W _ _ l b (hK.below h) (hl.below h) (hb.below h)
 have bj:Hid (own.length=l.length->As l=true->∀W,Below w.heap.size w W->Calls Tryz.prog 48 #[vl,vo] W (EZ (Fj l own) W)):=fun h1 h2 W h=>Sh W _ _ l own (hK.below h) (hl.below h) (ho.below h) h1 h2
 obtain⟨v3,v4,rfl,⟨-,-,co⟩,i3,i4⟩:=ha;obtain⟨v5,v6,rfl,⟨-,-,cp⟩,j3,j4⟩:=hb
 have cb:Hid (∀W,Below w.heap.size w W->Ar W v3 a.out):=fun W h=>i3.below h
 have cc:Hid (∀W,Below w.heap.size w W->Ar W v4 a.next):=fun W h=>i4.below h
 have cf:Hid (∀W,Below w.heap.size w W->Ar W v5 b.out):=fun W h=>j3.below h
 have cg:Hid (∀W,Below w.heap.size w W->Ar W v6 b.next):=fun W h=>j4.below h
 obtain⟨a3,c3,rfl⟩:=i3.shape;obtain⟨a4,c4,rfl⟩:=i4.shape;obtain⟨a5,c5,rfl⟩:=j3.shape;obtain⟨a6,c6,rfl⟩:=j4.shape;obtain⟨sa,sc,rfl⟩:=hl.shape;obtain⟨oa,oc,rfl⟩:=ho.shape;clear hl ho hK i3 i4 j3 j4
 go_enter Tryz.func14,Tryz.ntmps14
 go_upto_region 1 with(fail)
 obtain⟨o,-,z⟩:=Aw (w0:=w) Ad leR #[.int .i64 a.ins,.int .i64 a.outs,.int .i64 a.start,.slice a3 a.out.length c3,.slice a4 a.next.length c4] 25
 have be:(w.alloc (.cells #[.int .i64 a.ins,.int .i64 a.outs,.int .i64 a.start,.slice a3 a.out.length c3,.slice a4 a.next.length c4] 25)).heap.size=w.heap.size+1:=by simp
 generalize w.alloc (.cells #[.int .i64 a.ins,.int .i64 a.outs,.int .i64 a.start,.slice a3 a.out.length c3,.slice a4 a.next.length c4] 25)=w1 at*;obtain⟨s,-,bq⟩:=Aw (w0:=w) z (by omega) #[.int .i64 b.ins,.int .i64 b.outs,.int .i64 b.start,.slice a5 b.out.length c5,.slice a6 b.next.length c6] 25
 have aq:(w1.alloc (.cells #[.int .i64 b.ins,.int .i64 b.outs,.int .i64 b.start,.slice a5 b.out.length c5,.slice a6 b.next.length c6] 25)).heap.size=w.heap.size+1+1:=by simp[be]
 have az:=(Dm w1 (.cells #[.int .i64 b.ins,.int .i64 b.outs,.int .i64 b.start,.slice a5 b.out.length c5,.slice a6 b.next.length c6] 25) (r:=w.heap.size) (by omega)).trans o;generalize w1.alloc (.cells #[.int .i64 b.ins,.int .i64 b.outs,.int .i64 b.start,.slice a5 b.out.length c5,.slice a6 b.next.length c6] 25)=w2 at*;obtain⟨f,-,p⟩:=Aw (w0:=w) bq (by omega) #[.int .i64 0,.int .i64 0,.int .i64 0,.slice none 0 0,.slice none 0 0] 25
 have ct:(w2.alloc (.cells #[.int .i64 0,.int .i64 0,.int .i64 0,.slice none 0 0,.slice none 0 0] 25)).heap.size=w.heap.size+1+1+1:=by simp[aq]
 have o:=(Dm w2 (.cells #[.int .i64 0,.int .i64 0,.int .i64 0,.slice none 0 0,.slice none 0 0] 25) (r:=w.heap.size) (by omega)).trans az;have s:=(Dm w2 (.cells #[.int .i64 0,.int .i64 0,.int .i64 0,.slice none 0 0,.slice none 0 0] 25) (r:=w1.heap.size) (by omega)).trans s;generalize w2.alloc (.cells #[.int .i64 0,.int .i64 0,.int .i64 0,.slice none 0 0,.slice none 0 0] 25)=w3 at*;clear az z bq;rw[be]at s;rw[aq]at f;have k0:=Aa 0 o;have k1:=Aa 1 o;have k2:=Aa 2 o;have k3:=Aa 3 o;have k4:=Aa 4 o
 go_wp2_with fail
 refine(bg.out _ p).mono ?_;rintro e w4 ⟨rfl,hb⟩;replace o:=(hb.block _ (by omega)).trans o;replace s:=(hb.block _ (by omega)).trans s;replace f:=(hb.block _ (by omega)).trans f;replace p:=p.trans (hb.mono p.size)
 have cs:w.heap.size+1+1+1<=w4.heap.size:=by have:=hb.size;omega
 clear hb ct k0 k1 k2 k3 k4 be aq;have q0:=Aa 0 f;have q1:=Aa 1 f;have q2:=Aa 2 f;have q3:=Aa 3 f;have q4:=Aa 4 f;have f0:=At 0 f;have f1:=At 1 f;have f2:=At 2 f;have f3:=At 3 f;have f4:=At 4 f;have u0:=Aa 0 s;have u1:=Aa 1 s;have u2:=Aa 2 s;have u3:=Aa 3 s;have u4:=Aa 4 s
 cases hfa:BH l a with
 |false=>
  have HE:Hid (DN l a b own=(Fh,1)):=if_neg (by rw[hfa];simp);go_wp2;rw[HE.out];have i:=C4 (a:=.int .i64 0) (b:=.int .i64 0) (c:=.int .i64 0) (d:=.slice none 0 0) (e:=.slice none 0 0) f;have ab:=Aa 0 i;have ac:=Aa 1 i;have ad:=Aa 2 i;have ae:=Aa 3 i;have af:=Aa 4 i;refine bodyPost_ret (v:=.tuple #[.agg #[.int .i64 0,.int .i64 0,.int .i64 0,.slice none 0 0,.slice none 0 0],.int .i64 1]) (by simp[results,Tryz.results14,go_sem,ab,ac,ad,ae,af]) rfl ?_;exact D3 p (by omega) (fun W' _=>Et W')
 |true=>
 go_wp2_with fail
 refine(bh.out _ p).mono ?_;rintro e w5 ⟨rfl,hb⟩;replace o:=(hb.block _ (by omega)).trans o;replace s:=(hb.block _ (by omega)).trans s;replace f:=(hb.block _ (by omega)).trans f;replace p:=p.trans (hb.mono p.size)
 replace cs:w.heap.size+1+1+1<=w5.heap.size:=by have:=hb.size;omega
 clear hb q0 q1 q2 q3 q4 f0 f1 f2 f3 f4 u0 u1 u2 u3 u4;have q0:=Aa 0 f;have q1:=Aa 1 f;have q2:=Aa 2 f;have q3:=Aa 3 f;have q4:=Aa 4 f;have f0:=At 0 f;have f1:=At 1 f;have f2:=At 2 f;have f3:=At 3 f;have f4:=At 4 f
 cases hfb:BH l b with
 |false=>
  have HE:Hid (DN l a b own=(Fh,1)):=if_neg (by rw[hfb];simp);go_wp2;rw[HE.out];have i:=C4 (a:=.int .i64 0) (b:=.int .i64 0) (c:=.int .i64 0) (d:=.slice none 0 0) (e:=.slice none 0 0) f;have ab:=Aa 0 i;have ac:=Aa 1 i;have ad:=Aa 2 i;have ae:=Aa 3 i;have af:=Aa 4 i;refine bodyPost_ret (v:=.tuple #[.agg #[.int .i64 0,.int .i64 0,.int .i64 0,.slice none 0 0,.slice none 0 0],.int .i64 1]) (by simp[results,Tryz.results14,go_sem,ab,ac,ad,ae,af]) rfl ?_;exact D3 p (by omega) (fun W' _=>Et W')
 |true=>
 by_cases hol:own.length=l.length
 case neg=>
  have HE:Hid (DN l a b own=(Fh,1)):=if_neg (fun h=>hol h.2.2)
  have tA:((own.length:Int) !=(l.length:Int))=true:=by simp;omega
  go_wp2;rw[HE.out];have i:=C4 (a:=.int .i64 0) (b:=.int .i64 0) (c:=.int .i64 0) (d:=.slice none 0 0) (e:=.slice none 0 0) f;have ab:=Aa 0 i;have ac:=Aa 1 i;have ad:=Aa 2 i;have ae:=Aa 3 i;have af:=Aa 4 i;refine bodyPost_ret (v:=.tuple #[.agg #[.int .i64 0,.int .i64 0,.int .i64 0,.slice none 0 0,.slice none 0 0],.int .i64 1]) (by simp[results,Tryz.results14,go_sem,ab,ac,ad,ae,af]) rfl ?_;exact D3 p (by omega) (fun W' _=>Et W')
 have HE:Hid (DN l a b own=(IQ l own a b,0)):=if_pos ⟨hfa,hfb,hol⟩
 have tA:((own.length:Int) !=(l.length:Int))=false:=by simp[hol]
 obtain⟨bd,aa,bz,b1⟩:=BT.1 hfa;obtain⟨-,ap,b0,b2⟩:=BT.1 hfb;have ch:=Ab aa;have ci:=Ab ap;have aw:=Ab (bj.out hol bd);have a8:b.ins=a.ins:=b0.trans bz.symm;have b7:=Ab a8;have bk:=Ab b1;have cj:=Ab b2;have bm:=Ab bd;have c9:=aa.i1;have da:=aa.i2;have dc:=aa.o2;have db:=aa.o1;have cx:=aa.s0;have cy:=aa.s1;have cz:=ap.s0;have c0:=ap.s1;obtain⟨n,hn⟩:∃n:Nat,a.ins=(n:Int):=⟨a.ins.toNat,by omega⟩
 have ba:a.ins.toNat=n:=by omega
 have HN:=Ab hn
 have cv:n<=64:=by omega
 have ca:Hid (∀K,EF a b n K->IQ l own a b=⟨(n:Int),a.outs,0,CW l own a b n K,bfN a b n K⟩):=fun K h=>by
  rw[IR (by rw[ba];exact h)];unfold Nx;rw[ba,hn];rfl
 have a0:Hid (∀k,(∀j,j<k->j<(bfS a b n j).length)->∀x∈bfS a b n k,okP a b x):=MC aa ap a8 (by omega)
 have bi:∀k,(∀j,j<k->j<(bfS a b n j).length)->(bfS a b n k).length<=2500:=fun k h=>by
  have:=JZ (MA k) (a0.out k h);have h2:a.out.length*b.out.length<=50*50:=Nat.mul_le_mul bw bx;omega
 obtain⟨K,ay,cu⟩:=QA bi;have an:=Ab ay
 have ck:Hid (prV (a.start.toNat,b.start.toNat)=.agg #[.int .i64 a.start,.int .i64 b.start]):=by
  show Value.agg #[.int .i64 ((a.start.toNat:Nat):Int),.int .i64 ((b.start.toNat:Nat):Int)]=_;rw[show((a.start.toNat:Nat):Int)=a.start by omega,show((b.start.toNat:Nat):Int)=b.start by omega]
 rw[hn]at o;have k0:=Aa 0 o;have k1:=Aa 1 o
 have au:Hid (∀W,Below w5.heap.size w5 W->W.heap[w.heap.size]? =some (.cells #[.int .i64 (n:Int),.int .i64 a.outs,.int .i64 a.start,.slice a3 a.out.length c3,.slice a4 a.next.length c4] 25 (0,0))):=fun W h=>(h.block _ (by omega)).trans o
 have bn:Hid (∀W,Below w5.heap.size w5 W->W.heap[w.heap.size+1]? =some (.cells #[.int .i64 b.ins,.int .i64 b.outs,.int .i64 b.start,.slice a5 b.out.length c5,.slice a6 b.next.length c6] 25 (0,0))):=fun W h=>(h.block _ (by omega)).trans s
 have cn:Hid (∀W,Below w5.heap.size w5 W->W.heap[w.heap.size+1+1]? =some (.cells #[.int .i64 0,.int .i64 0,.int .i64 0,.slice none 0 0,.slice none 0 0] 25 (0,0))):=fun W h=>(h.block _ (by omega)).trans f
 have ak:Hid (∀W,Below w5.heap.size w5 W->Below w.heap.size w W):=fun W h=>p.trans (h.mono p.size)
 have ax:=Ab (aw.out _ p);clear o s f p hfa hfb hol bd aa ap bz b1 b0 b2 bg bh bj aw q0 q1 q2 q3 q4 f0 f1 f2 f3 f4 hn ba a8 ay bi co cp k0 k1
 go_wp2_with fail
 refine ax.out.mono ?_;rintro e w6 ⟨vm,rfl,a9,ag⟩;have cd:=Ab a9;have aj:=Ab ag;have k0:=Aa 0 (au.out _ ag);have k1:=Aa 1 (au.out _ ag);have k2:=Aa 2 (au.out _ ag);have u2:=Aa 2 (bn.out _ ag)
 have aq:w.heap.size+1+1+1<=w6.heap.size:=by have:=ag.size;omega
 obtain⟨am,cm,rfl⟩:=a9.shape;clear a9 ax
 go_upto_region 4 with(fail)
 obtain⟨b5,al,-⟩:=Aw (w0:=w6) (B:=w6.heap.size) Ad leR #[.slice am (Fj l own).length cm] 23
 have bc:(w6.alloc (.cells #[.slice am (Fj l own).length cm] 23)).heap.size=w6.heap.size+1:=by simp
 generalize w6.alloc (.cells #[.slice am (Fj l own).length cm] 23)=w8 at*;replace k0:=Ag al k0;replace k1:=Ag al k1
 go_upto_region 5 with(fail)
 obtain⟨b6,ao,-⟩:=Aw (w0:=w8) (B:=w8.heap.size) Ad leR #[.int .i64 (n:Int),.int .i64 a.outs,.int .i64 0,.slice none 0 0,.slice none 0 0] 25
 have b4:(w8.alloc (.cells #[.int .i64 (n:Int),.int .i64 a.outs,.int .i64 0,.slice none 0 0,.slice none 0 0] 25)).heap.size=w8.heap.size+1:=by simp
 generalize w8.alloc (.cells #[.int .i64 (n:Int),.int .i64 a.outs,.int .i64 0,.slice none 0 0,.slice none 0 0] 25)=w9 at*;replace k2:=Ag ao (Ag al k2);replace u2:=Ag ao (Ag al u2);clear k0 k1 ag;have av:Hid (Below w6.heap.size w6 w9):=al.trans (ao.mono (by omega));have bp:Hid (w9.heap[w6.heap.size]? =some (.cells #[.slice am (Fj l own).length cm] 23 (0,0))):=(ao.block _ (by omega)).trans b5;have a2:=Ab b6;clear b5 al b6 ao;obtain⟨pm,bb⟩:∃pm,pm=w6.heap.size:=⟨_,rfl⟩;rw[<-bb]at aq bc bp⊢;rw[bc]at b4 a2;obtain⟨pr,b3⟩:∃pr,pr=pm+1:=⟨_,rfl⟩;rw[<-b3]at b4 a2⊢
 have cw:pm<pr:=by omega
 have ar:=Ab bb;clear bb b3 bc
 have bl:Hid (∀W,Af (fun q=>w9.heap.size<=q\/q=pr) w9 W->BR W w.heap.size pm (w.heap.size+1) l own a b):=fun W ho=>by
  have br:Below w6.heap.size w6 W:=av.out.trans (ho.below _ (fun q e=>by have:=ar.out;omega) (by have:=ar.out;omega));have z:Below w5.heap.size w5 W:=aj.out.trans (br.mono aj.out.size);refine⟨⟨_,_,by rw[HN.out];exact au.out W z,cb.out W (ak.out W z),cc.out W (ak.out W z)⟩,⟨_,(ho.block pm (by omega) (by omega)).trans bp.out,cd.out.below br⟩,⟨_,_,bn.out W z,cf.out W (ak.out W z),cg.out W (ak.out W z)⟩⟩
 have bs:=an.out.g
 have bu:GI w9.heap.size 49 #[.pointer (some ⟨w.heap.size,0,none⟩),.pointer (some ⟨pm,0,none⟩),.pointer (some ⟨w.heap.size+1,0,none⟩),.pointer (some ⟨pr,0,none⟩)] n K (gP (nxP a b) (a.start.toNat,b.start.toNat) (0,0) n) (nxP a b) (BJ w9 pr (n:Int) a.outs fun k=>Hq l own a b n (bfP a b n k)):=by
  refine⟨fun k H W ⟨v3,n3,h⟩=>h.lt,fun k H W W' ⟨v3,n3,h⟩ ho=>⟨v3,n3,h.keep ho⟩,fun k H W hj hBW hk=> ?_⟩
  have ho:Af (fun q=>w9.heap.size<=q\/q=pr) w9 W:=by obtain⟨v3,n3,h⟩:=hj;exact h.on
  have cq:k<(bfS a b n k).length:=an.out.2 k hk
  have hp:okP a b (bfP a b n k):=by
   show okP a b ((bfS a b n k).getD k (0,0));rw[Ae _ _ _ cq];exact a0.out k (fun j hj=>an.out.2 j (by omega)) _ (List.getElem_mem _)
  have h1:=Ri W w9 w.heap.size pm (w.heap.size+1) pr l own a b n (bfP a b n k) k (fun k=>Hq l own a b n (bfP a b n k)) H (bl.out W ho) hj ch.out ci.out b7.out HN.out bk.out cj.out hp rfl (by omega) bm.out;rw[<-PZ];exact h1
 have bv:∀k,k<=K->∀x∈UH (nxP a b) (a.start.toNat,b.start.toNat) (0,0) n k,WfQ x:=fun k hk x hx=>by
  rw[<-IP]at hx;have h1:=a0.out k (fun j hj=>an.out.2 j (by omega)) x hx;exact⟨by have:=h1.1;omega,by have:=h1.2;omega⟩
 have cl:Hid (Calls Tryz.prog 50 #[.agg #[.int .i64 a.start,.int .i64 b.start],.int .i64 3000,.func (.func 49) #[] #[.pointer (some ⟨w.heap.size,0,none⟩),.pointer (some ⟨pm,0,none⟩),.pointer (some ⟨w.heap.size+1,0,none⟩),.pointer (some ⟨pr,0,none⟩)]] w9 (Gi w9.heap.size (BJ w9 pr (n:Int) a.outs (fun k=>Hq l own a b n (bfP a b n k)) K) (bfN a b n K))):=by
  have h1:=Pb w9 49 _ (enters_of Tryz.func49 (by kernel_rfl) rfl) (nxP a b) (a.start.toNat,b.start.toNat) n K 3000 _ _ bu bs (by omega) (by omega) (by omega) bv (BK.start a2.out);rw[ck.out,<-Tl]at h1;exact h1
 clear bs bu bv bl
 go_wp2_with fail
 refine cl.out.mono ?_;rintro e ai ⟨vS,vT,H,rfl,⟨v3,n3,u⟩,c2,hT⟩;have bf:=Ab u;have HT:=Ab hT;have z0:=Aa 0 u.box;have z1:=Aa 1 u.box;have z2:=Aa 2 u.box;have z3:=Aa 3 u.box;have z4:=Aa 4 u.box;have zf:=At 4 u.box;obtain⟨aT,cT,cr⟩:=(hT ai (Af.refl _ _)).shape;obtain⟨a7,c7,e7⟩:=AG u.own;subst cr e7;have ah:=heap_setCell_same _ _ 4 _ _ (.slice aT (bfN a b n K).length cT) u.box;have c1:=Ab ah;have a1:Hid (Below w5.heap.size w5 ai):=(aj.out.trans (av.out.mono aj.out.size)).trans (u.on.below _ (fun q e=>by have:=aj.out.size;have:=ar.out;omega) (by have:=aj.out.size;have:=ar.out;omega));have f:=cn.out _ a1.out;have dd:=u.pz;have m:(ai.setCell ⟨pr,4,none⟩ (.slice aT (bfN a b n K).length cT)).heap[w.heap.size+1+1]? =some (.cells #[.int .i64 0,.int .i64 0,.int .i64 0,.slice none 0 0,.slice none 0 0] 25 (0,0)):=(heap_setCell_other _ _ _ _ (by simp;omega)).trans f;have bo:=Ab m;have b8:Hid (Below w.heap.size w (ai.setCell ⟨pr,4,none⟩ (.slice aT (bfN a b n K).length cT))):=(ak.out _ a1.out).trans ((Af.set (S:=fun q=>q=pr) pr 4 _ rfl).below _ (fun q e=>by omega) (by have:=(ak.out _ a1.out).size;omega))
 have ce:Hid (∀W',Af (fun q=>q=w.heap.size+1+1) (ai.setCell ⟨pr,4,none⟩ (.slice aT (bfN a b n K).length cT)) W'->BB W' (.agg #[.int .i64 (n:Int),.int .i64 a.outs,.int .i64 0,.slice a7 K c7,.slice aT (bfN a b n K).length cT]) ⟨(n:Int),a.outs,0,CW l own a b n K,bfN a b n K⟩):=fun W' hW=>by
  have h1:Af (fun q=>q=pr\/q<w9.heap.size) ai W':=((Af.set (S:=fun q=>q=pr\/q<w9.heap.size) pr 4 (.slice aT (bfN a b n K).length cT) (.inl rfl))).trans (hW.mono fun q _ e=>.inr (by omega));refine⟨_,_,rfl,⟨by show I64 (n:Int);unfold I64;omega,by show I64 a.outs;unfold I64;omega,by show I64 0;unfold I64;omega⟩, ?_,HT.out W' (h1.mono fun q _ e=> ?_)⟩
  ·refine bf.out.is (by omega) (fun j _=>⟨by show(Hq l own a b n (bfP a b n j)).length<=100000;simp[Hq];omega,fun x hx=> ?_⟩) W' h1;obtain⟨y,-,rfl⟩:=List.mem_map.1 hx;have:=MU bm.out own (Bt a (bfP a b n j).1 y) (Bt b (bfP a b n j).2 y);have h2:=bk.out;unfold I64;omega
  ·rcases e with e|e
   ·exact .inr ((bf.out.hH q).2 (.inl e))
   ·exact .inl e
 have q0:=Aa 0 m;have q1:=Aa 1 m;have q2:=Aa 2 m;have q3:=Aa 3 m;have q4:=Aa 4 m;have f0:=At 0 m;have f1:=At 1 m;have f2:=At 2 m;have f3:=At 3 m;have f4:=At 4 m;have r0:=Aa 0 ah;have r1:=Aa 1 ah;have r2:=Aa 2 ah;have r3:=Aa 3 ah;have r4:=Aa 4 ah
 have b9:Hid (DN l a b own=(⟨(n:Int),a.outs,0,CW l own a b n K,bfN a b n K⟩,0)):=by show _=_;rw[HE.out,ca.out K an.out]
 clear u hT ah f m k2 u2;generalize(bfN a b n K).length=k4 at*
 go_upto_region 10 with(fail)
 clear z0 z1 z2 z3 z4 zf;generalize ai.setCell ⟨pr,4,none⟩ (.slice aT k4 cT)=de at*;go_wp2;have i:=C4 (a:=.int .i64 (n:Int)) (b:=.int .i64 a.outs) (c:=.int .i64 0) (d:=.slice a7 K c7) (e:=.slice aT k4 cT) bo.out;have ab:=Aa 0 i;have ac:=Aa 1 i;have ad:=Aa 2 i;have ae:=Aa 3 i;have af:=Aa 4 i;refine bodyPost_ret (v:=.tuple #[.agg #[.int .i64 (n:Int),.int .i64 a.outs,.int .i64 0,.slice a7 K c7,.slice aT k4 cT],.int .i64 0]) (by simp[results,Tryz.results14,go_sem,ab,ac,ad,ae,af]) rfl ?_;rw[b9.out];exact D3 b8.out (by omega) (fun W' h=>ce.out W' h)
def Ua(a:Au)(l:List Sig)(most:Int):Bool:= !As l|| !AC a||(a.letters !=Ay l)||decide (most<1)||decide (3000<most)
def Kx(a:Au)(l:List Sig)(most:Int):Gm×List UE×Int:=
 if Ua a l most then(⟨[],[],[]⟩,[],1)else match Gj a l most.toNat with|some pls=>(C0 (AZ a (Ap l)) (AU a) pls pls.length,pls,0)|none=>(⟨[],[],[]⟩,[],2)
def GPE(r:Gm×List UE×Int)(w:World)(e:Ending)(w':World):Prop:=∃vg vp,e=.returned (.tuple #[vg,vp,.int .i64 r.2.2])/\Cx w' vg r.1/\CA w' vp r.2.1/\Below w.heap.size w w'
theorem Ql(w:World):Cx w (.agg #[.slice none 0 0,.slice none 0 0,.slice none 0 0]) ⟨[],[],[]⟩:=⟨_,_,_,rfl,Fy w,Fy w,Q1 w⟩
theorem Mm(w:World)(vl va:Value)(l:List Sig)(a:Au)(m:Nat)(hK:B7 w)(hl:AD w vl l)(ha:Cw w va a)(h0:As l=true)(h1:AC a=true)(h2:(a.letters !=Ay l)=false)(h3:decide ((m:Int)<1)=false)(h4:decide (3000<(m:Int))=false):
  Calls Tryz.prog 37 #[vl,va,.int .i64 m] w (GPE (Kx a l m) w):=by
 have h5:=of_decide_eq_false h3
 refine(Pn w vl va l a m hK hl ha h0 h1 h2 h3 h4).mono fun e w' h=> ?_
 unfold Kx;rw[if_neg (by simp[Ua,h0,h1,h2,h3,h4]),Int.toNat_natCast];unfold GG at h
 split at h
 ·obtain⟨vg,vp,he,hg,hp,hb⟩:=h;rename_i c b;rw[b];exact⟨vg,vp,he,hg,hp,hb⟩
 ·rename_i b;rw[b];exact⟨_,_,h.1,Ql _,Og _,h.2⟩
end Go.Proofs.YtncjeamdkjcebaaGreatDoor
