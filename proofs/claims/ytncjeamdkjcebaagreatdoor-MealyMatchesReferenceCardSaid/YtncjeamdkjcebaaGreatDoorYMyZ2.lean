/- What mealy.search computes, for states that. -/
import Derived.Test.YtncjeamdkjcebaaGreatDoorYMyX1
set_option linter.all false
set_option maxHeartbeats 8000000
set_option maxRecDepth 100000
namespace Go.Proofs.YtncjeamdkjcebaaGreatDoor
open Go.RowKit
def GK(B:Nat)(J:(Nat->Prop)->World->Prop)(rows:List (List Int))(e:Ending)(W':World):Prop:=∃vS vT H,e=.returned (.tuple #[vS,vT,.bool true])/\J H W'/\B<=W'.heap.size/\∀W9,Af (fun q=>q<B\/H q) W' W9->Ar W9 vT rows
section
variable {B zm:Nat} {f:Nat} {lb:Array Value} {n K:Nat} {st:Nat->Int} {nx:Int->Nat->Int} {J:Nat->(Nat->Prop)->World->Prop} {k:Nat} {S:List Int} {tR:List (List Int)} {R:List Int} {vS vT vR v' vU vS' vT' vR':Value} {vals:List Value} {H:Nat->Prop} {W W' W3:World} {U:List Int}
theorem SZ.numO(_:SZ B zm J k S tR R vS vT vR vals H W)(hg:W.grownBy W' (some zm))(a:W'.grownBy W3 vS.ownBlock)(b:AS W' vS v'):Af (Bv zm vS vT vR) W W3/\∀q,q<W.heap.size->Bv zm v' vT vR q->Bv zm vS vT vR q:=by
 have o1:Af (Bv zm vS vT vR) W W':=(Af.of_grown hg).mono fun q _ e=>.inl (Option.some.inj e).symm
 have o3:Af (Bv zm vS vT vR) W' W3:=(Af.of_grown a).mono fun q _ e=>.inr (.inl e)
 refine⟨o1.trans o3, ?_⟩;rintro q hq (e|e|e|e)
 ·exact .inl e
 ·rcases b q e with k|k
  ·exact .inr (.inl k)
  ·have:=o1.size;omega
 ·exact .inr (.inr (.inl e))
 ·exact .inr (.inr (.inr e))
theorem SZ.is(h:SZ B zm J k S tR R vS vT vR vals H W)(hl:tR.length<=100000):∀W9,Af (fun q=>q<B\/H q) W W9->Ar W9 vT tR:=fun W9 ho=>by
 have h1:=Ax h.t ho fun q e k=>by
  rcases k with k|k
  ·have:=(World.ownsRow.lt h.t q e).1;omega
  ·exact h.h q k (.inr (.inr (.inl e)))
 exact(h.kr.move (S1:=fun _=>False) (ho.mono fun q _ e=>e.elim .inl fun k=>.inr (.inr k)) fun _ _ e=>e.elim).is h1 hl
structure UZ(B zm:Nat)(vS vT vR vU:Value)(U:List Int)(W:World):Prop where
 o:OI W B vU U
 d:∀q,vU.ownBlock=some q->¬Bv zm vS vT vR q
theorem UZ.step(h:UZ B zm vS vT vR vU U W)(ho:Af (Bv zm vS vT vR) W W')(hi:∀q,q<W.heap.size->Bv zm vS' vT' vR' q->Bv zm vS vT vR q):UZ B zm vS' vT' vR' vU U W':=
 ⟨h.o.only ho fun q e k=>h.d q e k,fun q e k=>h.d q e (hi q (h.o.lt' q e) k)⟩
theorem UZ.below(h:UZ B zm vS vT vR vU U W)(hb:Below W.heap.size W W'):UZ B zm vS vT vR vU U W':=h.step (Af.of_below hb) fun _ _ e=>e
end
theorem Kb(w:World)(f:Nat)(lb:Array Value)(HE:∀args W,(callFunc f args).run Tryz.prog W=.ok (.enter f args) W)(nx:Int->Nat->Int)(s0:Int)(n K:Nat)(ak:Int)(J:Nat->(Nat->Prop)->World->Prop)(H0:Nat->Prop)
  (hn:F3 w.heap.size f lb n K (gP nx s0 0 n) nx J) (ax:Kj nx s0 0 n K) (hK:K<=3000) (ct:(K:Int)<=ak) (db:n<=1000) (hw:∀k,k<=K->∀x∈UH nx s0 0 n k,I64 x) (hj:J 0 H0 w):
  Calls Tryz.prog 82 #[.int .i64 s0,.int .i64 ak,.func (.func f) #[] lb] w (GK w.heap.size (J K) (UG nx s0 0 n K)):=by
 have d:=Ab hn;have am:=Ab ax;have HW:=Ab hw;have cf:I64 s0:=hw 0 (Nat.zero_le _) s0 (by simp[UH]);have co:=Ab cf;have bk:=Ab hj;clear hn ax hw hj cf;have c3:=@run_makeMap Tryz.prog;obtain⟨B,hB⟩:∃B,B=w.heap.size:=⟨_,rfl⟩;have HB:=Ab hB
 go_enter Tryz.func82,Tryz.ntmps82
 go_upto_region 2 with(fail)
 have bz:OI (w.alloc (.cells #[.int .i64 s0] 3)) w.heap.size (.slice (some ⟨w.heap.size,0,none⟩) 1 1) [s0]:=Mt w s0;obtain⟨c1,b2,-⟩:=Aw (w0:=w) (B:=w.heap.size) Ad leR #[.int .i64 s0] 3
 have cw:(w.alloc (.cells #[.int .i64 s0] 3)).heap.size=w.heap.size+1:=by simp
 generalize w.alloc (.cells #[.int .i64 s0] 3)=w2 at*;have bw:=DA.made w2;have bb:Below w2.heap.size w2 (w2.alloc (.map #[] 0)):=Ao _
 have cx:(w2.alloc (.map #[] 0)).heap.size=w2.heap.size+1:=by simp
 obtain⟨w4,u,bx,bc⟩:=bw.upd co.out (by simp) (by simp);have bh:(Instr.mapUpdate 134 (.map (some w2.heap.size)) (.int .i64 s0) (.int .i64 0)).run Tryz.prog (w2.alloc (.map #[] 0))=.ok () w4:=u
 have b0:OI w4 w.heap.size (.slice (some ⟨w.heap.size,0,none⟩) 1 1) [s0]:=by
  refine((bz.base (by omega):OI w2 w.heap.size _ _).only (S:=fun _=>False) (Af.of_below bb) fun _ _ e=>e).only (Af.of_grown bc) fun q e k=> ?_
  have e:w.heap.size=q:=Option.some.inj e;have k:w2.heap.size=q:=Option.some.inj k;omega
 have aw:Below w.heap.size w w4:=(b2.trans (bb.mono (by omega))).grown bc (by omega) (fun q e=>by have e:w2.heap.size=q:=Option.some.inj e;omega)
 have b1:SZ w.heap.size w2.heap.size J 0 (UH nx s0 0 n 0) (UG nx s0 0 n 0) [] (.slice (some ⟨w.heap.size,0,none⟩) 1 1) (.slice none 0 0) (.slice none 0 0) [] H0 w4:=by
  refine⟨d.out.keep _ _ _ _ bk.out (Af.of_below aw),by omega,b0,bx,World.ownsRow_nil _ _ _ _,Br _ _,KR.nil _ _, ?_,(fun e=>by cases e),(fun e=>by cases e),BQ _,BQ _,ES _,fun q e k=> ?_⟩
  ·simp[Value.ownBlock];omega
  ·have:=d.out.lt _ _ _ bk.out q e
   rcases k with k|k|k|k
   ·omega
   ·have k:w.heap.size=q:=Option.some.inj k;omega
   ·cases k
   ·cases k
 have bq:=Ab b1;clear bz c1 bw bx bc u b0 aw b1 b2 bb cw cx
 go_upto_region 3 with(fail)
 clear bh;generalize w2.heap.size=zm at*;have cl:Hid ((UH nx s0 0 n 0).length=1):=rfl
 go_wp2_with fail
 go_loopg [9,11,12] K (fun gh sv tv kv wr=>∃(k:Nat)(vals:List Value)(H:Nat->Prop),gh=K-k/\kv=.int .i64 (k:Int)/\k<=K/\Hid (SZ w.heap.size zm J k (UH nx s0 0 n k) (UG nx s0 0 n k) [] sv tv (.slice none 0 0) vals H wr))
 case atStart=>exact⟨0,_,_,rfl,rfl,Nat.zero_le _,bq⟩
 case round=>
  clear bq cl;obtain⟨k,vals,H,b4,rfl,hk,HQ⟩:=hrel;have cj:=Ab b4;clear b4
  by_cases hlt:k<K
  ·have aq:=am.out.2 k hlt;obtain⟨g,cS,cy,-,-⟩:=HQ.out.o.row (by omega);subst cy;have bf:=GV (i:=0) am.out hlt (Nat.zero_le _);have s:=HQ.out.o.at' rfl k aq;have b5:(UH nx s0 0 n k)[k]=gP nx s0 0 n k:=(Ae _ _ _ aq).symm;rw[b5]at s;have c0:=s;clear s
   have c7:(0:Int)<=(k:Int):=by omega
   have be:(k:Int)<((UH nx s0 0 n k).length:Int):=by omega
   have br:w.heap.size<=wr.heap.size:=Nat.le_trans HQ.out.z (Nat.le_of_lt HQ.out.m.lt);have bi:=Ab (d.out.call k H wr HQ.out.j br hlt);clear b5
   go_wp2_with fail
   refine bi.out.mono ?_;rintro e w5 ⟨v,H',rfl,ar,cu,b7,bg,bv⟩;have a6:=Ab (HQ.out.asked b7 bg bv);obtain⟨aU,cU,ag⟩:=ar.slice;rw[show((List.range n).map (nx (gP nx s0 0 n k))).length=n by simp]at ag;have cb:=bg.size
   have an:Hid (UZ w.heap.size zm (.slice (some ⟨g,0,none⟩) (UH nx s0 0 n k).length cS) u11 (.slice none 0 0) v ((List.range n).map (nx (gP nx s0 0 n k))) w5):=⟨ar.base br,fun q e h=>by
    have h1:=ar.ge q e;have h2:=(HQ.out.hlt q h).2
    omega⟩
   subst ag
   have au:w.heap.size<=w5.heap.size:=by omega
   clear ar cu b7 bg bv bi c0;obtain⟨F,hF⟩:∃F,F=nx (gP nx s0 0 n k):=⟨_,rfl⟩;obtain⟨S0,ab⟩:∃S0,S0=UH nx s0 0 n k:=⟨_,rfl⟩
   have a7:Hid (UH nx s0 0 n (k+1)=rwG F S0 n):=by rw[hF,ab];rfl
   have ck:Hid (UG nx s0 0 n (k+1)=UG nx s0 0 n k++[Gu F S0 n]):=by rw[hF,ab];exact NH
   have al:Hid (∀i,i<=n->(rwG F S0 i).length<=K):=fun i hi=>by rw[hF,ab];exact GV am.out hlt hi
   have cp:Hid (∀i,i<=n->∀x∈rwG F S0 i,I64 x):=fun i hi x hx=>by
    have h1:=(IA (f:=F) (S:=S0) hi).subset hx;rw[<-a7.out]at h1;exact HW.out (k+1) hlt x h1
   rw[<-hF]at an;rw[<-ab]at a6 an;rw[<-ab]at be aq bf⊢;rw[<-hF]at bf;clear hF ab HQ bf
   go_upto_region 11 with(at_make;refine FA rfl _ _ _ Tryz.underlying26 rfl w.heap.size (n:Int) n rfl rfl rfl (by omega) au ?_;intro w6 a0 bd;have bo:=Ab (a6.out.row d.out a0 bd))
   have p:Hid (UZ w.heap.size zm (.slice (some ⟨g,0,none⟩) S0.length cS) u11 (.slice (some ⟨w5.heap.size,0,none⟩) n n) (.slice aU n cU) ((List.range n).map F) w6):=by
    refine an.out.step (Af.of_below (Ad.grown bd leR (fun k hk=>by cases hk))) ?_;rintro q hq (e|e|e|e)
    ·exact .inl e
    ·exact .inr (.inl e)
    ·exact .inr (.inr (.inl e))
    ·have e:w5.heap.size=q:=Option.some.inj e;omega
   clear a0 bd
   have bp:Hid (SZ w.heap.size zm J (k+1) (rwG F S0 0) (UG nx s0 0 n k) (nwG F S0 n 0) (.slice (some ⟨g,0,none⟩) S0.length cS) u11 (.slice (some ⟨w5.heap.size,0,none⟩) n n) vals H' w6):=by
    rw[LQ];exact bo.out
   clear a6 an bo au cb;generalize w5.heap.size=gR at*;have c4:=Ab (rfl:rwG F S0 0=S0);have ay:S0.length<=K:=al.out 0 (Nat.zero_le _);have c2:=Ab ay;clear be aq ay;generalize S0.length=ls at*
   go_wp2_with fail
   go_loopg [9,47] n (fun gh sv iv wx=>∃(i:Nat),gh=n-i/\iv=.int .i64 (i:Int)/\i<=n/\Hid (SZ w.heap.size zm J (k+1) (rwG F S0 i) (UG nx s0 0 n k) (nwG F S0 n i) sv u11 (.slice (some ⟨gR,0,none⟩) n n) vals H' wx)/\Hid (UZ w.heap.size zm sv u11 (.slice (some ⟨gR,0,none⟩) n n) (.slice aU n cU) ((List.range n).map F) wx))
   case atStart=>exact⟨0,rfl,rfl,by omega,bp,p⟩
   case round=>
    clear bp p;obtain⟨i,b3,rfl,hi,HI,HU⟩:=hrel;have bj:=Ab b3;clear b3
    by_cases hlti:i<n
    ·have c6:(0:Int)<=(i:Int):=by omega
     have cs:(i:Int)<(n:Int):=by omega
     have ae:((List.range n).map F).length=n:=by simp
     obtain⟨gU,c5,ag,-,-⟩:=HU.out.o.row (by rw[ae];omega);rw[ae]at ag;simp only[Value.slice.injEq]at ag;obtain⟨rfl,-,rfl⟩:=ag;have s:=HU.out.o.at' ae.symm i (by rw[ae];exact hlti);rw[show((List.range n).map F)[i]'(by rw[ae];exact hlti)=F i by simp]at s;have c0:=s;clear s;obtain⟨y,hy⟩:∃y,y=F i:=⟨_,rfl⟩;rw[<-hy]at c0
     have cg:I64 y:=by
      refine cp.out (i+1) hlti y ?_;rw[hy];show F i∈Il (rwG F S0 i) (F i);unfold Il
      split
      ·assumption
      ·simp
     have ba:=Ab cg;have HY:=Ab hy;clear ae cg hy;have b:=HI;have p:=HU;obtain⟨w6,cz⟩:∃w6,w6=wr:=⟨_,rfl⟩;subst cz;obtain⟨aS,ao,rfl⟩:=b.out.o.slice;have da:(rwG F S0 i).length<=K:=al.out i (Nat.le_of_lt hlti);have bs:w.heap.size<=w6.heap.size:=Nat.le_trans b.out.z (Nat.le_of_lt b.out.m.lt);have c:Hid (n=(nwG F S0 n i).length):=(NX (Nat.le_of_lt hlti)).symm
     have a3:Hid ((nwG F S0 n i).set i (((rwG F S0 i).idxOf y:Nat):Int)=nwG F S0 n (i+1)):=by rw[HY.out];exact NY hlti
     clear HI HU
     by_cases hmem:y∈rwG F S0 i
     ·have b9:(Instr.lookup 134 (.map (some zm)) (.int .i64 y) true).run Tryz.prog w6=.ok (.tuple #[.int .i64 (((rwG F S0 i).idxOf y:Nat):Int),.bool true]) w6:=(b.out.m.get ba.out).1 hmem
      have ah:rwG F S0 (i+1)=rwG F S0 i:=by
       show Il (rwG F S0 i) (F i)=_;rw[<-HY.out];exact if_pos hmem
      obtain⟨cv,c9⟩:∃cv,w6.cell? ⟨gR,i,none⟩=some (.int .i64 cv):=⟨_,b.out.r.at' c.out i (by rw[<-c.out];exact hlti)⟩;have f9:=b.out.r.fz c.out i;have p9:=b.out.set d.out (j:=i) (x:=(((rwG F S0 i).idxOf y:Nat):Int)) c.out;rw[a3.out]at p9
      have aj:=p.out.step (W':=w6.setCell ⟨gR,i,none⟩ (.int .i64 (((rwG F S0 i).idxOf y:Nat):Int))) (vS':=.slice aS (rwG F S0 i).length ao) (vT':=u11) (vR':=.slice (some ⟨gR,0,none⟩) n n) (Af.set _ _ _ (.inr (.inr (.inr rfl)))) fun _ _ e=>e
      have a5:=Ab p9;have a9:=Ab aj;have a8:=Ab ah;clear p9 aj ah hmem b p;generalize(rwG F S0 i).idxOf y=ix at*;go_wp2
      go_roundg (n-(i+1))
      case measure=>have:=bj.out;omega
      case rel=>exact⟨i+1,rfl,by go_num,by omega,by rw[a8.out];exact a5,a9⟩
     ·obtain⟨cq,az⟩:=(b.out.m.get ba.out).2 hmem;have b9:(Instr.lookup 134 (.map (some zm)) (.int .i64 y) true).run Tryz.prog w6=.ok (.tuple #[.int .i64 cq,.bool false]) w6:=az;obtain⟨w7,ai,ca,ap⟩:=b.out.m.upd ba.out hmem (by omega);have u:(Instr.mapUpdate 134 (.map (some zm)) (.int .i64 y) (.int .i64 ((rwG F S0 i).length:Int))).run Tryz.prog w6=.ok () w7:=ai
      have ah:rwG F S0 (i+1)=rwG F S0 i++[y]:=by
       show Il (rwG F S0 i) (F i)=_;rw[<-HY.out];exact if_neg hmem
      have b6:(rwG F S0 i).idxOf y=(rwG F S0 i).length:=Gl hmem;rw[b6]at a3
      have ch:Af (fun q=>q=zm) w6 w7:=(Af.of_grown ap).mono fun q _ e=>(Option.some.inj e).symm
      have av:OI w7 w.heap.size (.slice aS (rwG F S0 i).length ao) (rwG F S0 i):=b.out.o.only ch fun q e k=>b.out.a1 (k▸e)
      have bn:=Ab av;have bu:w.heap.size<=w7.heap.size:=Nat.le_trans bs ap.size;have a8:=Ab ah;have bm:=Ab ca;have a2:=Ab ap;clear b6 ah hmem az ai ca ap ch av;generalize hlr:(rwG F S0 i).length=lr at*;have bl:=Ab hlr;clear hlr
      go_upto_region 19 with(at_builtin;refine C8 rfl _ _ y rfl w.heap.size (.slice aS lr ao) (rwG F S0 i) bn.out rfl _ (by simp) rfl (by rw[bl.out];omega) bu ?_;intro v' w8 af ac ad;obtain⟨aX,cX,ce⟩:=af.slice;rw[List.length_append,List.length_singleton,bl.out]at ce;subst ce;have aa:=Ab (b.out.num d.out bm.out a2.out Ad af ac ad rfl);have a4:=Ab (b.out.numO a2.out ac ad);clear af ac ad)
      obtain⟨cv,c9⟩:∃cv,w8.cell? ⟨gR,i,none⟩=some (.int .i64 cv):=⟨_,aa.out.r.at' c.out i (by rw[<-c.out];exact hlti)⟩;have f9:=aa.out.r.fz c.out i;have p9:=aa.out.set d.out (j:=i) (x:=(lr:Int)) c.out;rw[a3.out,<-a8.out]at p9;have cc:=p.out.step a4.out.1 a4.out.2
      have aj:=cc.step (W':=w8.setCell ⟨gR,i,none⟩ (.int .i64 (lr:Int))) (vS':=.slice aX (lr+1) cX) (vT':=u11) (vR':=.slice (some ⟨gR,0,none⟩) n n) (Af.set _ _ _ (.inr (.inr (.inr rfl)))) fun _ _ e=>e
      have a5:=Ab p9;have a9:=Ab aj;clear p9 cc aj aa a4 b p bm a2 b9 u;go_wp2
      go_roundg (n-(i+1))
      case measure=>have:=bj.out;omega
      case rel=>exact⟨i+1,rfl,by go_num,by omega,a5,a9⟩
    ·have cs:¬(i:Int)<(n:Int):=by omega
     have HE:Hid (SZ w.heap.size zm J (k+1) (UH nx s0 0 n (k+1)) (UG nx s0 0 n k) (Gu F S0 n) u9 u11 (.slice (some ⟨gR,0,none⟩) n n) vals H' wr):=by
      have h1:=HI.out;rw[show i=n by omega,NW,<-a7.out]at h1;exact h1
     have c8:(UH nx s0 0 n (k+1)).length<=K:=by rw[a7.out];exact al.out n leR
     obtain⟨aS,ao,rfl⟩:=HE.out.o.slice
     have tM:¬ak<((UH nx s0 0 n (k+1)).length:Int):=by omega
     obtain⟨aT,cT,cd⟩:=AG HE.out.t;rw[Ez]at cd;subst cd;have cr:w.heap.size<=wr.heap.size:=Nat.le_trans HE.out.z (Nat.le_of_lt HE.out.m.lt)
     have cn:Hid ((Gu F S0 n).length=n):=by show _=_;simp[Gu]
     have cm:Hid (∀x∈Gu F S0 n,I64 x):=fun x hx=>by
      obtain⟨j,hj,rfl⟩:=List.mem_map.1 hx;have h1:=List.idxOf_le_length (a:=F j) (l:=rwG F S0 j);have h2:=al.out j (Nat.le_of_lt (List.mem_range.1 hj));unfold I64;omega
     clear HI HU;generalize hlr:(UH nx s0 0 n (k+1)).length=lr at*;clear hlr
     go_wp2_with (at_builtin;refine EM rfl _ _ (.slice (some ⟨gR,0,none⟩) n n) rfl w.heap.size (.slice aT k cT) k vals (by have:=HE.out.t;rwa [Ez]at this) rfl _ (by simp) rfl rfl (by omega) cr ?_;intro v' w8 af ac ad;have aa:=Ab (HE.out.app d.out (by rw[cn.out];omega) cm.out Ad (by rw[Ez];exact af) ac ad);clear af ac ad)
     go_roundg (K-(k+1))
     case measure=>have:=cj.out;omega
     case rel=>exact⟨k+1,_,H',rfl,by go_num,hlt,by rw[ck.out];exact aa⟩
  ·have b8:=am.out.1
   obtain rfl:K=k:=by omega
   obtain⟨aS,cS,rfl⟩:=HQ.out.o.slice
   have be:¬(K:Int)<((UH nx s0 0 n K).length:Int):=by omega
   have ci:Hid (GK w.heap.size (J K) (UG nx s0 0 n K) (.returned (.tuple #[.slice aS (UH nx s0 0 n K).length cS,u11,.bool true])) wr):=⟨_,_,H,rfl,HQ.out.j,Nat.le_trans HQ.out.z (Nat.le_of_lt HQ.out.m.lt),HQ.out.is (by rw[Ez];omega)⟩;clear b8 HQ;go_wp2;refine bodyPost_ret (v:=.tuple #[.slice aS (UH nx s0 0 n K).length cS,u11,.bool true]) (by simp[results,Tryz.results82,go_sem]) rfl ?_;exact ci.out
structure CJ(W wr:World)(n g1 g2:Nat)(O Q:List Int):Prop where
 bl:Below W.heap.size W wr
 o:OI wr W.heap.size (.slice (some ⟨g1,0,none⟩) n n) O
 q:OI wr W.heap.size (.slice (some ⟨g2,0,none⟩) n n) Q
 ne:g1≠g2
 lo:O.length=n
 lq:Q.length=n
section
variable {W wr w':World} {n g1 g2 j:Nat} {O Q:List Int} {x:Int}
theorem CJ.below(h:CJ W wr n g1 g2 O Q)(hb:Below wr.heap.size wr w'):CJ W w' n g1 g2 O Q:=
 ⟨h.bl.trans (hb.mono h.bl.size),h.o.below hb,h.q.below hb,h.ne,h.lo,h.lq⟩
theorem CJ.setO(h:CJ W wr n g1 g2 O Q):CJ W (wr.setCell ⟨g1,j,none⟩ (.int .i64 x)) n g1 g2 (O.set j x) Q:=
 ⟨BS h.bl (h.o.ge g1 rfl),h.o.set h.lo.symm j x,h.q.setNe (by simp[Value.ownBlock];exact fun e=>h.ne e.symm),h.ne,by rw[List.length_set];exact h.lo,h.lq⟩
theorem CJ.setQ(h:CJ W wr n g1 g2 O Q):CJ W (wr.setCell ⟨g2,j,none⟩ (.int .i64 x)) n g1 g2 O (Q.set j x):=
 ⟨BS h.bl (h.q.ge g2 rfl),h.o.setNe (by simp[Value.ownBlock];exact h.ne),h.q.set h.lq.symm j x,h.ne,h.lo,by rw[List.length_set];exact h.lq⟩
end
theorem SW(W w0:World)(pp pz pr:Nat)(n:Nat)(co:Int)(q:Int)(k:Nat)(a:Nat->List Int)(H:Nat->Prop)(oF sF:Nat->Int)(ae:W.heap[pp]? =some (.cells #[.pointer (some ⟨pz,0,none⟩)] 115 (0,0)))(hj:BJ w0 pr (n:Int) co a k H W)
  (a1:0<n) (hn:n<=64) (f:a k=(List.range n).map oF) (hk:k<4000)
  (ab:∀i,i<n->∀W',Below W.heap.size W W'->Calls Tryz.prog 81 #[.pointer (some ⟨pz,0,none⟩),.int .i64 q,.int .i64 (i:Int)] W' (fun e W9=>e=.returned (.tuple #[.int .i64 (oF i),.int .i64 (sF i),.bool true])/\Below W'.heap.size W' W9)):
  Calls Tryz.prog 80 #[.int .i64 q,.pointer (some ⟨pr,0,none⟩),.pointer (some ⟨pp,0,none⟩)] W (Kn ((List.range n).map sF) (BJ w0 pr (n:Int) co a (k+1)) H W):=by
 obtain⟨v3,n3,hJ⟩:=hj;have af:=Ab ab;have HJ:=Ab hJ;have an:=Ab f;have z:=Ab ae;have c0:=Aa 0 hJ.box
 have au:=fun wx=>run_make_row' (P:=Tryz.prog) 26 3 (.int .i64 0) 8 Tryz.underlying26 Dt rfl .i64 .i64 n (by omega) (by omega) wx
 clear ab f ae hJ
 go_enter Tryz.func80,Tryz.ntmps80
 go_upto_region 1 with(fail)
 go_cut [6,7] (fun va vb wx=>∃g1 g2,va=.slice (some ⟨g1,0,none⟩) n n/\vb=.slice (some ⟨g2,0,none⟩) n n/\Hid (CJ W wx n g1 g2 (List.replicate n 0) (List.replicate n 0)))
 case first=>
  have aw:=Ag (Ao (w:=W) (.cells (madeCells #[.int .i64 0] n) 3)) c0;have av:=(Array.getElem?_eq_some_iff.1 HJ.out.box).1
  go_region
  all_goals
   go_wp2_with fail
   go_meet
   case rel=>
    refine⟨_,_,rfl,rfl, ?_⟩;show CJ _ _ _ _ _ _ _;refine⟨(by repeat(first|exact Ad|assumption|(refine AE ?_ _)|(refine AB ?_ _)|(refine Below.drew ?_))),Ko (by rw[CH];repeat(rw[Am];first|rw[if_pos (by first|simp;done|simp;omega)]|rw[if_neg (by first|simp;done|simp;omega)])) (by omega) (by omega),Ko (by rw[CH];repeat(rw[Am];first|rw[if_pos (by first|simp;done|simp;omega)]|rw[if_neg (by first|simp;done|simp;omega)])) (by omega) (by omega),by omega,by simp,by simp⟩
 case rest=>
  obtain⟨g1,g2,rfl,rfl,HC⟩:=hcut;clear au c0
  have s:Hid (CJ W wc n g1 g2 (Ej oF 0 n 0) (Ej sF 0 n 0)):=by rw[FO,FO];exact HC.out
  clear HC
  go_wp2_with fail
  go_loopg [18] n (fun gh iv wr=>∃i:Nat,gh=n-i/\iv=.int .i64 (i:Int)/\i<=n/\Hid (CJ W wr n g1 g2 (Ej oF 0 n i) (Ej sF 0 n i)))
  case atStart=>exact⟨0,rfl,rfl,by omega,s⟩
  case round=>
   clear s;obtain⟨i,ad,rfl,hi,HC⟩:=hrel;have ag:=Ab ad;clear ad
   by_cases hlt:i<n
   ·have a0:(0:Int)<=(i:Int):=by omega
    have ap:(i:Int)<(n:Int):=by omega
    have zp:=Aa 0 ((HC.out.bl.block _ (Array.getElem?_eq_some_iff.1 z.out).1).trans z.out)
    go_wp2_with fail
    refine(af.out i hlt _ HC.out.bl).mono ?_;rintro e w9 ⟨rfl,ac⟩;have b:=Ab (HC.out.below ac);obtain⟨cv,c9⟩:∃cv,w9.cell? ⟨g1,i,none⟩=some (.int .i64 cv):=⟨_,b.out.o.at' b.out.lo.symm i (by rw[b.out.lo];exact hlt)⟩;have f9:=b.out.o.fz b.out.lo.symm i;have p9:=b.out.setO (j:=i) (x:=oF i);rw[GU hlt]at p9;obtain⟨ay,ax⟩:∃cv,(w9.setCell ⟨g1,i,none⟩ (.int .i64 (oF i))).cell? ⟨g2,i,none⟩=some (.int .i64 cv):=⟨_,p9.q.at' p9.lq.symm i (by rw[p9.lq];exact hlt)⟩;have az:=p9.q.fz p9.lq.symm i;have r:=p9.setQ (j:=i) (x:=sF i);rw[GU hlt]at r;have y:=Ab r;clear ac zp HC b p9 r;generalize oF i=x1 at*;generalize sF i=x2 at*;go_wp2
    go_roundg (n-(i+1))
    case measure=>have:=ag.out;omega
    case rel=>exact⟨i+1,rfl,by go_num,by omega,y⟩
   ·have ap:¬(i:Int)<(n:Int):=by omega
    have HE:Hid (CJ W wr n g1 g2 (a k) ((List.range n).map sF)):=by
     have h1:=HC.out;rw[show i=n by omega,GT,GT]at h1;show CJ _ _ _ _ _ _ _;rw[an.out];exact h1
    clear HC;have d:=HJ.out.keep (Af.of_below HE.out.bl);have z3:=Aa 3 d.box;have ah:=Ab d;have aq:Hid ((a k).length=n):=HE.out.lo;have ao:w0.heap.size<=wr.heap.size:=d.on.size;clear d;obtain⟨a7,c7,rfl⟩:=AG HJ.out.own
    go_upto_region 11 with(at_builtin;refine EM rfl _ _ (.slice (some ⟨g1,0,none⟩) n n) rfl w0.heap.size (.slice a7 k c7) k n3 ah.out.own rfl _ (by simp) rfl rfl (by omega) ao ?_;intro v' w8 p l m;obtain⟨a8,c8,ar⟩:=AG p;subst ar;have c:=Ab (HJ.out.push HE.out.bl HE.out.o (by rw[aq.out];omega) p l m);have z9:=Aa 3 c.out.1;have f9:=At 3 c.out.1;have u:=Ab l;have v:=Ab m;clear p l m)
    obtain⟨-,H',q1,q2,q3,q4⟩:=c.out;have ak:=Ab q1;have al:=Ab q2;have am:=Ab q3;have aa:=Ab q4;clear c q1 q2 q3 q4 z3 z9 f9
    have aj:Hid (OI (w8.setCell ⟨pr,3,none⟩ (.slice a8 (k+1) c8)) W.heap.size (.slice (some ⟨g2,0,none⟩) n n) ((List.range n).map sF)):=by
     have h1:Af (fun q=>q=pr\/(Value.slice a7 k c7).ownBlock=some q) wr (w8.setCell ⟨pr,3,none⟩ (.slice a8 (k+1) c8)):=((Af.of_grown u.out).mono fun q _ e=>.inr e).trans (Af.set _ _ _ (.inl rfl))
     refine HE.out.q.only h1 fun q e1 e2=> ?_
     have e1:g2=q:=Option.some.inj e1;have h2:=HE.out.q.ge g2 rfl
     rcases e2 with e2|e2
     ·have h3:=HJ.out.pz;have h4:=HJ.out.on.size;omega
     ·have h3:=(World.ownsRow.lt HJ.out.own q e2).2;omega
    have ai:Hid (∀q,(Value.slice (some ⟨g2,0,none⟩) n n).ownBlock=some q->¬H' q):=fun q e1 e2=>by
     have e1:g2=q:=Option.some.inj e1;have h2:=HE.out.q.ge g2 rfl;have h5:=HE.out.q.lt' g2 rfl
     rcases(aa.out q).1 e2 with e|e|⟨x,hx,e⟩
     ·have h3:=HJ.out.pz;have h4:=HJ.out.on.size;omega
     ·rcases v.out q e with e|e
      ·have h3:=(World.ownsRow.lt HJ.out.own q e).2;omega
      ·omega
     ·rcases List.mem_append.1 hx with hx|hx
      ·have h3:=(HJ.out.mem_lt hx e).2;omega
      ·rw[List.mem_singleton.1 hx]at e;have e:g1=q:=Option.some.inj e;exact HE.out.ne (by omega)
    clear u v HE aa;go_wp2;go_ret2;exact⟨_,H',rfl,aj.out,ai.out,ak.out,al.out,am.out⟩
def Rh(a:Au)(pls:List UE)(says:List Int)(l:List Sig)(q i o:Nat)(s:Int):Prop:=
 ∃c t,(⟨(q:Int),(i:Int),-1⟩:UE)∈pls/\pls.idxOf ⟨(q:Int),(i:Int),-1⟩=c/\c<says.length/\says.getD c 0=((t:Nat):Int)/\t<pls.length/\(pls.getD t pl0).inn=-1/\s=(pls.getD t pl0).st/\o<((Ap l).getD i []).length/\
  (∀j,j<o->¬(mvN a q (((Ap l).getD i []).getD j 0)=(pls.getD t pl0).st/\mvP a q (((Ap l).getD i []).getD j 0)=(pls.getD t pl0).pr))/\
  (mvN a q (((Ap l).getD i []).getD o 0)=(pls.getD t pl0).st/\mvP a q (((Ap l).getD i []).getD o 0)=(pls.getD t pl0).pr)
theorem IZ{l:List Sig}{i:Nat}(hi:i<(Al l).toNat):i<(Ap l).length/\((Ap l).getD i []).length=(Ai l).toNat/\∀j,j<(Ai l).toNat->((Ap l).getD i []).getD j 0=AI l (i:Int) (j:Int):=by
 have h1:i<(Ap l).length:=by rw[JS];exact hi
 have h2:(Ap l).getD i []=(List.range (Ai l).toNat).map fun(o:Nat)=>AI l (i:Int) (o:Int):=by rw[Ae _ _ _ h1];simp[Ap]
 rw[h2];exact⟨h1,by simp,fun j hj=>by rw[Ae _ _ _ (by rw[List.length_map,List.length_range];exact hj)];simp⟩
theorem T9(W:World)(pz:Nat)(a:Au)(d:List UE)(b:List Int)(l:List Sig)(q i o:Nat)(s:Int)(h:Ew W pz a d d b l)(n:AC a=true)(f:As l=true)(m:a.letters=Ay l)(hq:q<a.next.length)(hi:i<(Al l).toNat)(ha:Rh a d b l q i o s):
  Calls Tryz.prog 81 #[.pointer (some ⟨pz,0,none⟩),.int .i64 (q:Int),.int .i64 (i:Int)] W (fun e W'=>e=.returned (.tuple #[.int .i64 (o:Int),.int .i64 s,.bool true])/\Below W.heap.size W W'):=by
 obtain⟨c,t,h1,h2,h3,h4,h5,h6,rfl,h8,h9,k⟩:=ha;obtain⟨⟨p,r⟩,⟨u,v⟩⟩:=Dv f;obtain⟨j1,j2,j3⟩:=IZ (l:=l) hi;refine PU W pz a d b l q i c t o h n hq j1 h8 (by rw[j2];omega) (fun j hj=> ?_) h1 h2 h3 h4 h5 h6 h9 k;rw[j2]at hj;rw[j3 j hj,m];obtain⟨⟨a1,a2⟩,-⟩:=DP f (i:=(i:Int)) (o:=(j:Int)) (by omega) (by omega) (by omega) (by omega);exact⟨a1,a2⟩
theorem Of(w:World)(vl va vp vs:Value)(l:List Sig)(a:Au)(u:List UE)(s:List Int)(hK:B7 w)(hl:AD w vl l)(ha:Cw w va a)(hp:CA w vp u)(hs:Ah w vs s)
  (an:As l=true) (ae:AC a=true) (av:a.letters=Ay l) (bx:u.length<=2900) (bc:s.length=u.length) (ba:u.Nodup)
  (nx:Int->Nat->Int) (oF:Int->Nat->Int) (K:Nat) (ab:Kj nx a.start 0 (Al l).toNat K) (ca:K<=2900)
  (al:∀k,k<=K->∀x∈UH nx a.start 0 (Al l).toNat k,0<=x/\x<a.next.length)
  (z:∀k,k<K->∀i,i<(Al l).toNat->0<=oF (gP nx a.start 0 (Al l).toNat k) i/\oF (gP nx a.start 0 (Al l).toNat k) i<=64/\Rh a u s l (gP nx a.start 0 (Al l).toNat k).toNat i (oF (gP nx a.start 0 (Al l).toNat k) i).toNat (nx (gP nx a.start 0 (Al l).toNat k) i)):
  Calls Tryz.prog 38 #[vl,va,vp,vs] w (H8 ⟨Al l,Ai l,0,(List.range K).map (fun k=>(List.range (Al l).toNat).map (oF (gP nx a.start 0 (Al l).toNat k))),UG nx a.start 0 (Al l).toNat K⟩ 0 w):=by
 have cb:Tryz.prog.follows .mixedOrders=true:=by kernel_rfl
 have az:Hid (∀W,Below w.heap.size w W->Calls Tryz.prog 77 #[vl,va,vp,vs] W (It a u s l W)):=fun W h=>JV W _ _ _ _ l a u s (hK.below h) (hl.below h) (ha.below h) (hp.below h) (hs.below h) an ae av bx bc ba
 have au:Hid (∀W,Below w.heap.size w W->Calls Tryz.prog 78 #[vl] W (Av (.int .i64 (Al l)) W)):=fun W h=>Eb W _ _ (hK.below h) (hl.below h)
 have a0:Hid (∀W,Below w.heap.size w W->Calls Tryz.prog 79 #[vl] W (Av (.int .i64 (Ai l)) W)):=fun W h=>Dg W _ _ (hK.below h) (hl.below h)
 obtain⟨⟨bs,bu⟩,⟨cd,ce⟩⟩:=Dv an;obtain⟨n,hn⟩:∃n:Nat,Al l=(n:Int):=⟨(Al l).toNat,by omega⟩
 have am:(Al l).toNat=n:=by omega
 have b6:0<=a.start/\a.start<a.next.length:=by
  simp only[AC,Bool.and_eq_true,decide_eq_true_eq]at ae;exact ae.1.2
 have cc:a.next.length<=3000:=by
  simp only[AC,Bool.and_eq_true,decide_eq_true_eq]at ae;exact ae.1.1.1.2.2
 have ao:Hid (∀W pz,Ew W pz a u u s l->∀k,k<K->∀i,i<n->Calls Tryz.prog 81 #[.pointer (some ⟨pz,0,none⟩),.int .i64 (gP nx a.start 0 n k),.int .i64 (i:Int)] W (fun e W'=>e=.returned (.tuple #[.int .i64 (oF (gP nx a.start 0 n k) i),.int .i64 (nx (gP nx a.start 0 n k) i),.bool true])/\Below W.heap.size W W')):=fun W pz hP k hk i hi=>by
  rw[am]at z al ab;obtain⟨h1,h2,h3⟩:=z k hk i hi;have bv:=ab.2 k hk;have hx:=al k (by omega) (gP nx a.start 0 n k) (by unfold gP;rw[Ae _ _ _ bv];exact List.getElem_mem _);have h4:=T9 W pz a u s l _ i _ _ hP ae an av (by omega) (by omega) h3;rw[show(((gP nx a.start 0 n k).toNat:Nat):Int)=gP nx a.start 0 n k by omega,show(((oF (gP nx a.start 0 n k) i).toNat:Nat):Int)=oF (gP nx a.start 0 n k) i by omega]at h4;exact h4
 have bh:Hid (∀k,k<K->∀i,i<n->0<=oF (gP nx a.start 0 n k) i/\oF (gP nx a.start 0 n k) i<=64):=fun k hk i hi=>by
  rw[am]at z;exact⟨(z k hk i hi).1,(z k hk i hi).2.1⟩
 rw[am]at ab al⊢;rw[hn]at au⊢;obtain⟨v2,v3,rfl,⟨b8,b9⟩,h2,h3⟩:=ha;obtain⟨sa,sc,rfl⟩:=hl.shape;obtain⟨a2,c2,rfl⟩:=h2.shape;obtain⟨a3,c3,rfl⟩:=h3.shape;have bf:=Ab ab;have bj:=Ab al
 have a9:n<=64:=by omega
 have bw:0<n:=by omega
 clear hl hp hs hK h2 h3 an ae av ba bc z ab al hn am bs bu
 go_enter Tryz.func38,Tryz.ntmps38
 go_upto_region 1 with(fail)
 obtain⟨o,-,a4⟩:=Aw (w0:=w) Ad leR #[.int .i64 a.letters,.int .i64 a.start,.slice a2 a.next.length c2,.slice a3 a.prio.length c3] 63
 have ax:(w.alloc (.cells #[.int .i64 a.letters,.int .i64 a.start,.slice a2 a.next.length c2,.slice a3 a.prio.length c3] 63)).heap.size=w.heap.size+1:=by simp
 generalize w.alloc (.cells #[.int .i64 a.letters,.int .i64 a.start,.slice a2 a.next.length c2,.slice a3 a.prio.length c3] 63)=w1 at*;obtain⟨p,-,f⟩:=Aw (w0:=w) a4 (by omega) #[.int .i64 0,.int .i64 0,.int .i64 0,.slice none 0 0,.slice none 0 0] 25
 have b2:(w1.alloc (.cells #[.int .i64 0,.int .i64 0,.int .i64 0,.slice none 0 0,.slice none 0 0] 25)).heap.size=w.heap.size+1+1:=by simp[ax]
 have o:=(Dm w1 (.cells #[.int .i64 0,.int .i64 0,.int .i64 0,.slice none 0 0,.slice none 0 0] 25) (r:=w.heap.size) (by omega)).trans o;generalize w1.alloc (.cells #[.int .i64 0,.int .i64 0,.int .i64 0,.slice none 0 0,.slice none 0 0] 25)=w2 at*;rw[ax]at p;clear a4 ax;have k0:=Aa 0 o;have k1:=Aa 1 o;have k2:=Aa 2 o;have k3:=Aa 3 o
 go_wp2_with fail
 refine(az.out _ f).mono ?_;rintro e w3 ⟨pz,rfl,cf,a6,hb⟩;replace o:=(hb.block _ (by omega)).trans o;replace p:=(hb.block _ (by omega)).trans p;replace f:=f.trans (hb.mono f.size)
 have b1:w.heap.size+1+1<=w3.heap.size:=by have:=hb.size;omega
 have ad:=Ab a6;clear hb b2 k0 k1 k2 k3 a6
 go_upto_region 2 with(fail)
 obtain⟨ac,aj,-⟩:=Aw (w0:=w3) (B:=w3.heap.size) Ad leR #[.pointer (some ⟨pz,0,none⟩)] 115
 have bz:(w3.alloc (.cells #[.pointer (some ⟨pz,0,none⟩)] 115)).heap.size=w3.heap.size+1:=by simp
 generalize w3.alloc (.cells #[.pointer (some ⟨pz,0,none⟩)] 115)=w4 at*;replace o:=(aj.block _ (by omega)).trans o;replace p:=(aj.block _ (by omega)).trans p;replace f:=f.trans (aj.mono f.size);replace ad:=Ab (ad.out.below aj)
 have bb:w3.heap.size<w4.heap.size:=by omega
 have b4:w.heap.size+1+1<=w3.heap.size:=b1;generalize w3.heap.size=pp at*;clear aj bz
 go_wp2_with fail
 refine(au.out _ f).mono ?_;rintro e w5 ⟨rfl,hb⟩;replace o:=(hb.block _ (by omega)).trans o;replace p:=(hb.block _ (by omega)).trans p;replace ac:=(hb.block _ (by omega)).trans ac;replace f:=f.trans (hb.mono f.size);replace ad:=Ab (ad.out.below hb)
 replace bb:pp<w5.heap.size:=by have:=hb.size;omega
 clear hb
 go_wp2_with fail
 refine(a0.out _ f).mono ?_;rintro e w6 ⟨rfl,hb⟩;replace o:=(hb.block _ (by omega)).trans o;replace p:=(hb.block _ (by omega)).trans p;replace ac:=(hb.block _ (by omega)).trans ac;replace f:=f.trans (hb.mono f.size);replace ad:=Ab (ad.out.below hb)
 replace bb:pp<w6.heap.size:=by have:=hb.size;omega
 clear hb;have k1:=Aa 1 o
 go_upto_region 5 with(fail)
 obtain⟨bd,ag,-⟩:=Aw (w0:=w6) (B:=w6.heap.size) Ad leR #[.int .i64 (n:Int),.int .i64 (Ai l),.int .i64 0,.slice none 0 0,.slice none 0 0] 25
 have cg:(w6.alloc (.cells #[.int .i64 (n:Int),.int .i64 (Ai l),.int .i64 0,.slice none 0 0,.slice none 0 0] 25)).heap.size=w6.heap.size+1:=by simp
 generalize w6.alloc (.cells #[.int .i64 (n:Int),.int .i64 (Ai l),.int .i64 0,.slice none 0 0,.slice none 0 0] 25)=w9 at*;replace k1:=Ag ag k1;replace p:=(ag.block _ (by omega)).trans p;replace ac:=(ag.block _ (by omega)).trans ac;replace f:=f.trans (ag.mono f.size)
 have ap:Hid (∀W,Af (fun q=>w9.heap.size<=q\/q=w6.heap.size) w9 W->Ew W pz a u u s l):=fun W ho=>ad.out.below (ag.trans (ho.below _ (fun q e=>by omega) (by omega)))
 clear o ag;generalize w6.heap.size=pr at*;have bk:=Ab p;have bl:=Ab ac;have bm:=Ab bd;have ar:=Ab f
 have aq:Hid (∀W,Af (fun q=>w9.heap.size<=q\/q=pr) w9 W->W.heap[pp]? =some (.cells #[.pointer (some ⟨pz,0,none⟩)] 115 (0,0))):=fun W ho=>(ho.block pp (by omega) (by omega)).trans bl.out
 have a5:F3 w9.heap.size 80 #[.pointer (some ⟨pr,0,none⟩),.pointer (some ⟨pp,0,none⟩)] n K (gP nx a.start 0 n) nx (BJ w9 pr (n:Int) (Ai l) fun k=>(List.range n).map (oF (gP nx a.start 0 n k))):=by
  refine⟨fun k H W ⟨v3,n3,h⟩=>h.lt,fun k H W W' ⟨v3,n3,h⟩ ho=>⟨v3,n3,h.keep ho⟩,fun k H W hj hBW hk=> ?_⟩
  have ho:Af (fun q=>w9.heap.size<=q\/q=pr) w9 W:=by obtain⟨v3,n3,h⟩:=hj;exact h.on
  exact SW W w9 pp pz pr n (Ai l) _ k _ H (oF (gP nx a.start 0 n k)) (nx (gP nx a.start 0 n k)) (aq.out W ho) hj bw a9 rfl (by omega) (fun i hi W' hb=>ao.out W' pz ((ap.out W ho).below hb) k hk i hi)
 have a8:∀k,k<=K->∀x∈UH nx a.start 0 n k,I64 x:=fun k hk x hx=>by
  have h1:=bj.out k hk x hx;unfold I64;omega
 have bi:Hid (Calls Tryz.prog 82 #[.int .i64 a.start,.int .i64 3000,.func (.func 80) #[] #[.pointer (some ⟨pr,0,none⟩),.pointer (some ⟨pp,0,none⟩)]] w9 (GK w9.heap.size (BJ w9 pr (n:Int) (Ai l) (fun k=>(List.range n).map (oF (gP nx a.start 0 n k))) K) (UG nx a.start 0 n K))):=
  Kb w9 80 _ (enters_of Tryz.func80 (by kernel_rfl) rfl) nx a.start n K 3000 _ _ a5 bf.out (by omega) (by omega) (by omega) a8 (BK.start bm.out)
 clear a5 a8 ap aq ao az au a0;have b3:w9.cell? ⟨w.heap.size,1,none⟩=some (.int .i64 a.start):=k1;clear k1
 go_wp2_with fail
 refine bi.out.mono ?_;rintro e af ⟨vS,vT,H,rfl,⟨v3,n3,aa⟩,b7,hT⟩;have ay:=Ab aa;have HT:=Ab hT;have z4:=Aa 4 aa.box;have zf:=At 4 aa.box;obtain⟨aT,cT,b0⟩:=(hT af (Af.refl _ _)).shape;obtain⟨a7,c7,e7⟩:=AG aa.own;subst b0 e7;have aw:(UG nx a.start 0 n K).length=K:=Ez;rw[aw];have ah:=heap_setCell_same _ _ 4 _ _ (.slice aT K cT) aa.box;have ai:Below w.heap.size w af:=ar.out.trans (aa.on.below _ (fun q e=>by have:=ar.out.size;omega) ar.out.size);have b5:=aa.pz;have m:(af.setCell ⟨pr,4,none⟩ (.slice aT K cT)).heap[w.heap.size+1]? =some (.cells #[.int .i64 0,.int .i64 0,.int .i64 0,.slice none 0 0,.slice none 0 0] 25 (0,0)):=(heap_setCell_other _ _ _ _ (by simp;omega)).trans ((aa.on.block _ (by omega) (by omega)).trans bk.out);have a1:=Ab m;have be:Hid (Below w.heap.size w (af.setCell ⟨pr,4,none⟩ (.slice aT K cT))):=ai.trans ((Af.set (S:=fun q=>q=pr) pr 4 _ rfl).below _ (fun q e=>by omega) ai.size)
 have bg:Hid (∀W',Af (fun q=>q=w.heap.size+1) (af.setCell ⟨pr,4,none⟩ (.slice aT K cT)) W'->BB W' (.agg #[.int .i64 (n:Int),.int .i64 (Ai l),.int .i64 0,.slice a7 K c7,.slice aT K cT]) ⟨(n:Int),Ai l,0,(List.range K).map (fun k=>(List.range n).map (oF (gP nx a.start 0 n k))),UG nx a.start 0 n K⟩):=fun W' hW=>by
  have h1:Af (fun q=>q=pr\/q<w9.heap.size) af W':=((Af.set (S:=fun q=>q=pr\/q<w9.heap.size) pr 4 (.slice aT K cT) (.inl rfl))).trans (hW.mono fun q _ e=>.inr (by omega));refine⟨_,_,rfl,⟨by show I64 (n:Int);unfold I64;omega,by show I64 (Ai l);unfold I64;omega,by show I64 0;unfold I64;omega⟩, ?_, ?_⟩
  ·refine ay.out.is (by omega) (fun j hj=>⟨by simp;omega,fun x hx=> ?_⟩) W' h1;obtain⟨y,hy,rfl⟩:=List.mem_map.1 hx;have:=bh.out j hj y (List.mem_range.1 hy);unfold I64;omega
  ·have h3:=HT.out W' (h1.mono fun q _ e=> ?_)
   ·rwa [aw]at h3
   rcases e with e|e
   ·exact .inr ((ay.out.hH q).2 (.inl e))
   ·exact .inl e
 have q0:=Aa 0 m;have q1:=Aa 1 m;have q2:=Aa 2 m;have q3:=Aa 3 m;have q4:=Aa 4 m;have f0:=At 0 m;have f1:=At 1 m;have f2:=At 2 m;have f3:=At 3 m;have f4:=At 4 m;have r0:=Aa 0 ah;have r1:=Aa 1 ah;have r2:=Aa 2 ah;have r3:=Aa 3 ah;have r4:=Aa 4 ah;clear aa hT ah m ai aw p ac bd f
 go_upto_region 9 with(fail)
 clear z4 zf b3;generalize af.setCell ⟨pr,4,none⟩ (.slice aT K cT)=ch at*;go_wp2;have ak:=C4 (a:=.int .i64 (n:Int)) (b:=.int .i64 (Ai l)) (c:=.int .i64 0) (d:=.slice a7 K c7) (e:=.slice aT K cT) a1.out;have bn:=Aa 0 ak;have bo:=Aa 1 ak;have bp:=Aa 2 ak;have bq:=Aa 3 ak;have br:=Aa 4 ak;refine bodyPost_ret (v:=.tuple #[.agg #[.int .i64 (n:Int),.int .i64 (Ai l),.int .i64 0,.slice a7 K c7,.slice aT K cT],.int .i64 0]) (by simp[results,Tryz.results38,go_sem,bn,bo,bp,bq,br]) rfl ?_;exact D3 be.out (by omega) (fun W' h=>bg.out W' h)
end Go.Proofs.YtncjeamdkjcebaaGreatDoor
