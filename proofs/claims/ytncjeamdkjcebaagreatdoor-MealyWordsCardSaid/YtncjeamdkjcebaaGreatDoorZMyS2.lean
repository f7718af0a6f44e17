/- What mealy.search computes, for pairs of states. -/
import Derived.Test.YtncjeamdkjcebaaGreatDoorZMyB6
set_option linter.all false
set_option maxHeartbeats 4000000
set_option maxRecDepth 100000
namespace Go.Proofs.YtncjeamdkjcebaaGreatDoor
open Go.RowKit
def FS(B:Nat)(J:(Nat->Prop)->World->Prop)(rows:List (List Int))(e:Ending)(W':World):Prop:=∃vS vT H,e=.returned (.tuple #[vS,vT,.bool true])/\J H W'/\B<=W'.heap.size/\∀W9,Ag (fun q=>q<B\/H q) W' W9->Ar W9 vT rows
section
variable {B zm:Nat} {f:Nat} {lb:Array Value} {n K:Nat} {st:Nat->Pr} {nx:Pr->Nat->Pr} {J:Nat->(Nat->Prop)->World->Prop} {k:Nat} {S:List Pr} {tR:List (List Int)} {R:List Int} {vS vT vR v' vU vS' vT' vR':Value} {vals:List Value} {H:Nat->Prop} {W W' W3:World} {U:List Pr}
theorem SQ.numO(_:SQ B zm J k S tR R vS vT vR vals H W)(hg:W.grownBy W' (some zm))(hg2:W'.grownBy W3 vS.ownBlock)(hm2:A7 W' vS v'):Ag (Bo zm vS vT vR) W W3/\∀q,q<W.heap.size->Bo zm v' vT vR q->Bo zm vS vT vR q:=by
 have o1:Ag (Bo zm vS vT vR) W W':=(Ag.of_grown hg).mono fun q _ e=>.inl (Option.some.inj e).symm
 have o3:Ag (Bo zm vS vT vR) W' W3:=(Ag.of_grown hg2).mono fun q _ e=>.inr (.inl e)
 refine⟨o1.trans o3, ?_⟩;rintro q hq (e|e|e|e)
 ·exact .inl e
 ·rcases hm2 q e with k|k
  ·exact .inr (.inl k)
  ·have:=o1.size;omega
 ·exact .inr (.inr (.inl e))
 ·exact .inr (.inr (.inr e))
theorem SQ.is(h:SQ B zm J k S tR R vS vT vR vals H W)(hl:tR.length<=100000):∀W9,Ag (fun q=>q<B\/H q) W W9->Ar W9 vT tR:=fun W9 ho=>by
 have h1:=Ax h.t ho fun q e k=>by
  rcases k with k|k
  ·have:=(World.ownsRow.lt h.t q e).1;omega
  ·exact h.h q k (.inr (.inr (.inl e)))
 exact(h.kr.move (S1:=fun _=>False) (ho.mono fun q _ e=>e.elim .inl fun k=>.inr (.inr k)) fun _ _ e=>e.elim).is h1 hl
structure UQ(B zm:Nat)(vS vT vR vU:Value)(U:List Pr)(W:World):Prop where
 o:OQ W B vU U
 d:∀q,vU.ownBlock=some q->¬Bo zm vS vT vR q
theorem UQ.step(h:UQ B zm vS vT vR vU U W)(ho:Ag (Bo zm vS vT vR) W W')(hi:∀q,q<W.heap.size->Bo zm vS' vT' vR' q->Bo zm vS vT vR q):UQ B zm vS' vT' vR' vU U W':=
 ⟨h.o.only ho fun q e k=>h.d q e k,fun q e k=>h.d q e (hi q (h.o.lt' q e) k)⟩
theorem UQ.below(h:UQ B zm vS vT vR vU U W)(hb:Below W.heap.size W W'):UQ B zm vS vT vR vU U W':=h.step (Ag.of_below hb) fun _ _ e=>e
end
theorem OJ(w:World)(f:Nat)(lb:Array Value)(HE:∀args W,(callFunc f args).run Tryz.prog W=.ok (.enter f args) W)(nx:Pr->Nat->Pr)(s0:Pr)(n K:Nat)(most:Int)(J:Nat->(Nat->Prop)->World->Prop)(H0:Nat->Prop)
  (hn:Ge w.heap.size f lb n K (gP nx s0 (0,0) n) nx J) (hend:JQ nx s0 (0,0) n K) (hK:K<=3000) (hmost:(K:Int)<=most) (hn1:n<=1000) (hw:∀k,k<=K->∀x∈Ue nx s0 (0,0) n k,WfQ x) (hj:J 0 H0 w):
  Calls Tryz.prog 50 #[prV s0,.int .i64 most,.func (.func f) #[] lb] w (FS w.heap.size (J K) (gN nx s0 (0,0) n K)):=by
 have HNQ:=Ab hn;have HEN:=Ab hend;have HW:=Ab hw;have hw0:WfQ s0:=hw 0 (Nat.zero_le _) s0 (by simp[Ue]);have HW0:=Ab hw0;have HJ0:=Ab hj;clear hn hend hw hj hw0;have HMM:=@run_makeMap Tryz.prog;show Calls Tryz.prog 50 #[.agg #[.int .i64 ((s0.1:Nat):Int),.int .i64 ((s0.2:Nat):Int)],.int .i64 most,.func (.func f) #[] lb] w _;obtain⟨B,hB⟩:∃B,B=w.heap.size:=⟨_,rfl⟩;have HB:=Ab hB
 go_enter Tryz.func50,Tryz.ntmps50
 go_upto_region 1 with(fail)
 obtain⟨hx0,hb0,-⟩:=Az (w0:=w) (B:=w.heap.size) Ad leR #[.int .i64 ((s0.1:Nat):Int),.int .i64 ((s0.2:Nat):Int)] 80
 have hs1:(w.alloc (.cells #[.int .i64 ((s0.1:Nat):Int),.int .i64 ((s0.2:Nat):Int)] 80)).heap.size=w.heap.size+1:=by simp
 generalize w.alloc (.cells #[.int .i64 ((s0.1:Nat):Int),.int .i64 ((s0.2:Nat):Int)] 80)=w1 at*;have c0:=Aa 0 hx0;have c1:=Aa 1 hx0
 go_upto_region 2 with(fail)
 have hQ1:OQ (w1.alloc (.cells #[.int .i64 ((s0.1:Nat):Int),.int .i64 ((s0.2:Nat):Int)] 80)) w1.heap.size (.slice (some ⟨w1.heap.size,0,none⟩) 1 1) [s0]:=Su w1 s0;obtain⟨hx1,hb1,-⟩:=Az (w0:=w1) (B:=w1.heap.size) Ad leR #[.int .i64 ((s0.1:Nat):Int),.int .i64 ((s0.2:Nat):Int)] 80
 have hs2:(w1.alloc (.cells #[.int .i64 ((s0.1:Nat):Int),.int .i64 ((s0.2:Nat):Int)] 80)).heap.size=w1.heap.size+1:=by simp
 rw[hs1]at hQ1 hs2;replace c0:=Ah hb1 c0;replace c1:=Ah hb1 c1;generalize w1.alloc (.cells #[.int .i64 ((s0.1:Nat):Int),.int .i64 ((s0.2:Nat):Int)] 80)=w2 at*;have hM3:=FN.made w2;have hb2:Below w2.heap.size w2 (w2.alloc (.map #[] 0)):=Ao _
 have hs3:(w2.alloc (.map #[] 0)).heap.size=w2.heap.size+1:=by simp
 obtain⟨w4,hrun,hM4,hg4⟩:=hM3.upd HW0.out (by simp) (by simp);have hrun':(Instr.mapUpdate 136 (.map (some w2.heap.size)) (.agg #[.int .i64 ((s0.1:Nat):Int),.int .i64 ((s0.2:Nat):Int)]) (.int .i64 0)).run Tryz.prog (w2.alloc (.map #[] 0))=.ok () w4:=hrun;have c0':=Ah hb2 c0;have c1':=Ah hb2 c1
 have hQ4:OQ w4 w.heap.size (.slice (some ⟨w.heap.size+1,0,none⟩) 1 1) [s0]:=by
  refine((hQ1.base (by omega):OQ w2 w.heap.size _ _).only (S:=fun _=>False) (Ag.of_below hb2) fun _ _ e=>e).only (Ag.of_grown hg4) fun q e k=> ?_
  have e:w.heap.size+1=q:=Option.some.inj e;have k:w2.heap.size=q:=Option.some.inj k;omega
 have hbl4:Below w.heap.size w w4:=((hb0.trans (hb1.mono (by omega))).trans (hb2.mono (by omega))).grown hg4 (by omega) (fun q e=>by have e:w2.heap.size=q:=Option.some.inj e;omega)
 have hSQ:SQ w.heap.size w2.heap.size J 0 (Ue nx s0 (0,0) n 0) (gN nx s0 (0,0) n 0) [] (.slice (some ⟨w.heap.size+1,0,none⟩) 1 1) (.slice none 0 0) (.slice none 0 0) [] H0 w4:=by
  refine⟨HNQ.out.keep _ _ _ _ HJ0.out (Ag.of_below hbl4),by omega,hQ4,hM4,World.ownsRow_nil _ _ _ _,BC _ _,KR.nil _ _, ?_,(fun e=>by cases e),(fun e=>by cases e),Cz _,Cz _,GW _,fun q e k=> ?_⟩
  ·simp[Value.ownBlock];omega
  ·have:=HNQ.out.lt _ _ _ HJ0.out q e
   rcases k with k|k|k|k
   ·omega
   ·have k:w.heap.size+1=q:=Option.some.inj k;omega
   ·cases k
   ·cases k
 have HSQ:=Ab hSQ;clear hQ1 hx1 hM3 hM4 hg4 hrun hQ4 hbl4 hSQ hb0 hb1 hb2 hx0 hs1 hs2 hs3 c0 c1
 go_upto_region 3 with(fail)
 clear hrun' c0' c1';generalize w2.heap.size=zm at*;have HLN:Hid ((Ue nx s0 (0,0) n 0).length=1):=rfl
 go_wp2_with fail
 go_loopg [9,11,12] K (fun gh sv tv kv wr=>∃(k:Nat)(vals:List Value)(H:Nat->Prop),gh=K-k/\kv=.int .i64 (k:Int)/\k<=K/\Hid (SQ w.heap.size zm J k (Ue nx s0 (0,0) n k) (gN nx s0 (0,0) n k) [] sv tv (.slice none 0 0) vals H wr))
 case atStart=>exact⟨0,_,_,rfl,rfl,Nat.zero_le _,HSQ⟩
 case round=>
  clear HSQ HLN;obtain⟨k,vals,H,hgk,rfl,hk,HQ⟩:=hrel;have HGK:=Ab hgk;clear hgk
  by_cases hlt:k<K
  ·have hkl:=HEN.out.2 k hlt;obtain⟨g,cS,hvS,-,-⟩:=HQ.out.o.row (by omega);subst hvS;have hlb:=Gv (i:=0) HEN.out hlt (Nat.zero_le _);have hcc:=HQ.out.o.at' rfl k hkl;have hgp:(Ue nx s0 (0,0) n k)[k]=gP nx s0 (0,0) n k:=(Af _ _ _ hkl).symm;rw[hgp]at hcc;obtain⟨c0,c1⟩:=hcc
   have hk0:(0:Int)<=(k:Int):=by omega
   have hk1:(k:Int)<((Ue nx s0 (0,0) n k).length:Int):=by omega
   have hBw:w.heap.size<=wr.heap.size:=Nat.le_trans HQ.out.z (Nat.le_of_lt HQ.out.m.lt);have HCA:=Ab (HNQ.out.call k H wr HQ.out.j hBw hlt);clear hgp
   go_wp2_with fail
   refine HCA.out.mono ?_;rintro e w5 ⟨v,H',rfl,hoq,hnh,hj5,ho5,hH5⟩;have HQ5:=Ab (HQ.out.asked hj5 ho5 hH5);obtain⟨aU,cU,hvU⟩:=hoq.slice;rw[show((List.range n).map (nx (gP nx s0 (0,0) n k))).length=n by simp]at hvU;have hsz5:=ho5.size
   have HU5:Hid (UQ w.heap.size zm (.slice (some ⟨g,0,none⟩) (Ue nx s0 (0,0) n k).length cS) u11 (.slice none 0 0) v ((List.range n).map (nx (gP nx s0 (0,0) n k))) w5):=⟨hoq.base hBw,fun q e h=>by
    have h1:=hoq.ge q e;have h2:=(HQ.out.hlt q h).2
    omega⟩
   subst hvU
   have hBw5:w.heap.size<=w5.heap.size:=by omega
   clear hoq hnh hj5 ho5 hH5 HCA c0 c1;obtain⟨F,hF⟩:∃F,F=nx (gP nx s0 (0,0) n k):=⟨_,rfl⟩;obtain⟨S0,hS0⟩:∃S0,S0=Ue nx s0 (0,0) n k:=⟨_,rfl⟩
   have HS1:Hid (Ue nx s0 (0,0) n (k+1)=rwG F S0 n):=by rw[hF,hS0];rfl
   have HGN:Hid (gN nx s0 (0,0) n (k+1)=gN nx s0 (0,0) n k++[F4 F S0 n]):=by rw[hF,hS0];exact Ni
   have HBD:Hid (∀i,i<=n->(rwG F S0 i).length<=K):=fun i hi=>by rw[hF,hS0];exact Gv HEN.out hlt hi
   have HWQ:Hid (∀i,i<=n->∀x∈rwG F S0 i,WfQ x):=fun i hi x hx=>by
    have h1:=(H6 (f:=F) (S:=S0) hi).subset hx;rw[<-HS1.out]at h1;exact HW.out (k+1) hlt x h1
   rw[<-hF]at HU5;rw[<-hS0]at HQ5 HU5;rw[<-hS0]at hk1 hkl hlb⊢;rw[<-hF]at hlb;clear hF hS0 HQ hlb
   go_upto_region 11 with(at_make;refine FY rfl _ _ _ Tryz.underlying26 rfl w.heap.size (n:Int) n rfl rfl rfl (by omega) hBw5 ?_;intro w6 hown hgr;have HQ6:=Ab (HQ5.out.row HNQ.out hown hgr))
   have HU6:Hid (UQ w.heap.size zm (.slice (some ⟨g,0,none⟩) S0.length cS) u11 (.slice (some ⟨w5.heap.size,0,none⟩) n n) (.slice aU n cU) ((List.range n).map F) w6):=by
    refine HU5.out.step (Ag.of_below (Ad.grown hgr leR (fun k hk=>by cases hk))) ?_;rintro q hq (e|e|e|e)
    ·exact .inl e
    ·exact .inr (.inl e)
    ·exact .inr (.inr (.inl e))
    ·have e:w5.heap.size=q:=Option.some.inj e;omega
   clear hown hgr
   have HQ7:Hid (SQ w.heap.size zm J (k+1) (rwG F S0 0) (gN nx s0 (0,0) n k) (nwG F S0 n 0) (.slice (some ⟨g,0,none⟩) S0.length cS) u11 (.slice (some ⟨w5.heap.size,0,none⟩) n n) vals H' w6):=by
    rw[Lw];exact HQ6.out
   clear HQ5 HU5 HQ6 hBw5 hsz5;generalize w5.heap.size=gR at*;have HS0:=Ab (rfl:rwG F S0 0=S0);have hlS0:S0.length<=K:=HBD.out 0 (Nat.zero_le _);have HLS:=Ab hlS0;clear hk1 hkl hlS0;generalize S0.length=ls at*
   go_wp2_with fail
   go_loopg [9,47] n (fun gh sv iv wx=>∃(i:Nat),gh=n-i/\iv=.int .i64 (i:Int)/\i<=n/\Hid (SQ w.heap.size zm J (k+1) (rwG F S0 i) (gN nx s0 (0,0) n k) (nwG F S0 n i) sv u11 (.slice (some ⟨gR,0,none⟩) n n) vals H' wx)/\Hid (UQ w.heap.size zm sv u11 (.slice (some ⟨gR,0,none⟩) n n) (.slice aU n cU) ((List.range n).map F) wx))
   case atStart=>exact⟨0,rfl,rfl,by omega,HQ7,HU6⟩
   case round=>
    clear HQ7 HU6;obtain⟨i,hgi,rfl,hi,HI,HU⟩:=hrel;have HGI:=Ab hgi;clear hgi
    by_cases hlti:i<n
    ·have hi0:(0:Int)<=(i:Int):=by omega
     have hi1:(i:Int)<(n:Int):=by omega
     have hmn:((List.range n).map F).length=n:=by simp
     obtain⟨gU,cU',hvU,-,-⟩:=HU.out.o.row (by rw[hmn];omega);rw[hmn]at hvU;simp only[Value.slice.injEq]at hvU;obtain⟨rfl,-,rfl⟩:=hvU;have hcc:=HU.out.o.at' hmn.symm i (by rw[hmn];exact hlti);rw[show((List.range n).map F)[i]'(by rw[hmn];exact hlti)=F i by simp]at hcc;obtain⟨c0,c1⟩:=hcc;obtain⟨y,hy⟩:∃y,y=F i:=⟨_,rfl⟩;rw[<-hy]at c0 c1
     have hwy:WfQ y:=by
      refine HWQ.out (i+1) hlti y ?_;rw[hy];show F i∈Hn (rwG F S0 i) (F i);unfold Hn
      split
      ·assumption
      ·simp
     have HWY:=Ab hwy;have HY:=Ab hy;clear hmn hwy hy
     go_upto_region 14 with(fail)
     obtain⟨hx6,hb6,-⟩:=Az (w0:=wr) (B:=wr.heap.size) Ad leR #[.int .i64 ((y.1:Nat):Int),.int .i64 ((y.2:Nat):Int)] 80
     have hs6:wr.heap.size<(wr.alloc (.cells #[.int .i64 ((y.1:Nat):Int),.int .i64 ((y.2:Nat):Int)] 80)).heap.size:=by simp
     have hzx:zm≠wr.heap.size:=Nat.ne_of_lt HI.out.m.lt;generalize wr.alloc (.cells #[.int .i64 ((y.1:Nat):Int),.int .i64 ((y.2:Nat):Int)] 80)=w6 at*;have HI6:=Ab (HI.out.below HNQ.out hb6);have HU6:=Ab (HU.out.below hb6);generalize wr.heap.size=zs at*;have k0:=Aa 0 hx6;have k1:=Aa 1 hx6;obtain⟨aS,cS',rfl⟩:=HI6.out.o.slice;have hli:(rwG F S0 i).length<=K:=HBD.out i (Nat.le_of_lt hlti);have hBw6:w.heap.size<=w6.heap.size:=Nat.le_trans HI6.out.z (Nat.le_of_lt HI6.out.m.lt);have HNL:Hid (n=(nwG F S0 n i).length):=(Ny (Nat.le_of_lt hlti)).symm
     have HNS:Hid ((nwG F S0 n i).set i (((rwG F S0 i).idxOf y:Nat):Int)=nwG F S0 n (i+1)):=by rw[HY.out];exact Nz hlti
     clear HI HU hb6 c0 c1
     by_cases hmem:y∈rwG F S0 i
     ·have hlk:(Instr.lookup 136 (.map (some zm)) (.agg #[.int .i64 ((y.1:Nat):Int),.int .i64 ((y.2:Nat):Int)]) true).run Tryz.prog w6=.ok (.tuple #[.int .i64 (((rwG F S0 i).idxOf y:Nat):Int),.bool true]) w6:=(HI6.out.m.get HWY.out).1 hmem
      have hSe:rwG F S0 (i+1)=rwG F S0 i:=by
       show Hn (rwG F S0 i) (F i)=_;rw[<-HY.out];exact if_pos hmem
      obtain⟨cv,c9⟩:∃cv,w6.cell? ⟨gR,i,none⟩=some (.int .i64 cv):=⟨_,HI6.out.r.at' HNL.out i (by rw[<-HNL.out];exact hlti)⟩;have f9:=HI6.out.r.fz HNL.out i;have p9:=HI6.out.set HNQ.out (j:=i) (x:=(((rwG F S0 i).idxOf y:Nat):Int)) HNL.out;rw[HNS.out]at p9
      have hu9:=HU6.out.step (W':=w6.setCell ⟨gR,i,none⟩ (.int .i64 (((rwG F S0 i).idxOf y:Nat):Int))) (vS':=.slice aS (rwG F S0 i).length cS') (vT':=u11) (vR':=.slice (some ⟨gR,0,none⟩) n n) (Ag.set _ _ _ (.inr (.inr (.inr rfl)))) fun _ _ e=>e
      have HP9:=Ab p9;have HU9:=Ab hu9;have HSE:=Ab hSe;clear p9 hu9 hSe hmem HI6 HU6;generalize(rwG F S0 i).idxOf y=ix at*;go_wp2
      go_roundg (n-(i+1))
      case measure=>have:=HGI.out;omega
      case rel=>exact⟨i+1,rfl,by go_num,by omega,by rw[HSE.out];exact HP9,HU9⟩
     ·obtain⟨cq,hlk0⟩:=(HI6.out.m.get HWY.out).2 hmem;have hlk:(Instr.lookup 136 (.map (some zm)) (.agg #[.int .i64 ((y.1:Nat):Int),.int .i64 ((y.2:Nat):Int)]) true).run Tryz.prog w6=.ok (.tuple #[.int .i64 cq,.bool false]) w6:=hlk0;obtain⟨w7,hrun0,hm7,hg7⟩:=HI6.out.m.upd HWY.out hmem (by omega);have hrun:(Instr.mapUpdate 136 (.map (some zm)) (.agg #[.int .i64 ((y.1:Nat):Int),.int .i64 ((y.2:Nat):Int)]) (.int .i64 ((rwG F S0 i).length:Int))).run Tryz.prog w6=.ok () w7:=hrun0
      have hSe:rwG F S0 (i+1)=rwG F S0 i++[y]:=by
       show Hn (rwG F S0 i) (F i)=_;rw[<-HY.out];exact if_neg hmem
      have hix:(rwG F S0 i).idxOf y=(rwG F S0 i).length:=Ld hmem;rw[hix]at HNS;have hx7:w7.heap[zs]? =some (.cells #[.int .i64 ((y.1:Nat):Int),.int .i64 ((y.2:Nat):Int)] 80 (0,0)):=(hg7.block _ (ltE hx6) (fun e=>hzx (Option.some.inj e).symm)).trans hx6;have k07:=Aa 0 hx7;have k17:=Aa 1 hx7
      have o67:Ag (fun q=>q=zm) w6 w7:=(Ag.of_grown hg7).mono fun q _ e=>(Option.some.inj e).symm
      have hOQ7:OQ w7 w.heap.size (.slice aS (rwG F S0 i).length cS') (rwG F S0 i):=HI6.out.o.only o67 fun q e k=>HI6.out.a1 (k▸e)
      have HOQ7:=Ab hOQ7;have hBw7:w.heap.size<=w7.heap.size:=Nat.le_trans hBw6 hg7.size;have HSE:=Ab hSe;have HM7:=Ab hm7;have HG7:=Ab hg7;clear hix hSe hmem hlk0 hrun0 hm7 hg7 o67 hOQ7 hx7;generalize hlr:(rwG F S0 i).length=lr at*;have HLR:=Ab hlr;clear hlr
      go_upto_region 19 with(at_builtin;refine SC rfl _ _ y rfl w.heap.size (.slice aS lr cS') (rwG F S0 i) HOQ7.out rfl _ (by simp) rfl (by rw[HLR.out];omega) hBw7 ?_;intro v' w8 ho8 hg8 hm8;obtain⟨aX,cX,hvX⟩:=ho8.slice;rw[List.length_append,List.length_singleton,HLR.out]at hvX;subst hvX;have HQ8:=Ab (HI6.out.num HNQ.out HM7.out HG7.out Ad ho8 hg8 hm8 rfl);have HO8:=Ab (HI6.out.numO HG7.out hg8 hm8);clear ho8 hg8 hm8)
      obtain⟨cv,c9⟩:∃cv,w8.cell? ⟨gR,i,none⟩=some (.int .i64 cv):=⟨_,HQ8.out.r.at' HNL.out i (by rw[<-HNL.out];exact hlti)⟩;have f9:=HQ8.out.r.fz HNL.out i;have p9:=HQ8.out.set HNQ.out (j:=i) (x:=(lr:Int)) HNL.out;rw[HNS.out,<-HSE.out]at p9;have hu8:=HU6.out.step HO8.out.1 HO8.out.2
      have hu9:=hu8.step (W':=w8.setCell ⟨gR,i,none⟩ (.int .i64 (lr:Int))) (vS':=.slice aX (lr+1) cX) (vT':=u11) (vR':=.slice (some ⟨gR,0,none⟩) n n) (Ag.set _ _ _ (.inr (.inr (.inr rfl)))) fun _ _ e=>e
      have HP9:=Ab p9;have HU9:=Ab hu9;clear p9 hu8 hu9 HQ8 HO8 HI6 HU6 HM7 HG7 hlk hrun;go_wp2
      go_roundg (n-(i+1))
      case measure=>have:=HGI.out;omega
      case rel=>exact⟨i+1,rfl,by go_num,by omega,HP9,HU9⟩
    ·have hi1:¬(i:Int)<(n:Int):=by omega
     have HE:Hid (SQ w.heap.size zm J (k+1) (Ue nx s0 (0,0) n (k+1)) (gN nx s0 (0,0) n k) (F4 F S0 n) u9 u11 (.slice (some ⟨gR,0,none⟩) n n) vals H' wr):=by
      have h1:=HI.out;rw[show i=n by omega,Nx,<-HS1.out]at h1;exact h1
     have hlK:(Ue nx s0 (0,0) n (k+1)).length<=K:=by rw[HS1.out];exact HBD.out n leR
     obtain⟨aS,cS',rfl⟩:=HE.out.o.slice
     have tM:¬most<((Ue nx s0 (0,0) n (k+1)).length:Int):=by omega
     obtain⟨aT,cT,hvT⟩:=AU HE.out.t;rw[D4]at hvT;subst hvT;have hBr:w.heap.size<=wr.heap.size:=Nat.le_trans HE.out.z (Nat.le_of_lt HE.out.m.lt)
     have HRL:Hid ((F4 F S0 n).length=n):=by show _=_;simp[F4]
     have HRB:Hid (∀x∈F4 F S0 n,I64 x):=fun x hx=>by
      obtain⟨j,hj,rfl⟩:=List.mem_map.1 hx;have h1:=List.idxOf_le_length (a:=F j) (l:=rwG F S0 j);have h2:=HBD.out j (Nat.le_of_lt (List.mem_range.1 hj));unfold I64;omega
     clear HI HU;generalize hlr:(Ue nx s0 (0,0) n (k+1)).length=lr at*;clear hlr
     go_wp2_with (at_builtin;refine Gk rfl _ _ (.slice (some ⟨gR,0,none⟩) n n) rfl w.heap.size (.slice aT k cT) k vals (by have:=HE.out.t;rwa [D4]at this) rfl _ (by simp) rfl rfl (by omega) hBr ?_;intro v' w8 ho8 hg8 hm8;have HQ8:=Ab (HE.out.app HNQ.out (by rw[HRL.out];omega) HRB.out Ad (by rw[D4];exact ho8) hg8 hm8);clear ho8 hg8 hm8)
     go_roundg (K-(k+1))
     case measure=>have:=HGK.out;omega
     case rel=>exact⟨k+1,_,H',rfl,by go_num,hlt,by rw[HGN.out];exact HQ8⟩
  ·have hlen:=HEN.out.1
   obtain rfl:K=k:=by omega
   obtain⟨aS,cS,rfl⟩:=HQ.out.o.slice
   have hk1:¬(K:Int)<((Ue nx s0 (0,0) n K).length:Int):=by omega
   have HFI:Hid (FS w.heap.size (J K) (gN nx s0 (0,0) n K) (.returned (.tuple #[.slice aS (Ue nx s0 (0,0) n K).length cS,u11,.bool true])) wr):=⟨_,_,H,rfl,HQ.out.j,Nat.le_trans HQ.out.z (Nat.le_of_lt HQ.out.m.lt),HQ.out.is (by rw[D4];omega)⟩;clear hlen HQ;go_wp2;refine bodyPost_ret (v:=.tuple #[.slice aS (Ue nx s0 (0,0) n K).length cS,u11,.bool true]) (by simp[results,Tryz.results50,go_sem]) rfl ?_;exact HFI.out
theorem P9{p:Nat->Prop}(h:∃k,p k):∃k,p k/\∀j,j<k->¬p j:=by
 obtain⟨k,hk⟩:=h
 induction k using Nat.strongRecOn with
 | _ k ih=>
  by_cases h:∃j,j<k/\p j
  ·obtain⟨j,hj,hp⟩:=h;exact ih j hj hp
  ·exact⟨k,hk,fun j hj hp=>h ⟨j,hj,hp⟩⟩
theorem Lh{a b:My}{n N:Nat}(hle:∀k,(∀j,j<k->j<(bfS a b n j).length)->(bfS a b n k).length<=N):∃K,EN a b n K/\K<=N:=by
 have hex:∃k,¬k<(bfS a b n k).length:=by
  refine Classical.byContradiction fun h=> ?_
  have h1:∀k,k<(bfS a b n k).length:=fun k=>Classical.byContradiction fun h2=>h ⟨k,h2⟩
  have h2:=hle (N+1) fun j _=>h1 j
  have h3:=h1 (N+1);omega
 obtain⟨K,h1,h2'⟩:=P9 hex
 have h2:∀j,j<K->j<(bfS a b n j).length:=fun j hj=>Classical.not_not.1 (h2' j hj)
 have h3:=hle K h2
 have hl:K<=(bfS a b n K).length:=by
  rcases Nat.eq_zero_or_pos K with h0|h0
  ·omega
  ·have h4:=h2 (K-1) (by omega);have h5:=(Gn (a:=a) (b:=b) (n:=n) (i:=K-1) (j:=K) (by omega)).length_le;omega
 exact⟨K,⟨by omega,h2⟩,by omega⟩
theorem BK.is{w0 W:World}{pr k:Nat}{ci co:Int}{rows:Nat->List Int}{H:Nat->Prop}{v3:Value}{n3:List Value}(h:BK w0 pr ci co rows k v3 n3 H W)(hk:k<=100000)(hl:∀j,j<k->(rows j).length<=100000/\∀x∈rows j,I64 x):
  ∀W9,Ag (fun q=>q=pr\/q<w0.heap.size) W W9->Ar W9 v3 ((List.range k).map rows):=fun W9 ho=>by
 have hpz:=h.pz
 have h1:=Ax h.own ho fun q e k=>by have:=(World.ownsRow.lt h.own q e).1;omega
 have hln:((List.range k).map rows).length=k:=by simp
 refine⟨fun j=>n3.getD j undef, ?_,fun j hj=> ?_⟩
 ·rw[hln]
  refine Ch h1 (by unfold Bk;omega) _ fun j hj=> ?_
  have:j<n3.length:=by rw[h.ln];exact hj
  rw[Af _ _ _ this];simp[this]
 ·have hj':j<k:=by rw[hln]at hj;exact hj
  have hm:n3.getD j undef∈n3:=by
   have:j<n3.length:=by rw[h.ln];exact hj'
   rw[Af _ _ _ this];exact List.getElem_mem _
  have e:((List.range k).map rows).getD j []=rows j:=by rw[Af _ _ _ hj];simp
  rw[e];exact((h.row j hj').only ho fun q e k=>by have:=(h.mem_lt hm e).1;omega).is (by have:=(hl j hj').1;unfold Bk;omega) (hl j hj').2
theorem OV(w:World)(vl va vb vo:Value)(l:List Sig)(a b:My)(own:List Bool)(hK:BN w)(hl:AH w vl l)(ha:BM w va a)(hb:BM w vb b)(ho:Bj w vo own)(ha50:a.out.length<=50)(hb50:b.out.length<=50):
  Calls Tryz.prog 14 #[vl,va,vb,vo] w (I9 (E2 l a b own).1 (E2 l a b own).2 w):=by
 have hmx:Tryz.prog.follows .mixedOrders=true:=by kernel_rfl
 have HFA:Hid (∀W,Below w.heap.size w W->Calls Tryz.prog 47 #[vl,va] W (Av (.bool (Bm l a)) W)):=fun W h=>J9 W _ _ l a (hK.below h) (hl.below h) (ha.below h)
 have HFB:Hid (∀W,Below w.heap.size w W->Calls Tryz.prog 47 #[vl,vb] W (Av (.bool (Bm l b)) W)):=fun W h=>J9 W _ _ l b (hK.below h) (hl.below h) (hb.below h)
 have HMX:Hid (own.length=l.length->At l=true->∀W,Below w.heap.size w W->Calls Tryz.prog 48 #[vl,vo] W (Et (ET l own) W)):=fun h1 h2 W h=>RK W _ _ l own (hK.below h) (hl.below h) (ho.below h) h1 h2
 obtain⟨v3,v4,rfl,⟨-,-,hI3⟩,i3,i4⟩:=ha;obtain⟨v5,v6,rfl,⟨-,-,hJ3⟩,j3,j4⟩:=hb
 have HI3:Hid (∀W,Below w.heap.size w W->Ar W v3 a.out):=fun W h=>i3.below h
 have HI4:Hid (∀W,Below w.heap.size w W->Ar W v4 a.next):=fun W h=>i4.below h
 have HJ3:Hid (∀W,Below w.heap.size w W->Ar W v5 b.out):=fun W h=>j3.below h
 have HJ4:Hid (∀W,Below w.heap.size w W->Ar W v6 b.next):=fun W h=>j4.below h
 obtain⟨a3,c3,rfl⟩:=i3.shape;obtain⟨a4,c4,rfl⟩:=i4.shape;obtain⟨a5,c5,rfl⟩:=j3.shape;obtain⟨a6,c6,rfl⟩:=j4.shape;obtain⟨sa,sc,rfl⟩:=hl.shape;obtain⟨oa,oc,rfl⟩:=ho.shape;clear hl ho hK i3 i4 j3 j4
 go_enter Tryz.func14,Tryz.ntmps14
 go_upto_region 1 with(fail)
 obtain⟨hx5,-,hB5⟩:=Az (w0:=w) Ad leR #[.int .i64 a.ins,.int .i64 a.outs,.int .i64 a.start,.slice a3 a.out.length c3,.slice a4 a.next.length c4] 25
 have hz5:(w.alloc (.cells #[.int .i64 a.ins,.int .i64 a.outs,.int .i64 a.start,.slice a3 a.out.length c3,.slice a4 a.next.length c4] 25)).heap.size=w.heap.size+1:=by simp
 generalize w.alloc (.cells #[.int .i64 a.ins,.int .i64 a.outs,.int .i64 a.start,.slice a3 a.out.length c3,.slice a4 a.next.length c4] 25)=w1 at*;obtain⟨hx6,-,hB6⟩:=Az (w0:=w) hB5 (by omega) #[.int .i64 b.ins,.int .i64 b.outs,.int .i64 b.start,.slice a5 b.out.length c5,.slice a6 b.next.length c6] 25
 have hz6:(w1.alloc (.cells #[.int .i64 b.ins,.int .i64 b.outs,.int .i64 b.start,.slice a5 b.out.length c5,.slice a6 b.next.length c6] 25)).heap.size=w.heap.size+1+1:=by simp[hz5]
 have hx5':=(Dt w1 (.cells #[.int .i64 b.ins,.int .i64 b.outs,.int .i64 b.start,.slice a5 b.out.length c5,.slice a6 b.next.length c6] 25) (r:=w.heap.size) (by omega)).trans hx5;generalize w1.alloc (.cells #[.int .i64 b.ins,.int .i64 b.outs,.int .i64 b.start,.slice a5 b.out.length c5,.slice a6 b.next.length c6] 25)=w2 at*;obtain⟨hx7,-,hB7⟩:=Az (w0:=w) hB6 (by omega) #[.int .i64 0,.int .i64 0,.int .i64 0,.slice none 0 0,.slice none 0 0] 25
 have hz7:(w2.alloc (.cells #[.int .i64 0,.int .i64 0,.int .i64 0,.slice none 0 0,.slice none 0 0] 25)).heap.size=w.heap.size+1+1+1:=by simp[hz6]
 have hx5:=(Dt w2 (.cells #[.int .i64 0,.int .i64 0,.int .i64 0,.slice none 0 0,.slice none 0 0] 25) (r:=w.heap.size) (by omega)).trans hx5';have hx6:=(Dt w2 (.cells #[.int .i64 0,.int .i64 0,.int .i64 0,.slice none 0 0,.slice none 0 0] 25) (r:=w1.heap.size) (by omega)).trans hx6;generalize w2.alloc (.cells #[.int .i64 0,.int .i64 0,.int .i64 0,.slice none 0 0,.slice none 0 0] 25)=w3 at*;clear hx5' hB5 hB6;rw[hz5]at hx6;rw[hz6]at hx7;have k0:=Aa 0 hx5;have k1:=Aa 1 hx5;have k2:=Aa 2 hx5;have k3:=Aa 3 hx5;have k4:=Aa 4 hx5
 go_wp2_with fail
 refine(HFA.out _ hB7).mono ?_;rintro e w4 ⟨rfl,hb⟩;replace hx5:=(hb.block _ (by omega)).trans hx5;replace hx6:=(hb.block _ (by omega)).trans hx6;replace hx7:=(hb.block _ (by omega)).trans hx7;replace hB7:=hB7.trans (hb.mono hB7.size)
 have hz4:w.heap.size+1+1+1<=w4.heap.size:=by have:=hb.size;omega
 clear hb hz7 k0 k1 k2 k3 k4 hz5 hz6;have q0:=Aa 0 hx7;have q1:=Aa 1 hx7;have q2:=Aa 2 hx7;have q3:=Aa 3 hx7;have q4:=Aa 4 hx7;have f0:=Ay 0 hx7;have f1:=Ay 1 hx7;have f2:=Ay 2 hx7;have f3:=Ay 3 hx7;have f4:=Ay 4 hx7;have u0:=Aa 0 hx6;have u1:=Aa 1 hx6;have u2:=Aa 2 hx6;have u3:=Aa 3 hx6;have u4:=Aa 4 hx6
 cases hfa:Bm l a with
 |false=>
  have HE:Hid (E2 l a b own=(GK,1)):=if_neg (by rw[hfa];simp);go_wp2;rw[HE.out];have hc5:=Ee (a:=.int .i64 0) (b:=.int .i64 0) (c:=.int .i64 0) (d:=.slice none 0 0) (e:=.slice none 0 0) hx7;have cc0:=Aa 0 hc5;have cc1:=Aa 1 hc5;have cc2:=Aa 2 hc5;have cc3:=Aa 3 hc5;have cc4:=Aa 4 hc5;refine bodyPost_ret (v:=.tuple #[.agg #[.int .i64 0,.int .i64 0,.int .i64 0,.slice none 0 0,.slice none 0 0],.int .i64 1]) (by simp[results,Tryz.results14,go_sem,cc0,cc1,cc2,cc3,cc4]) rfl ?_;exact Gr hB7 (by omega) (fun W' _=>GL W')
 |true=>
 go_wp2_with fail
 refine(HFB.out _ hB7).mono ?_;rintro e w5 ⟨rfl,hb⟩;replace hx5:=(hb.block _ (by omega)).trans hx5;replace hx6:=(hb.block _ (by omega)).trans hx6;replace hx7:=(hb.block _ (by omega)).trans hx7;replace hB7:=hB7.trans (hb.mono hB7.size)
 replace hz4:w.heap.size+1+1+1<=w5.heap.size:=by have:=hb.size;omega
 clear hb q0 q1 q2 q3 q4 f0 f1 f2 f3 f4 u0 u1 u2 u3 u4;have q0:=Aa 0 hx7;have q1:=Aa 1 hx7;have q2:=Aa 2 hx7;have q3:=Aa 3 hx7;have q4:=Aa 4 hx7;have f0:=Ay 0 hx7;have f1:=Ay 1 hx7;have f2:=Ay 2 hx7;have f3:=Ay 3 hx7;have f4:=Ay 4 hx7
 cases hfb:Bm l b with
 |false=>
  have HE:Hid (E2 l a b own=(GK,1)):=if_neg (by rw[hfb];simp);go_wp2;rw[HE.out];have hc5:=Ee (a:=.int .i64 0) (b:=.int .i64 0) (c:=.int .i64 0) (d:=.slice none 0 0) (e:=.slice none 0 0) hx7;have cc0:=Aa 0 hc5;have cc1:=Aa 1 hc5;have cc2:=Aa 2 hc5;have cc3:=Aa 3 hc5;have cc4:=Aa 4 hc5;refine bodyPost_ret (v:=.tuple #[.agg #[.int .i64 0,.int .i64 0,.int .i64 0,.slice none 0 0,.slice none 0 0],.int .i64 1]) (by simp[results,Tryz.results14,go_sem,cc0,cc1,cc2,cc3,cc4]) rfl ?_;exact Gr hB7 (by omega) (fun W' _=>GL W')
 |true=>
 by_cases hol:own.length=l.length
 case neg=>
  have HE:Hid (E2 l a b own=(GK,1)):=if_neg (fun h=>hol h.2.2)
  have tA:((own.length:Int) !=(l.length:Int))=true:=by simp;omega
  go_wp2;rw[HE.out];have hc5:=Ee (a:=.int .i64 0) (b:=.int .i64 0) (c:=.int .i64 0) (d:=.slice none 0 0) (e:=.slice none 0 0) hx7;have cc0:=Aa 0 hc5;have cc1:=Aa 1 hc5;have cc2:=Aa 2 hc5;have cc3:=Aa 3 hc5;have cc4:=Aa 4 hc5;refine bodyPost_ret (v:=.tuple #[.agg #[.int .i64 0,.int .i64 0,.int .i64 0,.slice none 0 0,.slice none 0 0],.int .i64 1]) (by simp[results,Tryz.results14,go_sem,cc0,cc1,cc2,cc3,cc4]) rfl ?_;exact Gr hB7 (by omega) (fun W' _=>GL W')
 have HE:Hid (E2 l a b own=(KT l own a b,0)):=if_pos ⟨hfa,hfb,hol⟩
 have tA:((own.length:Int) !=(l.length:Int))=false:=by simp[hol]
 obtain⟨hvs,hma,hia,hoa⟩:=AN.1 hfa;obtain⟨-,hmb,hib,hob⟩:=AN.1 hfb;have HMA:=Ab hma;have HMB:=Ab hmb;have HMIX:=Ab (HMX.out hol hvs);have hab:b.ins=a.ins:=hib.trans hia.symm;have HAB:=Ab hab;have HOA:=Ab hoa;have HOB:=Ab hob;have HVS:=Ab hvs;have hn1:=hma.i1;have hn2:=hma.i2;have ho2:=hma.o2;have ho1:=hma.o1;have hsa0:=hma.s0;have hsa1:=hma.s1;have hsb0:=hmb.s0;have hsb1:=hmb.s1;obtain⟨n,hn⟩:∃n:Nat,a.ins=(n:Int):=⟨a.ins.toNat,by omega⟩
 have hnn:a.ins.toNat=n:=by omega
 have HN:=Ab hn
 have hn64:n<=64:=by omega
 have HEB:Hid (∀K,EN a b n K->KT l own a b=⟨(n:Int),a.outs,0,Qo l own a b n K,bfN a b n K⟩):=fun K h=>by
  rw[Ig (by rw[hnn];exact h)];unfold By;rw[hnn,hn];rfl
 have HOK:Hid (∀k,(∀j,j<k->j<(bfS a b n j).length)->∀x∈bfS a b n k,okP a b x):=Ml hma hmb hab (by omega)
 have HLE:∀k,(∀j,j<k->j<(bfS a b n j).length)->(bfS a b n k).length<=2500:=fun k h=>by
  have:=JA (Mk k) (HOK.out k h);have h2:a.out.length*b.out.length<=50*50:=Nat.mul_le_mul ha50 hb50;omega
 obtain⟨K,hend,hK25⟩:=Lh HLE;have HEN:=Ab hend
 have HS0:Hid (prV (a.start.toNat,b.start.toNat)=.agg #[.int .i64 a.start,.int .i64 b.start]):=by
  show Value.agg #[.int .i64 ((a.start.toNat:Nat):Int),.int .i64 ((b.start.toNat:Nat):Int)]=_;rw[show((a.start.toNat:Nat):Int)=a.start by omega,show((b.start.toNat:Nat):Int)=b.start by omega]
 rw[hn]at hx5;have k0:=Aa 0 hx5;have k1:=Aa 1 hx5
 have HX5:Hid (∀W,Below w5.heap.size w5 W->W.heap[w.heap.size]? =some (.cells #[.int .i64 (n:Int),.int .i64 a.outs,.int .i64 a.start,.slice a3 a.out.length c3,.slice a4 a.next.length c4] 25 (0,0))):=fun W h=>(h.block _ (by omega)).trans hx5
 have HX6:Hid (∀W,Below w5.heap.size w5 W->W.heap[w.heap.size+1]? =some (.cells #[.int .i64 b.ins,.int .i64 b.outs,.int .i64 b.start,.slice a5 b.out.length c5,.slice a6 b.next.length c6] 25 (0,0))):=fun W h=>(h.block _ (by omega)).trans hx6
 have HX7:Hid (∀W,Below w5.heap.size w5 W->W.heap[w.heap.size+1+1]? =some (.cells #[.int .i64 0,.int .i64 0,.int .i64 0,.slice none 0 0,.slice none 0 0] 25 (0,0))):=fun W h=>(h.block _ (by omega)).trans hx7
 have HB7:Hid (∀W,Below w5.heap.size w5 W->Below w.heap.size w W):=fun W h=>hB7.trans (h.mono hB7.size)
 have HMX5:=Ab (HMIX.out _ hB7);clear hx5 hx6 hx7 hB7 hfa hfb hol hvs hma hmb hia hoa hib hob HFA HFB HMX HMIX q0 q1 q2 q3 q4 f0 f1 f2 f3 f4 hn hnn hab hend HLE hI3 hJ3 k0 k1
 go_wp2_with fail
 refine HMX5.out.mono ?_;rintro e w6 ⟨vm,rfl,him,hb6⟩;have HIM:=Ab him;have HB6:=Ab hb6;have k0:=Aa 0 (HX5.out _ hb6);have k1:=Aa 1 (HX5.out _ hb6);have k2:=Aa 2 (HX5.out _ hb6);have u2:=Aa 2 (HX6.out _ hb6)
 have hz6:w.heap.size+1+1+1<=w6.heap.size:=by have:=hb6.size;omega
 obtain⟨am,cm,rfl⟩:=him.shape;clear him HMX5
 go_upto_region 4 with(fail)
 obtain⟨hx8,hb8,-⟩:=Az (w0:=w6) (B:=w6.heap.size) Ad leR #[.slice am (ET l own).length cm] 23
 have hs8:(w6.alloc (.cells #[.slice am (ET l own).length cm] 23)).heap.size=w6.heap.size+1:=by simp
 generalize w6.alloc (.cells #[.slice am (ET l own).length cm] 23)=w8 at*;replace k0:=Ah hb8 k0;replace k1:=Ah hb8 k1
 go_upto_region 5 with(fail)
 obtain⟨hx9,hb9,-⟩:=Az (w0:=w8) (B:=w8.heap.size) Ad leR #[.int .i64 (n:Int),.int .i64 a.outs,.int .i64 0,.slice none 0 0,.slice none 0 0] 25
 have hs9:(w8.alloc (.cells #[.int .i64 (n:Int),.int .i64 a.outs,.int .i64 0,.slice none 0 0,.slice none 0 0] 25)).heap.size=w8.heap.size+1:=by simp
 generalize w8.alloc (.cells #[.int .i64 (n:Int),.int .i64 a.outs,.int .i64 0,.slice none 0 0,.slice none 0 0] 25)=w9 at*;replace k2:=Ah hb9 (Ah hb8 k2);replace u2:=Ah hb9 (Ah hb8 u2);clear k0 k1 hb6;have HB69:Hid (Below w6.heap.size w6 w9):=hb8.trans (hb9.mono (by omega));have HX8:Hid (w9.heap[w6.heap.size]? =some (.cells #[.slice am (ET l own).length cm] 23 (0,0))):=(hb9.block _ (by omega)).trans hx8;have HX9:=Ab hx9;clear hx8 hb8 hx9 hb9;obtain⟨pm,hpm⟩:∃pm,pm=w6.heap.size:=⟨_,rfl⟩;rw[<-hpm]at hz6 hs8 HX8⊢;rw[hs8]at hs9 HX9;obtain⟨pr,hpr⟩:∃pr,pr=pm+1:=⟨_,rfl⟩;rw[<-hpr]at hs9 HX9⊢
 have hpmr:pm<pr:=by omega
 have HPM:=Ab hpm;clear hpm hpr hs8
 have HRD:Hid (∀W,Ag (fun q=>w9.heap.size<=q\/q=pr) w9 W->BR W w.heap.size pm (w.heap.size+1) l own a b):=fun W ho=>by
  have hBm:Below w6.heap.size w6 W:=HB69.out.trans (ho.below _ (fun q e=>by have:=HPM.out;omega) (by have:=HPM.out;omega));have hB5:Below w5.heap.size w5 W:=HB6.out.trans (hBm.mono HB6.out.size);refine⟨⟨_,_,by rw[HN.out];exact HX5.out W hB5,HI3.out W (HB7.out W hB5),HI4.out W (HB7.out W hB5)⟩,⟨_,(ho.block pm (by omega) (by omega)).trans HX8.out,HIM.out.below hBm⟩,⟨_,_,HX6.out W hB5,HJ3.out W (HB7.out W hB5),HJ4.out W (HB7.out W hB5)⟩⟩
 have hGE:=HEN.out.g
 have hNQ:Ge w9.heap.size 49 #[.pointer (some ⟨w.heap.size,0,none⟩),.pointer (some ⟨pm,0,none⟩),.pointer (some ⟨w.heap.size+1,0,none⟩),.pointer (some ⟨pr,0,none⟩)] n K (gP (nxP a b) (a.start.toNat,b.start.toNat) (0,0) n) (nxP a b) (BJ w9 pr (n:Int) a.outs fun k=>Hr l own a b n (bfP a b n k)):=by
  refine⟨fun k H W ⟨v3,n3,h⟩=>h.lt,fun k H W W' ⟨v3,n3,h⟩ ho=>⟨v3,n3,h.keep ho⟩,fun k H W hj hBW hk=> ?_⟩
  have ho:Ag (fun q=>w9.heap.size<=q\/q=pr) w9 W:=by obtain⟨v3,n3,h⟩:=hj;exact h.on
  have hkl:k<(bfS a b n k).length:=HEN.out.2 k hk
  have hp:okP a b (bfP a b n k):=by
   show okP a b ((bfS a b n k).getD k (0,0));rw[Af _ _ _ hkl];exact HOK.out k (fun j hj=>HEN.out.2 j (by omega)) _ (List.getElem_mem _)
  have h1:=QT W w9 w.heap.size pm (w.heap.size+1) pr l own a b n (bfP a b n k) k (fun k=>Hr l own a b n (bfP a b n k)) H (HRD.out W ho) hj HMA.out HMB.out HAB.out HN.out HOA.out HOB.out hp rfl (by omega) HVS.out;rw[<-Pu];exact h1
 have hWF:∀k,k<=K->∀x∈Ue (nxP a b) (a.start.toNat,b.start.toNat) (0,0) n k,WfQ x:=fun k hk x hx=>by
  rw[<-If]at hx;have h1:=HOK.out k (fun j hj=>HEN.out.2 j (by omega)) x hx;exact⟨by have:=h1.1;omega,by have:=h1.2;omega⟩
 have HSR:Hid (Calls Tryz.prog 50 #[.agg #[.int .i64 a.start,.int .i64 b.start],.int .i64 3000,.func (.func 49) #[] #[.pointer (some ⟨w.heap.size,0,none⟩),.pointer (some ⟨pm,0,none⟩),.pointer (some ⟨w.heap.size+1,0,none⟩),.pointer (some ⟨pr,0,none⟩)]] w9 (FS w9.heap.size (BJ w9 pr (n:Int) a.outs (fun k=>Hr l own a b n (bfP a b n k)) K) (bfN a b n K))):=by
  have h1:=OJ w9 49 _ (enters_of Tryz.func49 (by kernel_rfl) rfl) (nxP a b) (a.start.toNat,b.start.toNat) n K 3000 _ _ hNQ hGE (by omega) (by omega) (by omega) hWF (BK.start HX9.out);rw[HS0.out,<-SE]at h1;exact h1
 clear hGE hNQ hWF HRD
 go_wp2_with fail
 refine HSR.out.mono ?_;rintro e w10 ⟨vS,vT,H,rfl,⟨v3,n3,hBK⟩,hBz,hT⟩;have HBK:=Ab hBK;have HT:=Ab hT;have z0:=Aa 0 hBK.box;have z1:=Aa 1 hBK.box;have z2:=Aa 2 hBK.box;have z3:=Aa 3 hBK.box;have z4:=Aa 4 hBK.box;have zf:=Ay 4 hBK.box;obtain⟨aT,cT,hvT⟩:=(hT w10 (Ag.refl _ _)).shape;obtain⟨a7,c7,e7⟩:=AU hBK.own;subst hvT e7;have hbx:=heap_setCell_same _ _ 4 _ _ (.slice aT (bfN a b n K).length cT) hBK.box;have HBX:=Ab hbx;have HWB:Hid (Below w5.heap.size w5 w10):=(HB6.out.trans (HB69.out.mono HB6.out.size)).trans (hBK.on.below _ (fun q e=>by have:=HB6.out.size;have:=HPM.out;omega) (by have:=HB6.out.size;have:=HPM.out;omega));have hx7:=HX7.out _ HWB.out;have hpz:=hBK.pz;have hx7':(w10.setCell ⟨pr,4,none⟩ (.slice aT (bfN a b n K).length cT)).heap[w.heap.size+1+1]? =some (.cells #[.int .i64 0,.int .i64 0,.int .i64 0,.slice none 0 0,.slice none 0 0] 25 (0,0)):=(heap_setCell_other _ _ _ _ (by simp;omega)).trans hx7;have HX7':=Ab hx7';have HBR:Hid (Below w.heap.size w (w10.setCell ⟨pr,4,none⟩ (.slice aT (bfN a b n K).length cT))):=(HB7.out _ HWB.out).trans ((Ag.set (S:=fun q=>q=pr) pr 4 _ rfl).below _ (fun q e=>by omega) (by have:=(HB7.out _ HWB.out).size;omega))
 have HIS:Hid (∀W',Ag (fun q=>q=w.heap.size+1+1) (w10.setCell ⟨pr,4,none⟩ (.slice aT (bfN a b n K).length cT)) W'->BM W' (.agg #[.int .i64 (n:Int),.int .i64 a.outs,.int .i64 0,.slice a7 K c7,.slice aT (bfN a b n K).length cT]) ⟨(n:Int),a.outs,0,Qo l own a b n K,bfN a b n K⟩):=fun W' hW=>by
  have h1:Ag (fun q=>q=pr\/q<w9.heap.size) w10 W':=((Ag.set (S:=fun q=>q=pr\/q<w9.heap.size) pr 4 (.slice aT (bfN a b n K).length cT) (.inl rfl))).trans (hW.mono fun q _ e=>.inr (by omega));refine⟨_,_,rfl,⟨by show I64 (n:Int);unfold I64;omega,by show I64 a.outs;unfold I64;omega,by show I64 0;unfold I64;omega⟩, ?_,HT.out W' (h1.mono fun q _ e=> ?_)⟩
  ·refine HBK.out.is (by omega) (fun j _=>⟨by show(Hr l own a b n (bfP a b n j)).length<=100000;simp[Hr];omega,fun x hx=> ?_⟩) W' h1;obtain⟨y,-,rfl⟩:=List.mem_map.1 hx;have:=Kg HVS.out own (Bg a (bfP a b n j).1 y) (Bg b (bfP a b n j).2 y);have h2:=HOA.out;unfold I64;omega
  ·rcases e with e|e
   ·exact .inr ((HBK.out.hH q).2 (.inl e))
   ·exact .inl e
 have q0:=Aa 0 hx7';have q1:=Aa 1 hx7';have q2:=Aa 2 hx7';have q3:=Aa 3 hx7';have q4:=Aa 4 hx7';have f0:=Ay 0 hx7';have f1:=Ay 1 hx7';have f2:=Ay 2 hx7';have f3:=Ay 3 hx7';have f4:=Ay 4 hx7';have r0:=Aa 0 hbx;have r1:=Aa 1 hbx;have r2:=Aa 2 hbx;have r3:=Aa 3 hbx;have r4:=Aa 4 hbx
 have HE2:Hid (E2 l a b own=(⟨(n:Int),a.outs,0,Qo l own a b n K,bfN a b n K⟩,0)):=by show _=_;rw[HE.out,HEB.out K HEN.out]
 clear hBK hT hbx hx7 hx7' k2 u2;generalize(bfN a b n K).length=k4 at*
 go_upto_region 10 with(fail)
 clear z0 z1 z2 z3 z4 zf;generalize w10.setCell ⟨pr,4,none⟩ (.slice aT k4 cT)=w11 at*;go_wp2;have hc5:=Ee (a:=.int .i64 (n:Int)) (b:=.int .i64 a.outs) (c:=.int .i64 0) (d:=.slice a7 K c7) (e:=.slice aT k4 cT) HX7'.out;have cc0:=Aa 0 hc5;have cc1:=Aa 1 hc5;have cc2:=Aa 2 hc5;have cc3:=Aa 3 hc5;have cc4:=Aa 4 hc5;refine bodyPost_ret (v:=.tuple #[.agg #[.int .i64 (n:Int),.int .i64 a.outs,.int .i64 0,.slice a7 K c7,.slice aT k4 cT],.int .i64 0]) (by simp[results,Tryz.results14,go_sem,cc0,cc1,cc2,cc3,cc4]) rfl ?_;rw[HE2.out];exact Gr HBR.out (by omega) (fun W' h=>HIS.out W' h)
def Tx(a:Au)(l:List Sig)(most:Int):Bool:= !At l|| !AF a||(a.letters !=AC l)||decide (most<1)||decide (3000<most)
def J5(a:Au)(l:List Sig)(most:Int):Gm×List T4×Int:=
 if Tx a l most then(⟨[],[],[]⟩,[],1)else match FT a l most.toNat with|some pls=>(CQ (AZ a (Aq l)) (AT a) pls pls.length,pls,0)|none=>(⟨[],[],[]⟩,[],2)
def GPE(r:Gm×List T4×Int)(w:World)(e:Ending)(w':World):Prop:=∃vg vp,e=.returned (.tuple #[vg,vp,.int .i64 r.2.2])/\Cn w' vg r.1/\Ct w' vp r.2.1/\Below w.heap.size w w'
theorem PM(w:World):Cn w (.agg #[.slice none 0 0,.slice none 0 0,.slice none 0 0]) ⟨[],[],[]⟩:=⟨_,_,_,rfl,Eh w,Eh w,Qz w⟩
theorem L7(w:World)(vl va:Value)(l:List Sig)(a:Au)(m:Nat)(hK:BN w)(hl:AH w vl l)(ha:Cm w va a)(h0:At l=true)(h1:AF a=true)(h2:(a.letters !=AC l)=false)(h3:decide ((m:Int)<1)=false)(h4:decide (3000<(m:Int))=false):
  Calls Tryz.prog 37 #[vl,va,.int .i64 m] w (GPE (J5 a l m) w):=by
 have h5:=of_decide_eq_false h3
 refine(OW w vl va l a m hK hl ha h0 h1 h2 h3 h4).mono fun e w' h=> ?_
 unfold J5;rw[if_neg (by simp[Tx,h0,h1,h2,h3,h4]),Int.toNat_natCast];unfold Gc at h
 split at h
 ·obtain⟨vg,vp,he,hg,hp,hb⟩:=h;rename_i pls hp';rw[hp'];exact⟨vg,vp,he,hg,hp,hb⟩
 ·rename_i hp';rw[hp'];exact⟨_,_,h.1,PM _,NR _,h.2⟩
end Go.Proofs.YtncjeamdkjcebaaGreatDoor
