/- What mealy.search computes, for states that are numbers. -/
import Derived.Test.YtncjeamdkjcebaaGreatDoorZMyX2
set_option linter.all false
set_option maxHeartbeats 8000000
set_option maxRecDepth 100000
namespace Go.Proofs.YtncjeamdkjcebaaGreatDoor
open Go.RowKit
def Gf(B:Nat)(J:(Nat->Prop)->World->Prop)(rows:List (List Int))(e:Ending)(W':World):Prop:=∃vS vT H,e=.returned (.tuple #[vS,vT,.bool true])/\J H W'/\B<=W'.heap.size/\∀W9,Ag (fun q=>q<B\/H q) W' W9->Ar W9 vT rows
section
variable {B zm:Nat} {f:Nat} {lb:Array Value} {n K:Nat} {st:Nat->Int} {nx:Int->Nat->Int} {J:Nat->(Nat->Prop)->World->Prop} {k:Nat} {S:List Int} {tR:List (List Int)} {R:List Int} {vS vT vR v' vU vS' vT' vR':Value} {vals:List Value} {H:Nat->Prop} {W W' W3:World} {U:List Int}
theorem SZ.numO(_:SZ B zm J k S tR R vS vT vR vals H W)(hg:W.grownBy W' (some zm))(hg2:W'.grownBy W3 vS.ownBlock)(hm2:A7 W' vS v'):Ag (Bo zm vS vT vR) W W3/\∀q,q<W.heap.size->Bo zm v' vT vR q->Bo zm vS vT vR q:=by
 have o1:Ag (Bo zm vS vT vR) W W':=(Ag.of_grown hg).mono fun q _ e=>.inl (Option.some.inj e).symm
 have o3:Ag (Bo zm vS vT vR) W' W3:=(Ag.of_grown hg2).mono fun q _ e=>.inr (.inl e)
 refine⟨o1.trans o3, ?_⟩;rintro q hq (e|e|e|e)
 ·exact .inl e
 ·rcases hm2 q e with k|k
  ·exact .inr (.inl k)
  ·have:=o1.size;omega
 ·exact .inr (.inr (.inl e))
 ·exact .inr (.inr (.inr e))
theorem SZ.is(h:SZ B zm J k S tR R vS vT vR vals H W)(hl:tR.length<=100000):∀W9,Ag (fun q=>q<B\/H q) W W9->Ar W9 vT tR:=fun W9 ho=>by
 have h1:=Ax h.t ho fun q e k=>by
  rcases k with k|k
  ·have:=(World.ownsRow.lt h.t q e).1;omega
  ·exact h.h q k (.inr (.inr (.inl e)))
 exact(h.kr.move (S1:=fun _=>False) (ho.mono fun q _ e=>e.elim .inl fun k=>.inr (.inr k)) fun _ _ e=>e.elim).is h1 hl
structure UZ(B zm:Nat)(vS vT vR vU:Value)(U:List Int)(W:World):Prop where
 o:OI W B vU U
 d:∀q,vU.ownBlock=some q->¬Bo zm vS vT vR q
theorem UZ.step(h:UZ B zm vS vT vR vU U W)(ho:Ag (Bo zm vS vT vR) W W')(hi:∀q,q<W.heap.size->Bo zm vS' vT' vR' q->Bo zm vS vT vR q):UZ B zm vS' vT' vR' vU U W':=
 ⟨h.o.only ho fun q e k=>h.d q e k,fun q e k=>h.d q e (hi q (h.o.lt' q e) k)⟩
theorem UZ.below(h:UZ B zm vS vT vR vU U W)(hb:Below W.heap.size W W'):UZ B zm vS vT vR vU U W':=h.step (Ag.of_below hb) fun _ _ e=>e
end
theorem JJ(w:World)(f:Nat)(lb:Array Value)(HE:∀args W,(callFunc f args).run Tryz.prog W=.ok (.enter f args) W)(nx:Int->Nat->Int)(s0:Int)(n K:Nat)(most:Int)(J:Nat->(Nat->Prop)->World->Prop)(H0:Nat->Prop)
  (hn:FC w.heap.size f lb n K (gP nx s0 0 n) nx J) (hend:JQ nx s0 0 n K) (hK:K<=3000) (hmost:(K:Int)<=most) (hn1:n<=1000) (hw:∀k,k<=K->∀x∈Ue nx s0 0 n k,I64 x) (hj:J 0 H0 w):
  Calls Tryz.prog 82 #[.int .i64 s0,.int .i64 most,.func (.func f) #[] lb] w (Gf w.heap.size (J K) (gN nx s0 0 n K)):=by
 have HNQ:=Ab hn;have HEN:=Ab hend;have HW:=Ab hw;have hw0:I64 s0:=hw 0 (Nat.zero_le _) s0 (by simp[Ue]);have HW0:=Ab hw0;have HJ0:=Ab hj;clear hn hend hw hj hw0;have HMM:=@run_makeMap Tryz.prog;obtain⟨B,hB⟩:∃B,B=w.heap.size:=⟨_,rfl⟩;have HB:=Ab hB
 go_enter Tryz.func82,Tryz.ntmps82
 go_upto_region 2 with(fail)
 have hQ1:OI (w.alloc (.cells #[.int .i64 s0] 3)) w.heap.size (.slice (some ⟨w.heap.size,0,none⟩) 1 1) [s0]:=Ss w s0;obtain⟨hx1,hb1,-⟩:=Az (w0:=w) (B:=w.heap.size) Ad leR #[.int .i64 s0] 3
 have hs2:(w.alloc (.cells #[.int .i64 s0] 3)).heap.size=w.heap.size+1:=by simp
 generalize w.alloc (.cells #[.int .i64 s0] 3)=w2 at*;have hM3:=Da.made w2;have hb2:Below w2.heap.size w2 (w2.alloc (.map #[] 0)):=Ao _
 have hs3:(w2.alloc (.map #[] 0)).heap.size=w2.heap.size+1:=by simp
 obtain⟨w4,hrun,hM4,hg4⟩:=hM3.upd HW0.out (by simp) (by simp);have hrun':(Instr.mapUpdate 134 (.map (some w2.heap.size)) (.int .i64 s0) (.int .i64 0)).run Tryz.prog (w2.alloc (.map #[] 0))=.ok () w4:=hrun
 have hQ4:OI w4 w.heap.size (.slice (some ⟨w.heap.size,0,none⟩) 1 1) [s0]:=by
  refine((hQ1.base (by omega):OI w2 w.heap.size _ _).only (S:=fun _=>False) (Ag.of_below hb2) fun _ _ e=>e).only (Ag.of_grown hg4) fun q e k=> ?_
  have e:w.heap.size=q:=Option.some.inj e;have k:w2.heap.size=q:=Option.some.inj k;omega
 have hbl4:Below w.heap.size w w4:=(hb1.trans (hb2.mono (by omega))).grown hg4 (by omega) (fun q e=>by have e:w2.heap.size=q:=Option.some.inj e;omega)
 have hSZ:SZ w.heap.size w2.heap.size J 0 (Ue nx s0 0 n 0) (gN nx s0 0 n 0) [] (.slice (some ⟨w.heap.size,0,none⟩) 1 1) (.slice none 0 0) (.slice none 0 0) [] H0 w4:=by
  refine⟨HNQ.out.keep _ _ _ _ HJ0.out (Ag.of_below hbl4),by omega,hQ4,hM4,World.ownsRow_nil _ _ _ _,BC _ _,KR.nil _ _, ?_,(fun e=>by cases e),(fun e=>by cases e),Cz _,Cz _,GW _,fun q e k=> ?_⟩
  ·simp[Value.ownBlock];omega
  ·have:=HNQ.out.lt _ _ _ HJ0.out q e
   rcases k with k|k|k|k
   ·omega
   ·have k:w.heap.size=q:=Option.some.inj k;omega
   ·cases k
   ·cases k
 have HSZ:=Ab hSZ;clear hQ1 hx1 hM3 hM4 hg4 hrun hQ4 hbl4 hSZ hb1 hb2 hs2 hs3
 go_upto_region 3 with(fail)
 clear hrun';generalize w2.heap.size=zm at*;have HLN:Hid ((Ue nx s0 0 n 0).length=1):=rfl
 go_wp2_with fail
 go_loopg [9,11,12] K (fun gh sv tv kv wr=>∃(k:Nat)(vals:List Value)(H:Nat->Prop),gh=K-k/\kv=.int .i64 (k:Int)/\k<=K/\Hid (SZ w.heap.size zm J k (Ue nx s0 0 n k) (gN nx s0 0 n k) [] sv tv (.slice none 0 0) vals H wr))
 case atStart=>exact⟨0,_,_,rfl,rfl,Nat.zero_le _,HSZ⟩
 case round=>
  clear HSZ HLN;obtain⟨k,vals,H,hgk,rfl,hk,HQ⟩:=hrel;have HGK:=Ab hgk;clear hgk
  by_cases hlt:k<K
  ·have hkl:=HEN.out.2 k hlt;obtain⟨g,cS,hvS,-,-⟩:=HQ.out.o.row (by omega);subst hvS;have hlb:=Gv (i:=0) HEN.out hlt (Nat.zero_le _);have hcc:=HQ.out.o.at' rfl k hkl;have hgp:(Ue nx s0 0 n k)[k]=gP nx s0 0 n k:=(Af _ _ _ hkl).symm;rw[hgp]at hcc;have c0:=hcc;clear hcc
   have hk0:(0:Int)<=(k:Int):=by omega
   have hk1:(k:Int)<((Ue nx s0 0 n k).length:Int):=by omega
   have hBw:w.heap.size<=wr.heap.size:=Nat.le_trans HQ.out.z (Nat.le_of_lt HQ.out.m.lt);have HCA:=Ab (HNQ.out.call k H wr HQ.out.j hBw hlt);clear hgp
   go_wp2_with fail
   refine HCA.out.mono ?_;rintro e w5 ⟨v,H',rfl,hoq,hnh,hj5,ho5,hH5⟩;have HQ5:=Ab (HQ.out.asked hj5 ho5 hH5);obtain⟨aU,cU,hvU⟩:=hoq.slice;rw[show((List.range n).map (nx (gP nx s0 0 n k))).length=n by simp]at hvU;have hsz5:=ho5.size
   have HU5:Hid (UZ w.heap.size zm (.slice (some ⟨g,0,none⟩) (Ue nx s0 0 n k).length cS) u11 (.slice none 0 0) v ((List.range n).map (nx (gP nx s0 0 n k))) w5):=⟨hoq.base hBw,fun q e h=>by
    have h1:=hoq.ge q e;have h2:=(HQ.out.hlt q h).2
    omega⟩
   subst hvU
   have hBw5:w.heap.size<=w5.heap.size:=by omega
   clear hoq hnh hj5 ho5 hH5 HCA c0;obtain⟨F,hF⟩:∃F,F=nx (gP nx s0 0 n k):=⟨_,rfl⟩;obtain⟨S0,hS0⟩:∃S0,S0=Ue nx s0 0 n k:=⟨_,rfl⟩
   have HS1:Hid (Ue nx s0 0 n (k+1)=rwG F S0 n):=by rw[hF,hS0];rfl
   have HGN:Hid (gN nx s0 0 n (k+1)=gN nx s0 0 n k++[F4 F S0 n]):=by rw[hF,hS0];exact Ni
   have HBD:Hid (∀i,i<=n->(rwG F S0 i).length<=K):=fun i hi=>by rw[hF,hS0];exact Gv HEN.out hlt hi
   have HWQ:Hid (∀i,i<=n->∀x∈rwG F S0 i,I64 x):=fun i hi x hx=>by
    have h1:=(H6 (f:=F) (S:=S0) hi).subset hx;rw[<-HS1.out]at h1;exact HW.out (k+1) hlt x h1
   rw[<-hF]at HU5;rw[<-hS0]at HQ5 HU5;rw[<-hS0]at hk1 hkl hlb⊢;rw[<-hF]at hlb;clear hF hS0 HQ hlb
   go_upto_region 11 with(at_make;refine FY rfl _ _ _ Tryz.underlying26 rfl w.heap.size (n:Int) n rfl rfl rfl (by omega) hBw5 ?_;intro w6 hown hgr;have HQ6:=Ab (HQ5.out.row HNQ.out hown hgr))
   have HU6:Hid (UZ w.heap.size zm (.slice (some ⟨g,0,none⟩) S0.length cS) u11 (.slice (some ⟨w5.heap.size,0,none⟩) n n) (.slice aU n cU) ((List.range n).map F) w6):=by
    refine HU5.out.step (Ag.of_below (Ad.grown hgr leR (fun k hk=>by cases hk))) ?_;rintro q hq (e|e|e|e)
    ·exact .inl e
    ·exact .inr (.inl e)
    ·exact .inr (.inr (.inl e))
    ·have e:w5.heap.size=q:=Option.some.inj e;omega
   clear hown hgr
   have HQ7:Hid (SZ w.heap.size zm J (k+1) (rwG F S0 0) (gN nx s0 0 n k) (nwG F S0 n 0) (.slice (some ⟨g,0,none⟩) S0.length cS) u11 (.slice (some ⟨w5.heap.size,0,none⟩) n n) vals H' w6):=by
    rw[Lw];exact HQ6.out
   clear HQ5 HU5 HQ6 hBw5 hsz5;generalize w5.heap.size=gR at*;have HS0:=Ab (rfl:rwG F S0 0=S0);have hlS0:S0.length<=K:=HBD.out 0 (Nat.zero_le _);have HLS:=Ab hlS0;clear hk1 hkl hlS0;generalize S0.length=ls at*
   go_wp2_with fail
   go_loopg [9,47] n (fun gh sv iv wx=>∃(i:Nat),gh=n-i/\iv=.int .i64 (i:Int)/\i<=n/\Hid (SZ w.heap.size zm J (k+1) (rwG F S0 i) (gN nx s0 0 n k) (nwG F S0 n i) sv u11 (.slice (some ⟨gR,0,none⟩) n n) vals H' wx)/\Hid (UZ w.heap.size zm sv u11 (.slice (some ⟨gR,0,none⟩) n n) (.slice aU n cU) ((List.range n).map F) wx))
   case atStart=>exact⟨0,rfl,rfl,by omega,HQ7,HU6⟩
   case round=>
    clear HQ7 HU6;obtain⟨i,hgi,rfl,hi,HI,HU⟩:=hrel;have HGI:=Ab hgi;clear hgi
    by_cases hlti:i<n
    ·have hi0:(0:Int)<=(i:Int):=by omega
     have hi1:(i:Int)<(n:Int):=by omega
     have hmn:((List.range n).map F).length=n:=by simp
     obtain⟨gU,cU',hvU,-,-⟩:=HU.out.o.row (by rw[hmn];omega);rw[hmn]at hvU;simp only[Value.slice.injEq]at hvU;obtain⟨rfl,-,rfl⟩:=hvU;have hcc:=HU.out.o.at' hmn.symm i (by rw[hmn];exact hlti);rw[show((List.range n).map F)[i]'(by rw[hmn];exact hlti)=F i by simp]at hcc;have c0:=hcc;clear hcc;obtain⟨y,hy⟩:∃y,y=F i:=⟨_,rfl⟩;rw[<-hy]at c0
     have hwy:I64 y:=by
      refine HWQ.out (i+1) hlti y ?_;rw[hy];show F i∈Hn (rwG F S0 i) (F i);unfold Hn
      split
      ·assumption
      ·simp
     have HWY:=Ab hwy;have HY:=Ab hy;clear hmn hwy hy;have HI6:=HI;have HU6:=HU;obtain⟨w6,hw6⟩:∃w6,w6=wr:=⟨_,rfl⟩;subst hw6;obtain⟨aS,cS',rfl⟩:=HI6.out.o.slice;have hli:(rwG F S0 i).length<=K:=HBD.out i (Nat.le_of_lt hlti);have hBw6:w.heap.size<=w6.heap.size:=Nat.le_trans HI6.out.z (Nat.le_of_lt HI6.out.m.lt);have HNL:Hid (n=(nwG F S0 n i).length):=(Ny (Nat.le_of_lt hlti)).symm
     have HNS:Hid ((nwG F S0 n i).set i (((rwG F S0 i).idxOf y:Nat):Int)=nwG F S0 n (i+1)):=by rw[HY.out];exact Nz hlti
     clear HI HU
     by_cases hmem:y∈rwG F S0 i
     ·have hlk:(Instr.lookup 134 (.map (some zm)) (.int .i64 y) true).run Tryz.prog w6=.ok (.tuple #[.int .i64 (((rwG F S0 i).idxOf y:Nat):Int),.bool true]) w6:=(HI6.out.m.get HWY.out).1 hmem
      have hSe:rwG F S0 (i+1)=rwG F S0 i:=by
       show Hn (rwG F S0 i) (F i)=_;rw[<-HY.out];exact if_pos hmem
      obtain⟨cv,c9⟩:∃cv,w6.cell? ⟨gR,i,none⟩=some (.int .i64 cv):=⟨_,HI6.out.r.at' HNL.out i (by rw[<-HNL.out];exact hlti)⟩;have f9:=HI6.out.r.fz HNL.out i;have p9:=HI6.out.set HNQ.out (j:=i) (x:=(((rwG F S0 i).idxOf y:Nat):Int)) HNL.out;rw[HNS.out]at p9
      have hu9:=HU6.out.step (W':=w6.setCell ⟨gR,i,none⟩ (.int .i64 (((rwG F S0 i).idxOf y:Nat):Int))) (vS':=.slice aS (rwG F S0 i).length cS') (vT':=u11) (vR':=.slice (some ⟨gR,0,none⟩) n n) (Ag.set _ _ _ (.inr (.inr (.inr rfl)))) fun _ _ e=>e
      have HP9:=Ab p9;have HU9:=Ab hu9;have HSE:=Ab hSe;clear p9 hu9 hSe hmem HI6 HU6;generalize(rwG F S0 i).idxOf y=ix at*;go_wp2
      go_roundg (n-(i+1))
      case measure=>have:=HGI.out;omega
      case rel=>exact⟨i+1,rfl,by go_num,by omega,by rw[HSE.out];exact HP9,HU9⟩
     ·obtain⟨cq,hlk0⟩:=(HI6.out.m.get HWY.out).2 hmem;have hlk:(Instr.lookup 134 (.map (some zm)) (.int .i64 y) true).run Tryz.prog w6=.ok (.tuple #[.int .i64 cq,.bool false]) w6:=hlk0;obtain⟨w7,hrun0,hm7,hg7⟩:=HI6.out.m.upd HWY.out hmem (by omega);have hrun:(Instr.mapUpdate 134 (.map (some zm)) (.int .i64 y) (.int .i64 ((rwG F S0 i).length:Int))).run Tryz.prog w6=.ok () w7:=hrun0
      have hSe:rwG F S0 (i+1)=rwG F S0 i++[y]:=by
       show Hn (rwG F S0 i) (F i)=_;rw[<-HY.out];exact if_neg hmem
      have hix:(rwG F S0 i).idxOf y=(rwG F S0 i).length:=Mz hmem;rw[hix]at HNS
      have o67:Ag (fun q=>q=zm) w6 w7:=(Ag.of_grown hg7).mono fun q _ e=>(Option.some.inj e).symm
      have hOI7:OI w7 w.heap.size (.slice aS (rwG F S0 i).length cS') (rwG F S0 i):=HI6.out.o.only o67 fun q e k=>HI6.out.a1 (k▸e)
      have HOI7:=Ab hOI7;have hBw7:w.heap.size<=w7.heap.size:=Nat.le_trans hBw6 hg7.size;have HSE:=Ab hSe;have HM7:=Ab hm7;have HG7:=Ab hg7;clear hix hSe hmem hlk0 hrun0 hm7 hg7 o67 hOI7;generalize hlr:(rwG F S0 i).length=lr at*;have HLR:=Ab hlr;clear hlr
      go_upto_region 19 with(at_builtin;refine DZ rfl _ _ y rfl w.heap.size (.slice aS lr cS') (rwG F S0 i) HOI7.out rfl _ (by simp) rfl (by rw[HLR.out];omega) hBw7 ?_;intro v' w8 ho8 hg8 hm8;obtain⟨aX,cX,hvX⟩:=ho8.slice;rw[List.length_append,List.length_singleton,HLR.out]at hvX;subst hvX;have HQ8:=Ab (HI6.out.num HNQ.out HM7.out HG7.out Ad ho8 hg8 hm8 rfl);have HO8:=Ab (HI6.out.numO HG7.out hg8 hm8);clear ho8 hg8 hm8)
      obtain⟨cv,c9⟩:∃cv,w8.cell? ⟨gR,i,none⟩=some (.int .i64 cv):=⟨_,HQ8.out.r.at' HNL.out i (by rw[<-HNL.out];exact hlti)⟩;have f9:=HQ8.out.r.fz HNL.out i;have p9:=HQ8.out.set HNQ.out (j:=i) (x:=(lr:Int)) HNL.out;rw[HNS.out,<-HSE.out]at p9;have hu8:=HU6.out.step HO8.out.1 HO8.out.2
      have hu9:=hu8.step (W':=w8.setCell ⟨gR,i,none⟩ (.int .i64 (lr:Int))) (vS':=.slice aX (lr+1) cX) (vT':=u11) (vR':=.slice (some ⟨gR,0,none⟩) n n) (Ag.set _ _ _ (.inr (.inr (.inr rfl)))) fun _ _ e=>e
      have HP9:=Ab p9;have HU9:=Ab hu9;clear p9 hu8 hu9 HQ8 HO8 HI6 HU6 HM7 HG7 hlk hrun;go_wp2
      go_roundg (n-(i+1))
      case measure=>have:=HGI.out;omega
      case rel=>exact⟨i+1,rfl,by go_num,by omega,HP9,HU9⟩
    ·have hi1:¬(i:Int)<(n:Int):=by omega
     have HE:Hid (SZ w.heap.size zm J (k+1) (Ue nx s0 0 n (k+1)) (gN nx s0 0 n k) (F4 F S0 n) u9 u11 (.slice (some ⟨gR,0,none⟩) n n) vals H' wr):=by
      have h1:=HI.out;rw[show i=n by omega,Nx,<-HS1.out]at h1;exact h1
     have hlK:(Ue nx s0 0 n (k+1)).length<=K:=by rw[HS1.out];exact HBD.out n leR
     obtain⟨aS,cS',rfl⟩:=HE.out.o.slice
     have tM:¬most<((Ue nx s0 0 n (k+1)).length:Int):=by omega
     obtain⟨aT,cT,hvT⟩:=AU HE.out.t;rw[D4]at hvT;subst hvT;have hBr:w.heap.size<=wr.heap.size:=Nat.le_trans HE.out.z (Nat.le_of_lt HE.out.m.lt)
     have HRL:Hid ((F4 F S0 n).length=n):=by show _=_;simp[F4]
     have HRB:Hid (∀x∈F4 F S0 n,I64 x):=fun x hx=>by
      obtain⟨j,hj,rfl⟩:=List.mem_map.1 hx;have h1:=List.idxOf_le_length (a:=F j) (l:=rwG F S0 j);have h2:=HBD.out j (Nat.le_of_lt (List.mem_range.1 hj));unfold I64;omega
     clear HI HU;generalize hlr:(Ue nx s0 0 n (k+1)).length=lr at*;clear hlr
     go_wp2_with (at_builtin;refine Gk rfl _ _ (.slice (some ⟨gR,0,none⟩) n n) rfl w.heap.size (.slice aT k cT) k vals (by have:=HE.out.t;rwa [D4]at this) rfl _ (by simp) rfl rfl (by omega) hBr ?_;intro v' w8 ho8 hg8 hm8;have HQ8:=Ab (HE.out.app HNQ.out (by rw[HRL.out];omega) HRB.out Ad (by rw[D4];exact ho8) hg8 hm8);clear ho8 hg8 hm8)
     go_roundg (K-(k+1))
     case measure=>have:=HGK.out;omega
     case rel=>exact⟨k+1,_,H',rfl,by go_num,hlt,by rw[HGN.out];exact HQ8⟩
  ·have hlen:=HEN.out.1
   obtain rfl:K=k:=by omega
   obtain⟨aS,cS,rfl⟩:=HQ.out.o.slice
   have hk1:¬(K:Int)<((Ue nx s0 0 n K).length:Int):=by omega
   have HFI:Hid (Gf w.heap.size (J K) (gN nx s0 0 n K) (.returned (.tuple #[.slice aS (Ue nx s0 0 n K).length cS,u11,.bool true])) wr):=⟨_,_,H,rfl,HQ.out.j,Nat.le_trans HQ.out.z (Nat.le_of_lt HQ.out.m.lt),HQ.out.is (by rw[D4];omega)⟩;clear hlen HQ;go_wp2;refine bodyPost_ret (v:=.tuple #[.slice aS (Ue nx s0 0 n K).length cS,u11,.bool true]) (by simp[results,Tryz.results82,go_sem]) rfl ?_;exact HFI.out
structure CJ(W wr:World)(n g1 g2:Nat)(O Q:List Int):Prop where
 bl:Below W.heap.size W wr
 o:OI wr W.heap.size (.slice (some ⟨g1,0,none⟩) n n) O
 q:OI wr W.heap.size (.slice (some ⟨g2,0,none⟩) n n) Q
 ne:g1≠g2
 lo:O.length=n
 lq:Q.length=n
section
variable {W wr w':World} {n g1 g2 j:Nat} {O Q:List Int} {x:Int}
theorem CJ.below(h:CJ W wr n g1 g2 O Q)(hb:Below wr.heap.size wr w'):CJ W w' n g1 g2 O Q:=
 ⟨h.bl.trans (hb.mono h.bl.size),h.o.below hb,h.q.below hb,h.ne,h.lo,h.lq⟩
theorem CJ.setO(h:CJ W wr n g1 g2 O Q):CJ W (wr.setCell ⟨g1,j,none⟩ (.int .i64 x)) n g1 g2 (O.set j x) Q:=
 ⟨BY h.bl (h.o.ge g1 rfl),h.o.set h.lo.symm j x,h.q.setNe (by simp[Value.ownBlock];exact fun e=>h.ne e.symm),h.ne,by rw[List.length_set];exact h.lo,h.lq⟩
theorem CJ.setQ(h:CJ W wr n g1 g2 O Q):CJ W (wr.setCell ⟨g2,j,none⟩ (.int .i64 x)) n g1 g2 O (Q.set j x):=
 ⟨BY h.bl (h.q.ge g2 rfl),h.o.setNe (by simp[Value.ownBlock];exact h.ne),h.q.set h.lq.symm j x,h.ne,h.lo,by rw[List.length_set];exact h.lq⟩
end
theorem Sk(W w0:World)(pp pz pr:Nat)(n:Nat)(co:Int)(q:Int)(k:Nat)(rows:Nat->List Int)(H:Nat->Prop)(oF sF:Nat->Int)(hpp:W.heap[pp]? =some (.cells #[.pointer (some ⟨pz,0,none⟩)] 115 (0,0)))(hj:BJ w0 pr (n:Int) co rows k H W)
  (hn0:0<n) (hn:n<=64) (hrow:rows k=(List.range n).map oF) (hk:k<4000)
  (han:∀i,i<n->∀W',Below W.heap.size W W'->Calls Tryz.prog 81 #[.pointer (some ⟨pz,0,none⟩),.int .i64 q,.int .i64 (i:Int)] W' (fun e W9=>e=.returned (.tuple #[.int .i64 (oF i),.int .i64 (sF i),.bool true])/\Below W'.heap.size W' W9)):
  Calls Tryz.prog 80 #[.int .i64 q,.pointer (some ⟨pr,0,none⟩),.pointer (some ⟨pp,0,none⟩)] W (JV ((List.range n).map sF) (BJ w0 pr (n:Int) co rows (k+1)) H W):=by
 obtain⟨v3,n3,hJ⟩:=hj;have HAN:=Ab han;have HJ:=Ab hJ;have HRW:=Ab hrow;have HPP:=Ab hpp;have c0:=Aa 0 hJ.box
 have mki:=fun wx=>run_make_row' (P:=Tryz.prog) 26 3 (.int .i64 0) 8 Tryz.underlying26 C5 rfl .i64 .i64 n (by omega) (by omega) wx
 clear han hrow hpp hJ
 go_enter Tryz.func80,Tryz.ntmps80
 go_upto_region 1 with(fail)
 go_cut [6,7] (fun va vb wx=>∃g1 g2,va=.slice (some ⟨g1,0,none⟩) n n/\vb=.slice (some ⟨g2,0,none⟩) n n/\Hid (CJ W wx n g1 g2 (List.replicate n 0) (List.replicate n 0)))
 case first=>
  have c01:=Ah (Ao (w:=W) (.cells (madeCells #[.int .i64 0] n) 3)) c0;have hprl:=(Array.getElem?_eq_some_iff.1 HJ.out.box).1
  go_region
  all_goals
   go_wp2_with fail
   go_meet
   case rel=>
    refine⟨_,_,rfl,rfl, ?_⟩;show CJ _ _ _ _ _ _ _;refine⟨(by repeat(first|exact Ad|assumption|(refine AD ?_ _)|(refine AE ?_ _)|(refine Below.drew ?_))),JW (by rw[CA];repeat(rw[Al];first|rw[if_pos (by first|simp;done|simp;omega)]|rw[if_neg (by first|simp;done|simp;omega)])) (by omega) (by omega),JW (by rw[CA];repeat(rw[Al];first|rw[if_pos (by first|simp;done|simp;omega)]|rw[if_neg (by first|simp;done|simp;omega)])) (by omega) (by omega),by omega,by simp,by simp⟩
 case rest=>
  obtain⟨g1,g2,rfl,rfl,HC⟩:=hcut;clear mki c0
  have HC0:Hid (CJ W wc n g1 g2 (DQ oF 0 n 0) (DQ sF 0 n 0)):=by rw[Fo,Fo];exact HC.out
  clear HC
  go_wp2_with fail
  go_loopg [18] n (fun gh iv wr=>∃i:Nat,gh=n-i/\iv=.int .i64 (i:Int)/\i<=n/\Hid (CJ W wr n g1 g2 (DQ oF 0 n i) (DQ sF 0 n i)))
  case atStart=>exact⟨0,rfl,rfl,by omega,HC0⟩
  case round=>
   clear HC0;obtain⟨i,hgi,rfl,hi,HC⟩:=hrel;have HGI:=Ab hgi;clear hgi
   by_cases hlt:i<n
   ·have hi0:(0:Int)<=(i:Int):=by omega
    have hi1:(i:Int)<(n:Int):=by omega
    have zp:=Aa 0 ((HC.out.bl.block _ (Array.getElem?_eq_some_iff.1 HPP.out).1).trans HPP.out)
    go_wp2_with fail
    refine(HAN.out i hlt _ HC.out.bl).mono ?_;rintro e w9 ⟨rfl,hb9⟩;have HC9:=Ab (HC.out.below hb9);obtain⟨cv,c9⟩:∃cv,w9.cell? ⟨g1,i,none⟩=some (.int .i64 cv):=⟨_,HC9.out.o.at' HC9.out.lo.symm i (by rw[HC9.out.lo];exact hlt)⟩;have f9:=HC9.out.o.fz HC9.out.lo.symm i;have p9:=HC9.out.setO (j:=i) (x:=oF i);rw[Gu hlt]at p9;obtain⟨cv2,c92⟩:∃cv,(w9.setCell ⟨g1,i,none⟩ (.int .i64 (oF i))).cell? ⟨g2,i,none⟩=some (.int .i64 cv):=⟨_,p9.q.at' p9.lq.symm i (by rw[p9.lq];exact hlt)⟩;have f92:=p9.q.fz p9.lq.symm i;have p10:=p9.setQ (j:=i) (x:=sF i);rw[Gu hlt]at p10;have HP10:=Ab p10;clear hb9 zp HC HC9 p9 p10;generalize oF i=x1 at*;generalize sF i=x2 at*;go_wp2
    go_roundg (n-(i+1))
    case measure=>have:=HGI.out;omega
    case rel=>exact⟨i+1,rfl,by go_num,by omega,HP10⟩
   ·have hi1:¬(i:Int)<(n:Int):=by omega
    have HE:Hid (CJ W wr n g1 g2 (rows k) ((List.range n).map sF)):=by
     have h1:=HC.out;rw[show i=n by omega,Gt,Gt]at h1;show CJ _ _ _ _ _ _ _;rw[HRW.out];exact h1
    clear HC;have hJr:=HJ.out.keep (Ag.of_below HE.out.bl);have z3:=Aa 3 hJr.box;have HJR:=Ab hJr;have hrl:Hid ((rows k).length=n):=HE.out.lo;have hBz:w0.heap.size<=wr.heap.size:=hJr.on.size;clear hJr;obtain⟨a7,c7,rfl⟩:=AU HJ.out.own
    go_upto_region 11 with(at_builtin;refine Gk rfl _ _ (.slice (some ⟨g1,0,none⟩) n n) rfl w0.heap.size (.slice a7 k c7) k n3 HJR.out.own rfl _ (by simp) rfl rfl (by omega) hBz ?_;intro v' w8 ho8 hg8 hm8;obtain⟨a8,c8,hv8⟩:=AU ho8;subst hv8;have HPU:=Ab (HJ.out.push HE.out.bl HE.out.o (by rw[hrl.out];omega) ho8 hg8 hm8);have z9:=Aa 3 HPU.out.1;have f9:=Ay 3 HPU.out.1;have HG8:=Ab hg8;have HM8:=Ab hm8;clear ho8 hg8 hm8)
    obtain⟨-,H',q1,q2,q3,q4⟩:=HPU.out;have HQ1:=Ab q1;have HQ2:=Ab q2;have HQ3:=Ab q3;have HQ4:=Ab q4;clear HPU q1 q2 q3 q4 z3 z9 f9
    have HOQ:Hid (OI (w8.setCell ⟨pr,3,none⟩ (.slice a8 (k+1) c8)) W.heap.size (.slice (some ⟨g2,0,none⟩) n n) ((List.range n).map sF)):=by
     have h1:Ag (fun q=>q=pr\/(Value.slice a7 k c7).ownBlock=some q) wr (w8.setCell ⟨pr,3,none⟩ (.slice a8 (k+1) c8)):=((Ag.of_grown HG8.out).mono fun q _ e=>.inr e).trans (Ag.set _ _ _ (.inl rfl))
     refine HE.out.q.only h1 fun q e1 e2=> ?_
     have e1:g2=q:=Option.some.inj e1;have h2:=HE.out.q.ge g2 rfl
     rcases e2 with e2|e2
     ·have h3:=HJ.out.pz;have h4:=HJ.out.on.size;omega
     ·have h3:=(World.ownsRow.lt HJ.out.own q e2).2;omega
    have HNH:Hid (∀q,(Value.slice (some ⟨g2,0,none⟩) n n).ownBlock=some q->¬H' q):=fun q e1 e2=>by
     have e1:g2=q:=Option.some.inj e1;have h2:=HE.out.q.ge g2 rfl;have h5:=HE.out.q.lt' g2 rfl
     rcases(HQ4.out q).1 e2 with e|e|⟨x,hx,e⟩
     ·have h3:=HJ.out.pz;have h4:=HJ.out.on.size;omega
     ·rcases HM8.out q e with e|e
      ·have h3:=(World.ownsRow.lt HJ.out.own q e).2;omega
      ·omega
     ·rcases List.mem_append.1 hx with hx|hx
      ·have h3:=(HJ.out.mem_lt hx e).2;omega
      ·rw[List.mem_singleton.1 hx]at e;have e:g1=q:=Option.some.inj e;exact HE.out.ne (by omega)
    clear HG8 HM8 HE HQ4;go_wp2;go_ret2;exact⟨_,H',rfl,HOQ.out,HNH.out,HQ1.out,HQ2.out,HQ3.out⟩
def QS(a:Au)(pls:List T4)(says:List Int)(l:List Sig)(q i o:Nat)(s:Int):Prop:=
 ∃c t,(⟨(q:Int),(i:Int),-1⟩:T4)∈pls/\pls.idxOf ⟨(q:Int),(i:Int),-1⟩=c/\c<says.length/\says.getD c 0=((t:Nat):Int)/\t<pls.length/\(pls.getD t pl0).inn=-1/\s=(pls.getD t pl0).st/\o<((Aq l).getD i []).length/\
  (∀j,j<o->¬(mvN a q (((Aq l).getD i []).getD j 0)=(pls.getD t pl0).st/\mvP a q (((Aq l).getD i []).getD j 0)=(pls.getD t pl0).pr))/\
  (mvN a q (((Aq l).getD i []).getD o 0)=(pls.getD t pl0).st/\mvP a q (((Aq l).getD i []).getD o 0)=(pls.getD t pl0).pr)
theorem Iq{l:List Sig}{i:Nat}(hi:i<(Ap l).toNat):i<(Aq l).length/\((Aq l).getD i []).length=(Aj l).toNat/\∀j,j<(Aj l).toNat->((Aq l).getD i []).getD j 0=AO l (i:Int) (j:Int):=by
 have h1:i<(Aq l).length:=by rw[Jt];exact hi
 have h2:(Aq l).getD i []=(List.range (Aj l).toNat).map fun(o:Nat)=>AO l (i:Int) (o:Int):=by rw[Af _ _ _ h1];simp[Aq]
 rw[h2];exact⟨h1,by simp,fun j hj=>by rw[Af _ _ _ (by rw[List.length_map,List.length_range];exact hj)];simp⟩
theorem Tw(W:World)(pz:Nat)(a:Au)(pls:List T4)(says:List Int)(l:List Sig)(q i o:Nat)(s:Int)(h:DY W pz a pls pls says l)(hva:AF a=true)(hvs:At l=true)(hal:a.letters=AC l)(hq:q<a.next.length)(hi:i<(Ap l).toNat)(ha:QS a pls says l q i o s):
  Calls Tryz.prog 81 #[.pointer (some ⟨pz,0,none⟩),.int .i64 (q:Int),.int .i64 (i:Int)] W (fun e W'=>e=.returned (.tuple #[.int .i64 (o:Int),.int .i64 s,.bool true])/\Below W.heap.size W W'):=by
 obtain⟨c,t,h1,h2,h3,h4,h5,h6,rfl,h8,h9,h10⟩:=ha;obtain⟨⟨hi0,hi1⟩,⟨ho0,ho1⟩⟩:=C7 hvs;obtain⟨j1,j2,j3⟩:=Iq (l:=l) hi;refine Pp W pz a pls says l q i c t o h hva hq j1 h8 (by rw[j2];omega) (fun j hj=> ?_) h1 h2 h3 h4 h5 h6 h9 h10;rw[j2]at hj;rw[j3 j hj,hal];obtain⟨⟨a1,a2⟩,-⟩:=Cc hvs (i:=(i:Int)) (o:=(j:Int)) (by omega) (by omega) (by omega) (by omega);exact⟨a1,a2⟩
theorem NQ(w:World)(vl va vp vs:Value)(l:List Sig)(a:Au)(pls:List T4)(says:List Int)(hK:BN w)(hl:AH w vl l)(ha:Cm w va a)(hp:Ct w vp pls)(hs:Ai w vs says)
  (hvs:At l=true) (hva:AF a=true) (hal:a.letters=AC l) (hpl:pls.length<=2900) (hsl:says.length=pls.length) (hnd:pls.Nodup)
  (nx:Int->Nat->Int) (oF:Int->Nat->Int) (K:Nat) (hend:JQ nx a.start 0 (Ap l).toNat K) (hK9:K<=2900)
  (hst:∀k,k<=K->∀x∈Ue nx a.start 0 (Ap l).toNat k,0<=x/\x<a.next.length)
  (hans:∀k,k<K->∀i,i<(Ap l).toNat->0<=oF (gP nx a.start 0 (Ap l).toNat k) i/\oF (gP nx a.start 0 (Ap l).toNat k) i<=64/\QS a pls says l (gP nx a.start 0 (Ap l).toNat k).toNat i (oF (gP nx a.start 0 (Ap l).toNat k) i).toNat (nx (gP nx a.start 0 (Ap l).toNat k) i)):
  Calls Tryz.prog 38 #[vl,va,vp,vs] w (I9 ⟨Ap l,Aj l,0,(List.range K).map (fun k=>(List.range (Ap l).toNat).map (oF (gP nx a.start 0 (Ap l).toNat k))),gN nx a.start 0 (Ap l).toNat K⟩ 0 w):=by
 have hmx:Tryz.prog.follows .mixedOrders=true:=by kernel_rfl
 have HNP:Hid (∀W,Below w.heap.size w W->Calls Tryz.prog 77 #[vl,va,vp,vs] W (Ht a pls says l W)):=fun W h=>Jw W _ _ _ _ l a pls says (hK.below h) (hl.below h) (ha.below h) (hp.below h) (hs.below h) hvs hva hal hpl hsl hnd
 have HI0:Hid (∀W,Below w.heap.size w W->Calls Tryz.prog 78 #[vl] W (Av (.int .i64 (Ap l)) W)):=fun W h=>DJ W _ _ (hK.below h) (hl.below h)
 have HO0:Hid (∀W,Below w.heap.size w W->Calls Tryz.prog 79 #[vl] W (Av (.int .i64 (Aj l)) W)):=fun W h=>CY W _ _ (hK.below h) (hl.below h)
 obtain⟨⟨hi0,hi1⟩,⟨ho0,ho1⟩⟩:=C7 hvs;obtain⟨n,hn⟩:∃n:Nat,Ap l=(n:Int):=⟨(Ap l).toNat,by omega⟩
 have hnn:(Ap l).toNat=n:=by omega
 have hsta:0<=a.start/\a.start<a.next.length:=by
  simp only[AF,Bool.and_eq_true,decide_eq_true_eq]at hva;exact hva.1.2
 have hnx:a.next.length<=3000:=by
  simp only[AF,Bool.and_eq_true,decide_eq_true_eq]at hva;exact hva.1.1.1.2.2
 have HANS:Hid (∀W pz,DY W pz a pls pls says l->∀k,k<K->∀i,i<n->Calls Tryz.prog 81 #[.pointer (some ⟨pz,0,none⟩),.int .i64 (gP nx a.start 0 n k),.int .i64 (i:Int)] W (fun e W'=>e=.returned (.tuple #[.int .i64 (oF (gP nx a.start 0 n k) i),.int .i64 (nx (gP nx a.start 0 n k) i),.bool true])/\Below W.heap.size W W')):=fun W pz hP k hk i hi=>by
  rw[hnn]at hans hst hend;obtain⟨h1,h2,h3⟩:=hans k hk i hi;have hkl:=hend.2 k hk;have hx:=hst k (by omega) (gP nx a.start 0 n k) (by unfold gP;rw[Af _ _ _ hkl];exact List.getElem_mem _);have h4:=Tw W pz a pls says l _ i _ _ hP hva hvs hal (by omega) (by omega) h3;rw[show(((gP nx a.start 0 n k).toNat:Nat):Int)=gP nx a.start 0 n k by omega,show(((oF (gP nx a.start 0 n k) i).toNat:Nat):Int)=oF (gP nx a.start 0 n k) i by omega]at h4;exact h4
 have HOB:Hid (∀k,k<K->∀i,i<n->0<=oF (gP nx a.start 0 n k) i/\oF (gP nx a.start 0 n k) i<=64):=fun k hk i hi=>by
  rw[hnn]at hans;exact⟨(hans k hk i hi).1,(hans k hk i hi).2.1⟩
 rw[hnn]at hend hst⊢;rw[hn]at HI0⊢;obtain⟨v2,v3,rfl,⟨hIa,hIb⟩,h2,h3⟩:=ha;obtain⟨sa,sc,rfl⟩:=hl.shape;obtain⟨a2,c2,rfl⟩:=h2.shape;obtain⟨a3,c3,rfl⟩:=h3.shape;have HEN:=Ab hend;have HST:=Ab hst
 have hn64:n<=64:=by omega
 have hn1:0<n:=by omega
 clear hl hp hs hK h2 h3 hvs hva hal hnd hsl hans hend hst hn hnn hi0 hi1
 go_enter Tryz.func38,Tryz.ntmps38
 go_upto_region 1 with(fail)
 obtain⟨hx5,-,hB5⟩:=Az (w0:=w) Ad leR #[.int .i64 a.letters,.int .i64 a.start,.slice a2 a.next.length c2,.slice a3 a.prio.length c3] 63
 have hz5:(w.alloc (.cells #[.int .i64 a.letters,.int .i64 a.start,.slice a2 a.next.length c2,.slice a3 a.prio.length c3] 63)).heap.size=w.heap.size+1:=by simp
 generalize w.alloc (.cells #[.int .i64 a.letters,.int .i64 a.start,.slice a2 a.next.length c2,.slice a3 a.prio.length c3] 63)=w1 at*;obtain⟨hx7,-,hB7⟩:=Az (w0:=w) hB5 (by omega) #[.int .i64 0,.int .i64 0,.int .i64 0,.slice none 0 0,.slice none 0 0] 25
 have hz7:(w1.alloc (.cells #[.int .i64 0,.int .i64 0,.int .i64 0,.slice none 0 0,.slice none 0 0] 25)).heap.size=w.heap.size+1+1:=by simp[hz5]
 have hx5:=(Dt w1 (.cells #[.int .i64 0,.int .i64 0,.int .i64 0,.slice none 0 0,.slice none 0 0] 25) (r:=w.heap.size) (by omega)).trans hx5;generalize w1.alloc (.cells #[.int .i64 0,.int .i64 0,.int .i64 0,.slice none 0 0,.slice none 0 0] 25)=w2 at*;rw[hz5]at hx7;clear hB5 hz5;have k0:=Aa 0 hx5;have k1:=Aa 1 hx5;have k2:=Aa 2 hx5;have k3:=Aa 3 hx5
 go_wp2_with fail
 refine(HNP.out _ hB7).mono ?_;rintro e w3 ⟨pz,rfl,hpz,hPM,hb⟩;replace hx5:=(hb.block _ (by omega)).trans hx5;replace hx7:=(hb.block _ (by omega)).trans hx7;replace hB7:=hB7.trans (hb.mono hB7.size)
 have hz3:w.heap.size+1+1<=w3.heap.size:=by have:=hb.size;omega
 have HPM:=Ab hPM;clear hb hz7 k0 k1 k2 k3 hPM
 go_upto_region 2 with(fail)
 obtain⟨hx8,hb8,-⟩:=Az (w0:=w3) (B:=w3.heap.size) Ad leR #[.pointer (some ⟨pz,0,none⟩)] 115
 have hs8:(w3.alloc (.cells #[.pointer (some ⟨pz,0,none⟩)] 115)).heap.size=w3.heap.size+1:=by simp
 generalize w3.alloc (.cells #[.pointer (some ⟨pz,0,none⟩)] 115)=w4 at*;replace hx5:=(hb8.block _ (by omega)).trans hx5;replace hx7:=(hb8.block _ (by omega)).trans hx7;replace hB7:=hB7.trans (hb8.mono hB7.size);replace HPM:=Ab (HPM.out.below hb8)
 have hpp:w3.heap.size<w4.heap.size:=by omega
 have hpp2:w.heap.size+1+1<=w3.heap.size:=hz3;generalize w3.heap.size=pp at*;clear hb8 hs8
 go_wp2_with fail
 refine(HI0.out _ hB7).mono ?_;rintro e w5 ⟨rfl,hb⟩;replace hx5:=(hb.block _ (by omega)).trans hx5;replace hx7:=(hb.block _ (by omega)).trans hx7;replace hx8:=(hb.block _ (by omega)).trans hx8;replace hB7:=hB7.trans (hb.mono hB7.size);replace HPM:=Ab (HPM.out.below hb)
 replace hpp:pp<w5.heap.size:=by have:=hb.size;omega
 clear hb
 go_wp2_with fail
 refine(HO0.out _ hB7).mono ?_;rintro e w6 ⟨rfl,hb⟩;replace hx5:=(hb.block _ (by omega)).trans hx5;replace hx7:=(hb.block _ (by omega)).trans hx7;replace hx8:=(hb.block _ (by omega)).trans hx8;replace hB7:=hB7.trans (hb.mono hB7.size);replace HPM:=Ab (HPM.out.below hb)
 replace hpp:pp<w6.heap.size:=by have:=hb.size;omega
 clear hb;have k1:=Aa 1 hx5
 go_upto_region 5 with(fail)
 obtain⟨hx9,hb9,-⟩:=Az (w0:=w6) (B:=w6.heap.size) Ad leR #[.int .i64 (n:Int),.int .i64 (Aj l),.int .i64 0,.slice none 0 0,.slice none 0 0] 25
 have hs9:(w6.alloc (.cells #[.int .i64 (n:Int),.int .i64 (Aj l),.int .i64 0,.slice none 0 0,.slice none 0 0] 25)).heap.size=w6.heap.size+1:=by simp
 generalize w6.alloc (.cells #[.int .i64 (n:Int),.int .i64 (Aj l),.int .i64 0,.slice none 0 0,.slice none 0 0] 25)=w9 at*;replace k1:=Ah hb9 k1;replace hx7:=(hb9.block _ (by omega)).trans hx7;replace hx8:=(hb9.block _ (by omega)).trans hx8;replace hB7:=hB7.trans (hb9.mono hB7.size)
 have HPM9:Hid (∀W,Ag (fun q=>w9.heap.size<=q\/q=w6.heap.size) w9 W->DY W pz a pls pls says l):=fun W ho=>HPM.out.below (hb9.trans (ho.below _ (fun q e=>by omega) (by omega)))
 clear hx5 hb9;generalize w6.heap.size=pr at*;have HX7:=Ab hx7;have HX8:=Ab hx8;have HX9:=Ab hx9;have HB7:=Ab hB7
 have HPP9:Hid (∀W,Ag (fun q=>w9.heap.size<=q\/q=pr) w9 W->W.heap[pp]? =some (.cells #[.pointer (some ⟨pz,0,none⟩)] 115 (0,0))):=fun W ho=>(ho.block pp (by omega) (by omega)).trans HX8.out
 have hNQ:FC w9.heap.size 80 #[.pointer (some ⟨pr,0,none⟩),.pointer (some ⟨pp,0,none⟩)] n K (gP nx a.start 0 n) nx (BJ w9 pr (n:Int) (Aj l) fun k=>(List.range n).map (oF (gP nx a.start 0 n k))):=by
  refine⟨fun k H W ⟨v3,n3,h⟩=>h.lt,fun k H W W' ⟨v3,n3,h⟩ ho=>⟨v3,n3,h.keep ho⟩,fun k H W hj hBW hk=> ?_⟩
  have ho:Ag (fun q=>w9.heap.size<=q\/q=pr) w9 W:=by obtain⟨v3,n3,h⟩:=hj;exact h.on
  exact Sk W w9 pp pz pr n (Aj l) _ k _ H (oF (gP nx a.start 0 n k)) (nx (gP nx a.start 0 n k)) (HPP9.out W ho) hj hn1 hn64 rfl (by omega) (fun i hi W' hb=>HANS.out W' pz ((HPM9.out W ho).below hb) k hk i hi)
 have hWF:∀k,k<=K->∀x∈Ue nx a.start 0 n k,I64 x:=fun k hk x hx=>by
  have h1:=HST.out k hk x hx;unfold I64;omega
 have HSR:Hid (Calls Tryz.prog 82 #[.int .i64 a.start,.int .i64 3000,.func (.func 80) #[] #[.pointer (some ⟨pr,0,none⟩),.pointer (some ⟨pp,0,none⟩)]] w9 (Gf w9.heap.size (BJ w9 pr (n:Int) (Aj l) (fun k=>(List.range n).map (oF (gP nx a.start 0 n k))) K) (gN nx a.start 0 n K))):=
  JJ w9 80 _ (enters_of Tryz.func80 (by kernel_rfl) rfl) nx a.start n K 3000 _ _ hNQ HEN.out (by omega) (by omega) (by omega) hWF (BK.start HX9.out)
 clear hNQ hWF HPM9 HPP9 HANS HNP HI0 HO0;have k1':w9.cell? ⟨w.heap.size,1,none⟩=some (.int .i64 a.start):=k1;clear k1
 go_wp2_with fail
 refine HSR.out.mono ?_;rintro e w10 ⟨vS,vT,H,rfl,⟨v3,n3,hBK⟩,hBz,hT⟩;have HBK:=Ab hBK;have HT:=Ab hT;have z4:=Aa 4 hBK.box;have zf:=Ay 4 hBK.box;obtain⟨aT,cT,hvT⟩:=(hT w10 (Ag.refl _ _)).shape;obtain⟨a7,c7,e7⟩:=AU hBK.own;subst hvT e7;have hgl:(gN nx a.start 0 n K).length=K:=D4;rw[hgl];have hbx:=heap_setCell_same _ _ 4 _ _ (.slice aT K cT) hBK.box;have hB10:Below w.heap.size w w10:=HB7.out.trans (hBK.on.below _ (fun q e=>by have:=HB7.out.size;omega) HB7.out.size);have hpz9:=hBK.pz;have hx7':(w10.setCell ⟨pr,4,none⟩ (.slice aT K cT)).heap[w.heap.size+1]? =some (.cells #[.int .i64 0,.int .i64 0,.int .i64 0,.slice none 0 0,.slice none 0 0] 25 (0,0)):=(heap_setCell_other _ _ _ _ (by simp;omega)).trans ((hBK.on.block _ (by omega) (by omega)).trans HX7.out);have HX7':=Ab hx7';have HBR:Hid (Below w.heap.size w (w10.setCell ⟨pr,4,none⟩ (.slice aT K cT))):=hB10.trans ((Ag.set (S:=fun q=>q=pr) pr 4 _ rfl).below _ (fun q e=>by omega) hB10.size)
 have HIS:Hid (∀W',Ag (fun q=>q=w.heap.size+1) (w10.setCell ⟨pr,4,none⟩ (.slice aT K cT)) W'->BM W' (.agg #[.int .i64 (n:Int),.int .i64 (Aj l),.int .i64 0,.slice a7 K c7,.slice aT K cT]) ⟨(n:Int),Aj l,0,(List.range K).map (fun k=>(List.range n).map (oF (gP nx a.start 0 n k))),gN nx a.start 0 n K⟩):=fun W' hW=>by
  have h1:Ag (fun q=>q=pr\/q<w9.heap.size) w10 W':=((Ag.set (S:=fun q=>q=pr\/q<w9.heap.size) pr 4 (.slice aT K cT) (.inl rfl))).trans (hW.mono fun q _ e=>.inr (by omega));refine⟨_,_,rfl,⟨by show I64 (n:Int);unfold I64;omega,by show I64 (Aj l);unfold I64;omega,by show I64 0;unfold I64;omega⟩, ?_, ?_⟩
  ·refine HBK.out.is (by omega) (fun j hj=>⟨by simp;omega,fun x hx=> ?_⟩) W' h1;obtain⟨y,hy,rfl⟩:=List.mem_map.1 hx;have:=HOB.out j hj y (List.mem_range.1 hy);unfold I64;omega
  ·have h3:=HT.out W' (h1.mono fun q _ e=> ?_)
   ·rwa [hgl]at h3
   rcases e with e|e
   ·exact .inr ((HBK.out.hH q).2 (.inl e))
   ·exact .inl e
 have q0:=Aa 0 hx7';have q1:=Aa 1 hx7';have q2:=Aa 2 hx7';have q3:=Aa 3 hx7';have q4:=Aa 4 hx7';have f0:=Ay 0 hx7';have f1:=Ay 1 hx7';have f2:=Ay 2 hx7';have f3:=Ay 3 hx7';have f4:=Ay 4 hx7';have r0:=Aa 0 hbx;have r1:=Aa 1 hbx;have r2:=Aa 2 hbx;have r3:=Aa 3 hbx;have r4:=Aa 4 hbx;clear hBK hT hbx hx7' hB10 hgl hx7 hx8 hx9 hB7
 go_upto_region 9 with(fail)
 clear z4 zf k1';generalize w10.setCell ⟨pr,4,none⟩ (.slice aT K cT)=w11 at*;go_wp2;have hc5:=Ee (a:=.int .i64 (n:Int)) (b:=.int .i64 (Aj l)) (c:=.int .i64 0) (d:=.slice a7 K c7) (e:=.slice aT K cT) HX7'.out;have cc0:=Aa 0 hc5;have cc1:=Aa 1 hc5;have cc2:=Aa 2 hc5;have cc3:=Aa 3 hc5;have cc4:=Aa 4 hc5;refine bodyPost_ret (v:=.tuple #[.agg #[.int .i64 (n:Int),.int .i64 (Aj l),.int .i64 0,.slice a7 K c7,.slice aT K cT],.int .i64 0]) (by simp[results,Tryz.results38,go_sem,cc0,cc1,cc2,cc3,cc4]) rfl ?_;exact Gr HBR.out (by omega) (fun W' h=>HIS.out W' h)
end Go.Proofs.YtncjeamdkjcebaaGreatDoor
