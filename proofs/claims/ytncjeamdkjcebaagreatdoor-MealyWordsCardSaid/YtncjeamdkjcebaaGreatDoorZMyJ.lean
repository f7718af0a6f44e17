/- What mealy.join computes: the letters of all inputs and outputs. -/
import Derived.Test.YtncjeamdkjcebaaGreatDoorZMyV4
set_option linter.all false
set_option maxHeartbeats 4000000
set_option maxRecDepth 100000
namespace Go.Proofs.YtncjeamdkjcebaaGreatDoor
open Go.RowKit
def RJo(sa:Option Addr)(sn sc ob n r g m o:Nat)(x:Int)(ix:Nat)(u:Value)(_:World):Prop:=
 match ix with
 |0=>u=.slice (some ⟨ob,0,none⟩) n n
 |1|6=>u=.int .i64 (r:Int)
 |2=>u=.pointer (some ⟨ob,r,none⟩)
 |3=>u=.slice (some ⟨g,0,none⟩) m m
 |4|7=>u=.int .i64 (o:Int)
 |5=>u=.slice sa sn sc
 |8=>u=.int .i64 x
 |9=>u=.pointer (some ⟨g,o,none⟩)
 | _=>True
theorem RJo.below{ix:Nat}{u:Value}{W W':World}{sa:Option Addr}{sn sc ob n r g m o:Nat}{x:Int}(h:RJo sa sn sc ob n r g m o x ix u W)(_:Below W.heap.size W W'):RJo sa sn sc ob n r g m o x ix u W':=by
 unfold RJo at*
 split at h<;>first|exact h|trivial
theorem MB(w:World)(vl:Value)(l:List Sig)(hK:BN w)(hl:AH w vl l)(hv:At l=true):Calls Tryz.prog 56 #[vl] w (Et (Aq l) w):=by
 have hmx:Tryz.prog.follows .mixedOrders=true:=by kernel_rfl
 obtain⟨⟨hi0,hi1⟩,⟨ho0,ho1⟩⟩:=C7 hv;have HVS:=Ab hv
 have HI0:Hid (∀W,Below w.heap.size w W->Calls Tryz.prog 78 #[vl] W (Av (.int .i64 (Ap l)) W)):=fun W h=>DJ W _ _ (hK.below h) (hl.below h)
 have HO0:Hid (∀W,Below w.heap.size w W->Calls Tryz.prog 79 #[vl] W (Av (.int .i64 (Aj l)) W)):=fun W h=>CY W _ _ (hK.below h) (hl.below h)
 have HJ0:Hid (∀W i o,I64 i->I64 o->Below w.heap.size w W->Calls Tryz.prog 93 #[vl,.int .i64 i,.int .i64 o] W (Av (.int .i64 (AO l i o)) W)):=fun W i o h1 h2 h=>Ma W _ _ i o h1 h2 (hK.below h) (hl.below h)
 obtain⟨sa,sc,rfl⟩:=hl.shape;clear hl hK hv;generalize l.length=sn at*;have HNN:=Ab (rfl:(Ap l).toNat=(Ap l).toNat);obtain⟨n,hn⟩:∃n:Nat,Ap l=(n:Int):=⟨(Ap l).toNat,by omega⟩;obtain⟨m,hm⟩:∃m:Nat,Aj l=(m:Int):=⟨(Aj l).toNat,by omega⟩
 have HN:Hid ((Ap l).toNat=n):=by show _=_;omega
 have HM:Hid ((Aj l).toNat=m):=by show _=_;omega
 rw[hn]at HI0 hi0 hi1;rw[hm]at HO0 ho0 ho1;clear hn hm HNN
 go_enter Tryz.func56,Tryz.ntmps56
 go_wp2_with fail
 refine(HI0.out _ Ad).mono ?_;rintro e w2 ⟨rfl,hb2⟩;obtain⟨B,hB⟩:∃B,B=w2.heap.size:=⟨_,rfl⟩
 go_upto_region 2 with(at_make;refine Lp rfl _ _ _ Tryz.underlying23 rfl B (n:Int) n rfl rfl rfl (by omega) (by omega) ?_;intro wm hown hgr)
 rw[<-hB]at hown⊢;have HBB:=Ab hB
 have hbm:Hid (Below B w2 wm):=by show Below _ _ _;rw[hB];exact Ad.grown hgr leR (fun k hk=>by cases hk)
 have HB2:=Ab hb2
 have HR0:Hid (Bl wm B n B (List.replicate n (.slice none 0 0)) (BH l 0)):=by
  rw[Io,HN.out]
  have hg:∀j,j<n->(List.replicate n (Value.slice none 0 0)).getD j undef=.slice none 0 0:=fun j hj=>by simp[List.getD,hj]
  have hg2:∀j,j<n->(List.replicate n ([]:List Int)).getD j []=[]:=fun j hj=>by simp[List.getD,hj]
  refine⟨hown,fun j hj=> ?_,fun i j hi hj _=> ?_,fun j hj=> ?_,by simp,by simp⟩
  ·rw[hg j hj,hg2 j hj];exact BC _ _
  ·rw[hg i hi];intro k hk;cases hk
  ·rw[hg j hj];intro hk;cases hk
 clear hown hgr hB hb2 HI0
 go_wp2_with fail
 go_loopg [11] n (fun gh i wr=>∃(u:Nat)(vals:List Value),gh=n-u/\i=.int .i64 (u:Int)/\u<=n/\Hid (Bl wr B n B vals (BH l u))/\Hid (Below B w2 wr))
 case atStart=>exact⟨0,_,rfl,rfl,by omega,HR0,hbm⟩
 case round=>
  clear HR0 hbm;obtain⟨u,vals,hgu,rfl,hu,HR,HB⟩:=hrel;have HGU:=Ab hgu;clear hgu
  by_cases hltu:u<n
  ·have hu0:(0:Int)<=(u:Int):=by omega
   have hu1:(u:Int)<(n:Int):=by omega
   have HWB:Hid (Below w.heap.size w wr):=by
    show Below _ _ _;have:=HB.out;rw[HBB.out]at this;exact HB2.out.trans (this.mono HB2.out.size)
   go_wp2_with fail
   refine(HO0.out _ HWB.out).mono ?_;rintro e w3 ⟨rfl,hb3⟩;have HB3:=Ab (HB.out.trans (hb3.mono (by have:=HR.out.row;omega)))
   have hbs:B<=w3.heap.size:=by have:=HR.out.row;have:=hb3.size;omega
   have HR3:Hid (Bl w3 B n B vals (BH l u)):=HR.out.only (S:=fun _=>False) ⟨hb3.os,hb3.tape,hb3.output,hb3.size,fun k hk _=>hb3.block k hk⟩ (fun h=>h) (fun _ _ _ _ h=>h);clear HR HB hb3 HWB;have cu:=HR3.out.cell hltu;have fu:=HR3.out.fz u
   go_upto_region 6 with(at_make;refine FY rfl _ _ _ Tryz.underlying26 rfl B (m:Int) m rfl rfl rfl (by omega) hbs ?_;intro w4 hown hgr;obtain⟨q1,q2,q3⟩:=HR3.out.push (l:=List.replicate m 0) hltu hown (⟨hgr.os,hgr.tape,hgr.output,hgr.size,fun k hk _=>hgr.block k hk (by simp)⟩) (fun b e=>.inr (by cases e;exact Nat.le_refl _));have HQ3:=Ab q3;have HB4:Hid (Below B w2 w4):=HB3.out.trans (Ad.grown hgr (by omega) (fun k hk=>by cases hk));clear q3 hown hgr)
   have HB5:Hid (Below B w2 (w4.setCell ⟨B,u,none⟩ (.slice (some ⟨w3.heap.size,0,none⟩) m m))):=HB4.out.trans ((Ag.set (S:=fun q=>q=B) B u _ rfl).below _ (fun q e=>by have e:q=B:=e;omega) (by have:=HB4.out.size;have:=HBB.out;omega));have HVu:Hid ((vals.set u (.slice (some ⟨w3.heap.size,0,none⟩) m m)).getD u undef=.slice (some ⟨w3.heap.size,0,none⟩) m m):=AA _ _ _ _ (by rw[HR3.out.lv];exact hltu)
   have HQ5:Hid (Bl (w4.setCell ⟨B,u,none⟩ (.slice (some ⟨w3.heap.size,0,none⟩) m m)) B n B (vals.set u (.slice (some ⟨w3.heap.size,0,none⟩) m m)) ((BH l u).set u (CD l u 0))):=by
    rw[Ip,HM.out];exact HQ3.out
   clear HQ3 HB4 q1 q2 cu fu hbs HB3;generalize w4.setCell ⟨B,u,none⟩ (.slice (some ⟨w3.heap.size,0,none⟩) m m)=w5 at*;generalize vals.set u (.slice (some ⟨w3.heap.size,0,none⟩) m m)=vals2 at*
   have hg3:B<=w3.heap.size:=by have:=HR3.out.row;omega
   clear HR3;generalize w3.heap.size=g at*;have cu:=HQ5.out.cell hltu;rw[HVu.out]at cu
   go_wp2_with fail
   clear cu
   go_loopg [25] m (fun gh i wr=>∃o:Nat,gh=m-o/\i=.int .i64 (o:Int)/\o<=m/\Hid (Bl wr B n B vals2 ((BH l u).set u (CD l u o)))/\Hid (Below B w2 wr))
   case atStart=>exact⟨0,rfl,rfl,by omega,HQ5,HB5⟩
   case round=>
    clear HQ5 HB5;obtain⟨o,hgo,rfl,ho,HR,HB⟩:=hrel;have HGO:=Ab hgo;clear hgo
    by_cases hlto:o<m
    ·have hoo0:(0:Int)<=(o:Int):=by omega
     have hoo1:(o:Int)<(m:Int):=by omega
     have HRL:Hid ((CD l u o).length=m):=by show _=_;rw[Jr,HM.out]
     have HJL:Hid (u<(BH l u).length):=by show _<_;rw[Jp,HN.out];exact hltu
     have HRO:=Ab HR.out.row
     have HBD:Hid (∀W,Below wr.drew.heap.size wr.drew W->Below wr.heap.size wr W):=fun W h=>(Below.drew (B:=wr.heap.size) Ad).trans h
     have HRW:Hid (∀W,Below wr.drew.heap.size wr.drew W->Bl W B n B vals2 ((BH l u).set u (CD l u o))/\Below B w2 W):=fun W h=>⟨HR.out.only (S:=fun _=>False) ⟨(HBD.out W h).os,(HBD.out W h).tape,(HBD.out W h).output,(HBD.out W h).size,fun k hk _=>(HBD.out W h).block k hk⟩ (fun h=>h) (fun _ _ _ _ h=>h),HB.out.trans ((HBD.out W h).mono (by have:=HRO.out;omega))⟩
     have HCl:Hid (∀W,Below wr.drew.heap.size wr.drew W->W.cell? ⟨B,u,none⟩=some (.slice (some ⟨g,0,none⟩) m m)):=fun W h=>by rw[<-HVu.out];exact(HRW.out W h).1.cell hltu
     have HJ2:Hid (∀W,Below wr.drew.heap.size wr.drew W->Calls Tryz.prog 93 #[.slice sa sn sc,.int .i64 (u:Int),.int .i64 (o:Int)] W (Av (.int .i64 (AO l (u:Int) (o:Int))) W)):=fun W h=>HJ0.out W _ _ (by unfold I64;omega) (by unfold I64;omega) (by
      have h1:=(HRW.out W h).2;rw[HBB.out]at h1
      exact HB2.out.trans (h1.mono HB2.out.size))
     clear HR HB
     go_upto_region 9 with(fail)
     refine Ci hmx (RJo sa sn sc B n u g m o (AO l (u:Int) (o:Int))) (fun vs=>{tmps:=(_::_::_::_::_::_::_::_::_::_::_::_::_::_::_::_::_::_::_::_::_::_::_::_::_::_::_::_::vs 0::vs 1::vs 2::vs 3::vs 4::vs 5::vs 6::vs 7::vs 8::vs 9::_::_::_::[]).toArray,defers:=[]}) (fun n=>[u28,u29,u30,u31,u32,u33,u34,u35,u36,u37].getD n undef) 10 rfl (by kernel_rfl) (by kernel_rfl) (fun i v W W' h hb=>RJo.below h hb) ?step ?last
     case step=>
      intro ix oo hlt ho
      match ix,hlt,ho with
      |0,hlt,ho|1,hlt,ho|2,hlt,ho|4,hlt,ho|5,hlt,ho|6,hlt,ho|7,hlt,ho|9,hlt,ho=>
       obtain rfl:=osI ho;intro vs W K hB hD hK;have HK:=Ab hK
       try have e0:vs 0=.slice (some ⟨B,0,none⟩) n n:=Ac hD 0 rfl
       try have e1:vs 1=.int .i64 (u:Int):=Ac hD 1 rfl
       try have e3:vs 3=.slice (some ⟨g,0,none⟩) m m:=Ac hD 3 rfl
       try have e4:vs 4=.int .i64 (o:Int):=Ac hD 4 rfl
       clear hK hD ho hlt;dsimp only;go_simp;have h:=HK.out _ _ Ad rfl;simp only[upd,Nat.reduceEqDiff,reduceIte, *]at h;exact h
      |3,hlt,ho=>
       obtain rfl:=osI ho;intro vs W K hB hD hK;have HK:=Ab hK;have e2:vs 2=.pointer (some ⟨B,u,none⟩):=Ac hD 2 rfl;have q:=HCl.out W hB;clear hK hD ho hlt;dsimp only;go_simp;have h:=HK.out _ _ Ad rfl;simp only[upd,Nat.reduceEqDiff,reduceIte,e2]at h;exact h
      |8,hlt,ho=>
       obtain rfl:=osI ho;intro vs W K hB hD hK;have HK:=Ab hK;have e5:vs 5=.slice sa sn sc:=Ac hD 5 rfl;have e6:vs 6=.int .i64 (u:Int):=Ac hD 6 rfl;have e7:vs 7=.int .i64 (o:Int):=Ac hD 7 rfl;clear hK hD ho hlt;dsimp only;go_simp;refine(HJ2.out W hB).mono ?_;rintro e W' ⟨rfl,hb⟩;have h:=HK.out _ _ hb rfl;simp only[upd,Nat.reduceEqDiff,reduceIte,e5,e6,e7]at h;exact h
      |q+10,hlt,_=>exact absurd hlt (by omega)
     case last=>
      intro oo ho;obtain rfl:=osI ho;intro vs W K hB hall hK;have HK:=Ab hK;have e8:vs 8=.int .i64 (AO l (u:Int) (o:Int)):=hall 8 (by omega);have e9:vs 9=.pointer (some ⟨g,o,none⟩):=hall 9 (by omega);obtain⟨hR,hBl⟩:=HRW.out W hB;have he:=hR.e u hltu;rw[HVu.out,AA _ _ _ _ HJL.out]at he;have c1:=he.at' HRL.out.symm o (by rw[HRL.out];exact hlto);have f1:=he.fz HRL.out.symm o;have p3:=hR.elem hltu HVu.out (by rw[AA _ _ _ _ HJL.out,HRL.out]) o (AO l (u:Int) (o:Int));rw[AA _ _ _ _ HJL.out,List.set_set,Js]at p3;have HP3:=Ab p3;have HBl:Hid (Below B w2 (W.setCell ⟨g,o,none⟩ (.int .i64 (AO l (u:Int) (o:Int))))):=hBl.trans ((Ag.set (S:=fun q=>q=g) g o _ rfl).below _ (fun q e=>by have e:q=g:=e;omega) (by have:=hR.row;omega));clear hK hall ho p3 hR he hBl;dsimp only;go_simp;refine HK.out _ _ ?_;go_wp2
      go_roundg (m-(o+1))
      case measure=>have:=HGO.out;omega
      case rel=>exact⟨o+1,rfl,by go_num,by omega,HP3,HBl⟩
    ·have hoo1:¬(o:Int)<(m:Int):=by omega
     have HR2:Hid (Bl wr B n B vals2 (BH l (u+1))):=by
      have:=HR.out
      rwa [show o=m by omega,show CD l u m=CD l u (Aj l).toNat by rw[HM.out],Jq]at this
     clear HR;go_wp2
     go_roundg (n-(u+1))
     case measure=>have:=HGU.out;omega
     case rel=>exact⟨u+1,vals2,rfl,by go_num,by omega,HR2,HB⟩
  ·have hu1:¬(u:Int)<(n:Int):=by omega
   have HRT:Hid (Ar wr (.slice (some ⟨B,0,none⟩) n n) (Aq l)):=by
    show Ar _ _ _;have h1:=HR.out;rw[show u=(Ap l).toNat by rw[HN.out];omega,Jo]at h1;exact h1.is (by omega) (fun j hj=>Lk HVS.out j (by rw[HN.out];exact hj))
   have HWB:Hid (Below w.heap.size w wr):=by
    show Below _ _ _;have:=HB.out;rw[HBB.out]at this;exact HB2.out.trans (this.mono HB2.out.size)
   clear HR;go_wp2;go_ret;exact⟨_,rfl,HRT.out,HWB.out⟩
end Go.Proofs.YtncjeamdkjcebaaGreatDoor
namespace Go.Proofs.YtncjeamdkjcebaaGreatDoor
open Go Go.RowKit
section
variable {P:Program} {F:Fence} {n:Nat}
def Kz(F:Fence)(n:Nat)(P:Program)(g:Nat)(lb:Array Value)(encs:Nat->Array Value)(Kp:Nat->World->World->Prop)(N:Nat)(w:World):Prop:=
 ∀(l:Nat)(J Jx:Nat->World->Prop)(W:World),Below w.heap.size w W->AbidesFrom W.heap.size J->AbidesFrom W.heap.size Jx->
  (∀k A B,J k A->W.heap.size+2<=A.heap.size->A.grownBy B (some (W.heap.size+1))->J k B)->
  (∀k W1,J k W1->W.heap.size+2<=W1.heap.size->k<N->YieldAt F (n-1) P l (encs k) W1 fun e W'=>
   (e=.returned (.bool true)/\k+1<N/\J (k+1) W'/\Kp W.heap.size W1 W')\/(e=.returned (.bool false)/\Jx (k+1) W'))->
  0<N->J 0 W->
  CallsIn F n P g (#[.func (.yield l) #[] #[]]++lb) W fun e W'=>(∃v,e=.returned v)/\∃k,Jx k W'
def Nl(B:Nat)(Kp:World->World->Prop)(I:Nat->World->Prop)(Ix:Code->Nat->World->Prop)(N k:Nat)(W:World):Exit->Act->World->Prop
 |.normal,_,W'=>KeepsFrom B W W'/\Kp W W'/\k+1<N/\I (k+1) W'
 |.ret,_,W'=>KeepsFrom B W W'/\Ix .ret (k+1) W'
 |.exit id,_,W'=>KeepsFrom B W W'/\Ix (.exit id) (k+1) W'
 |.goto t,_,W'=>KeepsFrom B W W'/\Ix (.goto t) (k+1) W'
 |.panic _,_,_=>False
 |.outgrown,_,_=>False
theorem F7{g:Operand}{ps:Array Tmp}{assign body:Code}{Q:Exit->Act->World->Prop}{a:Act}{w:World}
  (hro:F.round=none) (h1:1<=n) {gf:Nat} {lb:Array Value} (hg:a.eval g=.func (.func gf) #[] lb) (hFg:F.fn gf) (eg:∀args w,(callFunc gf args).run P w=.ok (.enter gf args) w)
  {encs:Nat->Array Value} {Kp:Nat->World->World->Prop} {N:Nat} {w0:World} (hseq:Kz F (n-1) P gf lb encs Kp N w0) (hN:0<N)
  (hKt:∀{A B C:World},Kp (w.heap.size+2) A B->Kp (w.heap.size+2) B C->Kp (w.heap.size+2) A C) (hKb:∀(W:World)(l:Nat)(o o':Obj),w.heap.size<=l->l<w.heap.size+2->W.heap[l]? =some o->o.isCells=false->o.isWalk=false->Kp (w.heap.size+2) W (W.putObj l o')) (hb0:Below w0.heap.size w0 w) (hps:∀k,(encs k).size=ps.size)
  (I:Nat->World->Prop) (Ix:Code->Nat->World->Prop) (hI:OwnFrom w.heap.size I) (hIg:∀k A B,I k A->w.heap.size+4<=A.heap.size->A.grownBy B (some (w.heap.size+3))->I k B) (hIx:∀c,OwnFrom w.heap.size (Ix c)) (h0:I 0 w) (a₁:Nat->Act)
  (hassign:∀(l k:Nat)(W:World)(K:Act->World->Prop),K (a₁ k) W->
   assign.wpIn (F.inRound l) (n-1-1) P (Exit.then K (fun _ _ _=>False)) {tmps:=(ps.zip (encs k)).foldl (fun t(p,v)=>t.setIfInBounds p v) a.tmps,defers:=[]} W)
  (hbody:∀(l k:Nat)(W:World),I k W->w.heap.size+4<=W.heap.size->k<N->body.wpIn (F.inRound l) (n-1-1) P (Nl w.heap.size (Kp (w.heap.size+2)) I Ix N k W) (a₁ k) W)
  (hstop:∀(D:Nat)(c:Code)(k:Nat)(W:World),w.heap.size<=D->Ix c k W->W.heap[D]? =some (.deferred (some []))->c.wpIn F n P Q {a with defers:={target:=.collected D,args:=#[]}::a.defers} W):
  (Code.rangeFunc g ps assign body).wpIn F n P Q a w:=by
 refine wpIn_rangeFunc fun fn hfn=> ?_
 rw[hro]
 obtain⟨R,hR⟩:∃R:LoopState->Option Code->Loop,R=fun s p=>{state:=s,pending:=p,fn,tmps:=a.tmps,params:=ps,assign,body,defers:=w.heap.size}:=⟨_,rfl⟩
 obtain⟨V,hV⟩:∃V,(w.alloc (.deferred (some []))).alloc (.loop (R .ready none))=V:=⟨_,rfl⟩
 have vL:V.heap[w.heap.size+1]? =some (.loop (R .ready none)):=by
  have:=World.alloc_heap_new (w.alloc (.deferred (some []))) (.loop (R .ready none))
  rwa [World.size_alloc,hV]at this
 have vD:V.heap[w.heap.size]? =some (.deferred (some [])):=by
  rw[<-hV];exact(Below.heap_alloc _ _ _ (by simp)).trans (World.alloc_heap_new w _)
 have vs:V.heap.size=w.heap.size+2:=by rw[<-hV];simp
 have vI:I 0 V:=by rw[<-hV];exact hI.alloc _ (hI.alloc _ h0)
 have vb:Below w0.heap.size w0 V:=by
  rw[<-hV];exact hb0.trans ((((Below.refl _ w).alloc leR _).alloc (by simp) _).mono hb0.size)
 have wide:∀{A:World}{row:Option Nat},(∀r,row=some r->V.heap.size<=r/\∃o:Obj,A.heap[r]? =some o/\o.isWalk=true)->(∀r,row=some r->w.heap.size<=r/\∃o:Obj,A.heap[r]? =some o/\o.isCells=false):=
  fun hr r e=>by
   obtain⟨hB,o,ho,hw⟩:=hr r e;exact⟨by omega,o,ho,Obj.not_cells_of_walk hw⟩
 refine⟨w.heap.size+1,[{target:=.collected w.heap.size,args:=#[]}],V,{target:=.fn (.func gf) lb,args:=#[.func (.yield (w.heap.size+1)) #[] #[]]},V,gf,#[.func (.yield (w.heap.size+1)) #[] #[]]++lb,V, ?_, ?_, ?_, ?_,fun _=>h1, ?_⟩
 ·rw[<-hV,hR];exact run_enterLoop_outer _ _ _ _ _
 ·simp only[resolve,hg];simp[go_sem]
 ·intro f' hf';simp[Target.leads]at hf';subst hf';exact hFg
 ·simp[invoke,go_sem,eg]
 refine(hseq (w.heap.size+1) (fun k W=>I k W/\W.heap[w.heap.size+1]? =some (.loop (R .ready none))/\W.heap[w.heap.size]? =some (.deferred (some [])))
  (fun k W=>∃c,Ix c k W/\W.heap[w.heap.size+1]? =some (.loop (R .done (some c)))/\W.heap[w.heap.size]? =some (.deferred (some []))) V vb ?_ ?_ ?_ ?_ hN ⟨vI,vL,vD⟩).mono ?_
 ·intro s A B row hs hg' hr;exact⟨hI s A B row hs.1 hg' (wide hr),(grownBy_keeps hg' (fun r e=>(hr r e).2) hs.2.1 rfl).trans hs.2.1,(grownBy_keeps hg' (fun r e=>(hr r e).2) hs.2.2 rfl).trans hs.2.2⟩
 ·rintro s A B row ⟨c,hc,hl,hd⟩ hg' hr;exact⟨c,hIx c s A B row hc hg' (wide hr),(grownBy_keeps hg' (fun r e=>(hr r e).2) hl rfl).trans hl,(grownBy_keeps hg' (fun r e=>(hr r e).2) hd rfl).trans hd⟩
 ·rintro k A B ⟨hi,hl,hd⟩ hsz hg';rw[vs]at hsz hg';exact⟨hIg k A B hi (by omega) (by rw[show w.heap.size+3=w.heap.size+2+1 by omega];exact hg'),(hg'.block _ (ltE hl) (by simp)).trans hl,(hg'.block _ (ltE hd) (by simp;omega)).trans hd⟩
 · -- one round
  rintro k W ⟨hi,hl,hd⟩ hsz hk;rw[vs]at hsz;have hlt:w.heap.size+1<W.heap.size:=(ltE hl);have hy:=run_yield (P:=P) (args:=encs k) hl (by rw[hR];exact hps k);rw[hR]at hy;refine⟨fn,_,assign,body,hy,roundIn_of_wpIn hfn (hassign _ k W _ ⟨_,run_beginRound hl (by rw[hR]), ?_⟩)⟩;obtain⟨U,hU⟩:∃U,W.putObj (w.heap.size+1) (.loop {R .ready none with state:=.busy})=U:=⟨_,rfl⟩
  have uL:U.heap[w.heap.size+1]? =some (.loop {R .ready none with state:=.busy}):=by rw[<-hU];exact World.putObj_heap_same hlt
  have uD:U.heap[w.heap.size]? =some (.deferred (some [])):=by rw[<-hU];exact(World.putObj_heap_other (by omega)).trans hd
  have uK:Kp (w.heap.size+2) W U:=by rw[<-hU];exact hKb _ _ _ _ (by omega) (by omega) hl rfl rfl
  have uS:w.heap.size+4<=U.heap.size:=by rw[<-hU,World.putObj_size];omega
  have uI:I k U:=by rw[<-hU];exact hI.putObj _ hi (by omega) hl rfl
  rw[hU]
  have shut:∀(j:Option Code)(X:World),KeepsFrom w.heap.size U X->
    (Instr.endRound (w.heap.size+1) j).run P X=.ok (.bool j.isNone) (X.putObj (w.heap.size+1) (.loop (R (if j.isNone then .ready else .done) j)))/\
    X.heap[w.heap.size+1]? =some (.loop {R .ready none with state:=.busy})/\
    (X.putObj (w.heap.size+1) (.loop (R (if j.isNone then .ready else .done) j))).heap[w.heap.size+1]? =some (.loop (R (if j.isNone then .ready else .done) j))/\
    (X.putObj (w.heap.size+1) (.loop (R (if j.isNone then .ready else .done) j))).heap[w.heap.size]? =some (.deferred (some [])):=fun j X hX=>by
   have xL:=hX.same _ _ (by omega) uL rfl;have:=run_endRound (P:=P) j xL;rw[hR]at this⊢;exact⟨this,by rw[hR]at xL;exact xL,World.putObj_heap_same (ltE xL),(World.putObj_heap_other (by omega)).trans (hX.same _ _ leR uD rfl)⟩
  refine wpIn_mono (hbody _ k U uI uS hk) ?_;rintro e a3 X hp
  cases e with
  |normal=>
   obtain⟨hX,kX,kN,iX⟩:=hp;obtain⟨hr,x1,x2,x3⟩:=shut none X hX;exact⟨_,_,hr,.inl ⟨rfl,kN,⟨hI.putObj _ iX (by omega) x1 rfl,x2,x3⟩,by rw[vs];exact hKt (hKt uK kX) (hKb _ _ _ _ (by omega) (by omega) x1 rfl rfl)⟩⟩
  |ret=>
   obtain⟨hX,iX⟩:=hp;obtain⟨hr,x1,x2,x3⟩:=shut (some .ret) X hX;exact⟨_,_,hr,.inr ⟨rfl,.ret,(hIx _).putObj _ iX (by omega) x1 rfl,x2,x3⟩⟩
  |exit id=>
   obtain⟨hX,iX⟩:=hp;obtain⟨hr,x1,x2,x3⟩:=shut (some (.exit id)) X hX;exact⟨_,_,hr,.inr ⟨rfl,.exit id,(hIx _).putObj _ iX (by omega) x1 rfl,x2,x3⟩⟩
  |goto t=>
   obtain⟨hX,iX⟩:=hp;obtain⟨hr,x1,x2,x3⟩:=shut (some (.goto t)) X hX;exact⟨_,_,hr,.inr ⟨rfl,.goto t,(hIx _).putObj _ iX (by omega) x1 rfl,x2,x3⟩⟩
  |panic ch=>exact hp.elim
  |outgrown=>exact hp.elim
 · -- behind the iterator
  rintro e X ⟨⟨v,rfl⟩,k,c,hi,hl,hd⟩;exact⟨some c,_,by have:=run_endLoop (P:=P) hl (by rw[hR];simp);rw[hR]at this;exact this,hstop _ c k _ leR ((hIx c).putObj _ hi (by omega) hl rfl) ((World.putObj_heap_other (by omega)).trans hd)⟩
end
section
variable {P:Program} {F:Fence} {n:Nat}
def Ja(F:Fence)(n:Nat)(P:Program)(g:Nat)(lb:Array Value)(encs:Nat->Array Value)(Kp:Nat->World->World->Prop)(N:Nat)(w:World):Prop:=
 ∀(l:Nat)(J Jx:Nat->World->Prop)(W:World),Below w.heap.size w W->AbidesFrom W.heap.size J->AbidesFrom W.heap.size Jx->
  (∀k W1,J k W1->W.heap.size<=W1.heap.size->k<N->YieldAt F (n-1) P l (encs k) W1 fun e W'=>
   (e=.returned (.bool true)/\k+1<N/\J (k+1) W'/\Kp W.heap.size W1 W')\/(e=.returned (.bool false)/\Jx (k+1) W'))->
  0<N->J 0 W->
  CallsIn F n P g (#[.func (.yield l) #[] #[]]++lb) W fun e W'=>(∃v,e=.returned v)/\∃k,Jx k W'
theorem FB{g:Operand}{ps:Array Tmp}{assign body:Code}{Q:Exit->Act->World->Prop}{a:Act}{w:World}
  (hro:F.round=none) (h1:1<=n) {gf:Nat} {lb:Array Value} (hg:a.eval g=.func (.func gf) #[] lb) (hFg:F.fn gf) (eg:∀args w,(callFunc gf args).run P w=.ok (.enter gf args) w)
  {encs:Nat->Array Value} {Kp:Nat->World->World->Prop} {N:Nat} {w0:World} (hseq:Ja F (n-1) P gf lb encs Kp N w0) (hN:0<N)
  (hKt:∀{A B C:World},Kp (w.heap.size+2) A B->Kp (w.heap.size+2) B C->Kp (w.heap.size+2) A C) (hKb:∀(W:World)(l:Nat)(o o':Obj),w.heap.size<=l->l<w.heap.size+2->W.heap[l]? =some o->o.isCells=false->o.isWalk=false->Kp (w.heap.size+2) W (W.putObj l o')) (hb0:Below w0.heap.size w0 w) (hps:∀k,(encs k).size=ps.size)
  (I:Nat->World->Prop) (Ix:Code->Nat->World->Prop) (hI:OwnFrom w.heap.size I) (hIx:∀c,OwnFrom w.heap.size (Ix c)) (h0:I 0 w) (a₁:Nat->Act)
  (hassign:∀(l k:Nat)(W:World)(K:Act->World->Prop),K (a₁ k) W->
   assign.wpIn (F.inRound l) (n-1-1) P (Exit.then K (fun _ _ _=>False)) {tmps:=(ps.zip (encs k)).foldl (fun t(p,v)=>t.setIfInBounds p v) a.tmps,defers:=[]} W)
  (hbody:∀(l k:Nat)(W:World),I k W->w.heap.size+2<=W.heap.size->k<N->body.wpIn (F.inRound l) (n-1-1) P (Nl w.heap.size (Kp (w.heap.size+2)) I Ix N k W) (a₁ k) W)
  (hstop:∀(D:Nat)(c:Code)(k:Nat)(W:World),w.heap.size<=D->Ix c k W->W.heap[D]? =some (.deferred (some []))->c.wpIn F n P Q {a with defers:={target:=.collected D,args:=#[]}::a.defers} W):
  (Code.rangeFunc g ps assign body).wpIn F n P Q a w:=by
 refine wpIn_rangeFunc fun fn hfn=> ?_
 rw[hro]
 obtain⟨R,hR⟩:∃R:LoopState->Option Code->Loop,R=fun s p=>{state:=s,pending:=p,fn,tmps:=a.tmps,params:=ps,assign,body,defers:=w.heap.size}:=⟨_,rfl⟩
 obtain⟨V,hV⟩:∃V,(w.alloc (.deferred (some []))).alloc (.loop (R .ready none))=V:=⟨_,rfl⟩
 have vL:V.heap[w.heap.size+1]? =some (.loop (R .ready none)):=by
  have:=World.alloc_heap_new (w.alloc (.deferred (some []))) (.loop (R .ready none))
  rwa [World.size_alloc,hV]at this
 have vD:V.heap[w.heap.size]? =some (.deferred (some [])):=by
  rw[<-hV];exact(Below.heap_alloc _ _ _ (by simp)).trans (World.alloc_heap_new w _)
 have vs:V.heap.size=w.heap.size+2:=by rw[<-hV];simp
 have vI:I 0 V:=by rw[<-hV];exact hI.alloc _ (hI.alloc _ h0)
 have vb:Below w0.heap.size w0 V:=by
  rw[<-hV];exact hb0.trans ((((Below.refl _ w).alloc leR _).alloc (by simp) _).mono hb0.size)
 have wide:∀{A:World}{row:Option Nat},(∀r,row=some r->V.heap.size<=r/\∃o:Obj,A.heap[r]? =some o/\o.isWalk=true)->(∀r,row=some r->w.heap.size<=r/\∃o:Obj,A.heap[r]? =some o/\o.isCells=false):=
  fun hr r e=>by
   obtain⟨hB,o,ho,hw⟩:=hr r e;exact⟨by omega,o,ho,Obj.not_cells_of_walk hw⟩
 refine⟨w.heap.size+1,[{target:=.collected w.heap.size,args:=#[]}],V,{target:=.fn (.func gf) lb,args:=#[.func (.yield (w.heap.size+1)) #[] #[]]},V,gf,#[.func (.yield (w.heap.size+1)) #[] #[]]++lb,V, ?_, ?_, ?_, ?_,fun _=>h1, ?_⟩
 ·rw[<-hV,hR];exact run_enterLoop_outer _ _ _ _ _
 ·simp only[resolve,hg];simp[go_sem]
 ·intro f' hf';simp[Target.leads]at hf';subst hf';exact hFg
 ·simp[invoke,go_sem,eg]
 refine(hseq (w.heap.size+1) (fun k W=>I k W/\W.heap[w.heap.size+1]? =some (.loop (R .ready none))/\W.heap[w.heap.size]? =some (.deferred (some [])))
  (fun k W=>∃c,Ix c k W/\W.heap[w.heap.size+1]? =some (.loop (R .done (some c)))/\W.heap[w.heap.size]? =some (.deferred (some []))) V vb ?_ ?_ ?_ hN ⟨vI,vL,vD⟩).mono ?_
 ·intro s A B row hs hg' hr;exact⟨hI s A B row hs.1 hg' (wide hr),(grownBy_keeps hg' (fun r e=>(hr r e).2) hs.2.1 rfl).trans hs.2.1,(grownBy_keeps hg' (fun r e=>(hr r e).2) hs.2.2 rfl).trans hs.2.2⟩
 ·rintro s A B row ⟨c,hc,hl,hd⟩ hg' hr;exact⟨c,hIx c s A B row hc hg' (wide hr),(grownBy_keeps hg' (fun r e=>(hr r e).2) hl rfl).trans hl,(grownBy_keeps hg' (fun r e=>(hr r e).2) hd rfl).trans hd⟩
 · -- one round
  rintro k W ⟨hi,hl,hd⟩ hsz hk;rw[vs]at hsz;have hlt:w.heap.size+1<W.heap.size:=(ltE hl);have hy:=run_yield (P:=P) (args:=encs k) hl (by rw[hR];exact hps k);rw[hR]at hy;refine⟨fn,_,assign,body,hy,roundIn_of_wpIn hfn (hassign _ k W _ ⟨_,run_beginRound hl (by rw[hR]), ?_⟩)⟩;obtain⟨U,hU⟩:∃U,W.putObj (w.heap.size+1) (.loop {R .ready none with state:=.busy})=U:=⟨_,rfl⟩
  have uL:U.heap[w.heap.size+1]? =some (.loop {R .ready none with state:=.busy}):=by rw[<-hU];exact World.putObj_heap_same hlt
  have uD:U.heap[w.heap.size]? =some (.deferred (some [])):=by rw[<-hU];exact(World.putObj_heap_other (by omega)).trans hd
  have uK:Kp (w.heap.size+2) W U:=by rw[<-hU];exact hKb _ _ _ _ (by omega) (by omega) hl rfl rfl
  have uS:w.heap.size+2<=U.heap.size:=by rw[<-hU,World.putObj_size];omega
  have uI:I k U:=by rw[<-hU];exact hI.putObj _ hi (by omega) hl rfl
  rw[hU]
  have shut:∀(j:Option Code)(X:World),KeepsFrom w.heap.size U X->
    (Instr.endRound (w.heap.size+1) j).run P X=.ok (.bool j.isNone) (X.putObj (w.heap.size+1) (.loop (R (if j.isNone then .ready else .done) j)))/\
    X.heap[w.heap.size+1]? =some (.loop {R .ready none with state:=.busy})/\
    (X.putObj (w.heap.size+1) (.loop (R (if j.isNone then .ready else .done) j))).heap[w.heap.size+1]? =some (.loop (R (if j.isNone then .ready else .done) j))/\
    (X.putObj (w.heap.size+1) (.loop (R (if j.isNone then .ready else .done) j))).heap[w.heap.size]? =some (.deferred (some [])):=fun j X hX=>by
   have xL:=hX.same _ _ (by omega) uL rfl;have:=run_endRound (P:=P) j xL;rw[hR]at this⊢;exact⟨this,by rw[hR]at xL;exact xL,World.putObj_heap_same (ltE xL),(World.putObj_heap_other (by omega)).trans (hX.same _ _ leR uD rfl)⟩
  refine wpIn_mono (hbody _ k U uI uS hk) ?_;rintro e a3 X hp
  cases e with
  |normal=>
   obtain⟨hX,kX,kN,iX⟩:=hp;obtain⟨hr,x1,x2,x3⟩:=shut none X hX;exact⟨_,_,hr,.inl ⟨rfl,kN,⟨hI.putObj _ iX (by omega) x1 rfl,x2,x3⟩,by rw[vs];exact hKt (hKt uK kX) (hKb _ _ _ _ (by omega) (by omega) x1 rfl rfl)⟩⟩
  |ret=>
   obtain⟨hX,iX⟩:=hp;obtain⟨hr,x1,x2,x3⟩:=shut (some .ret) X hX;exact⟨_,_,hr,.inr ⟨rfl,.ret,(hIx _).putObj _ iX (by omega) x1 rfl,x2,x3⟩⟩
  |exit id=>
   obtain⟨hX,iX⟩:=hp;obtain⟨hr,x1,x2,x3⟩:=shut (some (.exit id)) X hX;exact⟨_,_,hr,.inr ⟨rfl,.exit id,(hIx _).putObj _ iX (by omega) x1 rfl,x2,x3⟩⟩
  |goto t=>
   obtain⟨hX,iX⟩:=hp;obtain⟨hr,x1,x2,x3⟩:=shut (some (.goto t)) X hX;exact⟨_,_,hr,.inr ⟨rfl,.goto t,(hIx _).putObj _ iX (by omega) x1 rfl,x2,x3⟩⟩
  |panic ch=>exact hp.elim
  |outgrown=>exact hp.elim
 · -- behind the iterator
  rintro e X ⟨⟨v,rfl⟩,k,c,hi,hl,hd⟩;exact⟨some c,_,by have:=run_endLoop (P:=P) hl (by rw[hR];simp);rw[hR]at this;exact this,hstop _ c k _ leR ((hIx c).putObj _ hi (by omega) hl rfl) ((World.putObj_heap_other (by omega)).trans hd)⟩
end
end Go.Proofs.YtncjeamdkjcebaaGreatDoor
