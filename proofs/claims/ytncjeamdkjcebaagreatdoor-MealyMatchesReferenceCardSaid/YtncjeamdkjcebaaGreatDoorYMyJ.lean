/- What mealy.join computes. -/
import Derived.Sort.LoopGhostIn
import Derived.Test.YtncjeamdkjcebaaGreatDoorYMyV3
set_option linter.all false
set_option maxHeartbeats 4000000
set_option maxRecDepth 100000
namespace Go.Proofs.YtncjeamdkjcebaaGreatDoor
open Go.RowKit
def RJo(sa:Option Addr)(sn sc ob n r g m o:Nat)(x:Int)(ix:Nat)(u:Value)(_:World):Prop:=
 match ix with
 |0=>u=.slice (some ⟨ob,0,none⟩) n n
 |1|6=>u=.int .i64 (r:Int)
 |2=>u=.pointer (some ⟨ob,r,none⟩)
 |3=>u=.slice (some ⟨g,0,none⟩) m m
 |4|7=>u=.int .i64 (o:Int)
 |5=>u=.slice sa sn sc
 |8=>u=.int .i64 x
 |9=>u=.pointer (some ⟨g,o,none⟩)
 | _=>True
theorem RJo.below{ix:Nat}{u:Value}{W W':World}{sa:Option Addr}{sn sc ob n r g m o:Nat}{x:Int}(h:RJo sa sn sc ob n r g m o x ix u W)(_:Below W.heap.size W W'):RJo sa sn sc ob n r g m o x ix u W':=by
 unfold RJo at*
 split at h<;>first|exact h|trivial
theorem MS(w:World)(vl:Value)(l:List Sig)(hK:B7 w)(hl:AD w vl l)(hv:As l=true):Calls Tryz.prog 56 #[vl] w (EZ (Ap l) w):=by
 have ba:Tryz.prog.follows .mixedOrders=true:=by kernel_rfl
 obtain⟨⟨a8,a9⟩,⟨bb,bc⟩⟩:=Dv hv;have a6:=Ab hv
 have ad:Hid (∀W,Below w.heap.size w W->Calls Tryz.prog 78 #[vl] W (Av (.int .i64 (Al l)) W)):=fun W h=>Eb W _ _ (hK.below h) (hl.below h)
 have aj:Hid (∀W,Below w.heap.size w W->Calls Tryz.prog 79 #[vl] W (Av (.int .i64 (Ai l)) W)):=fun W h=>Dg W _ _ (hK.below h) (hl.below h)
 have az:Hid (∀W i o,I64 i->I64 o->Below w.heap.size w W->Calls Tryz.prog 93 #[vl,.int .i64 i,.int .i64 o] W (Av (.int .i64 (AI l i o)) W)):=fun W i o h1 h2 h=>Mq W _ _ i o h1 h2 (hK.below h) (hl.below h)
 obtain⟨sa,sc,rfl⟩:=hl.shape;clear hl hK hv;generalize l.length=sn at*;have a1:=Ab (rfl:(Al l).toNat=(Al l).toNat);obtain⟨n,hn⟩:∃n:Nat,Al l=(n:Int):=⟨(Al l).toNat,by omega⟩;obtain⟨m,hm⟩:∃m:Nat,Ai l=(m:Int):=⟨(Ai l).toNat,by omega⟩
 have HN:Hid ((Al l).toNat=n):=by show _=_;omega
 have HM:Hid ((Ai l).toNat=m):=by show _=_;omega
 rw[hn]at ad a8 a9;rw[hm]at aj bb bc;clear hn hm a1
 go_enter Tryz.func56,Tryz.ntmps56
 go_wp2_with fail
 refine(ad.out _ Ad).mono ?_;rintro e w2 ⟨rfl,an⟩;obtain⟨B,hB⟩:∃B,B=w2.heap.size:=⟨_,rfl⟩
 go_upto_region 2 with(at_make;refine LK rfl _ _ _ Tryz.underlying23 rfl B (n:Int) n rfl rfl rfl (by omega) (by omega) ?_;intro wm c a)
 rw[<-hB]at c⊢;have y:=Ab hB
 have ao:Hid (Below B w2 wm):=by show Below _ _ _;rw[hB];exact Ad.grown a leR (fun k hk=>by cases hk)
 have p:=Ab an
 have al:Hid (Rows wm B n B (List.replicate n (.slice none 0 0)) (BP l 0)):=by
  rw[IX,HN.out]
  have hg:∀j,j<n->(List.replicate n (Value.slice none 0 0)).getD j undef=.slice none 0 0:=fun j hj=>by simp[List.getD,hj]
  have a7:∀j,j<n->(List.replicate n ([]:List Int)).getD j []=[]:=fun j hj=>by simp[List.getD,hj]
  refine⟨c,fun j hj=> ?_,fun i j hi hj _=> ?_,fun j hj=> ?_,by simp,by simp⟩
  ·rw[hg j hj,a7 j hj];exact Br _ _
  ·rw[hg i hi];intro k hk;cases hk
  ·rw[hg j hj];intro hk;cases hk
 clear c a hB an ad
 go_wp2_with fail
 go_loopg [11] n (fun gh i wr=>∃(u:Nat)(vals:List Value),gh=n-u/\i=.int .i64 (u:Int)/\u<=n/\Hid (Rows wr B n B vals (BP l u))/\Hid (Below B w2 wr))
 case atStart=>exact⟨0,_,rfl,rfl,by omega,al,ao⟩
 case round=>
  clear al ao;obtain⟨u,vals,ar,rfl,hu,HR,HB⟩:=hrel;have ay:=Ab ar;clear ar
  by_cases hltu:u<n
  ·have bg:(0:Int)<=(u:Int):=by omega
   have bd:(u:Int)<(n:Int):=by omega
   have ab:Hid (Below w.heap.size w wr):=by
    show Below _ _ _;have:=HB.out;rw[y.out]at this;exact p.out.trans (this.mono p.out.size)
   go_wp2_with fail
   refine(aj.out _ ab.out).mono ?_;rintro e w3 ⟨rfl,f⟩;have ah:=Ab (HB.out.trans (f.mono (by have:=HR.out.row;omega)))
   have ap:B<=w3.heap.size:=by have:=HR.out.row;have:=f.size;omega
   have s:Hid (Rows w3 B n B vals (BP l u)):=HR.out.only (S:=fun _=>False) ⟨f.os,f.tape,f.output,f.size,fun k hk _=>f.block k hk⟩ (fun h=>h) (fun _ _ _ _ h=>h);clear HR HB f ab;have cu:=s.out.cell hltu;have fu:=s.out.fz u
   go_upto_region 6 with(at_make;refine FA rfl _ _ _ Tryz.underlying26 rfl B (m:Int) m rfl rfl rfl (by omega) ap ?_;intro w4 c a;obtain⟨q1,q2,q3⟩:=s.out.push (l:=List.replicate m 0) hltu c (⟨a.os,a.tape,a.output,a.size,fun k hk _=>a.block k hk (by simp)⟩) (fun b e=>.inr (by cases e;exact Nat.le_refl _));have ak:=Ab q3;have ac:Hid (Below B w2 w4):=ah.out.trans (Ad.grown a (by omega) (fun k hk=>by cases hk));clear q3 c a)
   have ai:Hid (Below B w2 (w4.setCell ⟨B,u,none⟩ (.slice (some ⟨w3.heap.size,0,none⟩) m m))):=ac.out.trans ((Af.set (S:=fun q=>q=B) B u _ rfl).below _ (fun q e=>by have e:q=B:=e;omega) (by have:=ac.out.size;have:=y.out;omega));have aa:Hid ((vals.set u (.slice (some ⟨w3.heap.size,0,none⟩) m m)).getD u undef=.slice (some ⟨w3.heap.size,0,none⟩) m m):=AA _ _ _ _ (by rw[s.out.lv];exact hltu)
   have af:Hid (Rows (w4.setCell ⟨B,u,none⟩ (.slice (some ⟨w3.heap.size,0,none⟩) m m)) B n B (vals.set u (.slice (some ⟨w3.heap.size,0,none⟩) m m)) ((BP l u).set u (CO l u 0))):=by
    rw[IY,HM.out];exact ak.out
   clear ak ac q1 q2 cu fu ap ah;generalize w4.setCell ⟨B,u,none⟩ (.slice (some ⟨w3.heap.size,0,none⟩) m m)=w5 at*;generalize vals.set u (.slice (some ⟨w3.heap.size,0,none⟩) m m)=d at*
   have bf:B<=w3.heap.size:=by have:=s.out.row;omega
   clear s;generalize w3.heap.size=g at*;have cu:=af.out.cell hltu;rw[aa.out]at cu
   go_wp2_with fail
   clear cu
   go_loopg [25] m (fun gh i wr=>∃o:Nat,gh=m-o/\i=.int .i64 (o:Int)/\o<=m/\Hid (Rows wr B n B d ((BP l u).set u (CO l u o)))/\Hid (Below B w2 wr))
   case atStart=>exact⟨0,rfl,rfl,by omega,af,ai⟩
   case round=>
    clear af ai;obtain⟨o,aq,rfl,ho,HR,HB⟩:=hrel;have ax:=Ab aq;clear aq
    by_cases hlto:o<m
    ·have be:(0:Int)<=(o:Int):=by omega
     have au:(o:Int)<(m:Int):=by omega
     have z:Hid ((CO l u o).length=m):=by show _=_;rw[JQ,HM.out]
     have ae:Hid (u<(BP l u).length):=by show _<_;rw[JO,HN.out];exact hltu
     have a4:=Ab HR.out.row
     have r:Hid (∀W,Below wr.drew.heap.size wr.drew W->Below wr.heap.size wr W):=fun W h=>(Below.drew (B:=wr.heap.size) Ad).trans h
     have ag:Hid (∀W,Below wr.drew.heap.size wr.drew W->Rows W B n B d ((BP l u).set u (CO l u o))/\Below B w2 W):=fun W h=>⟨HR.out.only (S:=fun _=>False) ⟨(r.out W h).os,(r.out W h).tape,(r.out W h).output,(r.out W h).size,fun k hk _=>(r.out W h).block k hk⟩ (fun h=>h) (fun _ _ _ _ h=>h),HB.out.trans ((r.out W h).mono (by have:=a4.out;omega))⟩
     have aw:Hid (∀W,Below wr.drew.heap.size wr.drew W->W.cell? ⟨B,u,none⟩=some (.slice (some ⟨g,0,none⟩) m m)):=fun W h=>by rw[<-aa.out];exact(ag.out W h).1.cell hltu
     have a0:Hid (∀W,Below wr.drew.heap.size wr.drew W->Calls Tryz.prog 93 #[.slice sa sn sc,.int .i64 (u:Int),.int .i64 (o:Int)] W (Av (.int .i64 (AI l (u:Int) (o:Int))) W)):=fun W h=>az.out W _ _ (by unfold I64;omega) (by unfold I64;omega) (by
      have h1:=(ag.out W h).2;rw[y.out]at h1
      exact p.out.trans (h1.mono p.out.size))
     clear HR HB
     go_upto_region 9 with(fail)
     refine B9 ba (RJo sa sn sc B n u g m o (AI l (u:Int) (o:Int))) (fun vs=>{tmps:=(_::_::_::_::_::_::_::_::_::_::_::_::_::_::_::_::_::_::_::_::_::_::_::_::_::_::_::_::vs 0::vs 1::vs 2::vs 3::vs 4::vs 5::vs 6::vs 7::vs 8::vs 9::_::_::_::[]).toArray,defers:=[]}) (fun n=>[u28,u29,u30,u31,u32,u33,u34,u35,u36,u37].getD n undef) 10 rfl (by kernel_rfl) (by kernel_rfl) (fun i v W W' h hb=>RJo.below h hb) ?step ?last
     case step=>
      intro ix oo hlt ho
      match ix,hlt,ho with
      |0,hlt,ho|1,hlt,ho|2,hlt,ho|4,hlt,ho|5,hlt,ho|6,hlt,ho|7,hlt,ho|9,hlt,ho=>
       obtain rfl:=osI ho;intro vs W K hB hD hK;have HK:=Ab hK
       try have e0:vs 0=.slice (some ⟨B,0,none⟩) n n:=Ac hD 0 rfl
       try have e1:vs 1=.int .i64 (u:Int):=Ac hD 1 rfl
       try have e3:vs 3=.slice (some ⟨g,0,none⟩) m m:=Ac hD 3 rfl
       try have e4:vs 4=.int .i64 (o:Int):=Ac hD 4 rfl
       clear hK hD ho hlt;dsimp only;go_simp;have h:=HK.out _ _ Ad rfl;simp only[upd,Nat.reduceEqDiff,reduceIte, *]at h;exact h
      |3,hlt,ho=>
       obtain rfl:=osI ho;intro vs W K hB hD hK;have HK:=Ab hK;have e2:vs 2=.pointer (some ⟨B,u,none⟩):=Ac hD 2 rfl;have q:=aw.out W hB;clear hK hD ho hlt;dsimp only;go_simp;have h:=HK.out _ _ Ad rfl;simp only[upd,Nat.reduceEqDiff,reduceIte,e2]at h;exact h
      |8,hlt,ho=>
       obtain rfl:=osI ho;intro vs W K hB hD hK;have HK:=Ab hK;have e5:vs 5=.slice sa sn sc:=Ac hD 5 rfl;have e6:vs 6=.int .i64 (u:Int):=Ac hD 6 rfl;have e7:vs 7=.int .i64 (o:Int):=Ac hD 7 rfl;clear hK hD ho hlt;dsimp only;go_simp;refine(a0.out W hB).mono ?_;rintro e W' ⟨rfl,hb⟩;have h:=HK.out _ _ hb rfl;simp only[upd,Nat.reduceEqDiff,reduceIte,e5,e6,e7]at h;exact h
      |q+10,hlt,_=>exact absurd hlt (by omega)
     case last=>
      intro oo ho;obtain rfl:=osI ho;intro vs W K hB x hK;have HK:=Ab hK;have e8:vs 8=.int .i64 (AI l (u:Int) (o:Int)):=x 8 (by omega);have e9:vs 9=.pointer (some ⟨g,o,none⟩):=x 9 (by omega);obtain⟨hR,am⟩:=ag.out W hB;have he:=hR.e u hltu;rw[aa.out,AA _ _ _ _ ae.out]at he;have c1:=he.at' z.out.symm o (by rw[z.out];exact hlto);have f1:=he.fz z.out.symm o;have p3:=hR.elem hltu aa.out (by rw[AA _ _ _ _ ae.out,z.out]) o (AI l (u:Int) (o:Int));rw[AA _ _ _ _ ae.out,List.set_set,JR]at p3;have a2:=Ab p3;have av:Hid (Below B w2 (W.setCell ⟨g,o,none⟩ (.int .i64 (AI l (u:Int) (o:Int))))):=am.trans ((Af.set (S:=fun q=>q=g) g o _ rfl).below _ (fun q e=>by have e:q=g:=e;omega) (by have:=hR.row;omega));clear hK x ho p3 hR he am;dsimp only;go_simp;refine HK.out _ _ ?_;go_wp2
      go_roundg (m-(o+1))
      case measure=>have:=ax.out;omega
      case rel=>exact⟨o+1,rfl,by go_num,by omega,a2,av⟩
    ·have au:¬(o:Int)<(m:Int):=by omega
     have a3:Hid (Rows wr B n B d (BP l (u+1))):=by
      have:=HR.out
      rwa [show o=m by omega,show CO l u m=CO l u (Ai l).toNat by rw[HM.out],JP]at this
     clear HR;go_wp2
     go_roundg (n-(u+1))
     case measure=>have:=ay.out;omega
     case rel=>exact⟨u+1,d,rfl,by go_num,by omega,a3,HB⟩
  ·have bd:¬(u:Int)<(n:Int):=by omega
   have a5:Hid (Ar wr (.slice (some ⟨B,0,none⟩) n n) (Ap l)):=by
    show Ar _ _ _;have h1:=HR.out;rw[show u=(Al l).toNat by rw[HN.out];omega,JN]at h1;exact h1.is (by omega) (fun j hj=>LE a6.out j (by rw[HN.out];exact hj))
   have ab:Hid (Below w.heap.size w wr):=by
    show Below _ _ _;have:=HB.out;rw[y.out]at this;exact p.out.trans (this.mono p.out.size)
   clear HR;go_wp2;go_ret;exact⟨_,rfl,a5.out,ab.out⟩
end Go.Proofs.YtncjeamdkjcebaaGreatDoor
namespace Go.Proofs.YtncjeamdkjcebaaGreatDoor
open Go Go.RowKit
section
variable {P:Program} {F:Fence} {n:Nat}
def R4(B:Nat)(Kp:World->World->Prop)(I:Nat->World->Prop)(Ix:Code->Nat->World->Prop)(N k:Nat)(W:World):Exit->Act->World->Prop
 |.normal,_,W'=>KeepsFrom B W W'/\Kp W W'/\k+1<N/\I (k+1) W'
 |.ret,_,W'=>KeepsFrom B W W'/\Ix .ret (k+1) W'
 |.exit id,_,W'=>KeepsFrom B W W'/\Ix (.exit id) (k+1) W'
 |.goto t,_,W'=>KeepsFrom B W W'/\Ix (.goto t) (k+1) W'
 |.panic _,_,_=>False
 |.outgrown,_,_=>False
end
section
variable {P:Program} {F:Fence} {n:Nat}
def Jy(F:Fence)(n:Nat)(P:Program)(g:Nat)(lb:Array Value)(encs:Nat->Array Value)(Kp:Nat->World->World->Prop)(N:Nat)(w:World):Prop:=
 ∀(l:Nat)(J Jx:Nat->World->Prop)(W:World),Below w.heap.size w W->AbidesFrom W.heap.size J->AbidesFrom W.heap.size Jx->
  (∀k W1,J k W1->W.heap.size<=W1.heap.size->k<N->YieldAt F (n-1) P l (encs k) W1 fun e W'=>
   (e=.returned (.bool true)/\k+1<N/\J (k+1) W'/\Kp W.heap.size W1 W')\/(e=.returned (.bool false)/\Jx (k+1) W'))->
  0<N->J 0 W->
  CallsIn F n P g (#[.func (.yield l) #[] #[]]++lb) W fun e W'=>(∃v,e=.returned v)/\∃k,Jx k W'
theorem F2{g:Operand}{ps:Array Tmp}{assign body:Code}{Q:Exit->Act->World->Prop}{a:Act}{w:World}
  (ae:F.round=none) (h1:1<=n) {gf:Nat} {lb:Array Value} (hg:a.eval g=.func (.func gf) #[] lb) (ac:F.fn gf) (eg:∀args w,(callFunc gf args).run P w=.ok (.enter gf args) w)
  {d:Nat->Array Value} {Kp:Nat->World->World->Prop} {N:Nat} {w0:World} (ab:Jy F (n-1) P gf lb d Kp N w0) (hN:0<N)
  (y:∀{A B C:World},Kp (w.heap.size+2) A B->Kp (w.heap.size+2) B C->Kp (w.heap.size+2) A C) (x:∀(W:World)(l:Nat)(o o':Obj),w.heap.size<=l->l<w.heap.size+2->W.heap[l]? =some o->o.isCells=false->o.isWalk=false->Kp (w.heap.size+2) W (W.putObj l o')) (z:Below w0.heap.size w0 w) (ad:∀k,(d k).size=ps.size)
  (I:Nat->World->Prop) (Ix:Code->Nat->World->Prop) (hI:OwnFrom w.heap.size I) (f:∀c,OwnFrom w.heap.size (Ix c)) (h0:I 0 w) (a₁:Nat->Act)
  (i:∀(l k:Nat)(W:World)(K:Act->World->Prop),K (a₁ k) W->
   assign.wpIn (F.inRound l) (n-1-1) P (Exit.then K (fun _ _ _=>False)) {tmps:=(ps.zip (d k)).foldl (fun t(p,v)=>t.setIfInBounds p v) a.tmps,defers:=[]} W)
  (q:∀(l k:Nat)(W:World),I k W->w.heap.size+2<=W.heap.size->k<N->body.wpIn (F.inRound l) (n-1-1) P (R4 w.heap.size (Kp (w.heap.size+2)) I Ix N k W) (a₁ k) W)
  (u:∀(D:Nat)(c:Code)(k:Nat)(W:World),w.heap.size<=D->Ix c k W->W.heap[D]? =some (.deferred (some []))->c.wpIn F n P Q {a with defers:={target:=.collected D,args:=#[]}::a.defers} W):
  (Code.rangeFunc g ps assign body).wpIn F n P Q a w:=by
 refine wpIn_rangeFunc fun fn hfn=> ?_
 rw[ae]
 obtain⟨R,hR⟩:∃R:LoopState->Option Code->Loop,R=fun s p=>{state:=s,pending:=p,fn,tmps:=a.tmps,params:=ps,assign,body,defers:=w.heap.size}:=⟨_,rfl⟩
 obtain⟨V,hV⟩:∃V,(w.alloc (.deferred (some []))).alloc (.loop (R .ready none))=V:=⟨_,rfl⟩
 have vL:V.heap[w.heap.size+1]? =some (.loop (R .ready none)):=by
  have:=World.alloc_heap_new (w.alloc (.deferred (some []))) (.loop (R .ready none))
  rwa [World.size_alloc,hV]at this
 have vD:V.heap[w.heap.size]? =some (.deferred (some [])):=by
  rw[<-hV];exact(Below.heap_alloc _ _ _ (by simp)).trans (World.alloc_heap_new w _)
 have vs:V.heap.size=w.heap.size+2:=by rw[<-hV];simp
 have vI:I 0 V:=by rw[<-hV];exact hI.alloc _ (hI.alloc _ h0)
 have vb:Below w0.heap.size w0 V:=by
  rw[<-hV];exact z.trans ((((Below.refl _ w).alloc leR _).alloc (by simp) _).mono z.size)
 have m:∀{A:World}{row:Option Nat},(∀r,row=some r->V.heap.size<=r/\∃o:Obj,A.heap[r]? =some o/\o.isWalk=true)->(∀r,row=some r->w.heap.size<=r/\∃o:Obj,A.heap[r]? =some o/\o.isCells=false):=
  fun hr r e=>by
   obtain⟨hB,o,ho,hw⟩:=hr r e;exact⟨by omega,o,ho,Obj.not_cells_of_walk hw⟩
 refine⟨w.heap.size+1,[{target:=.collected w.heap.size,args:=#[]}],V,{target:=.fn (.func gf) lb,args:=#[.func (.yield (w.heap.size+1)) #[] #[]]},V,gf,#[.func (.yield (w.heap.size+1)) #[] #[]]++lb,V, ?_, ?_, ?_, ?_,fun _=>h1, ?_⟩
 ·rw[<-hV,hR];exact run_enterLoop_outer _ _ _ _ _
 ·simp only[resolve,hg];simp[go_sem]
 ·intro f' aa;simp[Target.leads]at aa;subst aa;exact ac
 ·simp[invoke,go_sem,eg]
 refine(ab (w.heap.size+1) (fun k W=>I k W/\W.heap[w.heap.size+1]? =some (.loop (R .ready none))/\W.heap[w.heap.size]? =some (.deferred (some [])))
  (fun k W=>∃c,Ix c k W/\W.heap[w.heap.size+1]? =some (.loop (R .done (some c)))/\W.heap[w.heap.size]? =some (.deferred (some []))) V vb ?_ ?_ ?_ hN ⟨vI,vL,vD⟩).mono ?_
 ·intro s A B row hs b hr;exact⟨hI s A B row hs.1 b (m hr),(grownBy_keeps b (fun r e=>(hr r e).2) hs.2.1 rfl).trans hs.2.1,(grownBy_keeps b (fun r e=>(hr r e).2) hs.2.2 rfl).trans hs.2.2⟩
 ·rintro s A B row ⟨c,hc,hl,hd⟩ b hr;exact⟨c,f c s A B row hc b (m hr),(grownBy_keeps b (fun r e=>(hr r e).2) hl rfl).trans hl,(grownBy_keeps b (fun r e=>(hr r e).2) hd rfl).trans hd⟩
 · -- one round
  rintro k W ⟨hi,hl,hd⟩ af hk;rw[vs]at af;have hlt:w.heap.size+1<W.heap.size:=(ltE hl);have hy:=run_yield (P:=P) (args:=d k) hl (by rw[hR];exact ad k);rw[hR]at hy;refine⟨fn,_,assign,body,hy,roundIn_of_wpIn hfn (i _ k W _ ⟨_,run_beginRound hl (by rw[hR]), ?_⟩)⟩;obtain⟨U,hU⟩:∃U,W.putObj (w.heap.size+1) (.loop {R .ready none with state:=.busy})=U:=⟨_,rfl⟩
  have uL:U.heap[w.heap.size+1]? =some (.loop {R .ready none with state:=.busy}):=by rw[<-hU];exact World.putObj_heap_same hlt
  have uD:U.heap[w.heap.size]? =some (.deferred (some [])):=by rw[<-hU];exact(World.putObj_heap_other (by omega)).trans hd
  have uK:Kp (w.heap.size+2) W U:=by rw[<-hU];exact x _ _ _ _ (by omega) (by omega) hl rfl rfl
  have uS:w.heap.size+2<=U.heap.size:=by rw[<-hU,World.putObj_size];omega
  have uI:I k U:=by rw[<-hU];exact hI.putObj _ hi (by omega) hl rfl
  rw[hU]
  have shut:∀(j:Option Code)(X:World),KeepsFrom w.heap.size U X->
    (Instr.endRound (w.heap.size+1) j).run P X=.ok (.bool j.isNone) (X.putObj (w.heap.size+1) (.loop (R (if j.isNone then .ready else .done) j)))/\
    X.heap[w.heap.size+1]? =some (.loop {R .ready none with state:=.busy})/\
    (X.putObj (w.heap.size+1) (.loop (R (if j.isNone then .ready else .done) j))).heap[w.heap.size+1]? =some (.loop (R (if j.isNone then .ready else .done) j))/\
    (X.putObj (w.heap.size+1) (.loop (R (if j.isNone then .ready else .done) j))).heap[w.heap.size]? =some (.deferred (some [])):=fun j X hX=>by
   have xL:=hX.same _ _ (by omega) uL rfl;have:=run_endRound (P:=P) j xL;rw[hR]at this⊢;exact⟨this,by rw[hR]at xL;exact xL,World.putObj_heap_same (ltE xL),(World.putObj_heap_other (by omega)).trans (hX.same _ _ leR uD rfl)⟩
  refine wpIn_mono (q _ k U uI uS hk) ?_;rintro e a3 X hp
  cases e with
  |normal=>
   obtain⟨hX,kX,kN,iX⟩:=hp;obtain⟨hr,x1,x2,x3⟩:=shut none X hX;exact⟨_,_,hr,.inl ⟨rfl,kN,⟨hI.putObj _ iX (by omega) x1 rfl,x2,x3⟩,by rw[vs];exact y (y uK kX) (x _ _ _ _ (by omega) (by omega) x1 rfl rfl)⟩⟩
  |ret=>
   obtain⟨hX,iX⟩:=hp;obtain⟨hr,x1,x2,x3⟩:=shut (some .ret) X hX;exact⟨_,_,hr,.inr ⟨rfl,.ret,(f _).putObj _ iX (by omega) x1 rfl,x2,x3⟩⟩
  |exit id=>
   obtain⟨hX,iX⟩:=hp;obtain⟨hr,x1,x2,x3⟩:=shut (some (.exit id)) X hX;exact⟨_,_,hr,.inr ⟨rfl,.exit id,(f _).putObj _ iX (by omega) x1 rfl,x2,x3⟩⟩
  |goto t=>
   obtain⟨hX,iX⟩:=hp;obtain⟨hr,x1,x2,x3⟩:=shut (some (.goto t)) X hX;exact⟨_,_,hr,.inr ⟨rfl,.goto t,(f _).putObj _ iX (by omega) x1 rfl,x2,x3⟩⟩
  |panic ch=>exact hp.elim
  |outgrown=>exact hp.elim
 · -- behind the iterator
  rintro e X ⟨⟨v,rfl⟩,k,c,hi,hl,hd⟩;exact⟨some c,_,by have:=run_endLoop (P:=P) hl (by rw[hR];simp);rw[hR]at this;exact this,u _ c k _ leR ((f c).putObj _ hi (by omega) hl rfl) ((World.putObj_heap_other (by omega)).trans hd)⟩
end
end Go.Proofs.YtncjeamdkjcebaaGreatDoor
namespace Go.Proofs.YtncjeamdkjcebaaGreatDoor
theorem Per.mul{u:Nat->Int}{m p:Nat}(h:Per u m p)(k:Nat):Per u m (k*p):=by
 induction k with
 |zero=>intro i _;simp
 |succ k ih=>
  intro i hi;rw[Nat.succ_mul,<-Nat.add_assoc,h _ (by omega),ih i hi]
theorem Per.sub{u:Nat->Int}{m p q:Nat}(hp:Per u m p)(hq:Per u m q)(a:p<=q):Per u m (q-p):=by
 intro i hi;have h1:=hp (i+(q-p)) (by omega);rw[show i+(q-p)+p=i+q by omega,hq i hi]at h1;exact h1.symm
theorem Per.mod{u:Nat->Int}{m p:Nat}(hp:Per u m p)(h0:0<p):∀q,Per u m q->Per u m (q%p):=by
 intro q
 induction q using Nat.strongRecOn with
 | _ q ih=>
  intro hq
  rcases Nat.lt_or_ge q p with h|h
  ·rwa [Nat.mod_eq_of_lt h]
  ·rw[Nat.mod_eq_sub_mod h];exact ih (q-p) (by omega) (hp.sub hq h)
theorem Per.back{u:Nat->Int}{s m n p:Nat}(hn:Per u s n)(h0:0<n)(hp:Per u m p)(a:s<=m):Per u s p:=by
 intro i hi;have hk:=hn.mul m;have h1:=hp (i+m*n) (by have:=Nat.le_mul_of_pos_right m h0;omega);rw[show i+m*n+p=(i+p)+m*n by omega,hk (i+p) (by omega),hk i hi]at h1;exact h1
theorem Per.least{u:Nat->Int}{m q:Nat}(hq:Per u m q)(h0:0<q):∃p,0<p/\p<=q/\Per u m p/\q%p=0/\∀r,0<r->r<p->¬Per u m r:=by
 have a:∀n,(∃p,0<p/\p<=n/\Per u m p/\∀r,0<r->r<p->¬Per u m r)\/∀r,0<r->r<=n->¬Per u m r:=by
  intro n
  induction n with
  |zero=>exact .inr fun r h1 h2=>by omega
  |succ n ih=>
   rcases ih with⟨p,h1,h2,h3,h4⟩|h
   ·exact .inl ⟨p,h1,by omega,h3,h4⟩
   ·by_cases hp:Per u m (n+1)
    ·exact .inl ⟨n+1,by omega,by omega,hp,fun r h1 h2=>h r h1 (by omega)⟩
    ·refine .inr fun r h1 h2=> ?_
     rcases Nat.lt_or_ge r (n+1)with h3|h3
     ·exact h r h1 (by omega)
     ·obtain rfl:r=n+1:=by omega
      exact hp
 rcases a q with⟨p,h1,h2,h3,h4⟩|h
 ·refine⟨p,h1,h2,h3, ?_,h4⟩;have h5:=h3.mod h1 q hq
  rcases Nat.eq_zero_or_pos (q%p)with h6|h6
  ·exact h6
  ·exact absurd h5 (h4 _ h6 (Nat.mod_lt _ h1))
 ·exact absurd hq (h q h0 leR)
theorem Ku(w:Ls):Per (atL w) w.stem.length w.loop.length:=by
 intro i hi;unfold atL;rw[if_neg (by omega),if_neg (by omega),show i+w.loop.length-w.stem.length=(i-w.stem.length)+w.loop.length by omega,Nat.add_mod_right]
structure Ev(w:Ls):Prop where
 pos:0<w.loop.length
 min:∀p,0<p->p<w.loop.length->¬Per (atL w) w.stem.length p
 ends:w.stem=[]\/w.stem.getLast? ≠w.loop.getLast?
theorem BM(l:List Int)(h:l≠[]):l.getLast? =some (l.getD (l.length-1) 0):=by
 have hp:0<l.length:=List.length_pos_iff.2 h;rw[List.getLast?_eq_getElem?,List.getElem?_eq_getElem (by omega)];simp[List.getD,show l.length-1<l.length by omega]
theorem E9{a b:List Int}(hl:a.length=b.length)(h:∀i,i<a.length->a.getD i 0=b.getD i 0):a=b:=by
 apply List.ext_getElem hl
 intro i h1 h2;have:=h i h1;simpa[List.getD,h1,h2]using this
theorem Fs{w:Ls}{i:Nat}(h:i<w.loop.length):atL w (w.stem.length+i)=w.loop.getD i 0:=by
 unfold atL;rw[if_neg (by omega),Nat.add_sub_cancel_left,Nat.mod_eq_of_lt h]
theorem Jt{x y:Ls}(hx:Ev x)(hy:Ev y)(h:∀i,atL x i=atL y i):x=y:=by
 have d:∀{x y:Ls},Ev x->Ev y->(∀i,atL x i=atL y i)->x.stem.length<=y.stem.length->x=y:=by
  intro x y hx hy h b;have hu:atL x=atL y:=funext h;have px:=Ku x;have py:=Ku y;have a:=hx.min;have f:=hy.min;rw[hu]at px a
  have h1:x.loop.length=y.loop.length:=by
   rcases Nat.lt_trichotomy x.loop.length y.loop.length with h2|h2|h2
   ·exact absurd (px.mono b) (f _ hx.pos h2)
   ·exact h2
   ·exact absurd (px.back hx.pos py b) (a _ hy.pos h2)
  have h2:x.stem.length=y.stem.length:=by
   rcases Nat.lt_or_ge x.stem.length y.stem.length with h3|h3
   ·exfalso
    have c:y.stem≠[]:=by intro e;rw[e]at h3;simp at h3
    rcases hy.ends with he|he
    ·exact c he
    ·refine he ?_
     have j:y.loop≠[]:=by have:=hy.pos;intro e;rw[e]at this;simp at this
     rw[BM _ c,BM _ j]
     congr 1
     rw[<-GO (w:=y) (by omega),<-Fs (w:=y) (by have:=hy.pos;omega)];have:=px (y.stem.length-1) (by omega);rw[h1]at this;rw[<-this]
     congr 1
     have:=hy.pos;omega
   ·omega
  have hs:x.stem=y.stem:=E9 h2 fun i hi=>by
   rw[<-GO (w:=x) hi,<-GO (w:=y) (by omega),h]
  have hl:x.loop=y.loop:=E9 h1 fun i hi=>by
   rw[<-Fs (w:=x) hi,<-Fs (w:=y) (by omega),h,h2]
  cases x;cases y
  simp only at hs hl;rw[hs,hl]
 rcases Nat.le_total x.stem.length y.stem.length with h1|h1
 ·exact d hx hy h h1
 ·exact(d hy hx (fun i=>(h i).symm) h1).symm
/-! Making a lasso normal. -/
def Ca(l:List Int)(n:Nat):Bool:=decide (l.length%n=0)&&(List.range (l.length-n)).all fun i=>l.getD (n+i) 0==l.getD i 0
theorem Dl{l:List Int}{n:Nat}:Ca l n=true↔l.length%n=0/\∀i,n+i<l.length->l.getD (n+i) 0=l.getD i 0:=by
 simp only[Ca,Bool.and_eq_true,decide_eq_true_eq,List.all_eq_true,List.mem_range,beq_iff_eq];exact⟨fun h=>⟨h.1,fun i hi=>h.2 i (by omega)⟩,fun h=>⟨h.1,fun i hi=>h.2 i (by omega)⟩⟩
theorem G4{l:List Int}{n:Nat}(h:Ca l n=true)(hn:0<n):∀i,i<l.length->l.getD i 0=l.getD (i%n) 0:=by
 intro i
 induction i using Nat.strongRecOn with
 | _ i ih=>
  intro hi
  rcases Nat.lt_or_ge i n with h1|h1
  ·rw[Nat.mod_eq_of_lt h1]
  ·rw[Nat.mod_eq_sub_mod h1,<-ih (i-n) (by omega) (by omega),<-(Dl.1 h).2 (i-n) (by omega)]
   congr 1
   omega
theorem L4{w:Ls}{p:Nat}(h:Per (atL w) w.stem.length p)(hd:w.loop.length%p=0):Ca w.loop p=true:=by
 refine Dl.2 ⟨hd,fun i hi=> ?_⟩;rw[<-Fs hi,<-Fs (w:=w) (i:=i) (by omega)];have:=h (w.stem.length+i) (by omega);rw[<-this]
 congr 1
 omega
theorem Pg{w:Ls}{n:Nat}(h:Ca w.loop n=true)(hn:0<n)(hl:0<w.loop.length)(a:n<=w.loop.length):∀i,atL ⟨w.stem,w.loop.take n⟩ i=atL w i:=by
 intro i;unfold atL;simp only[List.length_take];rw[Nat.min_eq_left a]
 split
 ·rfl
 ·have h1:=Nat.mod_lt (i-w.stem.length) hl;have h2:=Nat.mod_lt (i-w.stem.length) hn;have hm:=(Dl.1 h).1;rw[G4 h hn _ h1,Nat.mod_mod_of_dvd _ (Nat.dvd_of_mod_eq_zero hm)];simp[List.getD,h2]
theorem Ke{s l:List Int}(hl:0<l.length)(x:Int)(hx:l.getD (l.length-1) 0=x):∀i,atL ⟨s,x::l.dropLast⟩ i=atL ⟨s++[x],l⟩ i:=by
 intro i
 have a:(x::l.dropLast).length=l.length:=by simp;omega
 unfold atL;simp only[a,List.length_append,List.length_singleton]
 rcases Nat.lt_trichotomy i s.length with h|h|h
 ·rw[if_pos h,if_pos (by omega)];simp[List.getD,List.getElem?_append_left h]
 ·subst h;rw[if_neg (by omega),if_pos (by omega),Nat.sub_self,Nat.zero_mod];simp[List.getD]
 ·rw[if_neg (by omega),if_neg (by omega)];obtain⟨j,rfl⟩:∃j,i=s.length+(j+1):=⟨i-s.length-1,by omega⟩;rw[show s.length+(j+1)-s.length=j+1 by omega,show s.length+(j+1)-(s.length+1)=j by omega];have h1:=Nat.mod_lt j hl
  by_cases h2:j%l.length=l.length-1
  ·rw[show(j+1)%l.length=0 by
    rw[Nat.add_mod,h2]
    rcases Nat.lt_or_ge 1 l.length with h3|h3
    ·rw[Nat.mod_eq_of_lt h3,show l.length-1+1=l.length by omega,Nat.mod_self]
    ·rw[show l.length=1 by omega,Nat.mod_one],h2,hx]
   rfl
  ·rw[show(j+1)%l.length=j%l.length+1 by
    rw[Nat.add_mod,Nat.mod_eq_of_lt (show 1<l.length by omega),Nat.mod_eq_of_lt (by omega)]]
   simp only[List.getD_cons_succ];simp[List.getD,show j%l.length<l.length-1 by omega,h1]
theorem Rf{s l:List Int}(hl:0<l.length)(x:Int)(hx:l.getD (l.length-1) 0=x)(a:∀p,0<p->p<l.length->¬Per (atL ⟨s++[x],l⟩) (s++[x]).length p):
  ∀p,0<p->p<(x::l.dropLast).length->¬Per (atL ⟨s,x::l.dropLast⟩) s.length p:=by
 intro p h0 h1 h2;have hu:atL ⟨s,x::l.dropLast⟩=atL ⟨s++[x],l⟩:=funext (Ke hl x hx);rw[hu]at h2;refine a p h0 (by simp at h1;omega) (h2.mono (by simp))
def LU(l:List Int):Nat->Nat->Nat
 |0,n=>n
 |f+1,n=>if Ca l n=true then n else LU l f (n+1)
def AX(l:List Int):Nat:=LU l l.length 1
theorem Hw{l:List Int}:Ca l l.length=true:=Dl.2 ⟨Nat.mod_self _,fun i hi=>by omega⟩
theorem ON{l:List Int}:∀(f n:Nat),0<n->n+f=l.length+1->(∀r,0<r->r<n->Ca l r=false)->0<l.length->
  0<LU l f n/\LU l f n<=max l.length n/\(n<=l.length->Ca l (LU l f n)=true/\LU l f n<=l.length)/\∀r,0<r->r<LU l f n->Ca l r=false:=by
 intro f
 induction f with
 |zero=>intro n h0 h1 h2 _;exact⟨h0,Nat.le_max_right _ _,fun h=>by omega,h2⟩
 |succ f ih=>
  intro n h0 h1 h2 hl;unfold LU
  by_cases hr:Ca l n=true
  ·rw[if_pos hr];exact⟨h0,Nat.le_max_right _ _,fun h=>⟨hr,h⟩,h2⟩
  ·rw[if_neg hr]
   have h3:∀r,0<r->r<n+1->Ca l r=false:=fun r hr0 hr1=>by
    rcases Nat.lt_or_ge r n with h|h
    ·exact h2 r hr0 h
    ·obtain rfl:r=n:=by omega
     simpa using hr
   have a:n≠l.length:=fun e=>hr (by rw[e];exact Hw)
   obtain⟨i1,i2,i3,i4⟩:=ih (n+1) (by omega) (by omega) h3 hl;exact⟨i1,by omega,fun h=>i3 (by omega),i4⟩
theorem Hr{l:List Int}(hl:0<l.length):0<AX l/\AX l<=l.length/\Ca l (AX l)=true/\∀r,0<r->r<AX l->Ca l r=false:=by
 obtain⟨h1,_,h3,h4⟩:=ON (l:=l) l.length 1 (by omega) (by omega) (fun r h0 h1=>by omega) hl;obtain⟨h5,h6⟩:=h3 (by omega);exact⟨h1,h6,h5,h4⟩
structure Bl(w:Ls)(s l:List Int):Prop where
 word:∀i,atL ⟨s,l⟩ i=atL w i
 pos:0<l.length
 min:∀p,0<p->p<l.length->¬Per (atL ⟨s,l⟩) s.length p
theorem Bl.start{w:Ls}(hl:0<w.loop.length):Bl w w.stem (w.loop.take (AX w.loop)):=by
 obtain⟨h1,h2,h3,h4⟩:=Hr hl;have hw:=Pg h3 h1 hl h2
 have a:(w.loop.take (AX w.loop)).length=AX w.loop:=by rw[List.length_take];omega
 refine⟨hw,by omega,fun p h5 h6 h7=> ?_⟩;rw[a]at h6;rw[show atL ⟨w.stem,w.loop.take (AX w.loop)⟩=atL w from funext hw]at h7;obtain⟨q,b,f,c,d,e⟩:=Per.least (Ku w) hl
 have i:q<=p:=by
  rcases Nat.lt_or_ge p q with h|h
  ·exact absurd h7 (e p h5 h)
  ·exact h
 have:=L4 c d;rw[h4 q b (by omega)]at this
 cases this
theorem Bl.turn{w:Ls}{s l:List Int}{x:Int}(h:Bl w (s++[x]) l)(hx:l.getD (l.length-1) 0=x):Bl w s (x::l.dropLast):=
 ⟨fun i=>(Ke h.pos x hx i).trans (h.word i),by simp,Rf h.pos x hx h.min⟩
theorem Bl.done{w:Ls}{s l:List Int}(h:Bl w s l)(he:s=[]\/s.getLast? ≠l.getLast?):Ev ⟨s,l⟩:=⟨h.pos,h.min,he⟩
def D5:Nat->List Int->List Int->Ls
 |0,s,l=>⟨s,l⟩
 |k+1,s,l=>if s≠[]/\s.getLast? =l.getLast? then D5 k s.dropLast (l.getD (l.length-1) 0::l.dropLast)else⟨s,l⟩
def BC(w:Ls):Ls:=D5 w.stem.length w.stem (w.loop.take (AX w.loop))
theorem KW{w:Ls}:∀(k:Nat)(s l:List Int),s.length<=k->Bl w s l->Ev (D5 k s l)/\(∀i,atL (D5 k s l) i=atL w i)/\(D5 k s l).stem.length<=s.length/\(D5 k s l).loop.length=l.length:=by
 intro k
 induction k with
 |zero=>
  intro s l hk h;have:s=[]:=List.eq_nil_of_length_eq_zero (by omega);subst this;exact⟨h.done (.inl rfl),h.word,by simp[D5],rfl⟩
 |succ k ih=>
  intro s l hk h;unfold D5
  split
  ·rename_i hc;obtain⟨a,he⟩:=hc
   have c:l≠[]:=by have:=h.pos;intro e;rw[e]at this;simp at this
   have d:=List.length_pos_iff.2 a
   have b:s=s.dropLast++[l.getD (l.length-1) 0]:=by
    rw[BM s a,BM l c]at he
    have e2:s.getLast a=l.getD (l.length-1) 0:=by
     have:=List.getLast?_eq_some_getLast a;rw[BM s a]at this;rw[<-Option.some.inj he];exact(Option.some.inj this).symm
    conv=>lhs;rw[<-List.dropLast_concat_getLast a,e2]
   have h2:Bl w s.dropLast (l.getD (l.length-1) 0::l.dropLast):=by
    rw[b]at h;exact h.turn rfl
   obtain⟨i1,i2,i3,i4⟩:=ih _ _ (by rw[List.length_dropLast];omega) h2;refine⟨i1,i2,by rw[List.length_dropLast]at i3;omega, ?_⟩;rw[i4];have:=h.pos;simp;omega
  ·rename_i hc;refine⟨h.done ?_,h.word,Nat.le_refl _,rfl⟩
   by_cases hs:s=[]
   ·exact .inl hs
   ·exact .inr fun e=>hc ⟨hs,e⟩
theorem Gr{w:Ls}(hl:0<w.loop.length):Ev (BC w)/\(∀i,atL (BC w) i=atL w i)/\(BC w).stem.length<=w.stem.length/\(BC w).loop.length<=w.loop.length:=by
 obtain⟨h1,h2,h3,h4⟩:=KW w.stem.length w.stem _ leR (Bl.start hl);refine⟨h1,h2,h3, ?_⟩;show(D5 _ _ _).loop.length<=_;rw[h4,List.length_take];omega
theorem LO{w x:Ls}(hl:0<w.loop.length)(hx:Ev x)(h:∀i,atL x i=atL w i):x=BC w:=
 Jt hx (Gr hl).1 fun i=>(h i).trans ((Gr hl).2.1 i).symm
def C7:Ls:=⟨[],[]⟩
def EC(w:Ls):Ls:=if CD (BC w)=true then BC w else C7
/-! Suffixes, prefixes. -/
def Cb(l:List Int)(k:Nat):List Int:=l.drop k++l.take k
theorem Cr(l:List Int)(k:Nat):(Cb l k).length=l.length:=by simp[Cb];omega
theorem FV{l:List Int}{k:Nat}(hk:k<=l.length)(i:Nat)(hi:i<l.length):(Cb l k).getD i 0=l.getD ((k+i)%l.length) 0:=by
 unfold Cb
 rcases Nat.lt_or_ge i (l.length-k)with h|h
 ·rw[Nat.mod_eq_of_lt (by omega)];simp[List.getD,List.getElem?_append_left,h,show k+i<l.length by omega]
 ·rw[Nat.mod_eq_sub_mod (by omega),Nat.mod_eq_of_lt (by omega)];simp only[List.getD];rw[List.getElem?_append_right (by simp;omega),List.length_drop,List.getElem?_take,if_pos (by omega)]
  congr 2
  omega
def N3(w:Ls)(n:Nat):List Int:=(List.range n).map (atL w)
/-! A list turned back step by step. -/
theorem Kd{l:List Int}{b:Nat}(hb:b<l.length):(Cb l ((l.length-b)%l.length)).getD (l.length-1) 0=l.getD (l.length-1-b) 0:=by
 rw[FV (Nat.le_of_lt (Nat.mod_lt _ (by omega))) _ (by omega)]
 congr 1
 rcases Nat.eq_zero_or_pos b with rfl|h
 ·rw[Nat.sub_zero,Nat.mod_self,Nat.zero_add,Nat.mod_eq_of_lt (by omega)];omega
 ·rw[Nat.mod_eq_of_lt (show l.length-b<l.length by omega),Nat.mod_eq_sub_mod (by omega),Nat.mod_eq_of_lt (by omega)];omega
theorem Pi{l:List Int}{b:Nat}(hb:b<l.length):Cb l ((l.length-(b+1)%l.length)%l.length)=l.getD (l.length-1-b) 0::(Cb l ((l.length-b)%l.length)).dropLast:=by
 have hn:0<l.length:=by omega
 have a:(l.getD (l.length-1-b) 0::(Cb l ((l.length-b)%l.length)).dropLast).length=l.length:=by simp[Cr];omega
 refine E9 (by rw[a,Cr]) fun i hi=> ?_
 rw[Cr]at hi;rw[FV (Nat.le_of_lt (Nat.mod_lt _ hn)) _ hi]
 have e1:∀c,c<l.length->(l.length-c)%l.length=if c=0 then 0 else l.length-c:=fun c hc=>by
  split
  ·subst c;simp
  ·exact Nat.mod_eq_of_lt (by omega)
 have d:(l.length-(b+1)%l.length)%l.length=l.length-1-b:=by
  rw[e1 _ (Nat.mod_lt _ hn)]
  by_cases h:b+1=l.length
  ·rw[h,Nat.mod_self,if_pos rfl];omega
  ·rw[Nat.mod_eq_of_lt (show b+1<l.length by omega),if_neg (by omega)];omega
 rw[d]
 cases i with
 |zero=>rw[Nat.add_zero,Nat.mod_eq_of_lt (by omega)];rfl
 |succ i=>
  have e2:(l.getD (l.length-1-b) 0::(Cb l ((l.length-b)%l.length)).dropLast).getD (i+1) 0=(Cb l ((l.length-b)%l.length)).getD i 0:=by
   simp only[List.getD,List.getElem?_cons_succ,List.getElem?_dropLast,Cr];rw[if_pos (by omega)]
  rw[e2,FV (Nat.le_of_lt (Nat.mod_lt _ hn)) _ (by omega)]
  congr 1
  rw[e1 b hb]
  split
  ·subst b;rw[Nat.zero_add,Nat.mod_eq_of_lt (show i<l.length by omega),Nat.mod_eq_sub_mod (by omega),Nat.mod_eq_of_lt (by omega)];omega
  ·congr 1;omega
theorem Bl.step{w:Ls}{s l:List Int}{k b:Nat}(h:Bl w (s.take (k+1)) (Cb l ((l.length-b)%l.length)))(hk:k<s.length)(hb:b<l.length)(he:s.getD k 0=l.getD (l.length-1-b) 0):
  Bl w (s.take k) (Cb l ((l.length-(b+1)%l.length)%l.length)):=by
 have e:s.take (k+1)=s.take k++[s.getD k 0]:=by rw[List.take_succ_eq_append_getElem hk];simp[List.getD,hk]
 rw[e]at h;rw[Pi hb,<-he];refine h.turn ?_;rw[Cr,Kd hb,he]
theorem Bl.stop{w:Ls}{s l:List Int}{k b:Nat}(hw:0<w.loop.length)(h:Bl w (s.take k) (Cb l ((l.length-b)%l.length)))(hk:k<=s.length)(hb:b<l.length)(he:k=0\/s.getD (k-1) 0≠l.getD (l.length-1-b) 0):
  (⟨s.take k,Cb l ((l.length-b)%l.length)⟩:Ls)=BC w:=by
 refine LO hw (h.done ?_) h.word
 rcases he with rfl|he
 ·exact .inl (by simp)
 ·by_cases h0:k=0
  ·subst h0;exact .inl (by simp)
  ·refine .inr fun e=>he ?_
   have h1:s.take k≠[]:=by intro e;have:=congrArg List.length e;rw[List.length_take,List.length_nil]at this;omega
   have h2:Cb l ((l.length-b)%l.length)≠[]:=by intro e;have:=congrArg List.length e;rw[Cr,List.length_nil]at this;omega
   rw[BM _ h1,BM _ h2,Cr,Kd hb]at e;have h3:=Option.some.inj e;rw[<-h3,List.length_take,Nat.min_eq_left hk];simp[List.getD,show k-1<k by omega]
theorem Bl.start'{w:Ls}(hl:0<w.loop.length):Bl w (w.stem.take w.stem.length) (Cb (w.loop.take (AX w.loop)) (((w.loop.take (AX w.loop)).length-0)%(w.loop.take (AX w.loop)).length)):=by
 rw[List.take_length,Nat.sub_zero,Nat.mod_self];simpa[Cb]using Bl.start hl
/-! The length of the shortest piece. -/
theorem KN{l:List Int}(hl:0<l.length){n:Nat}(h0:0<n)(h:Ca l n=true)(hm:∀r,0<r->r<n->Ca l r=false):AX l=n:=by
 obtain⟨h1,_,h3,h4⟩:=Hr hl
 rcases Nat.lt_trichotomy (AX l) n with c|c|c
 ·rw[hm _ h1 c]at h3;cases h3
 ·exact c
 ·rw[h4 _ h0 c]at h;cases h
/-! Cyclic reading. -/
def Dp(w:Ls)(i:Nat):Nat:=if i<w.stem.length then i else w.stem.length+(i-w.stem.length)%w.loop.length
theorem FQ{w:Ls}(hl:0<w.loop.length)(i:Nat):Dp w i<w.stem.length+w.loop.length:=by
 unfold Dp;have:=Nat.mod_lt (i-w.stem.length) hl
 split<;>omega
theorem OV{w:Ls}(hl:0<w.loop.length)(i:Nat):Dp w (i+1)=if Dp w i+1=w.stem.length+w.loop.length then w.stem.length else Dp w i+1:=by
 unfold Dp
 by_cases h1:i+1<w.stem.length
 ·rw[if_pos h1,if_pos (show i<w.stem.length by omega),if_neg (by omega)]
 ·rw[if_neg h1]
  by_cases h2:i<w.stem.length
  ·rw[if_pos h2]
   have e:i+1-w.stem.length=0:=by omega
   rw[e,Nat.zero_mod]
   split<;>omega
  ·rw[if_neg h2];have hm:=Nat.mod_lt (i-w.stem.length) hl
   have e:i+1-w.stem.length=(i-w.stem.length)+1:=by omega
   rw[e,Nat.add_mod]
   by_cases h3:(i-w.stem.length)%w.loop.length+1=w.loop.length
   ·rw[if_pos (by omega)]
    by_cases h4:w.loop.length=1
    ·rw[h4];simp[Nat.mod_one]
    ·rw[Nat.mod_eq_of_lt (show 1<w.loop.length by omega),h3,Nat.mod_self];omega
   ·rw[if_neg (by omega),Nat.mod_eq_of_lt (show 1<w.loop.length by omega),Nat.mod_eq_of_lt (by omega)];omega
end Go.Proofs.YtncjeamdkjcebaaGreatDoor
namespace Go.Proofs.YtncjeamdkjcebaaGreatDoor
open Go.RowKit
theorem Bq{wr:World}{n:Nat}{t:TypeId}{x y a b:Value}(h:wr.heap[n]? =some (.cells #[x,y] t (0,0))):((wr.setCell ⟨n,0,none⟩ a).setCell ⟨n,1,none⟩ b).heap[n]? =some (.cells #[a,b] t (0,0)):=
 heap_setCell_same _ n 1 _ _ b (heap_setCell_same _ n 0 _ _ a h)
theorem Hl{w wr:World}{n:Nat}{a b:Value}(h:Below w.heap.size w wr)(hn:w.heap.size<=n):Below w.heap.size w ((wr.setCell ⟨n,0,none⟩ a).setCell ⟨n,1,none⟩ b):=
 (h.setCell hn _).setCell hn _
theorem Ah.setOther{w:World}{v u x:Value}{l:List Int}{a:Addr}(h:Ah w v l)(hx:w.cell? a=some x)(d:∀k n,x≠.int k n):Ah (w.setCell a u) v l:=by
 obtain⟨⟨ao,c,b,f,rfl,g⟩,r⟩:=h;refine⟨⟨ao,c,b,f,rfl,⟨g.lc,g.cm,g.nm,g.nc,g.ad,fun j hj=> ?_⟩⟩,r⟩;have e:=g.el j hj;rw[World.cell?_setCell_other _ _ _ _ (fun he=> ?_)]
 ·exact e
 ·rw[<-he,hx]at e;exact d _ _ (Option.some.inj e)
theorem Ah.setTwo{w:World}{v p q:Value}{l:List Int}{n:Nat}{t:TypeId}{ao bo:Option Addr}{m1 m2 c1 c2:Nat}(h:Ah w v l)(hx:w.heap[n]? =some (.cells #[.slice ao m1 c1,.slice bo m2 c2] t (0,0))):Ah ((w.setCell ⟨n,0,none⟩ p).setCell ⟨n,1,none⟩ q) v l:=by
 have h0:=h.setOther (u:=p) (cell_of_row w n 0 _ _ _ hx) (fun _ _ e=>by cases e);exact h0.setOther (cell_of_row _ n 1 _ _ _ (heap_setCell_same _ n 0 _ _ p hx)) (fun _ _ e=>by cases e)
theorem ME{w:World}{n m1 m2 c1 c2:Nat}{t:TypeId}{ao bo:Option Addr}(h:w.heap[n]? =some (.cells #[.slice ao m1 c1,.slice bo m2 c2] t (0,0))):
  w.cell? ⟨n,0,none⟩=some (.slice ao m1 c1)/\w.cell? ⟨n,1,none⟩=some (.slice bo m2 c2)/\w.frozen? ⟨n,0,none⟩=false/\w.frozen? ⟨n,1,none⟩=false:=
 ⟨Aa 0 h,Aa 1 h,At 0 h,At 1 h⟩
theorem If{w wr:World}{n m1 m2 c1 c2:Nat}{t:TypeId}{ao bo:Option Addr}{x y:Value}{l:Ls}(hr:wr.heap[n]? =some (.cells #[.slice ao m1 c1,.slice bo m2 c2] t (0,0)))(h1:Ah wr x l.stem)(h2:Ah wr y l.loop)(hb:Below w.heap.size w wr)(hn:w.heap.size<=n):
  Dz l w (.returned (.agg #[x,y])) ((wr.setCell ⟨n,0,none⟩ x).setCell ⟨n,1,none⟩ y):=
 ⟨_,rfl,⟨_,_,rfl,h1.setTwo hr,h2.setTwo hr⟩,Hl hb hn⟩
structure RdX(w0 w:World)(gb gp:Nat)(a0 a1:Option Addr)(c0 c1:Nat)(l:Ls)(x:Int):Prop where
 ls:Cn w0 (.agg #[.slice a0 l.stem.length c0,.slice a1 l.loop.length c1]) l
 bl:Below w0.heap.size w0 w
 ge:w0.heap.size<=gp
 ne:gb≠gp
 box:w.heap[gb]? =some (.cells #[.slice a0 l.stem.length c0,.slice a1 l.loop.length c1] 30 (0,0))
 ptr:w.heap[gp]? =some (.cells #[.int .i64 x] 3 (0,0))
theorem RdX.below{w0 w w':World}{gb gp:Nat}{a0 a1:Option Addr}{c0 c1:Nat}{l:Ls}{x:Int}(h:RdX w0 w gb gp a0 a1 c0 c1 l x)(hb:Below w.heap.size w w'):RdX w0 w' gb gp a0 a1 c0 c1 l x:=
 ⟨h.ls,h.bl.trans (hb.mono h.bl.size),h.ge,h.ne,(hb.block _ (Array.getElem?_eq_some_iff.1 h.box).1).trans h.box,(hb.block _ (Array.getElem?_eq_some_iff.1 h.ptr).1).trans h.ptr⟩
theorem RdX.keep{w0 w w':World}{gb gp:Nat}{a0 a1:Option Addr}{c0 c1:Nat}{l:Ls}{x:Int}(h:RdX w0 w gb gp a0 a1 c0 c1 l x)(hb:Below w0.heap.size w w')(h1:w'.heap[gb]? =w.heap[gb]?)(h2:w'.heap[gp]? =w.heap[gp]?):RdX w0 w' gb gp a0 a1 c0 c1 l x:=
 ⟨h.ls,h.bl.trans hb,h.ge,h.ne,h1.trans h.box,h2.trans h.ptr⟩
theorem KV{wr:World}{n:Nat}{t:TypeId}{x a:Value}(h:wr.heap[n]? =some (.cells #[x] t (0,0))):(wr.setCell ⟨n,0,none⟩ a).heap[n]? =some (.cells #[a] t (0,0)):=heap_setCell_same _ n 0 _ _ a h
theorem RdX.set{w0 w wr:World}{gb gp:Nat}{a0 a1:Option Addr}{c0 c1:Nat}{l:Ls}{x:Int}(h:RdX w0 wr gb gp a0 a1 c0 c1 l x)(hg:w.grownBy wr (some gp))(y:Int):
  w.grownBy (wr.setCell ⟨gp,0,none⟩ (.int .i64 y)) (some gp)/\RdX w0 (wr.setCell ⟨gp,0,none⟩ (.int .i64 y)) gb gp a0 a1 c0 c1 l y:=by
 refine⟨⟨hg.os,hg.tape,hg.output, ?_, ?_⟩,⟨h.ls,h.bl.setCell h.ge _,h.ge,h.ne, ?_,KV h.ptr⟩⟩
 ·rw[World.size_setCell];exact hg.size
 ·intro k hk a;rw[heap_setCell_other _ _ _ _ (by intro e;exact a (by simp at e;rw[e]))];exact hg.block k hk a
 ·rw[heap_setCell_other _ _ _ _ (by exact h.ne)];exact h.box
end Go.Proofs.YtncjeamdkjcebaaGreatDoor
namespace Go.Proofs.YtncjeamdkjcebaaGreatDoor
open Go.RowKit Go.Shelf
attribute [local go_sem] Oper.semAt_some
def KpL(n₀ z:Nat)(A B:World):Prop:=Below n₀ A B/\B.heap[z]? =A.heap[z]? /\B.heap[z+1]? =A.heap[z+1]?
theorem KpL.trans{n₀ z:Nat}{A B C:World}(h:KpL n₀ z A B)(k:KpL n₀ z B C):KpL n₀ z A C:=⟨h.1.trans k.1,k.2.1.trans h.2.1,k.2.2.trans h.2.2⟩
theorem KpL.refl(n₀ z:Nat)(A:World):KpL n₀ z A A:=⟨Ad,rfl,rfl⟩
theorem KpL.put{n₀:Nat}{w:World}(hn:n₀<=w.heap.size)(W:World)(l:Nat)(o o':Obj)(hl:w.heap.size<=l)(a:l<w.heap.size+2)(h:W.heap[l]? =some o)(h1:o.isCells=false)(h2:o.isWalk=false):KpL n₀ (w.heap.size+2) W (W.putObj l o'):=
 ⟨belowK_b hn W l o o' hl h h1 h2,World.putObj_heap_other (by omega),World.putObj_heap_other (by omega)⟩
end Go.Proofs.YtncjeamdkjcebaaGreatDoor
