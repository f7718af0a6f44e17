/- What mealy.lasso computes, of a machine told. -/
import Derived.Test.YtncjeamdkjcebaaGreatDoorYAr13
set_option linter.all false
set_option maxHeartbeats 8000000
set_option maxRecDepth 100000
namespace Go.Proofs.YtncjeamdkjcebaaGreatDoor
open Go.RowKit Go.Shelf
attribute [local go_sem] Oper.semAt_some
theorem IU{W W':World}{row:Option Nat}(hg:W.grownBy W' row)(hr:∀r,row=some r->∃o:Obj,W.heap[r]? =some o/\o.isCells=false){g:Nat}{cs:Array Value}{t:TypeId}{fr:Nat×Nat}(h:W.heap[g]? =some (.cells cs t fr)):W'.heap[g]? =W.heap[g]? :=by
 refine hg.block g (ltE h) fun e=> ?_
 obtain⟨o',h1,h2⟩:=hr g e.symm;rw[h]at h1
 cases h1
 cases h2
theorem EN{W W':World}{row:Option Nat}(hg:W.grownBy W' row)(hr:∀r,row=some r->∃o:Obj,W.heap[r]? =some o/\o.isCells=false){v:Value}{l:List Int}(h:Ah W v l):Ah W' v l:=by
 obtain⟨⟨ao,c,b,a,rfl,h1,h2,h3,h4,h5,h6⟩,hi⟩:=h;refine⟨⟨ao,c,b,a,rfl,h1,h2,h3,h4,h5,fun j hj=> ?_⟩,hi⟩;have hc:=h6 j hj;have hlt:=World.block_lt_of_cell? W _ hc;refine(hg.cell_far ⟨b,a+j,none⟩ hlt fun e=> ?_).trans hc;obtain⟨o',q1,q2⟩:=hr b e.symm;have q1:W.heap[b]? =some o':=q1;unfold World.cell? at hc;simp only[q1]at hc
 cases o'<;>simp_all [Obj.isCells]
def RL8(g _za m k cv:Nat)(S0 S1:List Int)(ix:Nat)(u':Value)(W:World):Prop:=
 match ix with
 |0|4=>u'=.slice (some ⟨g,0,none⟩) k cv
 |1|5=>u'=.int .i32 ((m:Int)+1)
 |2|6=>u'=.int .i32 (m:Int)
 |3=>u'=.slice (some ⟨g,0,none⟩) m cv
 |7=>u'=.slice (some ⟨g,m,none⟩) (k-m) (cv-m)
 |8=>∃x0 x1:Value,u'=.agg #[x0,x1]/\Ah W x0 S0/\Ah W x1 S1
 | _=>True
theorem RL8.below{g za m k cv:Nat}{S0 S1:List Int}(ix:Nat)(u':Value)(W W':World)(h:RL8 g za m k cv S0 S1 ix u' W)(hb:Below W.heap.size W W'):RL8 g za m k cv S0 S1 ix u' W':=by
 unfold RL8 at*
 split at h<;>first|exact h|trivial|(obtain⟨x0,x1,e,h0,h1⟩:=h;exact⟨x0,x1,e,h0.below hb,h1.below hb⟩)
theorem NT(w:World)(f:Nat)(lb:Array Value)(HE:∀args W,(callFunc f args).run Tryz.prog W=.ok (.enter f args) W)(st:Nat->Nat)(lt:Nat->Int)(N m n:Nat)(hN:N<=10000000)(bw:∀i,st i<N)(ac:Dw st m n)(hn:n<=N)
  (hs:SJ w f lb st lt (n+1)) (hlt:∀k,0<=lt k/\lt k<=255):
  Calls Tryz.prog 57 #[.int .i64 (N:Int),.int .i64 (st 0:Int),.func (.func f) #[] lb] w (Dz (Bh (A7 lt m n).stem (A7 lt m n).loop) w):=by
 have bs:Tryz.prog.follows .mixedOrders=true:=by kernel_rfl
 have HS:=Ab hs;have b7:=Ab bw;have b6:=Ab ac;have bb:=Ab hlt;clear hs bw hlt;have ct:=ac.1;clear ac;refine callsIn_wide (n:=5)|>.1 ?_;refine callsIn_of_wp_marks Tryz.func57 rfl trivial ?_;simp only[Tryz.ntmps57,List.size_toArray,List.length_cons,List.length_nil,Nat.reduceAdd,Nat.reduceSub,Array.replicate_succ,Array.replicate_zero,List.push_toArray,List.append_toArray,List.nil_append,List.cons_append];refine wpIn_wide.2 ?_
 go_upto_region 1 with(fail)
 obtain⟨a8,-,bm⟩:=Aw (w0:=w) Ad leR #[.slice none 0 0,.slice none 0 0] 30
 have ce:(w.alloc (.cells #[.slice none 0 0,.slice none 0 0] 30)).heap.size=w.heap.size+1:=by simp
 generalize w.alloc (.cells #[.slice none 0 0,.slice none 0 0] 30)=w1 at*
 go_upto_region 2 with(at_make;refine QM rfl _ _ _ Tryz.underlying139 rfl (w.heap.size+1) (N:Int) N rfl rfl rfl (by omega) (by omega) ?_;intro wm u aw)
 have ca:w1.heap.size<wm.heap.size:=(World.ownsRow.lt u _ rfl).2;have au:Below w.heap.size w wm:=bm.trans ((Ad.grown aw (by omega) (fun k hk=>by cases hk):Below w.heap.size w1 wm));have bv:wm.heap[w.heap.size]? =some (.cells #[.slice none 0 0,.slice none 0 0] 30 (0,0)):=(aw.block _ (ltE a8) (by simp)).trans a8;obtain⟨zs,aa⟩:∃z,z=wm.heap.size:=⟨_,rfl⟩
 have bn:∀w3,w3=(wm.alloc (.cells #[.slice (some ⟨w.heap.size+1,0,none⟩) N N] 139)).alloc (.cells #[.slice none 0 0] 140)->PS w zs (zs+1) st lt N 0 (.slice none 0 0) (List.replicate N 0) w3:=by
  rintro _ rfl;rw[ce]at u;have b2:Below wm.heap.size wm ((wm.alloc (.cells #[.slice (some ⟨w.heap.size+1,0,none⟩) N N] 139)).alloc (.cells #[.slice none 0 0] 140)):=AE (Ao _) _;refine⟨au.trans (b2.mono au.size),(b2.block _ (by omega)).trans bv, ?_, ?_,u.below b2,S8 _ _,(fun g e=>by cases e),⟨by omega,by omega⟩,by simp,fun i hi=>absurd hi (by omega),fun s hs _=>by simp[List.getD,hs]⟩
  ·rw[aa];exact(Dm _ _ (by simp)).trans (heap_alloc_new _ _)
  ·rw[aa];have:=heap_alloc_new (wm.alloc (.cells #[.slice (some ⟨w.heap.size+1,0,none⟩) N N] 139)) (.cells #[.slice none 0 0] 140);simpa using this
 have be:=Ab bn;have ci:=Ab aa;clear bn u aw a8 bm ca
 go_upto_region 3 with(fail)
 obtain⟨w3,ai⟩:∃x,x=(wm.alloc (.cells #[.slice (some ⟨w.heap.size+1,0,none⟩) N N] 139)).alloc (.cells #[.slice none 0 0] 140):=⟨_,rfl⟩;rw[<-ai];have bo:=be.out w3 ai
 have cd:w3.heap.size=zs+2:=by rw[ai,aa];simp
 rw[<-aa];clear be ai bv au aa
 go_wp2_with fail
 refine(Uq _ _ _ ⟨_,_,rfl⟩).mono ?_;rintro e w5 ⟨rfl,ad⟩
 have al:Below w3.heap.size w3 w5:=by rw[ad];exact AE (Ao _) _
 have h0:w5.heap[w3.heap.size]? =some (.cells #[.int .i64 (st 0:Int)] 3 (0,0)):=by rw[ad];exact(Dm _ _ (by simp)).trans (heap_alloc_new _ _)
 have h1:w5.heap[w3.heap.size+1]? =some (.cells #[.func (.func f) #[] lb] 92 (0,0)):=by
  rw[ad];have:=heap_alloc_new (w3.alloc (.cells #[.int .i64 (st 0:Int)] 3)) (.cells #[.func (.func f) #[] lb] 92);simpa using this
 have cu:w5.heap.size=zs+4:=by rw[ad];simp;omega
 have ag:PS w zs (zs+1) st lt N 0 (.slice none 0 0) (List.replicate N 0) w5:=PS.own (w:=w) (B:=w.heap.size) leR (0,.slice none 0 0,List.replicate N 0) w3 w5 none bo (AW al) (fun r e=>by cases e);have hStops:=Pa (5-1) (n+1) w3.heap.size (by omega) f lb HE st lt w w5 ag.bl HS.out h0 h1;rw[cd]at hStops⊢;clear ad al h0 h1 bo HS
 go_wp2_with fail
 refine(wpIn_wide (n:=5)).1 ?_;have a5:w.heap.size<=w5.heap.size:=ag.bl.size
 refine F2 (F:=Fence.wide) (n:=5) rfl (by omega) (gf:=122) (lb:=#[.pointer (some ⟨zs+2,0,none⟩),.pointer (some ⟨zs+3,0,none⟩)]) rfl trivial (enters_of Tryz.func122 (by kernel_rfl) rfl)
  hStops (by omega) KpL.trans (fun W l o o' hl hl2 h h1 h2=>⟨belowK_b a5 W l o o' hl h h1 h2,World.putObj_heap_other (by omega),World.putObj_heap_other (by omega)⟩) Ad (fun _=>rfl)
  (fun k W=>∃(v:Value)(L:List Int),PS w zs (zs+1) st lt N k v L W)
  (fun c _ W=>c=.ret/\∃x0 x1:Value,W.heap[w.heap.size]? =some (.cells #[x0,x1] 30 (0,0))/\Ah W x0 (Bh (A7 lt m n).stem (A7 lt m n).loop).stem/\Ah W x1 (Bh (A7 lt m n).stem (A7 lt m n).loop).loop/\Below w.heap.size w W)
  ?own ?ownx ⟨_,_,ag⟩ ?a1 ?assign ?body ?stop
 case own=>
  rintro k W W' row ⟨v,L,h⟩ hg hr;exact⟨v,L,PS.own (w:=w) (B:=w5.heap.size) a5 (k,v,L) W W' row h hg hr⟩
 case ownx=>
  rintro c k W W' row ⟨hc,x0,x1,h0,h1,h2,h3⟩ hg hr;exact⟨hc,x0,x1,(IU hg (fun r e=>(hr r e).2) h0).trans h0,EN hg (fun r e=>(hr r e).2) h1,EN hg (fun r e=>(hr r e).2) h2,h3.grown hg h3.size (fun r e=>Nat.le_trans a5 (hr r e).1)⟩
 case assign=>
  intro lY k W K hK;unfold To
  gi_wp2
  exact hK
 case body=>
  rintro lY k W ⟨v,L,hI⟩ cw hk
  have hd:1<=5-1-1:=by omega
  clear hStops HE ag;obtain⟨bu,a3,a4⟩:=b6.out;have ah:=b7.out k;have br:=bb.out k
  obtain⟨av,cv,rfl⟩:∃a c,v=.slice a k c:=by
   rcases hI.a.2 with⟨rfl,e⟩|⟨g,bj,bk,rfl,-⟩
   ·rw[AO]at e;exact⟨none,0,by rw[e]⟩
   ·exact⟨_,_,by rw[AO]⟩
  have b0:=Aa 0 hI.sb;have b1:=Aa 0 hI.ab;have e0:=hI.o.at' hI.ll.symm (st k) (by rw[hI.ll];exact ah)
  have cn:(0:Int)<=(st k:Int):=by omega
  have co:(st k:Int)<(N:Int):=by omega
  have HI:=Ab hI;have c2:=hI.zz
  by_cases hkn:k<n
  ·have a2:∀i,i<k->st i≠st k:=fun i hi=>a4 i k hi hkn
   have b4:=Ab a2;rw[hI.l0 _ ah a2]at e0;have HO:=Ab hI.a;have ck:=hI.bl.size;have cz:=(Array.getElem?_eq_some_iff.1 hI.ab).1
   have cy:IntKind.u8.wrap (lt k)=lt k:=by rw[IntKind.wrap_u8];omega
   have ch:IntKind.i32.wrap ((k:Int)+1)=(k:Int)+1:=by rw[IntKind.wrap_i32];omega
   have ao:=Ab (AO lt k);clear a2 bu a3 a4 hI br
   gi_upto_region 9 with(fail)
   gi_upto_region 10 with(refine PW rfl _ _ (lt k) rfl (w.heap.size+1) (.slice av k cv) _ HO.out rfl _ (by simp) rfl (by rw[ao.out];omega) (by omega) ?_;intro v' w6 j bq am;obtain⟨a9,c9,rfl⟩:∃a c,v'=.slice a (k+1) c:=(by
    rcases j.2 with⟨_,e⟩|⟨g,bj,bk,rfl,-⟩
    ·rw[List.length_append,ao.out]at e;simp at e
    ·exact⟨_,_,by rw[List.length_append,ao.out];rfl⟩);have af:=Ab (HI.out.push (by omega) ah b4.out j bq am);have b1:=Aa 0 af.out.1;have f1:=At 0 af.out.1;clear j bq am)
   obtain⟨-,⟨an,aj,ap⟩,bp,aq⟩:=af.out;have bf:=Ab bp;have HK:=Ab (HI.out.keeps aq w5.heap.size);have b3:=Ab (HI.out.kp (by omega) aq);clear af bp aq b1 f1 b0 e0 HO HI;generalize w6.setCell ⟨zs+1,0,none⟩ (.slice a9 (k+1) c9)=w7 at*;have b0:=Aa 0 an;have b1:=Aa 0 aj
   have ax:Hid (L.length=N):=by
    have:=bf.out.ll
    rwa [List.length_set]at this
   have e0:=ap.at' ax.out.symm (st k) (by rw[ax.out];exact ah);have f0:=ap.fz ax.out.symm (st k);clear an aj ap
   gi_wp2
   exact⟨HK.out,b3.out,by omega,_,_,bf.out⟩
  ·obtain rfl:k=n:=by omega
   have az:=hI.l1 m (by omega);rw[a3]at az;rw[az]at e0
   have cg:(0:Int)<(m:Int)+1:=by omega
   have ay:=HI.out.a
   obtain⟨g,rfl⟩:∃g,av=some ⟨g,0,none⟩:=by
    rcases ay.2 with⟨-,e⟩|⟨g,bj,bk,e,-⟩
    ·rw[AO]at e;omega
    ·injection e with e1 e2 e3
     exact⟨g,e1⟩
   have HU:Hid (Df W (.slice (some ⟨g,0,none⟩) k cv) (AV lt k)):=ay.is (by rw[AO];unfold Bg;omega) fun x hx=>by
    obtain⟨i,-,rfl⟩:=List.mem_map.1 hx;exact bb.out i
   obtain⟨-,-,-,cp,cl,-,-⟩:=HU.out.data
   have bh:Hid (Df W (.slice (some ⟨g,0,none⟩) m cv) (A7 lt m k).stem):=by
    have:=HU.out.take m (by omega)
    rwa [Ga (by omega)]at this
   have bi:Hid (Df W (.slice (some ⟨g,m,none⟩) (k-m) (cv-m)) (A7 lt m k).loop):=by
    have:=HU.out.drop (k:=m) (by omega);rw[F8,Nat.zero_add]at this;exact this
   have cc:(A7 lt m k).loop.length=k-m:=by simp[A7]
   have cb:(A7 lt m k).stem.length=m:=by simp[A7]
   have ae:Hid (∀X,Below W.drew.heap.size W.drew X->Below W.heap.size W X):=fun X h=>(Below.drew (B:=W.heap.size) Ad).trans h
   have bc:Hid (∀X,Below W.drew.heap.size W.drew X->Calls Tryz.prog 99 #[.slice (some ⟨g,0,none⟩) m cv,.slice (some ⟨g,m,none⟩) (k-m) (cv-m)] X (Dz (Bh (A7 lt m k).stem (A7 lt m k).loop) X)):=fun X h=>OJ X _ _ _ _ (bh.out.below (ae.out X h)) (bi.out.below (ae.out X h)) (by omega) (by omega) (by omega)
   have ba:Hid (∀X,Below W.drew.heap.size W.drew X->X.cell? ⟨zs+1,0,none⟩=some (.slice (some ⟨g,0,none⟩) k cv)):=fun X h=>Ag (ae.out X h) b1
   have cx:IntKind.i32.wrap (m:Int)=(m:Int):=by rw[IntKind.wrap_i32];omega
   have cm:¬cv=m:=by omega
   have cq:(0:Int)<=(m:Int):=by omega
   have cr:(m:Int)<=(cv:Int):=by omega
   have cs:(m:Int)<=(k:Int):=by omega
   have cf:=bs
   gi_upto_region 8 with(fail)
   clear hI ay az bu a3 a4 b0 e0 b1 HU cc cb hkn br;refine Gd bs (RL8 g (zs+1) m k cv (Bh (A7 lt m k).stem (A7 lt m k).loop).stem (Bh (A7 lt m k).stem (A7 lt m k).loop).loop) (fun vs=>{tmps:=(_::_::_::_::_::_::_::_::_::_::_::_::_::_::_::_::_::_::_::_::_::_::_::_::_::vs 0::vs 1::vs 2::vs 3::vs 4::vs 5::vs 6::vs 7::vs 8::_::_::_::_::_::_::_::_::_::_::_::_::[]).toArray,defers:=[]}) (fun _=>undef) 9 rfl (by kernel_rfl) (by kernel_rfl) (fun i v W W' h hb=>RL8.below i v W W' h hb) ?step ?last
   case step=>
    intro ix o hlt ho
    match ix,hlt,ho with
    |0,hlt,ho|4,hlt,ho=>
     obtain rfl:=osI ho;intro vs W K hB hD hK;have HK:=Ab hK;have q:=ba.out W hB;clear hK hD ho hlt;dsimp only;go_simp;have h:=HK.out _ _ Ad rfl;simp only[upd,Nat.reduceEqDiff,reduceIte]at h;exact h
    |1,hlt,ho|2,hlt,ho|3,hlt,ho|5,hlt,ho|6,hlt,ho|7,hlt,ho=>
     obtain rfl:=osI ho;intro vs W K hB hD hK;have HK:=Ab hK
     try have e0:vs 0=.slice (some ⟨g,0,none⟩) k cv:=Ac hD 0 rfl
     try have e1:vs 1=.int .i32 ((m:Int)+1):=Ac hD 1 rfl
     try have e2:vs 2=.int .i32 (m:Int):=Ac hD 2 rfl
     try have e4:vs 4=.slice (some ⟨g,0,none⟩) k cv:=Ac hD 4 rfl
     try have e5:vs 5=.int .i32 ((m:Int)+1):=Ac hD 5 rfl
     try have e6:vs 6=.int .i32 (m:Int):=Ac hD 6 rfl
     clear hK hD ho hlt;dsimp only;go_simp;have h:=HK.out _ _ Ad rfl;simp only[upd,Nat.reduceEqDiff,reduceIte, *]at h;exact h
    |8,hlt,ho=>
     obtain rfl:=osI ho;intro vs W K hB hD hK;have HK:=Ab hK;have e3:vs 3=.slice (some ⟨g,0,none⟩) m cv:=Ac hD 3 rfl;have e7:vs 7=.slice (some ⟨g,m,none⟩) (k-m) (cv-m):=Ac hD 7 rfl;clear hK hD ho hlt;dsimp only;go_simp;refine⟨trivial, ?_⟩;refine(CallsIn.inRound lY (callsIn_wide.2 (bc.out W hB))).mono ?_;rintro e W' ⟨u',rfl,⟨x0,x1,rfl,h0,h1⟩,hb⟩;have h:=HK.out _ _ hb ⟨x0,x1,rfl,h0,h1⟩;simp only[upd,Nat.reduceEqDiff,reduceIte,e3,e7]at h;exact h
    |q+9,hlt,_=>exact absurd hlt (by omega)
   case last=>
    intro o ho;obtain rfl:=osI ho;intro vs W1 K hB ak hK;have HK:=Ab hK;obtain⟨x0,x1,e8,a6,a7⟩:∃x0 x1:Value,vs 8=.agg #[x0,x1]/\Ah W1 x0 (Bh (A7 lt m k).stem (A7 lt m k).loop).stem/\Ah W1 x1 (Bh (A7 lt m k).stem (A7 lt m k).loop).loop:=ak 8 (by omega);obtain⟨y0,d0,rfl⟩:=a6.shape;obtain⟨y1,d1,rfl⟩:=a7.shape;have ar:=ae.out W1 hB;have d:=(ar.block _ (Array.getElem?_eq_some_iff.1 HI.out.rb).1).trans HI.out.rb;have f0:=At 0 d;have f1:=At 1 d;have k0:=Aa 0 d;have k1:=Aa 1 d;have b5:=Ab d;have y:=Ab ar;have b8:=Ab (a6.setTwo (p:=.slice y0 (Bh (A7 lt m k).stem (A7 lt m k).loop).stem.length d0) (q:=.slice y1 (Bh (A7 lt m k).stem (A7 lt m k).loop).loop.length d1) d);have b9:=Ab (a7.setTwo (p:=.slice y0 (Bh (A7 lt m k).stem (A7 lt m k).loop).stem.length d0) (q:=.slice y1 (Bh (A7 lt m k).stem (A7 lt m k).loop).loop.length d1) d);clear hK ak ho d ar a6 a7 bc ba bh bi;dsimp only;go_simp;refine HK.out _ _ ?_;clear f0 f1 k0 k1;have bg:=Ab (Bq (a:=.slice y0 (Bh (A7 lt m k).stem (A7 lt m k).loop).stem.length d0) (b:=.slice y1 (Bh (A7 lt m k).stem (A7 lt m k).loop).loop.length d1) b5.out)
    have bd:Hid (Af (fun q=>q=w.heap.size) W ((W1.setCell ⟨w.heap.size,0,none⟩ (.slice y0 (Bh (A7 lt m k).stem (A7 lt m k).loop).stem.length d0)).setCell ⟨w.heap.size,1,none⟩ (.slice y1 (Bh (A7 lt m k).stem (A7 lt m k).loop).loop.length d1))):=
     (⟨y.out.os,y.out.tape,y.out.output,y.out.size,fun k hk _=>y.out.block k hk⟩:Af (fun q=>q=w.heap.size) W W1).trans ((Af.set (S:=fun q=>q=w.heap.size) _ _ _ rfl).trans (Af.set (S:=fun q=>q=w.heap.size) _ _ _ rfl))
    have bx:=Ab (Hl (a:=.slice y0 (Bh (A7 lt m k).stem (A7 lt m k).loop).stem.length d0) (b:=.slice y1 (Bh (A7 lt m k).stem (A7 lt m k).loop).loop.length d1) (HI.out.bl.trans (y.out.mono HI.out.bl.size)) leR);generalize(W1.setCell ⟨w.heap.size,0,none⟩ (.slice y0 (Bh (A7 lt m k).stem (A7 lt m k).loop).stem.length d0)).setCell ⟨w.heap.size,1,none⟩ (.slice y1 (Bh (A7 lt m k).stem (A7 lt m k).loop).loop.length d1)=W2 at*
    have bz:Hid (KeepsFrom w5.heap.size W W2):=⟨bd.out.size,fun i o _ hi hc=>(bd.out.block i (ltE hi) (by
     intro e;have e:i=w.heap.size:=e;subst e
     rw[HI.out.rb]at hi;cases hi;cases hc)).trans hi⟩
    gi_wp2
    exact⟨bz.out,rfl,_,_,bg.out,b8.out,b9.out,bx.out⟩
 case stop=>
  rintro D c k W hD ⟨rfl,x0,x1,h0,h1,h2,h3⟩ hK
  have cj:w.heap.size≠D:=fun e=>by rw[e,hK]at h0;cases h0
  obtain⟨a0,d0,rfl⟩:=h1.shape;obtain⟨a1,d1,rfl⟩:=h2.shape
  have hr:∀r,some D=some r->∃o:Obj,W.heap[r]? =some o/\o.isCells=false:=fun r e=>by
   cases e
   exact⟨_,hK,rfl⟩
  have hg:=grownBy_putObj' W D (.deferred none);have H0:=Ab ((IU hg hr h0).trans h0);have H1:=Ab (EN hg hr h1);have H2:=Ab (EN hg hr h2);have H3:=Ab (h3.grown hg h3.size (fun r e=>by cases e;omega));have q0:=Aa 0 h0;have q1:=Aa 1 h0;have c0:=Aa 0 H0.out;have c1:=Aa 1 H0.out;clear h0 h1 h2 h3 hg hr
  gi_wp2
  refine⟨by simp,.inl ⟨_,_,rfl,run_takeDeferred hK, ?_⟩⟩;refine⟨.agg #[.slice a0 (Bh (A7 lt m n).stem (A7 lt m n).loop).stem.length d0,.slice a1 (Bh (A7 lt m n).stem (A7 lt m n).loop).loop.length d1],by simp[results,Tryz.results57,go_sem,c0,c1],_,rfl,⟨_,_,rfl,H1.out,H2.out⟩,H3.out⟩
end Go.Proofs.YtncjeamdkjcebaaGreatDoor
namespace Go.Proofs.YtncjeamdkjcebaaGreatDoor
open Go.RowKit
def Bt(m:My)(q x:Nat):Int:=(m.out.getD q []).getD x 0
def nxI(m:My)(q x:Nat):Int:=(m.next.getD q []).getD x 0
def stM(m:My)(q:Nat)(ins:List Int):Nat->Nat
 |0=>q
 |k+1=>(nxI m (stM m q ins k) (ins.getD k 0).toNat).toNat
def CQ(m:My)(q:Nat)(ins:List Int)(n:Nat):List Int:=(List.range n).map fun k=>Bt m (stM m q ins k) (ins.getD k 0).toNat
def Ep(m:My)(q:Int)(ins:List Int):Bool:=A5 m&&(decide (0<=q)&&decide (q<m.out.length))&&BG ins.length m.ins ins
def Ha(m:My)(q:Int)(ins:List Int):List Int×Int:=if Ep m q ins=true then(CQ m q.toNat ins ins.length,(stM m q.toNat ins ins.length:Int))else([],0)
theorem L6{m:My}{q:Int}{ins:List Int}(h:Ep m q ins=true):Ha m q ins=(CQ m q.toNat ins ins.length,(stM m q.toNat ins ins.length:Int)):=if_pos h
theorem N7{m:My}{q:Int}{ins:List Int}(h:¬Ep m q ins=true):Ha m q ins=([],0):=if_neg h
theorem Ka{m:My}{q:Int}{ins:List Int}:Ep m q ins=true↔MyV m/\0<=q/\q<m.out.length/\∀k,k<ins.length->0<=ins.getD k 0/\ins.getD k 0<m.ins:=by
 unfold Ep;rw[Bool.and_eq_true,Bool.and_eq_true,Bool.and_eq_true,Fd,BA,decide_eq_true_eq,decide_eq_true_eq]
 constructor
 ·rintro⟨⟨h1,h2,h3⟩,-,h4⟩;exact⟨h1,h2,h3,h4⟩
 ·rintro⟨h1,h2,h3,h4⟩;exact⟨⟨h1,h2,h3⟩,rfl,h4⟩
theorem MyV.out'{m:My}(h:MyV m){q x:Nat}(hq:q<m.out.length)(hx:(x:Int)<m.ins):x<(m.out.getD q []).length/\0<=Bt m q x/\Bt m q x<m.outs:=by
 obtain⟨h1,h2⟩:=h.out q hq
 have:x<(m.out.getD q []).length:=by omega
 exact⟨this,h2 x this⟩
theorem MyV.nx'{m:My}(h:MyV m){q x:Nat}(hq:q<m.out.length)(hx:(x:Int)<m.ins):x<(m.next.getD q []).length/\0<=nxI m q x/\nxI m q x<m.out.length:=by
 obtain⟨h1,h2⟩:=h.nxt q hq
 have:x<(m.next.getD q []).length:=by omega
 exact⟨this,h2 x this⟩
theorem MyV.st{m:My}(h:MyV m){q:Nat}{ins:List Int}(hq:q<m.out.length)(hi:∀k,k<ins.length->0<=ins.getD k 0/\ins.getD k 0<m.ins):∀k,k<=ins.length->stM m q ins k<m.out.length:=fun k hk=>by
 induction k with
 |zero=>exact hq
 |succ k ih=>
  have h1:=hi k (by omega);have h2:=h.nx' (ih (by omega)) (x:=(ins.getD k 0).toNat) (by omega);show(nxI m (stM m q ins k) (ins.getD k 0).toNat).toNat<_;omega
theorem DF{m:My}{q:Nat}{ins:List Int}{n:Nat}:(CQ m q ins n).length=n:=by simp[CQ]
theorem Ja{m:My}{q:Nat}{ins:List Int}{n k:Nat}(h:k<n):(CQ m q ins n).getD k 0=Bt m (stM m q ins k) (ins.getD k 0).toNat:=by simp[CQ,List.getD,h]
def IE(ll:List Int)(r:Int)(w:World)(e:Ending)(w':World):Prop:=∃v,e=.returned (.tuple #[v,.int .i64 r])/\Ah w' v ll/\Below w.heap.size w w'
theorem CZ(w:World):Ah w (.slice none 0 0) []:=⟨⟨none,0,0,0,rfl,Nat.le_refl _,Nat.zero_le _,Nat.zero_le _,fun _=>rfl,(fun h=>absurd h (by simp)),fun j hj=>absurd hj (by simp)⟩,by simp⟩
theorem Ek{Q:List Int×Int}(h:Q=([],0)){w w':World}(hb:Below w.heap.size w w'):IE Q.1 Q.2 w (.returned (.tuple #[.slice none 0 0,.int .i64 0])) w':=by
 rw[h];exact⟨_,rfl,CZ _,hb⟩
theorem JK{Q:List Int×Int}{l:List Int}{r:Int}(h:Q=(l,r)){w w':World}{v:Value}(hv:Ah w' v l)(hb:Below w.heap.size w w'):IE Q.1 Q.2 w (.returned (.tuple #[v,.int .i64 r])) w':=by
 rw[h];exact⟨_,rfl,hv,hb⟩
theorem NF{l f:List Int}(hl:l.length=f.length)(h:∀j,j<f.length->l.getD j 0=f.getD j 0):l=f:=by
 apply List.ext_getElem hl
 intro i h1 h2;have:=h i h2
 rwa [Ae _ _ _ h1,Ae _ _ _ h2]at this
theorem SI(w:World)(vm vi:Value)(m:My)(q:Int)(ins:List Int)(hm:BB w vm m)(hi:Ah w vi ins)(hl:ins.length<=1000):
  Calls Tryz.prog 12 #[vm,.int .i64 q,vi] w (IE (Ha m q ins).1 (Ha m q ins).2 w):=by
 have aj:=Ab hi
 have ak:Hid (∀W,Below w.heap.size w W->Calls Tryz.prog 18 #[vm] W (Av (.bool (A5 m)) W)):=fun W h=>Fn W _ _ (hm.below h)
 obtain⟨ai,ci,rfl⟩:=hi.shape;obtain⟨bi,oi,di,ni,fi⟩:=hi.data;have ax:=Ab fi;have f:Hid (¬Ep m q ins=true->Ha m q ins=([],0)):=N7;have v:Hid (Ep m q ins=true->Ha m q ins=(CQ m q.toNat ins ins.length,(stM m q.toNat ins ins.length:Int))):=L6;have d:Hid (Ep m q ins=(A5 m&&(decide (0<=q)&&decide (q<m.out.length))&&BG ins.length m.ins ins)):=rfl;have u:Hid (Ep m q ins=true↔MyV m/\0<=q/\q<m.out.length/\∀k,k<ins.length->0<=ins.getD k 0/\ins.getD k 0<m.ins):=Ka;obtain⟨v3,v4,rfl,hI,h3,h4⟩:=hm;obtain⟨a3,c3,rfl⟩:=h3.shape;obtain⟨a4,c4,rfl⟩:=h4.shape;obtain⟨b3,o3,d3,m3,f3⟩:=h3.dat2;obtain⟨b4,o4,d4,m4,f4⟩:=h4.dat2;have av:=Ab f3;have aw:=Ab f4;clear f3 f4 h3 h4 fi hi;generalize hQ:Ha m q ins=Q at*;clear hQ;generalize hK:Ep m q ins=K at*;clear hK;have bb:=Ab (rfl:m.out.length=m.out.length)
 go_enter Tryz.func12,Tryz.ntmps12
 go_upto_region 1 with(fail)
 obtain⟨hx,-,hB⟩:=Aw (w0:=w) Ad leR #[.int .i64 m.ins,.int .i64 m.outs,.int .i64 m.start,.slice a3 m.out.length c3,.slice a4 m.next.length c4] 25;generalize w.alloc (.cells #[.int .i64 m.ins,.int .i64 m.outs,.int .i64 m.start,.slice a3 m.out.length c3,.slice a4 m.next.length c4] 25)=w1 at*;have k0:=Aa 0 hx;have k1:=Aa 1 hx;have k2:=Aa 2 hx;have k3:=Aa 3 hx;have k4:=Aa 4 hx
 go_wp2_with fail
 refine(ak.out _ hB).mono ?_;rintro e w2 ⟨rfl,hb⟩;replace hx:=B8 hb hx;replace hB:=hB.trans (hb.mono hB.size);clear hb k0 k1 k2 k3 k4;have k0:=Aa 0 hx;have k3:=Aa 3 hx
 cases hv:A5 m with
 |false=>
  have HQ:=Ab (f.out (by rw[d.out,hv];simp));clear hv;go_wp2;go_ret2;exact Ek HQ.out hB
 |true=>
 by_cases hq0:q<0
 ·have HQ:=Ab (f.out (by rw[d.out,decide_eq_false (show ¬0<=q by omega)];simp));clear hv;go_wp2;go_ret2;exact Ek HQ.out hB
 by_cases hq1:(m.out.length:Int)<=q
 ·have HQ:=Ab (f.out (by rw[d.out,decide_eq_false (show ¬q<(m.out.length:Int)by omega)];simp));clear hv;go_wp2;go_ret2;exact Ek HQ.out hB
 have HV:=Ab hv;clear hv
 go_wp2_with fail
 refine(Jk _ _ _ _ _ (L5 (aj.out.below hB))).mono ?_;rintro e w3 ⟨rfl,hb⟩;rw[show Cq (ins.length:Int) m.ins [ins]=BG ins.length m.ins ins by simp[Cq]];replace hb:=(Ao (w:=w2) _).trans (hb.mono (Ao (w:=w2) _).size);replace hx:=B8 hb hx;replace hB:=hB.trans (hb.mono hB.size);clear hb k0 k3
 cases hrb:BG ins.length m.ins ins with
 |false=>
  have HQ:=Ab (f.out (by rw[d.out,hrb];simp));clear hrb;go_wp2;go_ret2;exact Ek HQ.out hB
 |true=>
 have hK:K=true:=by rw[d.out,HV.out,hrb,decide_eq_true hq0,decide_eq_true hq1];rfl
 have HQ:=Ab (v.out hK);have a:=Ab (u.out.1 hK);obtain⟨qn,rfl⟩:∃qn:Nat,q=(qn:Int):=⟨q.toNat,by omega⟩;rw[Int.toNat_natCast]at HQ;clear hK f v d u hrb HV hI ak aj K;obtain rfl:=d3 (by omega);have a9:=a.out.1.nl;obtain rfl:=d4 (by omega);have HX:=Ab hx;have b:=Ab hB;clear hx hB a9
 go_upto_region 4 with(at_make;refine FA rfl _ _ _ Tryz.underlying26 rfl w3.heap.size (ins.length:Int) ins.length rfl rfl rfl (by omega) leR ?_;intro wm l an)
 have ac:Below w3.heap.size w3 wm:=Ad.grown an leR (fun k hk=>by cases hk);obtain⟨ZB,ab⟩:∃z,z=w3.heap.size:=⟨_,rfl⟩;rw[<-ab]at l ac⊢;have p:=Ab ab;clear an ab;have a6:=Ab l;have aq:=Ab ac;clear l ac;generalize hnn:ins.length=n at*
 go_wp2_with fail
 go_loopg [1,40] n (fun gh q i wr=>∃(k s:Nat)(L:List Int),gh=n-k/\q=.int .i64 (s:Int)/\i=.int .i64 (k:Int)/\k<=n/\s<m.out.length/\Hid (s=stM m qn ins k)/\Hid (L.length=n)/\Hid (∀j,j<k->L.getD j 0=(CQ m qn ins n).getD j 0)/\Hid (OI wr ZB (.slice (some ⟨ZB,0,none⟩) n n) L)/\Hid (Below ZB w3 wr))
 case atStart=>exact⟨0,qn,_,rfl,rfl,rfl,by omega,by omega,rfl,by show _=_;simp,fun j hj=>absurd hj (by omega),a6,aq⟩
 case round=>
  obtain⟨k,s,L,am,rfl,rfl,hk,hs,HS,HL,HA,HO,HB⟩:=hrel;have ay:=Ab am;clear am
  by_cases hlt:k<n
  ·obtain rfl:=di (by omega)
   have bf:(0:Int)<=(k:Int):=by omega
   have a8:(k:Int)<(n:Int):=by omega
   have bg:(0:Int)<=(s:Int):=by omega
   have bh:(s:Int)<(m.out.length:Int):=by omega
   have bj:(s:Int)<(m.next.length:Int):=by have:=a.out.1.nl;omega
   have c:Below w3.heap.size w3 wr:=by have:=HB.out;rwa [p.out]at this
   have ae:=Ab c;have o:=Ab (b.out.trans (c.mono b.out.size));have cI:=Ag o.out (ax.out k hlt);have r:=a.out.2.2.2 k hlt;obtain⟨x,hx⟩:∃x:Nat,ins.getD k 0=(x:Int):=⟨(ins.getD k 0).toNat,by omega⟩;have al:=Ab hx;rw[hx]at cI r;obtain⟨v1,v2,v3⟩:=a.out.1.out' hs r.2;obtain⟨u1,u2,u3⟩:=a.out.1.nx' hs r.2;obtain⟨a1,e1,c1,r1⟩:=av.out s hs;obtain⟨a2,d2,c2,r2⟩:=aw.out s (by omega);obtain⟨p1,y1,z1,-,g1⟩:=r1.data;obtain⟨p2,y2,z2,-,g2⟩:=r2.data;obtain rfl:=z1 (by omega);obtain rfl:=z2 (by omega);replace g2:=g2 x u1
   have aa:Hid (∀W,Below w3.heap.size w3 W->W.cell? ⟨w.heap.size,4,none⟩=some (.slice (some ⟨b4,o4,none⟩) m.next.length c4)/\W.cell? ⟨b4,o4+s,none⟩=some (.slice (some ⟨p2,y2,none⟩) (m.next.getD s []).length d2)/\W.cell? ⟨p2,y2+x,none⟩=some (.int .i64 ((m.next.getD s []).getD x 0))):=fun W h=>⟨Aa 4 ((h.block _ (Array.getElem?_eq_some_iff.1 HX.out).1).trans HX.out),Ag (b.out.trans (h.mono b.out.size)) c2,Ag (b.out.trans (h.mono b.out.size)) g2⟩
   replace g1:=Ag o.out (g1 x v1);replace c1:=Ag o.out c1;have q:=(c.block _ (Array.getElem?_eq_some_iff.1 HX.out).1).trans HX.out;have q3:=Aa 3 q;have e2:=HO.out.at' HL.out.symm k (by rw[HL.out];exact hlt);have f2:=HO.out.fz HL.out.symm k
   have bc:(0:Int)<=(x:Int):=by omega
   have bd:(x:Int)<((m.out.getD s []).length:Int):=by omega
   have be:(x:Int)<((m.next.getD s []).length:Int):=by omega
   have af:Hid ((m.out.getD s []).getD x 0=(CQ m qn ins n).getD k 0):=by
    show _=_;rw[Ja hlt,<-HS.out,al.out];rfl
   have ag:Hid (((m.next.getD s []).getD x 0).toNat=stM m qn ins (k+1)):=by
    show _=(nxI m (stM m qn ins k) (ins.getD k 0).toNat).toNat;rw[<-HS.out,al.out];rfl
   obtain⟨t,ht⟩:∃t:Nat,(m.next.getD s []).getD x 0=(t:Int):=⟨((m.next.getD s []).getD x 0).toNat,by have:0<=(m.next.getD s []).getD x 0:=u2;omega⟩
   have ba:t<m.out.length:=by have:(m.next.getD s []).getD x 0<m.out.length:=u3;omega
   rw[ht]at aa;clear g2 c2
   have au:Hid (t=stM m qn ins (k+1)):=by
    show _=_;rw[<-ag.out,ht];simp
   generalize(m.out.getD s []).getD x 0=y at*;generalize(m.out.getD s []).length=l1 at*;generalize(m.next.getD s []).length=l2 at*;clear ag ht hx u2 u3 v2 v3 r1 r2 z1 z2 q r;have a5:=Ab (HO.out.set HL.out.symm k y)
   have ad:Hid (Below ZB w3 (wr.setCell ⟨ZB,k,none⟩ (.int .i64 y))):=by
    show Below _ _ _;have:=ae.out;rw[p.out];exact BS this leR
   have a0:Hid ((L.set k y).length=n):=by show _=_;rw[List.length_set];exact HL.out
   have ap:Hid (∀j,j<k+1->(L.set k y).getD j 0=(CQ m qn ins n).getD j 0):=fun j hj=>by
    by_cases hjk:j=k
    ·subst hjk;rw[<-af.out]
     have:j<L.length:=by rw[HL.out];exact hlt
     simp[List.getD,this]
    ·have:=HA.out j (by omega);rw[<-this];simp[List.getD,List.getElem?_set_ne (Ne.symm hjk)]
   go_upto_region 8 with(fail)
   clear e2 f2 cI q3 g1 c1 HO HB HA HL c ae af HS o;generalize wr.setCell ⟨ZB,k,none⟩ (.int .i64 y)=wx at*
   have c:Below w3.heap.size w3 wx:=by have:=ad.out;rwa [p.out]at this
   obtain⟨q4,c2,g2⟩:=aa.out wx c;clear c aa;go_wp2
   go_roundg (n-(k+1))
   case measure=>have:=ay.out;omega
   case rel=>exact⟨k+1,t,_,rfl,rfl,by go_num,by omega,ba,au,a0,ap,a5,ad⟩
  ·have a8:¬(k:Int)<(n:Int):=by omega
   have ah:Hid (L=CQ m qn ins n):=NF (by rw[HL.out,DF]) fun j hj=>HA.out j (by rw[DF]at hj;omega)
   have a7:Hid (Q=(CQ m qn ins n,(s:Int))):=by show _=_;rw[HQ.out,HS.out,show k=n by omega]
   have ar:Hid (Below w.heap.size w wr):=by
    show Below _ _ _;have:=HB.out;rw[p.out]at this;exact b.out.trans (this.mono b.out.size)
   have az:Hid (Ah wr (.slice (some ⟨ZB,0,none⟩) n n) (CQ m qn ins n)):=by
    show Ah _ _ _;have h1:=HO.out;rw[ah.out]at h1
    refine h1.is (by rw[DF];unfold Bg;omega) fun y hy=> ?_
    obtain⟨j,hj,rfl⟩:=List.mem_iff_getElem.1 hy
    have ao:j<n:=by rw[DF]at hj;exact hj
    rw[<-Ae _ 0 j hj,Ja ao];have hq:=a.out.1.st (q:=qn) (ins:=ins) (by omega) (fun k hk=>a.out.2.2.2 k (by omega)) j (by omega);have hx:=a.out.2.2.2 j ao;have h3:=a.out.1.out' hq (x:=(ins.getD j 0).toNat) (by omega);have h4:=a.out.1.o2
    constructor<;>omega
   clear HO HA HL HS HB HQ ah;go_wp2;go_ret2;exact JK a7.out az.out ar.out
end Go.Proofs.YtncjeamdkjcebaaGreatDoor
