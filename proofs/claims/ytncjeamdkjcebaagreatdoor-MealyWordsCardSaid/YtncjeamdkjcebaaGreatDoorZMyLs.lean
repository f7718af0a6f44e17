/- What mealy.lasso computes, of a machine told by its steps. -/
import Derived.Test.YtncjeamdkjcebaaGreatDoorZAr13
set_option linter.all false
set_option maxHeartbeats 8000000
set_option maxRecDepth 100000
namespace Go.Proofs.YtncjeamdkjcebaaGreatDoor
open Go.RowKit Go.Shelf
attribute [local go_sem] Oper.semAt_some
theorem Ij{W W':World}{row:Option Nat}(hg:W.grownBy W' row)(hr:∀r,row=some r->∃o:Obj,W.heap[r]? =some o/\o.isCells=false){g:Nat}{cs:Array Value}{t:TypeId}{fr:Nat×Nat}(h:W.heap[g]? =some (.cells cs t fr)):W'.heap[g]? =W.heap[g]? :=by
 refine hg.block g (ltE h) fun e=> ?_
 obtain⟨o',h1,h2⟩:=hr g e.symm;rw[h]at h1
 cases h1
 cases h2
theorem Eg{W W':World}{row:Option Nat}(hg:W.grownBy W' row)(hr:∀r,row=some r->∃o:Obj,W.heap[r]? =some o/\o.isCells=false){v:Value}{l:List Int}(h:Ai W v l):Ai W' v l:=by
 obtain⟨⟨ao,cap,b,off,rfl,h1,h2,h3,h4,h5,h6⟩,hi⟩:=h;refine⟨⟨ao,cap,b,off,rfl,h1,h2,h3,h4,h5,fun j hj=> ?_⟩,hi⟩;have hc:=h6 j hj;have hlt:=World.block_lt_of_cell? W _ hc;refine(hg.cell_far ⟨b,off+j,none⟩ hlt fun e=> ?_).trans hc;obtain⟨o',q1,q2⟩:=hr b e.symm;have q1:W.heap[b]? =some o':=q1;unfold World.cell? at hc;simp only[q1]at hc
 cases o'<;>simp_all [Obj.isCells]
def RL8(g _za m k cv:Nat)(S0 S1:List Int)(ix:Nat)(u':Value)(W:World):Prop:=
 match ix with
 |0|4=>u'=.slice (some ⟨g,0,none⟩) k cv
 |1|5=>u'=.int .i32 ((m:Int)+1)
 |2|6=>u'=.int .i32 (m:Int)
 |3=>u'=.slice (some ⟨g,0,none⟩) m cv
 |7=>u'=.slice (some ⟨g,m,none⟩) (k-m) (cv-m)
 |8=>∃x0 x1:Value,u'=.agg #[x0,x1]/\Ai W x0 S0/\Ai W x1 S1
 | _=>True
theorem RL8.below{g za m k cv:Nat}{S0 S1:List Int}(ix:Nat)(u':Value)(W W':World)(h:RL8 g za m k cv S0 S1 ix u' W)(hb:Below W.heap.size W W'):RL8 g za m k cv S0 S1 ix u' W':=by
 unfold RL8 at*
 split at h<;>first|exact h|trivial|(obtain⟨x0,x1,e,h0,h1⟩:=h;exact⟨x0,x1,e,h0.below hb,h1.below hb⟩)
theorem Nu(w:World)(f:Nat)(lb:Array Value)(HE:∀args W,(callFunc f args).run Tryz.prog W=.ok (.enter f args) W)(st:Nat->Nat)(lt:Nat->Int)(N m n:Nat)(hN:N<=10000000)(hst:∀i,st i<N)(hrep:Dm st m n)(hn:n<=N)
  (hs:Sb w f lb st lt (n+1)) (hlt:∀k,0<=lt k/\lt k<=255):
  Calls Tryz.prog 57 #[.int .i64 (N:Int),.int .i64 (st 0:Int),.func (.func f) #[] lb] w (Fx (Bc (AW lt m n).stem (AW lt m n).loop) w):=by
 have hmx:Tryz.prog.follows .mixedOrders=true:=by kernel_rfl
 have HS:=Ab hs;have HST:=Ab hst;have HRP:=Ab hrep;have HLT:=Ab hlt;clear hs hst hlt;have hmn:=hrep.1;clear hrep;refine callsIn_wide (n:=5)|>.1 ?_;refine callsIn_of_wp_marks Tryz.func57 rfl trivial ?_;simp only[Tryz.ntmps57,List.size_toArray,List.length_cons,List.length_nil,Nat.reduceAdd,Nat.reduceSub,Array.replicate_succ,Array.replicate_zero,List.push_toArray,List.append_toArray,List.nil_append,List.cons_append];refine wpIn_wide.2 ?_
 go_upto_region 1 with(fail)
 obtain⟨hx6,-,hB6⟩:=Az (w0:=w) Ad leR #[.slice none 0 0,.slice none 0 0] 30
 have hz6:(w.alloc (.cells #[.slice none 0 0,.slice none 0 0] 30)).heap.size=w.heap.size+1:=by simp
 generalize w.alloc (.cells #[.slice none 0 0,.slice none 0 0] 30)=w1 at*
 go_upto_region 2 with(at_make;refine Qj rfl _ _ _ Tryz.underlying139 rfl (w.heap.size+1) (N:Int) N rfl rfl rfl (by omega) (by omega) ?_;intro wm hown hgr)
 have hZl:w1.heap.size<wm.heap.size:=(World.ownsRow.lt hown _ rfl).2;have hbm:Below w.heap.size w wm:=hB6.trans ((Ad.grown hgr (by omega) (fun k hk=>by cases hk):Below w.heap.size w1 wm));have hrm:wm.heap[w.heap.size]? =some (.cells #[.slice none 0 0,.slice none 0 0] 30 (0,0)):=(hgr.block _ (ltE hx6) (by simp)).trans hx6;obtain⟨zs,hzs⟩:∃z,z=wm.heap.size:=⟨_,rfl⟩
 have hP0:∀w3,w3=(wm.alloc (.cells #[.slice (some ⟨w.heap.size+1,0,none⟩) N N] 139)).alloc (.cells #[.slice none 0 0] 140)->PS w zs (zs+1) st lt N 0 (.slice none 0 0) (List.replicate N 0) w3:=by
  rintro _ rfl;rw[hz6]at hown;have b2:Below wm.heap.size wm ((wm.alloc (.cells #[.slice (some ⟨w.heap.size+1,0,none⟩) N N] 139)).alloc (.cells #[.slice none 0 0] 140)):=AD (Ao _) _;refine⟨hbm.trans (b2.mono hbm.size),(b2.block _ (by omega)).trans hrm, ?_, ?_,hown.below b2,Sr _ _,(fun g e=>by cases e),⟨by omega,by omega⟩,by simp,fun i hi=>absurd hi (by omega),fun s hs _=>by simp[List.getD,hs]⟩
  ·rw[hzs];exact(Dt _ _ (by simp)).trans (heap_alloc_new _ _)
  ·rw[hzs];have:=heap_alloc_new (wm.alloc (.cells #[.slice (some ⟨w.heap.size+1,0,none⟩) N N] 139)) (.cells #[.slice none 0 0] 140);simpa using this
 have HP0:=Ab hP0;have HZS:=Ab hzs;clear hP0 hown hgr hx6 hB6 hZl
 go_upto_region 3 with(fail)
 obtain⟨w3,hw3⟩:∃x,x=(wm.alloc (.cells #[.slice (some ⟨w.heap.size+1,0,none⟩) N N] 139)).alloc (.cells #[.slice none 0 0] 140):=⟨_,rfl⟩;rw[<-hw3];have hP3:=HP0.out w3 hw3
 have hs3:w3.heap.size=zs+2:=by rw[hw3,hzs];simp
 rw[<-hzs];clear HP0 hw3 hrm hbm hzs
 go_wp2_with fail
 refine(TR _ _ _ ⟨_,_,rfl⟩).mono ?_;rintro e w5 ⟨rfl,hw5⟩
 have hb35:Below w3.heap.size w3 w5:=by rw[hw5];exact AD (Ao _) _
 have h0:w5.heap[w3.heap.size]? =some (.cells #[.int .i64 (st 0:Int)] 3 (0,0)):=by rw[hw5];exact(Dt _ _ (by simp)).trans (heap_alloc_new _ _)
 have h1:w5.heap[w3.heap.size+1]? =some (.cells #[.func (.func f) #[] lb] 92 (0,0)):=by
  rw[hw5];have:=heap_alloc_new (w3.alloc (.cells #[.int .i64 (st 0:Int)] 3)) (.cells #[.func (.func f) #[] lb] 92);simpa using this
 have hs5:w5.heap.size=zs+4:=by rw[hw5];simp;omega
 have hP5:PS w zs (zs+1) st lt N 0 (.slice none 0 0) (List.replicate N 0) w5:=PS.own (w:=w) (B:=w.heap.size) leR (0,.slice none 0 0,List.replicate N 0) w3 w5 none hP3 (AV hb35) (fun r e=>by cases e);have hStops:=OH (5-1) (n+1) w3.heap.size (by omega) f lb HE st lt w w5 hP5.bl HS.out h0 h1;rw[hs3]at hStops⊢;clear hw5 hb35 h0 h1 hP3 HS
 go_wp2_with fail
 refine(wpIn_wide (n:=5)).1 ?_;have hws:w.heap.size<=w5.heap.size:=hP5.bl.size
 refine FB (F:=Fence.wide) (n:=5) rfl (by omega) (gf:=122) (lb:=#[.pointer (some ⟨zs+2,0,none⟩),.pointer (some ⟨zs+3,0,none⟩)]) rfl trivial (enters_of Tryz.func122 (by kernel_rfl) rfl)
  hStops (by omega) KpL.trans (fun W l o o' hl hl2 h h1 h2=>⟨belowK_b hws W l o o' hl h h1 h2,World.putObj_heap_other (by omega),World.putObj_heap_other (by omega)⟩) Ad (fun _=>rfl)
  (fun k W=>∃(v:Value)(L:List Int),PS w zs (zs+1) st lt N k v L W)
  (fun c _ W=>c=.ret/\∃x0 x1:Value,W.heap[w.heap.size]? =some (.cells #[x0,x1] 30 (0,0))/\Ai W x0 (Bc (AW lt m n).stem (AW lt m n).loop).stem/\Ai W x1 (Bc (AW lt m n).stem (AW lt m n).loop).loop/\Below w.heap.size w W)
  ?own ?ownx ⟨_,_,hP5⟩ ?a1 ?assign ?body ?stop
 case own=>
  rintro k W W' row ⟨v,L,h⟩ hg hr;exact⟨v,L,PS.own (w:=w) (B:=w5.heap.size) hws (k,v,L) W W' row h hg hr⟩
 case ownx=>
  rintro c k W W' row ⟨hc,x0,x1,h0,h1,h2,h3⟩ hg hr;exact⟨hc,x0,x1,(Ij hg (fun r e=>(hr r e).2) h0).trans h0,Eg hg (fun r e=>(hr r e).2) h1,Eg hg (fun r e=>(hr r e).2) h2,h3.grown hg h3.size (fun r e=>Nat.le_trans hws (hr r e).1)⟩
 case assign=>
  intro lY k W K hK;unfold SJ
  gi_wp2
  exact hK
 case body=>
  rintro lY k W ⟨v,L,hI⟩ hsz hk
  have hd:1<=5-1-1:=by omega
  clear hStops HE hP5;obtain⟨hr1,hr2,hr3⟩:=HRP.out;have hsk:=HST.out k;have hlk:=HLT.out k
  obtain⟨av,cv,rfl⟩:∃a c,v=.slice a k c:=by
   rcases hI.a.2 with⟨rfl,e⟩|⟨g,cap,cur,rfl,-⟩
   ·rw[Cp]at e;exact⟨none,0,by rw[e]⟩
   ·exact⟨_,_,by rw[Cp]⟩
  have b0:=Aa 0 hI.sb;have b1:=Aa 0 hI.ab;have e0:=hI.o.at' hI.ll.symm (st k) (by rw[hI.ll];exact hsk)
  have hi0:(0:Int)<=(st k:Int):=by omega
  have hi1:(st k:Int)<(N:Int):=by omega
  have HI:=Ab hI;have hzz:=hI.zz
  by_cases hkn:k<n
  ·have hno:∀i,i<k->st i≠st k:=fun i hi=>hr3 i k hi hkn
   have HNO:=Ab hno;rw[hI.l0 _ hsk hno]at e0;have HO:=Ab hI.a;have hbW:=hI.bl.size;have hza:=(Array.getElem?_eq_some_iff.1 hI.ab).1
   have hw8:IntKind.u8.wrap (lt k)=lt k:=by rw[IntKind.wrap_u8];omega
   have hw32:IntKind.i32.wrap ((k:Int)+1)=(k:Int)+1:=by rw[IntKind.wrap_i32];omega
   have HLn:=Ab (Cp lt k);clear hno hr1 hr2 hr3 hI hlk
   gi_upto_region 9 with(fail)
   gi_upto_region 10 with(refine Pq rfl _ _ (lt k) rfl (w.heap.size+1) (.slice av k cv) _ HO.out rfl _ (by simp) rfl (by rw[HLn.out];omega) (by omega) ?_;intro v' w6 hown6 hg6 hmv6;obtain⟨a9,c9,rfl⟩:∃a c,v'=.slice a (k+1) c:=(by
    rcases hown6.2 with⟨_,e⟩|⟨g,cap,cur,rfl,-⟩
    ·rw[List.length_append,HLn.out]at e;simp at e
    ·exact⟨_,_,by rw[List.length_append,HLn.out];rfl⟩);have HPU:=Ab (HI.out.push (by omega) hsk HNO.out hown6 hg6 hmv6);have b1:=Aa 0 HPU.out.1;have f1:=Ay 0 HPU.out.1;clear hown6 hg6 hmv6)
   obtain⟨-,⟨hsb7,hab7,hO7⟩,hP7,hOn⟩:=HPU.out;have HP7:=Ab hP7;have HK:=Ab (HI.out.keeps hOn w5.heap.size);have HKp:=Ab (HI.out.kp (by omega) hOn);clear HPU hP7 hOn b1 f1 b0 e0 HO HI;generalize w6.setCell ⟨zs+1,0,none⟩ (.slice a9 (k+1) c9)=w7 at*;have b0:=Aa 0 hsb7;have b1:=Aa 0 hab7
   have hll:Hid (L.length=N):=by
    have:=HP7.out.ll
    rwa [List.length_set]at this
   have e0:=hO7.at' hll.out.symm (st k) (by rw[hll.out];exact hsk);have f0:=hO7.fz hll.out.symm (st k);clear hsb7 hab7 hO7
   gi_wp2
   exact⟨HK.out,HKp.out,by omega,_,_,HP7.out⟩
  ·obtain rfl:k=n:=by omega
   have hm1:=hI.l1 m (by omega);rw[hr2]at hm1;rw[hm1]at e0
   have hpos:(0:Int)<(m:Int)+1:=by omega
   have hlp:=HI.out.a
   obtain⟨g,rfl⟩:∃g,av=some ⟨g,0,none⟩:=by
    rcases hlp.2 with⟨-,e⟩|⟨g,cap,cur,e,-⟩
    ·rw[Cp]at e;omega
    ·injection e with e1 e2 e3
     exact⟨g,e1⟩
   have HU:Hid (CX W (.slice (some ⟨g,0,none⟩) k cv) (Bz lt k)):=hlp.is (by rw[Cp];unfold Bk;omega) fun x hx=>by
    obtain⟨i,-,rfl⟩:=List.mem_map.1 hx;exact HLT.out i
   obtain⟨-,-,-,hkc,hcm,-,-⟩:=HU.out.data
   have HU0:Hid (CX W (.slice (some ⟨g,0,none⟩) m cv) (AW lt m k).stem):=by
    have:=HU.out.take m (by omega)
    rwa [IZ (by omega)]at this
   have HU1:Hid (CX W (.slice (some ⟨g,m,none⟩) (k-m) (cv-m)) (AW lt m k).loop):=by
    have:=HU.out.drop (k:=m) (by omega);rw[IV,Nat.zero_add]at this;exact this
   have hl1:(AW lt m k).loop.length=k-m:=by simp[AW]
   have hl0:(AW lt m k).stem.length=m:=by simp[AW]
   have HBD:Hid (∀X,Below W.drew.heap.size W.drew X->Below W.heap.size W X):=fun X h=>(Below.drew (B:=W.heap.size) Ad).trans h
   have HNM:Hid (∀X,Below W.drew.heap.size W.drew X->Calls Tryz.prog 99 #[.slice (some ⟨g,0,none⟩) m cv,.slice (some ⟨g,m,none⟩) (k-m) (cv-m)] X (Fx (Bc (AW lt m k).stem (AW lt m k).loop) X)):=fun X h=>Ok X _ _ _ _ (HU0.out.below (HBD.out X h)) (HU1.out.below (HBD.out X h)) (by omega) (by omega) (by omega)
   have HCl:Hid (∀X,Below W.drew.heap.size W.drew X->X.cell? ⟨zs+1,0,none⟩=some (.slice (some ⟨g,0,none⟩) k cv)):=fun X h=>Ah (HBD.out X h) b1
   have hw1:IntKind.i32.wrap (m:Int)=(m:Int):=by rw[IntKind.wrap_i32];omega
   have hcv:¬cv=m:=by omega
   have hm0:(0:Int)<=(m:Int):=by omega
   have hm2:(m:Int)<=(cv:Int):=by omega
   have hm3:(m:Int)<=(k:Int):=by omega
   have hmx':=hmx
   gi_upto_region 8 with(fail)
   clear hI hlp hm1 hr1 hr2 hr3 b0 e0 b1 HU hl1 hl0 hkn hlk;refine FI hmx (RL8 g (zs+1) m k cv (Bc (AW lt m k).stem (AW lt m k).loop).stem (Bc (AW lt m k).stem (AW lt m k).loop).loop) (fun vs=>{tmps:=(_::_::_::_::_::_::_::_::_::_::_::_::_::_::_::_::_::_::_::_::_::_::_::_::_::vs 0::vs 1::vs 2::vs 3::vs 4::vs 5::vs 6::vs 7::vs 8::_::_::_::_::_::_::_::_::_::_::_::_::[]).toArray,defers:=[]}) (fun _=>undef) 9 rfl (by kernel_rfl) (by kernel_rfl) (fun i v W W' h hb=>RL8.below i v W W' h hb) ?step ?last
   case step=>
    intro ix o hlt ho
    match ix,hlt,ho with
    |0,hlt,ho|4,hlt,ho=>
     obtain rfl:=osI ho;intro vs W K hB hD hK;have HK:=Ab hK;have q:=HCl.out W hB;clear hK hD ho hlt;dsimp only;go_simp;have h:=HK.out _ _ Ad rfl;simp only[upd,Nat.reduceEqDiff,reduceIte]at h;exact h
    |1,hlt,ho|2,hlt,ho|3,hlt,ho|5,hlt,ho|6,hlt,ho|7,hlt,ho=>
     obtain rfl:=osI ho;intro vs W K hB hD hK;have HK:=Ab hK
     try have e0:vs 0=.slice (some ⟨g,0,none⟩) k cv:=Ac hD 0 rfl
     try have e1:vs 1=.int .i32 ((m:Int)+1):=Ac hD 1 rfl
     try have e2:vs 2=.int .i32 (m:Int):=Ac hD 2 rfl
     try have e4:vs 4=.slice (some ⟨g,0,none⟩) k cv:=Ac hD 4 rfl
     try have e5:vs 5=.int .i32 ((m:Int)+1):=Ac hD 5 rfl
     try have e6:vs 6=.int .i32 (m:Int):=Ac hD 6 rfl
     clear hK hD ho hlt;dsimp only;go_simp;have h:=HK.out _ _ Ad rfl;simp only[upd,Nat.reduceEqDiff,reduceIte, *]at h;exact h
    |8,hlt,ho=>
     obtain rfl:=osI ho;intro vs W K hB hD hK;have HK:=Ab hK;have e3:vs 3=.slice (some ⟨g,0,none⟩) m cv:=Ac hD 3 rfl;have e7:vs 7=.slice (some ⟨g,m,none⟩) (k-m) (cv-m):=Ac hD 7 rfl;clear hK hD ho hlt;dsimp only;go_simp;refine⟨trivial, ?_⟩;refine(CallsIn.inRound lY (callsIn_wide.2 (HNM.out W hB))).mono ?_;rintro e W' ⟨u',rfl,⟨x0,x1,rfl,h0,h1⟩,hb⟩;have h:=HK.out _ _ hb ⟨x0,x1,rfl,h0,h1⟩;simp only[upd,Nat.reduceEqDiff,reduceIte,e3,e7]at h;exact h
    |q+9,hlt,_=>exact absurd hlt (by omega)
   case last=>
    intro o ho;obtain rfl:=osI ho;intro vs W1 K hB hall hK;have HK:=Ab hK;obtain⟨x0,x1,e8,hx0,hx1⟩:∃x0 x1:Value,vs 8=.agg #[x0,x1]/\Ai W1 x0 (Bc (AW lt m k).stem (AW lt m k).loop).stem/\Ai W1 x1 (Bc (AW lt m k).stem (AW lt m k).loop).loop:=hall 8 (by omega);obtain⟨y0,d0,rfl⟩:=hx0.shape;obtain⟨y1,d1,rfl⟩:=hx1.shape;have hb1:=HBD.out W1 hB;have hrb:=(hb1.block _ (Array.getElem?_eq_some_iff.1 HI.out.rb).1).trans HI.out.rb;have f0:=Ay 0 hrb;have f1:=Ay 1 hrb;have k0:=Aa 0 hrb;have k1:=Aa 1 hrb;have HRB:=Ab hrb;have HB1:=Ab hb1;have HX0:=Ab (hx0.setTwo (p:=.slice y0 (Bc (AW lt m k).stem (AW lt m k).loop).stem.length d0) (q:=.slice y1 (Bc (AW lt m k).stem (AW lt m k).loop).loop.length d1) hrb);have HX1:=Ab (hx1.setTwo (p:=.slice y0 (Bc (AW lt m k).stem (AW lt m k).loop).stem.length d0) (q:=.slice y1 (Bc (AW lt m k).stem (AW lt m k).loop).loop.length d1) hrb);clear hK hall ho hrb hb1 hx0 hx1 HNM HCl HU0 HU1;dsimp only;go_simp;refine HK.out _ _ ?_;clear f0 f1 k0 k1;have HRB2:=Ab (CG (a:=.slice y0 (Bc (AW lt m k).stem (AW lt m k).loop).stem.length d0) (b:=.slice y1 (Bc (AW lt m k).stem (AW lt m k).loop).loop.length d1) HRB.out)
    have HOn:Hid (Ag (fun q=>q=w.heap.size) W ((W1.setCell ⟨w.heap.size,0,none⟩ (.slice y0 (Bc (AW lt m k).stem (AW lt m k).loop).stem.length d0)).setCell ⟨w.heap.size,1,none⟩ (.slice y1 (Bc (AW lt m k).stem (AW lt m k).loop).loop.length d1))):=
     (⟨HB1.out.os,HB1.out.tape,HB1.out.output,HB1.out.size,fun k hk _=>HB1.out.block k hk⟩:Ag (fun q=>q=w.heap.size) W W1).trans ((Ag.set (S:=fun q=>q=w.heap.size) _ _ _ rfl).trans (Ag.set (S:=fun q=>q=w.heap.size) _ _ _ rfl))
    have HBF:=Ab (GO (a:=.slice y0 (Bc (AW lt m k).stem (AW lt m k).loop).stem.length d0) (b:=.slice y1 (Bc (AW lt m k).stem (AW lt m k).loop).loop.length d1) (HI.out.bl.trans (HB1.out.mono HI.out.bl.size)) leR);generalize(W1.setCell ⟨w.heap.size,0,none⟩ (.slice y0 (Bc (AW lt m k).stem (AW lt m k).loop).stem.length d0)).setCell ⟨w.heap.size,1,none⟩ (.slice y1 (Bc (AW lt m k).stem (AW lt m k).loop).loop.length d1)=W2 at*
    have HKF:Hid (KeepsFrom w5.heap.size W W2):=⟨HOn.out.size,fun i o _ hi hc=>(HOn.out.block i (ltE hi) (by
     intro e;have e:i=w.heap.size:=e;subst e
     rw[HI.out.rb]at hi;cases hi;cases hc)).trans hi⟩
    gi_wp2
    exact⟨HKF.out,rfl,_,_,HRB2.out,HX0.out,HX1.out,HBF.out⟩
 case stop=>
  rintro D c k W hD ⟨rfl,x0,x1,h0,h1,h2,h3⟩ hK
  have hDb:w.heap.size≠D:=fun e=>by rw[e,hK]at h0;cases h0
  obtain⟨a0,d0,rfl⟩:=h1.shape;obtain⟨a1,d1,rfl⟩:=h2.shape
  have hr:∀r,some D=some r->∃o:Obj,W.heap[r]? =some o/\o.isCells=false:=fun r e=>by
   cases e
   exact⟨_,hK,rfl⟩
  have hg:=grownBy_putObj' W D (.deferred none);have H0:=Ab ((Ij hg hr h0).trans h0);have H1:=Ab (Eg hg hr h1);have H2:=Ab (Eg hg hr h2);have H3:=Ab (h3.grown hg h3.size (fun r e=>by cases e;omega));have q0:=Aa 0 h0;have q1:=Aa 1 h0;have c0:=Aa 0 H0.out;have c1:=Aa 1 H0.out;clear h0 h1 h2 h3 hg hr
  gi_wp2
  refine⟨by simp,.inl ⟨_,_,rfl,run_takeDeferred hK, ?_⟩⟩;refine⟨.agg #[.slice a0 (Bc (AW lt m n).stem (AW lt m n).loop).stem.length d0,.slice a1 (Bc (AW lt m n).stem (AW lt m n).loop).loop.length d1],by simp[results,Tryz.results57,go_sem,c0,c1],_,rfl,⟨_,_,rfl,H1.out,H2.out⟩,H3.out⟩
end Go.Proofs.YtncjeamdkjcebaaGreatDoor
namespace Go.Proofs.YtncjeamdkjcebaaGreatDoor
open Go.RowKit
def Bg(m:My)(q x:Nat):Int:=(m.out.getD q []).getD x 0
def nxI(m:My)(q x:Nat):Int:=(m.next.getD q []).getD x 0
def stM(m:My)(q:Nat)(ins:List Int):Nat->Nat
 |0=>q
 |k+1=>(nxI m (stM m q ins k) (ins.getD k 0).toNat).toNat
def D0(m:My)(q:Nat)(ins:List Int)(n:Nat):List Int:=(List.range n).map fun k=>Bg m (stM m q ins k) (ins.getD k 0).toNat
def Fb(m:My)(q:Int)(ins:List Int):Bool:=Be m&&(decide (0<=q)&&decide (q<m.out.length))&&BA ins.length m.ins ins
def Kn(m:My)(q:Int)(ins:List Int):List Int×Int:=if Fb m q ins=true then(D0 m q.toNat ins ins.length,(stM m q.toNat ins ins.length:Int))else([],0)
theorem LN{m:My}{q:Int}{ins:List Int}(h:Fb m q ins=true):Kn m q ins=(D0 m q.toNat ins ins.length,(stM m q.toNat ins ins.length:Int)):=if_pos h
theorem RX{m:My}{q:Int}{ins:List Int}(h:¬Fb m q ins=true):Kn m q ins=([],0):=if_neg h
theorem JI{m:My}{q:Int}{ins:List Int}:Fb m q ins=true↔MyV m/\0<=q/\q<m.out.length/\∀k,k<ins.length->0<=ins.getD k 0/\ins.getD k 0<m.ins:=by
 unfold Fb;rw[Bool.and_eq_true,Bool.and_eq_true,Bool.and_eq_true,F6,Bv,decide_eq_true_eq,decide_eq_true_eq]
 constructor
 ·rintro⟨⟨h1,h2,h3⟩,-,h4⟩;exact⟨h1,h2,h3,h4⟩
 ·rintro⟨h1,h2,h3,h4⟩;exact⟨⟨h1,h2,h3⟩,rfl,h4⟩
theorem MyV.out'{m:My}(h:MyV m){q x:Nat}(hq:q<m.out.length)(hx:(x:Int)<m.ins):x<(m.out.getD q []).length/\0<=Bg m q x/\Bg m q x<m.outs:=by
 obtain⟨h1,h2⟩:=h.out q hq
 have:x<(m.out.getD q []).length:=by omega
 exact⟨this,h2 x this⟩
theorem MyV.nx'{m:My}(h:MyV m){q x:Nat}(hq:q<m.out.length)(hx:(x:Int)<m.ins):x<(m.next.getD q []).length/\0<=nxI m q x/\nxI m q x<m.out.length:=by
 obtain⟨h1,h2⟩:=h.nxt q hq
 have:x<(m.next.getD q []).length:=by omega
 exact⟨this,h2 x this⟩
theorem MyV.st{m:My}(h:MyV m){q:Nat}{ins:List Int}(hq:q<m.out.length)(hi:∀k,k<ins.length->0<=ins.getD k 0/\ins.getD k 0<m.ins):∀k,k<=ins.length->stM m q ins k<m.out.length:=fun k hk=>by
 induction k with
 |zero=>exact hq
 |succ k ih=>
  have h1:=hi k (by omega);have h2:=h.nx' (ih (by omega)) (x:=(ins.getD k 0).toNat) (by omega);show(nxI m (stM m q ins k) (ins.getD k 0).toNat).toNat<_;omega
theorem Fq{m:My}{q:Nat}{ins:List Int}{n:Nat}:(D0 m q ins n).length=n:=by simp[D0]
theorem Ly{m:My}{q:Nat}{ins:List Int}{n k:Nat}(h:k<n):(D0 m q ins n).getD k 0=Bg m (stM m q ins k) (ins.getD k 0).toNat:=by simp[D0,List.getD,h]
def Ky(ll:List Int)(r:Int)(w:World)(e:Ending)(w':World):Prop:=∃v,e=.returned (.tuple #[v,.int .i64 r])/\Ai w' v ll/\Below w.heap.size w w'
theorem CP(w:World):Ai w (.slice none 0 0) []:=⟨⟨none,0,0,0,rfl,Nat.le_refl _,Nat.zero_le _,Nat.zero_le _,fun _=>rfl,(fun h=>absurd h (by simp)),fun j hj=>absurd hj (by simp)⟩,by simp⟩
theorem Gw{Q:List Int×Int}(h:Q=([],0)){w w':World}(hb:Below w.heap.size w w'):Ky Q.1 Q.2 w (.returned (.tuple #[.slice none 0 0,.int .i64 0])) w':=by
 rw[h];exact⟨_,rfl,CP _,hb⟩
theorem N7{Q:List Int×Int}{l:List Int}{r:Int}(h:Q=(l,r)){w w':World}{v:Value}(hv:Ai w' v l)(hb:Below w.heap.size w w'):Ky Q.1 Q.2 w (.returned (.tuple #[v,.int .i64 r])) w':=by
 rw[h];exact⟨_,rfl,hv,hb⟩
theorem Rr{l f:List Int}(hl:l.length=f.length)(h:∀j,j<f.length->l.getD j 0=f.getD j 0):l=f:=by
 apply List.ext_getElem hl
 intro i h1 h2;have:=h i h2
 rwa [Af _ _ _ h1,Af _ _ _ h2]at this
theorem R8(w:World)(vm vi:Value)(m:My)(q:Int)(ins:List Int)(hm:BM w vm m)(hi:Ai w vi ins)(hl:ins.length<=1000):
  Calls Tryz.prog 12 #[vm,.int .i64 q,vi] w (Ky (Kn m q ins).1 (Kn m q ins).2 w):=by
 have HIN:=Ab hi
 have HV0:Hid (∀W,Below w.heap.size w W->Calls Tryz.prog 18 #[vm] W (Av (.bool (Be m)) W)):=fun W h=>Gh W _ _ (hm.below h)
 obtain⟨ai,ci,rfl⟩:=hi.shape;obtain⟨bi,oi,di,ni,fi⟩:=hi.data;have HFI:=Ab fi;have HNo:Hid (¬Fb m q ins=true->Kn m q ins=([],0)):=RX;have HYes:Hid (Fb m q ins=true->Kn m q ins=(D0 m q.toNat ins ins.length,(stM m q.toNat ins ins.length:Int))):=LN;have HR0:Hid (Fb m q ins=(Be m&&(decide (0<=q)&&decide (q<m.out.length))&&BA ins.length m.ins ins)):=rfl;have HIff:Hid (Fb m q ins=true↔MyV m/\0<=q/\q<m.out.length/\∀k,k<ins.length->0<=ins.getD k 0/\ins.getD k 0<m.ins):=JI;obtain⟨v3,v4,rfl,hI,h3,h4⟩:=hm;obtain⟨a3,c3,rfl⟩:=h3.shape;obtain⟨a4,c4,rfl⟩:=h4.shape;obtain⟨b3,o3,d3,m3,f3⟩:=h3.dat2;obtain⟨b4,o4,d4,m4,f4⟩:=h4.dat2;have HF3:=Ab f3;have HF4:=Ab f4;clear f3 f4 h3 h4 fi hi;generalize hQ:Kn m q ins=Q at*;clear hQ;generalize hK:Fb m q ins=K at*;clear hK;have HLo:=Ab (rfl:m.out.length=m.out.length)
 go_enter Tryz.func12,Tryz.ntmps12
 go_upto_region 1 with(fail)
 obtain⟨hx,-,hB⟩:=Az (w0:=w) Ad leR #[.int .i64 m.ins,.int .i64 m.outs,.int .i64 m.start,.slice a3 m.out.length c3,.slice a4 m.next.length c4] 25;generalize w.alloc (.cells #[.int .i64 m.ins,.int .i64 m.outs,.int .i64 m.start,.slice a3 m.out.length c3,.slice a4 m.next.length c4] 25)=w1 at*;have k0:=Aa 0 hx;have k1:=Aa 1 hx;have k2:=Aa 2 hx;have k3:=Aa 3 hx;have k4:=Aa 4 hx
 go_wp2_with fail
 refine(HV0.out _ hB).mono ?_;rintro e w2 ⟨rfl,hb⟩;replace hx:=Ae hb hx;replace hB:=hB.trans (hb.mono hB.size);clear hb k0 k1 k2 k3 k4;have k0:=Aa 0 hx;have k3:=Aa 3 hx
 cases hv:Be m with
 |false=>
  have HQ:=Ab (HNo.out (by rw[HR0.out,hv];simp));clear hv;go_wp2;go_ret2;exact Gw HQ.out hB
 |true=>
 by_cases hq0:q<0
 ·have HQ:=Ab (HNo.out (by rw[HR0.out,decide_eq_false (show ¬0<=q by omega)];simp));clear hv;go_wp2;go_ret2;exact Gw HQ.out hB
 by_cases hq1:(m.out.length:Int)<=q
 ·have HQ:=Ab (HNo.out (by rw[HR0.out,decide_eq_false (show ¬q<(m.out.length:Int)by omega)];simp));clear hv;go_wp2;go_ret2;exact Gw HQ.out hB
 have HV:=Ab hv;clear hv
 go_wp2_with fail
 refine(IJ _ _ _ _ _ (LM (HIN.out.below hB))).mono ?_;rintro e w3 ⟨rfl,hb⟩;rw[show Ce (ins.length:Int) m.ins [ins]=BA ins.length m.ins ins by simp[Ce]];replace hb:=(Ao (w:=w2) _).trans (hb.mono (Ao (w:=w2) _).size);replace hx:=Ae hb hx;replace hB:=hB.trans (hb.mono hB.size);clear hb k0 k3
 cases hrb:BA ins.length m.ins ins with
 |false=>
  have HQ:=Ab (HNo.out (by rw[HR0.out,hrb];simp));clear hrb;go_wp2;go_ret2;exact Gw HQ.out hB
 |true=>
 have hK:K=true:=by rw[HR0.out,HV.out,hrb,decide_eq_true hq0,decide_eq_true hq1];rfl
 have HQ:=Ab (HYes.out hK);have HI4:=Ab (HIff.out.1 hK);obtain⟨qn,rfl⟩:∃qn:Nat,q=(qn:Int):=⟨q.toNat,by omega⟩;rw[Int.toNat_natCast]at HQ;clear hK HNo HYes HR0 HIff hrb HV hI HV0 HIN K;obtain rfl:=d3 (by omega);have hnl:=HI4.out.1.nl;obtain rfl:=d4 (by omega);have HX:=Ab hx;have HBW:=Ab hB;clear hx hB hnl
 go_upto_region 4 with(at_make;refine FY rfl _ _ _ Tryz.underlying26 rfl w3.heap.size (ins.length:Int) ins.length rfl rfl rfl (by omega) leR ?_;intro wm hown hgr)
 have hbm:Below w3.heap.size w3 wm:=Ad.grown hgr leR (fun k hk=>by cases hk);obtain⟨ZB,hZB⟩:∃z,z=w3.heap.size:=⟨_,rfl⟩;rw[<-hZB]at hown hbm⊢;have HZB:=Ab hZB;clear hgr hZB;have HS0:=Ab hown;have HB0:=Ab hbm;clear hown hbm;generalize hnn:ins.length=n at*
 go_wp2_with fail
 go_loopg [1,40] n (fun gh q i wr=>∃(k s:Nat)(L:List Int),gh=n-k/\q=.int .i64 (s:Int)/\i=.int .i64 (k:Int)/\k<=n/\s<m.out.length/\Hid (s=stM m qn ins k)/\Hid (L.length=n)/\Hid (∀j,j<k->L.getD j 0=(D0 m qn ins n).getD j 0)/\Hid (OI wr ZB (.slice (some ⟨ZB,0,none⟩) n n) L)/\Hid (Below ZB w3 wr))
 case atStart=>exact⟨0,qn,_,rfl,rfl,rfl,by omega,by omega,rfl,by show _=_;simp,fun j hj=>absurd hj (by omega),HS0,HB0⟩
 case round=>
  obtain⟨k,s,L,hgk,rfl,rfl,hk,hs,HS,HL,HA,HO,HB⟩:=hrel;have HGK:=Ab hgk;clear hgk
  by_cases hlt:k<n
  ·obtain rfl:=di (by omega)
   have hi0:(0:Int)<=(k:Int):=by omega
   have hi1:(k:Int)<(n:Int):=by omega
   have hs0:(0:Int)<=(s:Int):=by omega
   have hs1:(s:Int)<(m.out.length:Int):=by omega
   have hs2:(s:Int)<(m.next.length:Int):=by have:=HI4.out.1.nl;omega
   have hbx:Below w3.heap.size w3 wr:=by have:=HB.out;rwa [HZB.out]at this
   have HBX:=Ab hbx;have HWB:=Ab (HBW.out.trans (hbx.mono HBW.out.size));have cI:=Ah HWB.out (HFI.out k hlt);have hx2:=HI4.out.2.2.2 k hlt;obtain⟨x,hx⟩:∃x:Nat,ins.getD k 0=(x:Int):=⟨(ins.getD k 0).toNat,by omega⟩;have HX0:=Ab hx;rw[hx]at cI hx2;obtain⟨v1,v2,v3⟩:=HI4.out.1.out' hs hx2.2;obtain⟨u1,u2,u3⟩:=HI4.out.1.nx' hs hx2.2;obtain⟨a1,e1,c1,r1⟩:=HF3.out s hs;obtain⟨a2,d2,c2,r2⟩:=HF4.out s (by omega);obtain⟨p1,y1,z1,-,g1⟩:=r1.data;obtain⟨p2,y2,z2,-,g2⟩:=r2.data;obtain rfl:=z1 (by omega);obtain rfl:=z2 (by omega);replace g2:=g2 x u1
   have HQ3:Hid (∀W,Below w3.heap.size w3 W->W.cell? ⟨w.heap.size,4,none⟩=some (.slice (some ⟨b4,o4,none⟩) m.next.length c4)/\W.cell? ⟨b4,o4+s,none⟩=some (.slice (some ⟨p2,y2,none⟩) (m.next.getD s []).length d2)/\W.cell? ⟨p2,y2+x,none⟩=some (.int .i64 ((m.next.getD s []).getD x 0))):=fun W h=>⟨Aa 4 ((h.block _ (Array.getElem?_eq_some_iff.1 HX.out).1).trans HX.out),Ah (HBW.out.trans (h.mono HBW.out.size)) c2,Ah (HBW.out.trans (h.mono HBW.out.size)) g2⟩
   replace g1:=Ah HWB.out (g1 x v1);replace c1:=Ah HWB.out c1;have q:=(hbx.block _ (Array.getElem?_eq_some_iff.1 HX.out).1).trans HX.out;have q3:=Aa 3 q;have e2:=HO.out.at' HL.out.symm k (by rw[HL.out];exact hlt);have f2:=HO.out.fz HL.out.symm k
   have hX0:(0:Int)<=(x:Int):=by omega
   have hX1:(x:Int)<((m.out.getD s []).length:Int):=by omega
   have hX2:(x:Int)<((m.next.getD s []).length:Int):=by omega
   have HE1:Hid ((m.out.getD s []).getD x 0=(D0 m qn ins n).getD k 0):=by
    show _=_;rw[Ly hlt,<-HS.out,HX0.out];rfl
   have HE2:Hid (((m.next.getD s []).getD x 0).toNat=stM m qn ins (k+1)):=by
    show _=(nxI m (stM m qn ins k) (ins.getD k 0).toNat).toNat;rw[<-HS.out,HX0.out];rfl
   obtain⟨t,ht⟩:∃t:Nat,(m.next.getD s []).getD x 0=(t:Int):=⟨((m.next.getD s []).getD x 0).toNat,by have:0<=(m.next.getD s []).getD x 0:=u2;omega⟩
   have ht3:t<m.out.length:=by have:(m.next.getD s []).getD x 0<m.out.length:=u3;omega
   rw[ht]at HQ3;clear g2 c2
   have HE3:Hid (t=stM m qn ins (k+1)):=by
    show _=_;rw[<-HE2.out,ht];simp
   generalize(m.out.getD s []).getD x 0=y at*;generalize(m.out.getD s []).length=l1 at*;generalize(m.next.getD s []).length=l2 at*;clear HE2 ht hx u2 u3 v2 v3 r1 r2 z1 z2 q hx2;have HO2:=Ab (HO.out.set HL.out.symm k y)
   have HB2:Hid (Below ZB w3 (wr.setCell ⟨ZB,k,none⟩ (.int .i64 y))):=by
    show Below _ _ _;have:=HBX.out;rw[HZB.out];exact BY this leR
   have HL2:Hid ((L.set k y).length=n):=by show _=_;rw[List.length_set];exact HL.out
   have HA2:Hid (∀j,j<k+1->(L.set k y).getD j 0=(D0 m qn ins n).getD j 0):=fun j hj=>by
    by_cases hjk:j=k
    ·subst hjk;rw[<-HE1.out]
     have:j<L.length:=by rw[HL.out];exact hlt
     simp[List.getD,this]
    ·have:=HA.out j (by omega);rw[<-this];simp[List.getD,List.getElem?_set_ne (Ne.symm hjk)]
   go_upto_region 8 with(fail)
   clear e2 f2 cI q3 g1 c1 HO HB HA HL hbx HBX HE1 HS HWB;generalize wr.setCell ⟨ZB,k,none⟩ (.int .i64 y)=wx at*
   have hbx:Below w3.heap.size w3 wx:=by have:=HB2.out;rwa [HZB.out]at this
   obtain⟨q4,c2,g2⟩:=HQ3.out wx hbx;clear hbx HQ3;go_wp2
   go_roundg (n-(k+1))
   case measure=>have:=HGK.out;omega
   case rel=>exact⟨k+1,t,_,rfl,rfl,by go_num,by omega,ht3,HE3,HL2,HA2,HO2,HB2⟩
  ·have hi1:¬(k:Int)<(n:Int):=by omega
   have HEq:Hid (L=D0 m qn ins n):=Rr (by rw[HL.out,Fq]) fun j hj=>HA.out j (by rw[Fq]at hj;omega)
   have HSt:Hid (Q=(D0 m qn ins n,(s:Int))):=by show _=_;rw[HQ.out,HS.out,show k=n by omega]
   have HBF:Hid (Below w.heap.size w wr):=by
    show Below _ _ _;have:=HB.out;rw[HZB.out]at this;exact HBW.out.trans (this.mono HBW.out.size)
   have HIs:Hid (Ai wr (.slice (some ⟨ZB,0,none⟩) n n) (D0 m qn ins n)):=by
    show Ai _ _ _;have h1:=HO.out;rw[HEq.out]at h1
    refine h1.is (by rw[Fq];unfold Bk;omega) fun y hy=> ?_
    obtain⟨j,hj,rfl⟩:=List.mem_iff_getElem.1 hy
    have hj2:j<n:=by rw[Fq]at hj;exact hj
    rw[<-Af _ 0 j hj,Ly hj2];have hq:=HI4.out.1.st (q:=qn) (ins:=ins) (by omega) (fun k hk=>HI4.out.2.2.2 k (by omega)) j (by omega);have hx:=HI4.out.2.2.2 j hj2;have h3:=HI4.out.1.out' hq (x:=(ins.getD j 0).toNat) (by omega);have h4:=HI4.out.1.o2
    constructor<;>omega
   clear HO HA HL HS HB HQ HEq;go_wp2;go_ret2;exact N7 HSt.out HIs.out HBF.out
theorem ID{w:Ls}(i:Nat):(w.stem++w.loop).getD (B1 w i) 0=atL w i:=by
 unfold B1 atL
 split
 ·rename_i h;rw[List.getD_eq_getElem?_getD,List.getElem?_append_left h,<-List.getD_eq_getElem?_getD]
 ·rw[List.getD_eq_getElem?_getD,List.getElem?_append_right (by omega),Nat.add_sub_cancel_left,<-List.getD_eq_getElem?_getD]
def qW(m:My)(w:Ls):Nat->Nat
 |0=>m.start.toNat
 |k+1=>(nxI m (qW m w k) (atL w k).toNat).toNat
def stW(m:My)(w:Ls)(k:Nat):Nat:=B1 w k*m.out.length+qW m w k
def ltW(l:List Sig)(m:My)(w:Ls)(k:Nat):Int:=AO l (atL w k) (Bg m (qW m w k) (atL w k).toNat)
structure InV(n:Int)(w:Ls):Prop where
 p:0<w.loop.length
 s:w.stem.length<=60
 l:w.loop.length<=40
 b:∀k,0<=atL w k/\atL w k<n
theorem Hg{m:My}(hm:MyV m){w:Ls}(hw:InV m.ins w):∀k,qW m w k<m.out.length
 |0=>by have:=hm.s0;have:=hm.s1;show m.start.toNat<_;omega
 |k+1=>by
  have h1:=hw.b k;have h2:=hm.nx' (Hg hm hw k) (x:=(atL w k).toNat) (by omega);show(nxI m (qW m w k) (atL w k).toNat).toNat<_;omega
theorem M0{m:My}(hm:MyV m){w:Ls}(hw:InV m.ins w)(k:Nat):stW m w k<m.out.length*(w.stem.length+w.loop.length):=by
 have h1:=Hg hm hw k;have h2:=Ki hw.p k;unfold stW
 calc B1 w k*m.out.length+qW m w k<B1 w k*m.out.length+m.out.length:=by omega
  _=(B1 w k+1)*m.out.length:=by rw[Nat.add_mul,Nat.one_mul]
  _<=(w.stem.length+w.loop.length)*m.out.length:=Nat.mul_le_mul_right _ h2
  _=m.out.length*(w.stem.length+w.loop.length):=Nat.mul_comm _ _
theorem Ku{m:My}(hm:MyV m){w:Ls}(hw:InV m.ins w)(k:Nat):stW m w k/m.out.length=B1 w k/\stW m w k%m.out.length=qW m w k:=by
 have h1:=Hg hm hw k;unfold stW
 constructor
 ·rw[Nat.mul_comm,Nat.mul_add_div (by omega),Nat.div_eq_of_lt h1,Nat.add_zero]
 ·rw[Nat.mul_comm,Nat.mul_add_mod,Nat.mod_eq_of_lt h1]
theorem AN{l:List Sig}{m:My}:Bm l m=true↔At l=true/\MyV m/\m.ins=Ap l/\m.outs=Aj l:=by
 unfold Bm;rw[Bool.and_eq_true,Bool.and_eq_true,Bool.and_eq_true,decide_eq_true_eq,decide_eq_true_eq,F6];exact⟨fun⟨⟨⟨h1,h2⟩,h3⟩,h4⟩=>⟨h1,h2,h3,h4⟩,fun⟨h1,h2,h3,h4⟩=>⟨⟨⟨h1,h2⟩,h3⟩,h4⟩⟩
theorem Lj{l:List Sig}{x o:Nat}(hx:(x:Int)<Ap l)(ho:(o:Int)<Aj l):x<(Aq l).length/\o<((Aq l).getD x []).length/\((Aq l).getD x []).getD o 0=AO l (x:Int) (o:Int):=by
 have h1:x<(Ap l).toNat:=by omega
 have h2:o<(Aj l).toNat:=by omega
 have hl:x<(Aq l).length:=by simpa[Aq]using h1
 have e:(Aq l).getD x []=(List.range (Aj l).toNat).map fun(o:Nat)=>AO l (x:Int) (o:Int):=by
  rw[Af _ _ _ hl];simp only[Aq,List.getElem_map,List.getElem_range]
 rw[e];exact⟨hl,by simpa using h2,by simp[List.getD,h2]⟩
theorem Li{l:List Sig}(hv:At l=true){x o:Int}(hx:0<=x/\x<Ap l)(ho:0<=o/\o<Aj l):0<=AO l x o/\AO l x o<64:=by
 have h1:=(Cc hv hx.1 hx.2 ho.1 ho.2).1;have h2:=FW hv;omega
theorem Qe{l:List Sig}{m:My}(hf:Bm l m=true){w:Ls}(hw:InV m.ins w)(k:Nat):0<=ltW l m w k/\ltW l m w k<64:=by
 obtain⟨h1,h2,h3,h4⟩:=AN.1 hf;have hb:=hw.b k;have ho:=h2.out' (Hg h2 hw k) (x:=(atL w k).toNat) (by omega);exact Li h1 ⟨hb.1,by omega⟩ ⟨ho.2.1,by omega⟩
structure Pf(W:World)(p1 p2 p3 p4 p5:Nat)(l:List Sig)(m:My)(ins:Ls):Prop where
 c1:W.cell? ⟨p1,0,none⟩=some (.int .i64 (m.out.length:Int))
 c2:∃v,W.cell? ⟨p2,0,none⟩=some v/\Ai W v (ins.stem++ins.loop)
 c3:W.cell? ⟨p3,0,none⟩=some (.int .i64 (ins.stem.length:Int))
 c4:∃v,W.cell? ⟨p4,0,none⟩=some v/\Ar W v (Aq l)
 c5:∃v3 v4,W.heap[p5]? =some (.cells #[.int .i64 m.ins,.int .i64 m.outs,.int .i64 m.start,v3,v4] 25 (0,0))/\Ar W v3 m.out/\Ar W v4 m.next
theorem Pf.below{W W':World}{p1 p2 p3 p4 p5:Nat}{l:List Sig}{m:My}{ins:Ls}(h:Pf W p1 p2 p3 p4 p5 l m ins)(hb:Below W.heap.size W W'):Pf W' p1 p2 p3 p4 p5 l m ins:=by
 obtain⟨v2,h2,i2⟩:=h.c2;obtain⟨v4,h4,i4⟩:=h.c4;obtain⟨v5,v6,h5,i5,i6⟩:=h.c5;exact⟨Ah hb h.c1,⟨v2,Ah hb h2,i2.below hb⟩,Ah hb h.c3,⟨v4,Ah hb h4,i4.below hb⟩,⟨v5,v6,Ae hb h5,i5.below hb,i6.below hb⟩⟩
theorem Rb(W:World)(p1 p2 p3 p4 p5:Nat)(l:List Sig)(m:My)(ins:Ls)(k:Nat)(h:Pf W p1 p2 p3 p4 p5 l m ins)(hf:Bm l m=true)(hv:InV m.ins ins):
  Calls Tryz.prog 58 #[.int .i64 (stW m ins k:Int),.pointer (some ⟨p1,0,none⟩),.pointer (some ⟨p2,0,none⟩),.pointer (some ⟨p3,0,none⟩),.pointer (some ⟨p4,0,none⟩),.pointer (some ⟨p5,0,none⟩)] W
   (fun e W'=>e=.returned (.tuple #[.int .i64 (ltW l m ins k),.int .i64 (stW m ins (k+1):Int)])/\Below W.heap.size W W'):=by
 obtain⟨hvs,hm,hi,ho⟩:=AN.1 hf;obtain⟨hdiv,hmod⟩:=Ku hm hv k;have hq:=Hg hm hv k;have hp:=Ki hv.p k;have hA:=M0 hm hv k;have hb:=hv.b k;obtain⟨x,hx⟩:∃x:Nat,atL ins k=(x:Int):=⟨(atL ins k).toNat,by omega⟩;obtain⟨o1,o2,o3⟩:=hm.out' hq (x:=x) (by omega);obtain⟨n1,n2,n3⟩:=hm.nx' hq (x:=x) (by omega);obtain⟨y,hy⟩:∃y:Nat,Bg m (qW m ins k) x=(y:Int):=⟨(Bg m (qW m ins k) x).toNat,by omega⟩;obtain⟨t,ht⟩:∃t:Nat,nxI m (qW m ins k) x=(t:Int):=⟨(nxI m (qW m ins k) x).toNat,by omega⟩;obtain⟨j1,j2,j3⟩:=Lj (l:=l) (x:=x) (o:=y) (by omega) (by omega)
 have hlt:ltW l m ins k=AO l (x:Int) (y:Int):=by unfold ltW;rw[hx,Int.toNat_natCast,hy]
 have hqn:qW m ins (k+1)=t:=by show(nxI m (qW m ins k) (atL ins k).toNat).toNat=t;rw[hx,Int.toNat_natCast,ht,Int.toNat_natCast]
 have hpn:=GZ hv.p k
 have hst:stW m ins (k+1)=B1 ins (k+1)*m.out.length+t:=by unfold stW;rw[hqn]
 rw[hst,hlt]
 have hlen:(ins.stem++ins.loop).length=ins.stem.length+ins.loop.length:=by simp
 obtain⟨v2,h2,i2⟩:=h.c2;obtain⟨v4,h4,i4⟩:=h.c4;obtain⟨v5,v6,h5,i5,i6⟩:=h.c5;have hs60:=hv.s;have hl40:=hv.l;have hn3:=hm.n;have hnl:=hm.nl;have c1:=h.c1;have c3:=h.c3;obtain⟨a2,d2,rfl⟩:=i2.shape;obtain⟨b2,s2,e2,-,f2⟩:=i2.data;obtain⟨a4,d4,rfl⟩:=i4.shape;obtain⟨b4,s4,e4,-,f4⟩:=i4.dat2;obtain⟨a5,d5,rfl⟩:=i5.shape;obtain⟨b5,s5,e5,-,f5⟩:=i5.dat2;obtain⟨a6,d6,rfl⟩:=i6.shape;obtain⟨b6,s6,e6,-,f6⟩:=i6.dat2;rw[hlen]at*;obtain rfl:=e2 (by omega);obtain rfl:=e4 (by omega);obtain rfl:=e5 (by omega);obtain rfl:=e6 (by omega);have g2:=f2 _ hp;rw[ID,hx]at g2;obtain⟨r4,z4,k4,q4⟩:=f4 x j1;obtain⟨u4,w4,y4,-,g4⟩:=q4.data;obtain rfl:=y4 (by omega);replace g4:=g4 y j2;rw[j3]at g4;obtain⟨r5,z5,k5,q5⟩:=f5 (qW m ins k) hq;obtain⟨u5,w5,y5,-,g5⟩:=q5.data;obtain rfl:=y5 (by omega);replace g5:=g5 x o1;rw[show(m.out.getD (qW m ins k) []).getD x 0=(y:Int)from hy]at g5;obtain⟨r6,z6,k6,q6⟩:=f6 (qW m ins k) (by omega);obtain⟨u6,w6,y6,-,g6⟩:=q6.data;obtain rfl:=y6 (by omega);replace g6:=g6 x n1;rw[show(m.next.getD (qW m ins k) []).getD x 0=(t:Int)from ht]at g6;have m3:=Aa 3 h5;have m4:=Aa 4 h5
 have hy2:y<64:=by have:=hm.o2;omega
 have ht2:t<m.out.length:=by omega
 clear f2 f4 f5 f6 q4 q5 q6 y4 y5 y6 i2 i4 i5 i6 e2 e4 e5 e6 j3 hst hqn hlt h h5 hf hvs hx hy ht hi ho o2 o3 n2 n3 hb;generalize AO l (x:Int) (y:Int)=J at*;generalize(Aq l).length=li at*;generalize((Aq l).getD x []).length=l4 at*;generalize(m.out.getD (qW m ins k) []).length=l5 at*;generalize(m.next.getD (qW m ins k) []).length=l6 at*;generalize qW m ins k=q at*;generalize stW m ins k=A at*;generalize B1 ins (k+1)=p' at*;generalize B1 ins k=p at*;generalize ins.stem.length=S at*;generalize ins.loop.length=Lo at*;rw[hnl]at*;generalize m.out.length=n at*
 have hn0:¬n=0:=by omega
 have hz1:((A:Int)/(n:Int))=(p:Int):=by rw[<-hdiv];rfl
 have hz2:((A:Int)%(n:Int))=(q:Int):=by rw[<-hmod];rfl
 have hz3:(A:Int).tdiv (n:Int)=(p:Int):=by rw[Int.tdiv_eq_ediv_of_nonneg (by omega)];exact hz1
 have hz4:(A:Int).tmod (n:Int)=(q:Int):=by rw[Int.tmod_eq_emod_of_nonneg (by omega)];exact hz2
 have hp0:(0:Int)<=(p:Int):=by omega
 have hp1:(p:Int)<((S+Lo:Nat):Int):=by omega
 have hx0:(0:Int)<=(x:Int):=by omega
 have hx1:(x:Int)<(li:Int):=by omega
 have hx2:(x:Int)<(l5:Int):=by omega
 have hx3:(x:Int)<(l6:Int):=by omega
 have hy0:(0:Int)<=(y:Int):=by omega
 have hy1:(y:Int)<(l4:Int):=by omega
 have hq0:(0:Int)<=(q:Int):=by omega
 have hq1:(q:Int)<(n:Int):=by omega
 have HPN:=Ab hpn;clear hpn hdiv hmod hA hnl
 by_cases hc:p+1=S+Lo
 ·have hpe:p'=S:=by rw[HPN.out];exact if_pos hc
  have hE:((p'*n+t:Nat):Int)=((S:Int))*(n:Int)+(t:Int):=by rw[hpe];simp
  rw[hE];have hmb:S*n<=100*3000:=Nat.mul_le_mul (by omega) hn3
  have hmi:((S:Int))*(n:Int)=((S*n:Nat):Int):=by simp
  have hw1:IntKind.i64.wrap (((S:Int))*(n:Int))=((S:Int))*(n:Int):=IntWalk.i64_in _ ⟨by rw[hmi];omega,by rw[hmi];omega⟩;have hw2:IntKind.i64.wrap (((S:Int))*(n:Int)+(t:Int))=((S:Int))*(n:Int)+(t:Int):=IntWalk.i64_in _ ⟨by rw[hmi];omega,by rw[hmi];omega⟩
  have tA:((p:Int)+1==((S+Lo:Nat):Int))=true:=by simp;omega
  have HMI:=Ab hmi;clear hmi hpe hE HPN hmb
  go_enter Tryz.func58,Tryz.ntmps58
  go_upto_region 1 with(fail)
  go_quiet (fail)
  go_upto_region 6 with(fail)
  go_quiet (fail)
  go_wp2;go_ret2;exact⟨rfl,Am _ _ _⟩
 ·have hpe:p'=(p+1):=by rw[HPN.out];exact if_neg hc
  have hE:((p'*n+t:Nat):Int)=((p:Int)+1)*(n:Int)+(t:Int):=by rw[hpe];simp
  rw[hE];have hmb:(p+1)*n<=100*3000:=Nat.mul_le_mul (by omega) hn3
  have hmi:((p:Int)+1)*(n:Int)=(((p+1)*n:Nat):Int):=by simp
  have hw1:IntKind.i64.wrap (((p:Int)+1)*(n:Int))=((p:Int)+1)*(n:Int):=IntWalk.i64_in _ ⟨by rw[hmi];omega,by rw[hmi];omega⟩;have hw2:IntKind.i64.wrap (((p:Int)+1)*(n:Int)+(t:Int))=((p:Int)+1)*(n:Int)+(t:Int):=IntWalk.i64_in _ ⟨by rw[hmi];omega,by rw[hmi];omega⟩
  have tA:((p:Int)+1==((S+Lo:Nat):Int))=false:=by simp;omega
  have HMI:=Ab hmi;clear hmi hpe hE HPN hmb
  go_enter Tryz.func58,Tryz.ntmps58
  go_upto_region 1 with(fail)
  go_quiet (fail)
  go_upto_region 6 with(fail)
  go_quiet (fail)
  go_wp2;go_ret2;exact⟨rfl,Am _ _ _⟩
end Go.Proofs.YtncjeamdkjcebaaGreatDoor
