/- Signals: Valid, Letters, Inputs, Outputs, In, Out, Join, and the reference's. -/
import Derived.Test.YtncjeamdkjcebaaGreatDoorZArSb
set_option linter.all false
set_option maxHeartbeats 4000000
set_option maxRecDepth 100000
namespace Go.Proofs.YtncjeamdkjcebaaGreatDoor
open Go.RowKit
open Go.RowKit Go.Shelf
open Go
def Sn(l:List Sig)(a:Int)(w:World)(e:Ending)(w':World):Prop:=e=.returned (.tuple #[.int .i64 (BZ l true a),.int .i64 (BZ l false a)])/\Below w.heap.size w w'
structure HaX(w:World)(vs:Value)(a:Int)(W:World):Prop where
 b0:Boxed W w.heap.size 22 vs
 b1:Boxed W (w.heap.size+1) 3 (.int .i64 a)
theorem HaX.below{w W W3:World}{vs:Value}{a:Int}(h:HaX w vs a W)(hb:Below W.heap.size W W3):HaX w vs a W3:=⟨AP hb h.b0,AP hb h.b1⟩
theorem HaX.mk'(w:World)(vs:Value)(a:Int):HaX w vs a ((w.alloc (.cells #[vs] 22)).alloc (.cells #[.int .i64 a] 3)):=by
 have e1:=Boxed.new (w.alloc (.cells #[vs] 22)) 3 (.int .i64 a);have e0:=(Boxed.new w 22 vs).alloc (.cells #[.int .i64 a] 3);simp only[World.size_alloc]at e1;exact⟨e0,e1⟩
theorem La(w:World)(vl:Value)(l:List Sig)(a:Int)(ha:I64 a)(hK:BN w)(hl:AH w vl l):
  Calls Tryz.prog 71 #[vl,.int .i64 a] w (Sn l a w):=by
 have hL:Hid (∀W,Below w.heap.size w W->Calls Tryz.prog 67 #[vl] W (Av (.int .i64 (AC l)) W)):=fun W hW=>D9 W vl l (hK.below hW) (hl.below hW)
 obtain⟨ao,cap,b,off,rfl,hl⟩:=hl;have hn:=hl.nb;have HI:=Ab ha
 have HH:Hid (∀(q:Bool)(W:World),0<=a->a<AC l->Below w.heap.size w W->HaX w (.slice ao l.length cap) a W->Calls Tryz.prog 109 #[.bool q,.pointer (some ⟨w.heap.size,0,none⟩),.pointer (some ⟨w.heap.size+1,0,none⟩)] W (Av (.int .i64 (BZ l q a)) W)):=fun q W h0 h1 hW hX=>by
  have:=Rt W ao cap b off w.heap.size (w.heap.size+1) l a q (hl.below hW) (Er h0 h1) h0 HI.out hX.b0.cell hX.b1.cell
  rwa [BZ,if_pos ⟨h0,h1⟩]
 have HNO:Hid (¬(0<=a/\a<AC l)->∀q,BZ l q a=0):=fun h q=>if_neg h
 unfold I64 at ha;clear hl hK;obtain⟨x,HX⟩:∃x,Hid (AC l=x):=⟨_,rfl⟩;rw[HX.out]at hL HH HNO
 rcases(by omega:a<0\/(0<=a/\x<=a)\/(0<=a/\a<x))with h0|⟨h0,h1⟩|⟨h0,h1⟩
 all_goals
  first
  |have d0:decide (a<0)=false:=decide_eq_false (by omega)
  |have d0:decide (a<0)=true:=decide_eq_true (by omega)
  first
  |have d1:decide (x<=a)=false:=decide_eq_false (by omega)
  |have d1:decide (x<=a)=true:=decide_eq_true (by omega)
  |skip
  go_enter Tryz.func71,Tryz.ntmps71
  go_upto_region 1 with(fail)
  have hV:=HaX.mk' w (.slice ao l.length cap) a;have hB0:Below w.heap.size w ((w.alloc (.cells #[.slice ao l.length cap] 22)).alloc (.cells #[.int .i64 a] 3)):=(by repeat(first|exact Ad|assumption|apply AD|apply AE));generalize((w.alloc (.cells #[.slice ao l.length cap] 22)).alloc (.cells #[.int .i64 a] 3))=w4 at*
  first
  |(have _t:x<=a\/a<0:=by omega
    go_cut [14] (fun v wx=>v=.bool true/\Below w4.heap.size w4 wx))
  |(have _t:a<x:=by omega
    go_cut [14] (fun v wx=>v=.bool false/\Below w4.heap.size w4 wx))
  case first=>
   have q0:=hV.b0.cell;have q1:=hV.b1.cell
   first
   |(have _t:0<=a:=h0
     go_region_with (go_at_call 67;refine(hL.out _ (by repeat(first|exact Ad|assumption|(refine AD ?_ _)|(refine AE ?_ _)|(refine Below.drew ?_)))).mono ?_;rintro e W3 ⟨rfl,hb3⟩;have hb4:Below w4.heap.size w4 W3:=(by first|exact hb3|exact(Below.drew Ad).trans hb3|exact(Below.drew (Below.drew Ad)).trans hb3);have p0:=(AP hb4 hV.b0).cell;have p1:=(AP hb4 hV.b1).cell)
     all_goals go_wp2_with fail
     all_goals
      go_meet
      case rel=>exact⟨rfl,by first|assumption|exact(by assumption:Below _ _ _).trans (Below.drew Ad)⟩)
   |(go_quiet (fail)
     go_wp2_with fail
     go_meet
     case rel=>exact⟨rfl,Am _ _ _⟩)
  case rest=>
   obtain⟨rfl,hb4⟩:=hcut;have hW:=hV.below hb4;have hB:=hB0.trans (hb4.mono hB0.size);clear hV hB0 hb4 hL
   first
   |(have _t:0<=a/\a<x:=by omega
     go_wp2_with fail
     refine(HH.out true _ h0 h1 hB hW).mono ?_;rintro e w5 ⟨rfl,hb5⟩
     go_wp2_with fail
     refine(HH.out false _ h0 h1 (hB.trans (hb5.mono hB.size)) (hW.below hb5)).mono ?_;rintro e w6 ⟨rfl,hb6⟩;go_wp2;go_ret2
     exact⟨rfl,(hB.trans (hb5.mono hB.size)).trans (hb6.mono (hB.trans (hb5.mono hB.size)).size)⟩)
   |(have hr:=Ab (HNO.out (by omega))
     go_wp2;go_ret2
     exact⟨by rw[hr.out,hr.out];rfl,hB⟩)
theorem Sa(w:World)(vl:Value)(l:List Sig)(a:Int)(ha:I64 a)(hK:BN w)(hl:AH w vl l):
  Calls Tryz.prog 32 #[vl,.int .i64 a] w (Av (.int .i64 (BZ l true a)) w):=by
 have H:=Ab (La w vl l a ha hK hl);obtain⟨ao,cap,b,off,rfl,hl⟩:=hl;clear hl hK ha
 go_enter Tryz.func32,Tryz.ntmps32
 go_wp2_with fail
 refine H.out.mono ?_;rintro e w1 ⟨rfl,hb⟩;go_wp2;go_ret;exact⟨rfl,hb⟩
theorem Me(w:World)(vl:Value)(l:List Sig)(a:Int)(ha:I64 a)(hK:BN w)(hl:AH w vl l):
  Calls Tryz.prog 33 #[vl,.int .i64 a] w (Av (.int .i64 (BZ l false a)) w):=by
 have H:=Ab (La w vl l a ha hK hl);obtain⟨ao,cap,b,off,rfl,hl⟩:=hl;clear hl hK ha
 go_enter Tryz.func33,Tryz.ntmps33
 go_wp2_with fail
 refine H.out.mono ?_;rintro e w1 ⟨rfl,hb⟩;go_wp2;go_ret;exact⟨rfl,hb⟩
structure JoY(w:World)(vs:Value)(i o:Int)(W:World):Prop where
 b0:Boxed W w.heap.size 22 vs
 b1:Boxed W (w.heap.size+1) 3 (.int .i64 i)
 b2:Boxed W (w.heap.size+1+1) 3 (.int .i64 o)
theorem JoY.below{w W W3:World}{vs:Value}{i o:Int}(h:JoY w vs i o W)(hb:Below W.heap.size W W3):JoY w vs i o W3:=⟨AP hb h.b0,AP hb h.b1,AP hb h.b2⟩
theorem JoY.mk'(w:World)(vs:Value)(i o:Int):JoY w vs i o (((w.alloc (.cells #[vs] 22)).alloc (.cells #[.int .i64 i] 3)).alloc (.cells #[.int .i64 o] 3)):=by
 have e2:=Boxed.new ((w.alloc (.cells #[vs] 22)).alloc (.cells #[.int .i64 i] 3)) 3 (.int .i64 o);have e1:=(Boxed.new (w.alloc (.cells #[vs] 22)) 3 (.int .i64 i)).alloc (.cells #[.int .i64 o] 3);have e0:=((Boxed.new w 22 vs).alloc (.cells #[.int .i64 i] 3)).alloc (.cells #[.int .i64 o] 3);simp only[World.size_alloc]at e1 e2;exact⟨e0,e1,e2⟩
theorem KQ{w4 W W3:World}(h:Below w4.heap.size w4 W)(hb:Below W.heap.size W W3):Below w4.heap.size w4 W3:=h.trans (hb.mono h.size)
theorem Jg{w4 W W3:World}(h:Below w4.heap.size w4 W)(hb:Below W.drew.heap.size W.drew W3):Below w4.heap.size w4 W3:=(h.trans (Below.drew Ad)).trans (hb.mono h.size)
theorem Q0(w:World)(vl:Value)(l:List Sig)(i o:Int)(hi:I64 i)(ho:I64 o)(hK:BN w)(hl:AH w vl l)
  (hno:¬(0<=i/\i<Ap l/\0<=o/\o<Aj l)):
  Calls Tryz.prog 93 #[vl,.int .i64 i,.int .i64 o] w (Av (.int .i64 0) w):=by
 have hI:Hid (∀W,Below w.heap.size w W->Calls Tryz.prog 78 #[vl] W (Av (.int .i64 (Ap l)) W)):=fun W hW=>DJ W vl l (hK.below hW) (hl.below hW)
 have hO:Hid (∀W,Below w.heap.size w W->Calls Tryz.prog 79 #[vl] W (Av (.int .i64 (Aj l)) W)):=fun W hW=>CY W vl l (hK.below hW) (hl.below hW)
 obtain⟨ao,cap,b,off,rfl,hl⟩:=hl;have hn:=hl.nb;unfold I64 at hi ho;clear hl hK;generalize Ap l=x at*;generalize Aj l=y at*
 rcases(by omega:i<0\/(0<=i/\x<=i)\/(0<=i/\i<x/\o<0)\/(0<=i/\i<x/\0<=o/\y<=o))with h0|⟨h0,h1⟩|⟨h0,h1,h2⟩|⟨h0,h1,h2,h3⟩
 all_goals
  first
  |have d0:decide (i<0)=false:=decide_eq_false (by omega)
  |have d0:decide (i<0)=true:=decide_eq_true (by omega)
  first
  |have d1:decide (x<=i)=false:=decide_eq_false (by omega)
  |have d1:decide (x<=i)=true:=decide_eq_true (by omega)
  |skip
  first
  |have d2:decide (o<0)=false:=decide_eq_false (by omega)
  |have d2:decide (o<0)=true:=decide_eq_true (by omega)
  |skip
  first
  |have d3:decide (y<=o)=true:=decide_eq_true (by omega)
  |skip
  go_enter Tryz.func93,Tryz.ntmps93
  go_upto_region 1 with(fail)
  have hV:=JoY.mk' w (.slice ao l.length cap) i o;have hB0:Below w.heap.size w (((w.alloc (.cells #[.slice ao l.length cap] 22)).alloc (.cells #[.int .i64 i] 3)).alloc (.cells #[.int .i64 o] 3)):=(by repeat(first|exact Ad|assumption|apply AD|apply AE));generalize(((w.alloc (.cells #[.slice ao l.length cap] 22)).alloc (.cells #[.int .i64 i] 3)).alloc (.cells #[.int .i64 o] 3))=w4 at*
  go_cut [28] (fun v wx=>v=.bool true/\Below w4.heap.size w4 wx)
  case first=>
   have q0:=hV.b0.cell;have q1:=hV.b1.cell;have q2:=hV.b2.cell;have hb9:Below w4.heap.size w4 w4:=Ad
   first
   |(have _t:0<=i:=h0
     go_region_with (((first|(go_at_call 78;refine(hI.out _ (by repeat(first|exact Ad|assumption|(refine AD ?_ _)|(refine AE ?_ _)|(refine Below.drew ?_)))).mono ?_)|(go_at_call 79;refine(hO.out _ (by repeat(first|exact Ad|assumption|(refine AD ?_ _)|(refine AE ?_ _)|(refine Below.drew ?_)))).mono ?_));rintro e W3 ⟨rfl,hb3⟩;have hb4:Below w4.heap.size w4 W3:=(by first|exact KQ (by assumption) hb3|exact Jg (by assumption) hb3);have hbw:Below w.heap.size w W3:=hB0.trans (hb4.mono hB0.size);have p0:=(AP hb4 hV.b0).cell;have p1:=(AP hb4 hV.b1).cell;have p2:=(AP hb4 hV.b2).cell))
     all_goals go_wp2_with fail
     all_goals
      go_meet
      case rel=>exact⟨rfl,by first|assumption|exact(by assumption:Below _ _ _).trans (Below.drew Ad)⟩)
   |(go_quiet (fail)
     go_wp2_with fail
     go_meet
     case rel=>exact⟨rfl,Am _ _ _⟩)
  case rest=>
   obtain⟨rfl,hb4⟩:=hcut;have hB:=hB0.trans (hb4.mono hB0.size);clear hV hB0 hb4;go_wp2;go_ret;exact⟨rfl,hB⟩
attribute [local go_sem] Oper.semAt_some
structure JoX(w:World)(vs:Value)(b4:Nat)(st:Int×Int×Int)(W:World):Prop where
 b0:Boxed W w.heap.size 22 vs
 b1:Boxed W (w.heap.size+1) 3 (.int .i64 st.1)
 b2:Boxed W (w.heap.size+1+1) 3 (.int .i64 st.2.1)
 b3:Boxed W b4 3 (.int .i64 st.2.2)
theorem JoX.drew{w W:World}{vs:Value}{b4:Nat}{st:Int×Int×Int}(h:JoX w vs b4 st W):JoX w vs b4 st W.drew:=⟨h.b0,h.b1,h.b2,h.b3⟩
theorem JoX.letter{w W:World}{vs:Value}{b4:Nat}{st:Int×Int×Int}(h:JoX w vs b4 st W)(hb:w.heap.size+3<=b4)(m:Int):JoX w vs b4 (st.1,st.2.1,m) (W.setCell ⟨b4,0,none⟩ (.int .i64 m)):=
 ⟨h.b0.other (by omega) _,h.b1.other (by omega) _,h.b2.other (by omega) _,h.b3.set _⟩
theorem JoX.inp{w W:World}{vs:Value}{b4:Nat}{st:Int×Int×Int}(h:JoX w vs b4 st W)(hb:w.heap.size+3<=b4)(m:Int):JoX w vs b4 (m,st.2.1,st.2.2) (W.setCell ⟨w.heap.size+1,0,none⟩ (.int .i64 m)):=
 ⟨h.b0.other (by omega) _,h.b1.set _,h.b2.other (by omega) _,h.b3.other (by omega) _⟩
theorem JoX.out{w W:World}{vs:Value}{b4:Nat}{st:Int×Int×Int}(h:JoX w vs b4 st W)(hb:w.heap.size+3<=b4)(m:Int):JoX w vs b4 (st.1,m,st.2.2) (W.setCell ⟨w.heap.size+1+1,0,none⟩ (.int .i64 m)):=
 ⟨h.b0.other (by omega) _,h.b1.other (by omega) _,h.b2.set _,h.b3.other (by omega) _⟩
theorem Rz(w:World)(vs:Value)(b4:Nat){α:Type}(f:α->Int×Int×Int):Own (fun(s:α)W=>JoX w vs b4 (f s) W):=fun s X Y row h hg hr=>
 ⟨boxed_own _ _ (fun(_:Unit)=>vs) () X Y row h.b0 hg hr,boxed_own _ _ (fun s=>Value.int .i64 (f s).1) s X Y row h.b1 hg hr,boxed_own _ _ (fun s=>Value.int .i64 (f s).2.1) s X Y row h.b2 hg hr,boxed_own _ _ (fun s=>Value.int .i64 (f s).2.2) s X Y row h.b3 hg hr⟩
theorem Hs{l:List Sig}{i:Int}(h0:0<=i)(h1:i<Ap l):At l=true:=by
 unfold Ap at h1
 cases hv:At l
 ·rw[hv]at h1;simp at h1;omega
 ·rfl
theorem O2(w:World)(vl:Value)(l:List Sig)(i o:Int)(hi:I64 i)(ho:I64 o)(hK:BN w)(hl:AH w vl l)
  (h0:0<=i) (h1:i<Ap l) (h2:0<=o) (h3:o<Aj l):
  Calls Tryz.prog 93 #[vl,.int .i64 i,.int .i64 o] w (Av (.int .i64 (CT l i o)) w):=by
 have hI:Hid (∀W,Below w.heap.size w W->Calls Tryz.prog 78 #[vl] W (Av (.int .i64 (Ap l)) W)):=fun W hW=>DJ W vl l (hK.below hW) (hl.below hW)
 have hO:Hid (∀W,Below w.heap.size w W->Calls Tryz.prog 79 #[vl] W (Av (.int .i64 (Aj l)) W)):=fun W hW=>CY W vl l (hK.below hW) (hl.below hW)
 have hv:=Hs h0 h1;obtain⟨hz,hl1,hl6,-⟩:=Ba hv;obtain⟨ao,cap,b,off,rfl,hl⟩:=hl;have hn:=hl.nb;have hb:b<w.heap.size:=World.block_lt_of_cell? w _ (hl.nn 0 (by omega));unfold I64 at hi ho;have hi9:=hi.2;have ho9:=ho.2;have HV:=Ab hv;have HZ:=Ab hz;have HALL:=Ab (SU hz i o);clear hz hv hK hi ho;generalize Ap l=x at*;generalize Aj l=y at*;have d0:decide (i<0)=false:=decide_eq_false (by omega);have d1:decide (x<=i)=false:=decide_eq_false (by omega);have d2:decide (o<0)=false:=decide_eq_false (by omega);have d3:decide (y<=o)=false:=decide_eq_false (by omega)
 have hmx:Tryz.prog.follows .mixedOrders=true:=by kernel_rfl
 refine callsIn_wide (n:=5)|>.1 ?_;refine Bu Tryz.func93 rfl trivial ?_;simp only[Tryz.ntmps93,List.size_toArray,List.length_cons,List.length_nil,Nat.reduceAdd,Nat.reduceSub,Array.replicate_succ,Array.replicate_zero,List.push_toArray,List.append_toArray,List.nil_append,List.cons_append]
 gi_upto_region 1 with(fail)
 have hV:=JoY.mk' w (.slice ao l.length cap) i o;have hB0:Below w.heap.size w (((w.alloc (.cells #[.slice ao l.length cap] 22)).alloc (.cells #[.int .i64 i] 3)).alloc (.cells #[.int .i64 o] 3)):=(by repeat(first|exact Ad|assumption|apply AD|apply AE));generalize(((w.alloc (.cells #[.slice ao l.length cap] 22)).alloc (.cells #[.int .i64 i] 3)).alloc (.cells #[.int .i64 o] 3))=w4 at*
 gi_cut [28]from 62 (fun v wx=>v=.bool false/\Below w4.heap.size w4 wx)
 case first=>
  have q0:=hV.b0.cell;have q1:=hV.b1.cell;have q2:=hV.b2.cell;have hb9:Below w4.heap.size w4 w4:=Ad;refine wpIn_wide.2 ?_
  go_region_with (((first|(go_at_call 78;refine(hI.out _ (by repeat(first|exact Ad|assumption|(refine AD ?_ _)|(refine AE ?_ _)|(refine Below.drew ?_)))).mono ?_)|(go_at_call 79;refine(hO.out _ (by repeat(first|exact Ad|assumption|(refine AD ?_ _)|(refine AE ?_ _)|(refine Below.drew ?_)))).mono ?_));rintro e W3 ⟨rfl,hb3⟩;have hb4:Below w4.heap.size w4 W3:=(by first|exact KQ (by assumption) hb3|exact Jg (by assumption) hb3);have hbw:Below w.heap.size w W3:=hB0.trans (hb4.mono hB0.size);have p0:=(AP hb4 hV.b0).cell;have p1:=(AP hb4 hV.b1).cell;have p2:=(AP hb4 hV.b2).cell))
  all_goals go_wp2_with fail
  all_goals
   go_meet
   case rel=>exact⟨rfl,by first|assumption|exact(by assumption:Below _ _ _).trans (Below.drew Ad)⟩
 case rest=>
  obtain⟨rfl,hb4⟩:=hcut;have hW:=hV.below hb4;have hB:=hB0.trans (hb4.mono hB0.size);clear hV hB0 hb4 hI hO;have q0:=hW.b0.cell
  have hz1:w.heap.size+3<=wc.heap.size:=by have:=hW.b2.lt;omega
  have hz9:w.heap.size<wc.heap.size:=by omega
  have hne1:¬w.heap.size=wc.heap.size:=by omega
  gi_wp2_with fail
  refine⟨trivial, ?_⟩;refine(callsIn_wide.2 (Di _ _ _ _)).mono ?_;rintro e w2 ⟨rfl,hw2⟩
  gi_wp2_with fail
  rw[<-hw2]
  have hB2:Below w.heap.size w w2:=by rw[hw2];exact hB.trans ((((Below.refl _ wc).alloc leR _).alloc (by simp) _).mono hB.size)
  have hX2:JoX w (.slice ao l.length cap) wc.heap.size (i,o,0) w2:=by
   rw[hw2];exact⟨(hW.b0.alloc _).alloc _,(hW.b1.alloc _).alloc _,(hW.b2.alloc _).alloc _,(Boxed.new wc 3 (.int .i64 0)).alloc _⟩
  have hZ2:wc.heap.size+1<w2.heap.size:=by rw[hw2];simp
  have e4:w2.cell? ⟨wc.heap.size+1,0,none⟩=some (.slice ao l.length cap):=by
   have:=Fz (wc.alloc (.cells #[.int .i64 0] 3)) (.slice ao l.length cap) 22;rw[World.size_alloc]at this;rw[hw2];exact this
  clear hw2 hW hB q0 hz9 hne1;generalize wc.heap.size=b4 at*
  refine wpIn_rangeFunc_ownG rfl (by omega) (gf:=108) (lb:=#[.pointer (some ⟨b4+1,0,none⟩)]) rfl trivial (enters_of Tryz.func108 (by kernel_rfl) rfl)
   (Ca Fence.wide (5-1) trivial rfl (by omega) (b4+1) w.heap.size b off cap ao l HV.out hb w2 (by omega) (by omega) e4 (hl.below hB2)) KpW.trans (KpW.put (by omega) (by omega)) Ad (fun _=>rfl)
   (fun pre W=>JoX w (.slice ao l.length cap) b4 (jF l i o pre) W/\Below w.heap.size w W)
   (fun _ _ _=>False)
   (OwnFrom.and (Own.from (Rz w _ b4 (fun pre=>jF l i o pre)) _) (ownFrom_below leR (by omega)))
   (fun _ _ _ _ _ hs _ _=>hs)
   ⟨hX2,hB2⟩
   ?a1 ?assign ?body ?done ?stop
  case assign=>
   intro lY x W K hK;unfold IT
   gi_wp2
   exact hK
  case body=>
   rintro lY pre x W ⟨hX,hB⟩ hpl;obtain⟨x,hx⟩:=x
   have hd:1<=5-1-1:=by omega
   have q0:=hX.b0.cell;have q1:=hX.b1.cell;have f1:=hX.b1.frozen;have q2:=hX.b2.cell;have f2:=hX.b2.frozen;have q3:=hX.b3.cell;have f3:=hX.b3.frozen;have hlW:=hl.below hB;have n1:=hlW.ni x hx;have n2:=hlW.nz x hx;obtain rfl:=hl.ad (by omega);obtain⟨hs1,hs2⟩:=DT HZ.out _ (List.getElem_mem hx);obtain⟨hp1,hp2⟩:=D3 HZ.out hl6 x;obtain⟨⟨ga0,ga1⟩,⟨gb0,gb1⟩,gc0,gc1⟩:=TK HZ.out hl6 h0 h2 pre;have HSN:Hid (jF l i o (pre++[⟨x,hx⟩])=if l[x].inp=true then((jF l i o pre).1/l[x].size,(jF l i o pre).2.1,(jF l i o pre).2.2+As (l.take x)*((jF l i o pre).1%l[x].size))else((jF l i o pre).1,(jF l i o pre).2.1/l[x].size,(jF l i o pre).2.2+As (l.take x)*((jF l i o pre).2.1%l[x].size))):=Kc _ _ _ _ _;have HX:=Ab hX
   have hpl6:(pre.length:Int)<=5:=by omega
   clear hlW hX;generalize As (l.take x)=pw at*;generalize l[x].size=z at*;generalize hst:jF l i o pre=st at*;clear hst;obtain⟨si,so,sn⟩:=st;simp only at ga0 ga1 gb0 gb1 gc0 gc1 q1 q2 q3
   have hz0:¬z=0:=by omega
   have hsn:0<=sn/\sn<=16384*5:=by omega
   obtain⟨hsn0,hsn1⟩:=hsn
   have hw5:w.heap.size+1≠b4:=by omega
   have hw6:w.heap.size+1+1≠b4:=by omega
   have hw7:w.heap.size≠b4:=by omega
   have hw8:b≠b4:=by omega
   have hw9:b≠w.heap.size+1:=by omega
   have hw10:b≠w.heap.size+1+1:=by omega
   clear gc0 gc1
   cases hq:l[x].inp
   ·have HSN2:Hid (jF l i o (pre++[⟨x,hx⟩])=(si,so/z,sn+pw*(so%z))):=by
     show _=_;rw[HSN.out,hq];rfl
    clear HSN;have hm0:=Int.emod_nonneg so (show z≠0 by omega);have hm1:=Int.emod_lt_of_pos so (show 0<z by omega);have hd0:=Int.ediv_nonneg gb0 (show 0<=z by omega);have hd1:=Int.ediv_le_self z gb0;have ht1:so.tmod z=so%z:=Int.tmod_eq_emod_of_nonneg gb0;have ht2:so.tdiv z=so/z:=Int.tdiv_eq_ediv_of_nonneg gb0;have hm:=Iw hp1 hp2 hm0 hm1 hs2;have hw1:IntKind.i64.wrap (so%z)=so%z:=IntWalk.i64_in _ ⟨by omega,by omega⟩;have hw2:IntKind.i64.wrap (so/z)=so/z:=IntWalk.i64_in _ ⟨by omega,by omega⟩
    have hw3:IntKind.i64.wrap (so%z*pw)=pw*(so%z):=by rw[Int.mul_comm (so%z) pw];exact IntWalk.i64_in _ ⟨by omega,by omega⟩
    have hw4:IntKind.i64.wrap (sn+pw*(so%z))=sn+pw*(so%z):=IntWalk.i64_in _ ⟨by omega,by omega⟩;generalize so/z=qt at*;generalize so%z=rm at*;clear hm
    gi_wp2
    refine Bf 13 hmx (by kernel_rfl) (by kernel_rfl) ?_;simp only[List.take_succ_cons,List.take_zero,List.drop_succ_cons,List.drop_zero]
    repeat still_step
    refine wpStill_nil ?_
    gi_wp2
    refine Bf 10 hmx (by kernel_rfl) (by kernel_rfl) ?_;simp only[List.take_succ_cons,List.take_zero,List.drop_succ_cons,List.drop_zero]
    repeat still_step
    refine wpStill_nil ?_
    gi_wp2
    have hk:=((((KK.refl w2.heap.size w.heap.size (b4+1) W)).drew.set (b:=b4) (by omega) (by omega) (.int .i64 (sn+pw*rm))).drew).set (b:=w.heap.size+1+1) (by omega) (by omega) (.int .i64 qt);exact⟨hk.1,hk.2,by rw[HSN2.out];exact(((HX.out.drew).letter hz1 _).drew).out hz1 _,hB.trans hk.2.1⟩
   ·have HSN2:Hid (jF l i o (pre++[⟨x,hx⟩])=(si/z,so,sn+pw*(si%z))):=by
     show _=_;rw[HSN.out,hq];rfl
    clear HSN;have hm0:=Int.emod_nonneg si (show z≠0 by omega);have hm1:=Int.emod_lt_of_pos si (show 0<z by omega);have hd0:=Int.ediv_nonneg ga0 (show 0<=z by omega);have hd1:=Int.ediv_le_self z ga0;have ht1:si.tmod z=si%z:=Int.tmod_eq_emod_of_nonneg ga0;have ht2:si.tdiv z=si/z:=Int.tdiv_eq_ediv_of_nonneg ga0;have hm:=Iw hp1 hp2 hm0 hm1 hs2;have hw1:IntKind.i64.wrap (si%z)=si%z:=IntWalk.i64_in _ ⟨by omega,by omega⟩;have hw2:IntKind.i64.wrap (si/z)=si/z:=IntWalk.i64_in _ ⟨by omega,by omega⟩
    have hw3:IntKind.i64.wrap (si%z*pw)=pw*(si%z):=by rw[Int.mul_comm (si%z) pw];exact IntWalk.i64_in _ ⟨by omega,by omega⟩
    have hw4:IntKind.i64.wrap (sn+pw*(si%z))=sn+pw*(si%z):=IntWalk.i64_in _ ⟨by omega,by omega⟩;generalize si/z=qt at*;generalize si%z=rm at*;clear hm
    gi_wp2
    refine Bf 13 hmx (by kernel_rfl) (by kernel_rfl) ?_;simp only[List.take_succ_cons,List.take_zero,List.drop_succ_cons,List.drop_zero]
    repeat still_step
    refine wpStill_nil ?_
    gi_wp2
    refine Bf 10 hmx (by kernel_rfl) (by kernel_rfl) ?_;simp only[List.take_succ_cons,List.take_zero,List.drop_succ_cons,List.drop_zero]
    repeat still_step
    refine wpStill_nil ?_
    gi_wp2
    have hk:=((((KK.refl w2.heap.size w.heap.size (b4+1) W)).drew.set (b:=b4) (by omega) (by omega) (.int .i64 (sn+pw*rm))).drew).set (b:=w.heap.size+1) (by omega) (by omega) (.int .i64 qt);exact⟨hk.1,hk.2,by rw[HSN2.out];exact(((HX.out.drew).letter hz1 _).drew).inp hz1 _,hB.trans hk.2.1⟩
  case done=>
   rintro D ys W hD rfl ⟨hX,hB⟩ hK;have q3:=hX.b3.cell
   gi_wp2
   refine⟨by simp,.inl ⟨_,_,rfl,run_takeDeferred hK, ?_⟩⟩;exact⟨_,results_tmp rfl _ _ _,by rw[HALL.out];rfl,hB.trans (belowK_b (w:=w) leR W D _ _ (by omega) hK rfl rfl)⟩
  case stop=>
   rintro D c pre W _ _ h _;exact h.elim
theorem Ma(w:World)(vl:Value)(l:List Sig)(i o:Int)(hi:I64 i)(ho:I64 o)(hK:BN w)(hl:AH w vl l):
  Calls Tryz.prog 93 #[vl,.int .i64 i,.int .i64 o] w (Av (.int .i64 (AO l i o)) w):=by
 by_cases h:0<=i/\i<Ap l/\0<=o/\o<Aj l
 ·have:=O2 w vl l i o hi ho hK hl h.1 h.2.1 h.2.2.1 h.2.2.2
  rwa [AO,if_pos h]
 ·have:=Q0 w vl l i o hi ho hK hl h
  rwa [AO,if_neg h]
def D7(l:List Sig):Bool:=decide (l.length<=10)&&l.all (fun s=>decide (s.name.size<=40))
theorem Pc(w:World)(vl:Value)(l:List Sig)(hl:AH w vl l):
  Calls Tryz.prog 8 #[vl] w (fun e w'=>e=.returned (.bool (D7 l))/\w=w'):=by
 obtain⟨ao,cap,b,off,rfl,hl⟩:=hl;have hn:=hl.nb
 by_cases h10:(10:Int)<l.length
 ·go_enter Tryz.func8,Tryz.ntmps8
  go_wp2;go_ret;exact⟨Ak (by simp[D7];omega),rfl⟩
 go_enter Tryz.func8,Tryz.ntmps8
 go_wp2
 go_loop [3] (fun i=>∃k:Nat,i=.int .i64 k/\k<=l.length/\Hid ((l.take k).all (fun s=>decide (s.name.size<=40))=true)) (fun i=>l.length-(intOf i).toNat)
 case atStart=>exact⟨0,rfl,by omega,by show _=_;simp⟩
 case round=>
  obtain⟨k,rfl,hk,HA⟩:=hrel
  by_cases hlt:k<l.length
  ·obtain rfl:=hl.ad (by omega);have c1:=hl.nn k hlt;have hs9:=hl.sn _ (List.getElem_mem hlt);unfold Bk at hs9;have HS:=Ab (Br l (fun s=>decide (s.name.size<=40)) k hlt)
   by_cases hs:(40:Int)<l[k].name.size
   ·have HF:Hid (D7 l=false):=by
     show _=_;rw[D7,Bn l (fun s=>decide (s.name.size<=40)) k hlt (by simp;omega)];simp
    go_wp2;go_ret;exact⟨Ak (by rw[HF.out]),rfl⟩
   ·go_wp2
    go_round
    case rel=>exact⟨k+1,by go_num,by omega,by show _=_;rw[HS.out,HA.out];simp;omega⟩
    case measure=>simp[intOf];omega
  ·obtain rfl:k=l.length:=by omega
   have HF:Hid (D7 l=true):=by
    show _=_;have:=HA.out;rw[List.take_length]at this;rw[D7,this];simp;omega
   go_wp2;go_ret;exact⟨Ak (by rw[HF.out]),rfl⟩
theorem EC{d z x:Int}(h0:0<=d)(h1:d<z):(d+z*x)%z=d:=by
 rw[Int.add_mul_emod_self_left];exact Int.emod_eq_of_lt h0 h1
theorem EB{d z x:Int}(h0:0<=d)(h1:d<z):(d+z*x)/z=x:=by
 rw[Int.add_mul_ediv_left _ _ (by omega),Int.ediv_eq_zero_of_lt h0 h1];omega
theorem Hx(a z:Int):a%z+z*(a/z)=a:=Int.emod_add_mul_ediv a z
theorem EE(a:Int){z:Int}(h:2<=z):0<=a%z/\a%z<z:=⟨Int.emod_nonneg a (by omega),Int.emod_lt_of_pos a (by omega)⟩
theorem Ms{a z p:Int}(h:2<=z)(h0:0<=a)(h1:a<z*p):0<=a/z/\a/z<p:=⟨Int.ediv_nonneg h0 (by omega),Int.ediv_lt_of_lt_mul (by omega) (by rw[Int.mul_comm];exact h1)⟩
theorem Nk(q:Bool){l:List Sig}(hz:∀s∈l,AS s=true):∀a,0<=BP q l a/\BP q l a<A9 (fun s=>s.inp==q) l:=by
 induction l with
 |nil=>intro a;simp[BP,A9]
 |cons s r ih=>
  intro a;have hs:=(Bx hz s (by simp)).1;obtain⟨h0,h1⟩:=ih (fun x hx=>hz x (List.mem_cons_of_mem _ hx)) (a/s.size);obtain⟨d0,d1⟩:=EE a hs;simp only[BP,A9]
  split
  ·exact C0 d0 d1 h0 h1
  ·exact⟨h0,h1⟩
theorem Og{l:List Sig}(hz:∀s∈l,AS s=true):∀a,0<=a->a<As l->CT l (BP true l a) (BP false l a)=a:=by
 induction l with
 |nil=>intro a h0 h1;simp[As]at h1;simp[CT];omega
 |cons s r ih=>
  intro a h0 h1;have hs:=(Bx hz s (by simp)).1;obtain⟨d0,d1⟩:=EE a hs;simp only[As]at h1;obtain⟨e0,e1⟩:=Ms hs h0 h1;have IH:=ih (fun x hx=>hz x (List.mem_cons_of_mem _ hx)) (a/s.size) e0 e1;simp only[CT,BP]
  cases hq:s.inp
  ·simp only[Bool.false_eq_true,if_false,beq_self_eq_true,if_true,show(false==true)=false from rfl];rw[EC d0 d1,EB d0 d1,IH,Hx]
  ·simp only[if_true,beq_self_eq_true,Bool.false_eq_true,if_false,show(true==false)=false from rfl];rw[EC d0 d1,EB d0 d1,IH,Hx]
theorem RA{l:List Sig}(hz:∀s∈l,AS s=true):∀i o,0<=CT l i o/\CT l i o<As l:=by
 induction l with
 |nil=>intro i o;simp[CT,As]
 |cons s r ih=>
  intro i o;have hs:=(Bx hz s (by simp)).1;simp only[CT,As]
  split
  ·obtain⟨d0,d1⟩:=EE i hs;obtain⟨h0,h1⟩:=ih (fun x hx=>hz x (List.mem_cons_of_mem _ hx)) (i/s.size) o;exact C0 d0 d1 h0 h1
  ·obtain⟨d0,d1⟩:=EE o hs;obtain⟨h0,h1⟩:=ih (fun x hx=>hz x (List.mem_cons_of_mem _ hx)) i (o/s.size);exact C0 d0 d1 h0 h1
theorem Ob{l:List Sig}(hz:∀s∈l,AS s=true):∀i o,0<=i->i<A9 (fun s=>s.inp==true) l->0<=o->o<A9 (fun s=>s.inp==false) l->
  BP true l (CT l i o)=i/\BP false l (CT l i o)=o:=by
 induction l with
 |nil=>intro i o h0 h1 h2 h3;simp[A9]at h1 h3;simp[BP];omega
 |cons s r ih=>
  intro i o h0 h1 h2 h3;have hs:=(Bx hz s (by simp)).1
  have hzr:∀s∈r,AS s=true:=fun x hx=>hz x (List.mem_cons_of_mem _ hx)
  simp only[A9]at h1 h3;simp only[CT,BP]
  cases hq:s.inp
  ·simp only[hq,show(false==true)=false from rfl,beq_self_eq_true,Bool.false_eq_true,if_false,if_true]at h1 h3⊢;obtain⟨d0,d1⟩:=EE o hs;obtain⟨e0,e1⟩:=Ms hs h2 h3;obtain⟨g0,g1⟩:=ih hzr i (o/s.size) h0 h1 e0 e1;rw[EC d0 d1,EB d0 d1,g0,g1,Hx];exact⟨rfl,rfl⟩
  ·simp only[hq,show(true==false)=false from rfl,beq_self_eq_true,Bool.false_eq_true,if_false,if_true]at h1 h3⊢;obtain⟨d0,d1⟩:=EE i hs;obtain⟨e0,e1⟩:=Ms hs h0 h1;obtain⟨g0,g1⟩:=ih hzr (i/s.size) o e0 e1 h2 h3;rw[EC d0 d1,EB d0 d1,g0,g1,Hx];exact⟨rfl,rfl⟩
theorem Ez{l:List Sig}(hv:At l=true):AC l=As l:=by rw[AC,hv,if_pos rfl,MO]
theorem Fp{l:List Sig}(hv:At l=true):Ap l=A9 (fun s=>s.inp==true) l:=by
 rw[<-NK,GF,hv,if_pos rfl]
theorem EI{l:List Sig}(hv:At l=true):Aj l=A9 (fun s=>s.inp==false) l:=by
 rw[<-LO,GF,hv,if_pos rfl]
theorem Oy{l:List Sig}(hz:∀s∈l,AS s=true)(h1:1<=l.length):2<=As l:=by
 cases l with
 |nil=>simp at h1
 |cons s r=>
  have hs:=Bx hz s (by simp);have hp:=El (l:=r) (fun x hx=>hz x (List.mem_cons_of_mem _ hx));have:=Int.mul_le_mul hs.1 hp (by omega) (by omega);simp only[As];omega
theorem FW{l:List Sig}(hv:At l=true):2<=AC l/\AC l<=64:=by
 obtain⟨hz,hl1,hl6,hp⟩:=Ba hv;rw[Ez hv];exact⟨Oy hz hl1,hp⟩
theorem JB(ch:Sig->Bool){l:List Sig}(hz:∀s∈l,AS s=true):1<=A9 ch l:=(LI ch l hz).1
theorem C7{l:List Sig}(hv:At l=true):(1<=Ap l/\Ap l<=64)/\1<=Aj l/\Aj l<=64:=by
 obtain⟨hz,hl1,hl6,hp⟩:=Ba hv;have h1:=JB (fun s=>s.inp==true) hz;have h2:=JB (fun s=>s.inp==false) hz;rw[<-Fp hv]at h1;rw[<-EI hv]at h2
 have h3:Ap l*Aj l=As l:=by
  rw[Ap,Aj,hv,if_pos rfl,if_pos rfl,MM]
 have h4:=Int.mul_le_mul (Int.le_refl (Ap l)) h2 (by omega) (by omega);have h5:=Int.mul_le_mul h1 (Int.le_refl (Aj l)) (by omega) (by omega);omega
theorem Mw{l:List Sig}(hv:At l=true){a:Int}(h0:0<=a)(h1:a<AC l):
  (0<=BZ l true a/\BZ l true a<Ap l)/\(0<=BZ l false a/\BZ l false a<Aj l)/\AO l (BZ l true a) (BZ l false a)=a:=by
 obtain⟨hz,hl1,hl6,hp⟩:=Ba hv
 have e:∀q,BZ l q a=BP q l a:=fun q=>if_pos ⟨h0,h1⟩
 rw[e,e,Fp hv,EI hv];have b1:=Nk true hz a;have b2:=Nk false hz a;refine⟨b1,b2, ?_⟩;rw[AO,if_pos ⟨b1.1,by rw[Fp hv];exact b1.2,b2.1,by rw[EI hv];exact b2.2⟩];exact Og hz a h0 (by rwa [Ez hv]at h1)
theorem Cc{l:List Sig}(hv:At l=true){i o:Int}(h0:0<=i)(h1:i<Ap l)(h2:0<=o)(h3:o<Aj l):
  (0<=AO l i o/\AO l i o<AC l)/\BZ l true (AO l i o)=i/\BZ l false (AO l i o)=o:=by
 obtain⟨hz,hl1,hl6,hp⟩:=Ba hv;have e:AO l i o=CT l i o:=if_pos ⟨h0,h1,h2,h3⟩;have b:=RA hz i o;rw[<-Ez hv]at b;have hh:=Ob hz i o h0 (by rwa [Fp hv]at h1) h2 (by rwa [EI hv]at h3);rw[e];refine⟨b, ?_, ?_⟩
 ·rw[BZ,if_pos b];exact hh.1
 ·rw[BZ,if_pos b];exact hh.2
end Go.Proofs.YtncjeamdkjcebaaGreatDoor
