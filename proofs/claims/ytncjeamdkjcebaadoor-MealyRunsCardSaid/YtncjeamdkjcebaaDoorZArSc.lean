/- Signals: Valid, Letters, Inputs, Outputs, In, Out, Join, and the reference's. -/
import Derived.Test.YtncjeamdkjcebaaDoorZArSb
set_option linter.all false
set_option maxHeartbeats 4000000
set_option maxRecDepth 100000
namespace Go.Proofs.YtncjeamdkjcebaaDoor
open Go.RowKit
open Go.RowKit Go.Shelf
open Go
def QL(l:List Sig)(a:Int)(w:World)(e:Ending)(w':World):Prop:=e=.returned (.tuple #[.int .i64 (CQ l true a),.int .i64 (CQ l false a)])/\Below w.heap.size w w'
structure HaX(w:World)(vs:Value)(a:Int)(W:World):Prop where
 b0:Boxed W w.heap.size 33 vs
 b1:Boxed W (w.heap.size+1) 3 (.int .i64 a)
theorem HaX.below{w W W3:World}{vs:Value}{a:Int}(h:HaX w vs a W)(hb:Below W.heap.size W W3):HaX w vs a W3:=⟨AK hb h.b0,AK hb h.b1⟩
theorem HaX.mk'(w:World)(vs:Value)(a:Int):HaX w vs a ((w.alloc (.cells #[vs] 33)).alloc (.cells #[.int .i64 a] 3)):=by
 have e1:=Boxed.new (w.alloc (.cells #[vs] 33)) 3 (.int .i64 a);have e0:=(Boxed.new w 33 vs).alloc (.cells #[.int .i64 a] 3);simp only[World.size_alloc]at e1;exact⟨e0,e1⟩
theorem Ob(w:World)(vl:Value)(l:List Sig)(a:Int)(ha:I64 a)(hK:Bt w)(hl:AJ w vl l):
  Calls Tryd.prog 86 #[vl,.int .i64 a] w (QL l a w):=by
 have hL:Hid (∀W,Below w.heap.size w W->Calls Tryd.prog 35 #[vl] W (AC (.int .i64 (AB l)) W)):=fun W hW=>DO W vl l (hK.below hW) (hl.below hW)
 obtain⟨ao,cap,b,off,rfl,hl⟩:=hl;have hn:=hl.nb;have HI:=Ab ha
 have HH:Hid (∀(q:Bool)(W:World),0<=a->a<AB l->Below w.heap.size w W->HaX w (.slice ao l.length cap) a W->Calls Tryd.prog 89 #[.bool q,.pointer (some ⟨w.heap.size,0,none⟩),.pointer (some ⟨w.heap.size+1,0,none⟩)] W (AC (.int .i64 (CQ l q a)) W)):=fun q W h0 h1 hW hX=>by
  have:=PQ W ao cap b off w.heap.size (w.heap.size+1) l a q (hl.below hW) (D6 h0 h1) h0 HI.out hX.b0.cell hX.b1.cell
  rwa [CQ,if_pos ⟨h0,h1⟩]
 have HNO:Hid (¬(0<=a/\a<AB l)->∀q,CQ l q a=0):=fun h q=>if_neg h
 unfold I64 at ha;clear hl hK;obtain⟨x,HX⟩:∃x,Hid (AB l=x):=⟨_,rfl⟩;rw[HX.out]at hL HH HNO
 rcases(by omega:a<0\/(0<=a/\x<=a)\/(0<=a/\a<x))with h0|⟨h0,h1⟩|⟨h0,h1⟩
 all_goals
  first
  |have d0:decide (a<0)=false:=decide_eq_false (by omega)
  |have d0:decide (a<0)=true:=decide_eq_true (by omega)
  first
  |have d1:decide (x<=a)=false:=decide_eq_false (by omega)
  |have d1:decide (x<=a)=true:=decide_eq_true (by omega)
  |skip
  go_enter Tryd.func86,Tryd.ntmps86
  go_upto_region 1 with(fail)
  have hV:=HaX.mk' w (.slice ao l.length cap) a;have hB0:Below w.heap.size w ((w.alloc (.cells #[.slice ao l.length cap] 33)).alloc (.cells #[.int .i64 a] 3)):=(by repeat(first|exact Ad|assumption|apply AF|apply AE));generalize((w.alloc (.cells #[.slice ao l.length cap] 33)).alloc (.cells #[.int .i64 a] 3))=w4 at*
  first
  |(have _t:x<=a\/a<0:=by omega
    go_cut [14] (fun v wx=>v=.bool true/\Below w4.heap.size w4 wx))
  |(have _t:a<x:=by omega
    go_cut [14] (fun v wx=>v=.bool false/\Below w4.heap.size w4 wx))
  case first=>
   have q0:=hV.b0.cell;have q1:=hV.b1.cell
   first
   |(have _t:0<=a:=h0
     go_region_with (go_at_call 35;refine(hL.out _ (by repeat(first|exact Ad|assumption|(refine AF ?_ _)|(refine AE ?_ _)|(refine Below.drew ?_)))).mono ?_;rintro e W3 ⟨rfl,hb3⟩;have hb4:Below w4.heap.size w4 W3:=(by first|exact hb3|exact(Below.drew Ad).trans hb3|exact(Below.drew (Below.drew Ad)).trans hb3);have p0:=(AK hb4 hV.b0).cell;have p1:=(AK hb4 hV.b1).cell)
     all_goals go_wp2_with fail
     all_goals
      go_meet
      case rel=>exact⟨rfl,by first|assumption|exact(by assumption:Below _ _ _).trans (Below.drew Ad)⟩)
   |(go_quiet (fail)
     go_wp2_with fail
     go_meet
     case rel=>exact⟨rfl,Ai _ _ _⟩)
  case rest=>
   obtain⟨rfl,hb4⟩:=hcut;have hW:=hV.below hb4;have hB:=hB0.trans (hb4.mono hB0.size);clear hV hB0 hb4 hL
   first
   |(have _t:0<=a/\a<x:=by omega
     go_wp2_with fail
     refine(HH.out true _ h0 h1 hB hW).mono ?_;rintro e w5 ⟨rfl,hb5⟩
     go_wp2_with fail
     refine(HH.out false _ h0 h1 (hB.trans (hb5.mono hB.size)) (hW.below hb5)).mono ?_;rintro e w6 ⟨rfl,hb6⟩;go_wp2;go_ret2
     exact⟨rfl,(hB.trans (hb5.mono hB.size)).trans (hb6.mono (hB.trans (hb5.mono hB.size)).size)⟩)
   |(have hr:=Ab (HNO.out (by omega))
     go_wp2;go_ret2
     exact⟨by rw[hr.out,hr.out];rfl,hB⟩)
theorem QU(w:World)(vl:Value)(l:List Sig)(a:Int)(ha:I64 a)(hK:Bt w)(hl:AJ w vl l):
  Calls Tryd.prog 76 #[vl,.int .i64 a] w (AC (.int .i64 (CQ l false a)) w):=by
 have H:=Ab (Ob w vl l a ha hK hl);obtain⟨ao,cap,b,off,rfl,hl⟩:=hl;clear hl hK ha
 go_enter Tryd.func76,Tryd.ntmps76
 go_wp2_with fail
 refine H.out.mono ?_;rintro e w1 ⟨rfl,hb⟩;go_wp2;go_ret;exact⟨rfl,hb⟩
structure JoY(w:World)(vs:Value)(i o:Int)(W:World):Prop where
 b0:Boxed W w.heap.size 33 vs
 b1:Boxed W (w.heap.size+1) 3 (.int .i64 i)
 b2:Boxed W (w.heap.size+1+1) 3 (.int .i64 o)
theorem JoY.below{w W W3:World}{vs:Value}{i o:Int}(h:JoY w vs i o W)(hb:Below W.heap.size W W3):JoY w vs i o W3:=⟨AK hb h.b0,AK hb h.b1,AK hb h.b2⟩
theorem JoY.mk'(w:World)(vs:Value)(i o:Int):JoY w vs i o (((w.alloc (.cells #[vs] 33)).alloc (.cells #[.int .i64 i] 3)).alloc (.cells #[.int .i64 o] 3)):=by
 have e2:=Boxed.new ((w.alloc (.cells #[vs] 33)).alloc (.cells #[.int .i64 i] 3)) 3 (.int .i64 o);have e1:=(Boxed.new (w.alloc (.cells #[vs] 33)) 3 (.int .i64 i)).alloc (.cells #[.int .i64 o] 3);have e0:=((Boxed.new w 33 vs).alloc (.cells #[.int .i64 i] 3)).alloc (.cells #[.int .i64 o] 3);simp only[World.size_alloc]at e1 e2;exact⟨e0,e1,e2⟩
theorem JC{w4 W W3:World}(h:Below w4.heap.size w4 W)(hb:Below W.heap.size W W3):Below w4.heap.size w4 W3:=h.trans (hb.mono h.size)
theorem If{w4 W W3:World}(h:Below w4.heap.size w4 W)(hb:Below W.drew.heap.size W.drew W3):Below w4.heap.size w4 W3:=(h.trans (Below.drew Ad)).trans (hb.mono h.size)
theorem Pm(w:World)(vl:Value)(l:List Sig)(i o:Int)(hi:I64 i)(ho:I64 o)(hK:Bt w)(hl:AJ w vl l)
  (hno:¬(0<=i/\i<An l/\0<=o/\o<Ah l)):
  Calls Tryd.prog 61 #[vl,.int .i64 i,.int .i64 o] w (AC (.int .i64 0) w):=by
 have hI:Hid (∀W,Below w.heap.size w W->Calls Tryd.prog 40 #[vl] W (AC (.int .i64 (An l)) W)):=fun W hW=>Dq W vl l (hK.below hW) (hl.below hW)
 have hO:Hid (∀W,Below w.heap.size w W->Calls Tryd.prog 41 #[vl] W (AC (.int .i64 (Ah l)) W)):=fun W hW=>CG W vl l (hK.below hW) (hl.below hW)
 obtain⟨ao,cap,b,off,rfl,hl⟩:=hl;have hn:=hl.nb;unfold I64 at hi ho;clear hl hK;generalize An l=x at*;generalize Ah l=y at*
 rcases(by omega:i<0\/(0<=i/\x<=i)\/(0<=i/\i<x/\o<0)\/(0<=i/\i<x/\0<=o/\y<=o))with h0|⟨h0,h1⟩|⟨h0,h1,h2⟩|⟨h0,h1,h2,h3⟩
 all_goals
  first
  |have d0:decide (i<0)=false:=decide_eq_false (by omega)
  |have d0:decide (i<0)=true:=decide_eq_true (by omega)
  first
  |have d1:decide (x<=i)=false:=decide_eq_false (by omega)
  |have d1:decide (x<=i)=true:=decide_eq_true (by omega)
  |skip
  first
  |have d2:decide (o<0)=false:=decide_eq_false (by omega)
  |have d2:decide (o<0)=true:=decide_eq_true (by omega)
  |skip
  first
  |have d3:decide (y<=o)=true:=decide_eq_true (by omega)
  |skip
  go_enter Tryd.func61,Tryd.ntmps61
  go_upto_region 1 with(fail)
  have hV:=JoY.mk' w (.slice ao l.length cap) i o;have hB0:Below w.heap.size w (((w.alloc (.cells #[.slice ao l.length cap] 33)).alloc (.cells #[.int .i64 i] 3)).alloc (.cells #[.int .i64 o] 3)):=(by repeat(first|exact Ad|assumption|apply AF|apply AE));generalize(((w.alloc (.cells #[.slice ao l.length cap] 33)).alloc (.cells #[.int .i64 i] 3)).alloc (.cells #[.int .i64 o] 3))=w4 at*
  go_cut [28] (fun v wx=>v=.bool true/\Below w4.heap.size w4 wx)
  case first=>
   have q0:=hV.b0.cell;have q1:=hV.b1.cell;have q2:=hV.b2.cell;have hb9:Below w4.heap.size w4 w4:=Ad
   first
   |(have _t:0<=i:=h0
     go_region_with (((first|(go_at_call 40;refine(hI.out _ (by repeat(first|exact Ad|assumption|(refine AF ?_ _)|(refine AE ?_ _)|(refine Below.drew ?_)))).mono ?_)|(go_at_call 41;refine(hO.out _ (by repeat(first|exact Ad|assumption|(refine AF ?_ _)|(refine AE ?_ _)|(refine Below.drew ?_)))).mono ?_));rintro e W3 ⟨rfl,hb3⟩;have hb4:Below w4.heap.size w4 W3:=(by first|exact JC (by assumption) hb3|exact If (by assumption) hb3);have hbw:Below w.heap.size w W3:=hB0.trans (hb4.mono hB0.size);have p0:=(AK hb4 hV.b0).cell;have p1:=(AK hb4 hV.b1).cell;have p2:=(AK hb4 hV.b2).cell))
     all_goals go_wp2_with fail
     all_goals
      go_meet
      case rel=>exact⟨rfl,by first|assumption|exact(by assumption:Below _ _ _).trans (Below.drew Ad)⟩)
   |(go_quiet (fail)
     go_wp2_with fail
     go_meet
     case rel=>exact⟨rfl,Ai _ _ _⟩)
  case rest=>
   obtain⟨rfl,hb4⟩:=hcut;have hB:=hB0.trans (hb4.mono hB0.size);clear hV hB0 hb4;go_wp2;go_ret;exact⟨rfl,hB⟩
attribute [local go_sem] Oper.semAt_some
structure JoX(w:World)(vs:Value)(b4:Nat)(st:Int×Int×Int)(W:World):Prop where
 b0:Boxed W w.heap.size 33 vs
 b1:Boxed W (w.heap.size+1) 3 (.int .i64 st.1)
 b2:Boxed W (w.heap.size+1+1) 3 (.int .i64 st.2.1)
 b3:Boxed W b4 3 (.int .i64 st.2.2)
theorem JoX.drew{w W:World}{vs:Value}{b4:Nat}{st:Int×Int×Int}(h:JoX w vs b4 st W):JoX w vs b4 st W.drew:=⟨h.b0,h.b1,h.b2,h.b3⟩
theorem JoX.letter{w W:World}{vs:Value}{b4:Nat}{st:Int×Int×Int}(h:JoX w vs b4 st W)(hb:w.heap.size+3<=b4)(m:Int):JoX w vs b4 (st.1,st.2.1,m) (W.setCell ⟨b4,0,none⟩ (.int .i64 m)):=
 ⟨h.b0.other (by omega) _,h.b1.other (by omega) _,h.b2.other (by omega) _,h.b3.set _⟩
theorem JoX.inp{w W:World}{vs:Value}{b4:Nat}{st:Int×Int×Int}(h:JoX w vs b4 st W)(hb:w.heap.size+3<=b4)(m:Int):JoX w vs b4 (m,st.2.1,st.2.2) (W.setCell ⟨w.heap.size+1,0,none⟩ (.int .i64 m)):=
 ⟨h.b0.other (by omega) _,h.b1.set _,h.b2.other (by omega) _,h.b3.other (by omega) _⟩
theorem JoX.out{w W:World}{vs:Value}{b4:Nat}{st:Int×Int×Int}(h:JoX w vs b4 st W)(hb:w.heap.size+3<=b4)(m:Int):JoX w vs b4 (st.1,m,st.2.2) (W.setCell ⟨w.heap.size+1+1,0,none⟩ (.int .i64 m)):=
 ⟨h.b0.other (by omega) _,h.b1.other (by omega) _,h.b2.set _,h.b3.other (by omega) _⟩
theorem PZ(w:World)(vs:Value)(b4:Nat){α:Type}(f:α->Int×Int×Int):Own (fun(s:α)W=>JoX w vs b4 (f s) W):=fun s X Y row h hg hr=>
 ⟨boxed_own _ _ (fun(_:Unit)=>vs) () X Y row h.b0 hg hr,boxed_own _ _ (fun s=>Value.int .i64 (f s).1) s X Y row h.b1 hg hr,boxed_own _ _ (fun s=>Value.int .i64 (f s).2.1) s X Y row h.b2 hg hr,boxed_own _ _ (fun s=>Value.int .i64 (f s).2.2) s X Y row h.b3 hg hr⟩
theorem GF{l:List Sig}{i:Int}(h0:0<=i)(h1:i<An l):Ax l=true:=by
 unfold An at h1
 cases hv:Ax l
 ·rw[hv]at h1;simp at h1;omega
 ·rfl
theorem Nq(w:World)(vl:Value)(l:List Sig)(i o:Int)(hi:I64 i)(ho:I64 o)(hK:Bt w)(hl:AJ w vl l)
  (h0:0<=i) (h1:i<An l) (h2:0<=o) (h3:o<Ah l):
  Calls Tryd.prog 61 #[vl,.int .i64 i,.int .i64 o] w (AC (.int .i64 (CB l i o)) w):=by
 have hI:Hid (∀W,Below w.heap.size w W->Calls Tryd.prog 40 #[vl] W (AC (.int .i64 (An l)) W)):=fun W hW=>Dq W vl l (hK.below hW) (hl.below hW)
 have hO:Hid (∀W,Below w.heap.size w W->Calls Tryd.prog 41 #[vl] W (AC (.int .i64 (Ah l)) W)):=fun W hW=>CG W vl l (hK.below hW) (hl.below hW)
 have hv:=GF h0 h1;obtain⟨hz,hl1,hl6,-⟩:=Ba hv;obtain⟨ao,cap,b,off,rfl,hl⟩:=hl;have hn:=hl.nb;have hb:b<w.heap.size:=World.block_lt_of_cell? w _ (hl.nn 0 (by omega));unfold I64 at hi ho;have hi9:=hi.2;have ho9:=ho.2;have HV:=Ab hv;have HZ:=Ab hz;have HALL:=Ab (Rd hz i o);clear hz hv hK hi ho;generalize An l=x at*;generalize Ah l=y at*;have d0:decide (i<0)=false:=decide_eq_false (by omega);have d1:decide (x<=i)=false:=decide_eq_false (by omega);have d2:decide (o<0)=false:=decide_eq_false (by omega);have d3:decide (y<=o)=false:=decide_eq_false (by omega)
 have hmx:Tryd.prog.follows .mixedOrders=true:=by kernel_rfl
 refine callsIn_wide (n:=5)|>.1 ?_;refine Bh Tryd.func61 rfl trivial ?_;simp only[Tryd.ntmps61,List.size_toArray,List.length_cons,List.length_nil,Nat.reduceAdd,Nat.reduceSub,Array.replicate_succ,Array.replicate_zero,List.push_toArray,List.append_toArray,List.nil_append,List.cons_append]
 gi_upto_region 1 with(fail)
 have hV:=JoY.mk' w (.slice ao l.length cap) i o;have hB0:Below w.heap.size w (((w.alloc (.cells #[.slice ao l.length cap] 33)).alloc (.cells #[.int .i64 i] 3)).alloc (.cells #[.int .i64 o] 3)):=(by repeat(first|exact Ad|assumption|apply AF|apply AE));generalize(((w.alloc (.cells #[.slice ao l.length cap] 33)).alloc (.cells #[.int .i64 i] 3)).alloc (.cells #[.int .i64 o] 3))=w4 at*
 gi_cut [28]from 62 (fun v wx=>v=.bool false/\Below w4.heap.size w4 wx)
 case first=>
  have q0:=hV.b0.cell;have q1:=hV.b1.cell;have q2:=hV.b2.cell;have hb9:Below w4.heap.size w4 w4:=Ad;refine wpIn_wide.2 ?_
  go_region_with (((first|(go_at_call 40;refine(hI.out _ (by repeat(first|exact Ad|assumption|(refine AF ?_ _)|(refine AE ?_ _)|(refine Below.drew ?_)))).mono ?_)|(go_at_call 41;refine(hO.out _ (by repeat(first|exact Ad|assumption|(refine AF ?_ _)|(refine AE ?_ _)|(refine Below.drew ?_)))).mono ?_));rintro e W3 ⟨rfl,hb3⟩;have hb4:Below w4.heap.size w4 W3:=(by first|exact JC (by assumption) hb3|exact If (by assumption) hb3);have hbw:Below w.heap.size w W3:=hB0.trans (hb4.mono hB0.size);have p0:=(AK hb4 hV.b0).cell;have p1:=(AK hb4 hV.b1).cell;have p2:=(AK hb4 hV.b2).cell))
  all_goals go_wp2_with fail
  all_goals
   go_meet
   case rel=>exact⟨rfl,by first|assumption|exact(by assumption:Below _ _ _).trans (Below.drew Ad)⟩
 case rest=>
  obtain⟨rfl,hb4⟩:=hcut;have hW:=hV.below hb4;have hB:=hB0.trans (hb4.mono hB0.size);clear hV hB0 hb4 hI hO;have q0:=hW.b0.cell
  have hz1:w.heap.size+3<=wc.heap.size:=by have:=hW.b2.lt;omega
  have hz9:w.heap.size<wc.heap.size:=by omega
  have hne1:¬w.heap.size=wc.heap.size:=by omega
  gi_wp2_with fail
  refine⟨trivial, ?_⟩;refine(callsIn_wide.2 (CY _ _ _ _)).mono ?_;rintro e w2 ⟨rfl,hw2⟩
  gi_wp2_with fail
  rw[<-hw2]
  have hB2:Below w.heap.size w w2:=by rw[hw2];exact hB.trans ((((Below.refl _ wc).alloc leR _).alloc (by simp) _).mono hB.size)
  have hX2:JoX w (.slice ao l.length cap) wc.heap.size (i,o,0) w2:=by
   rw[hw2];exact⟨(hW.b0.alloc _).alloc _,(hW.b1.alloc _).alloc _,(hW.b2.alloc _).alloc _,(Boxed.new wc 3 (.int .i64 0)).alloc _⟩
  have hZ2:wc.heap.size+1<w2.heap.size:=by rw[hw2];simp
  have e4:w2.cell? ⟨wc.heap.size+1,0,none⟩=some (.slice ao l.length cap):=by
   have:=EY (wc.alloc (.cells #[.int .i64 0] 3)) (.slice ao l.length cap) 33;rw[World.size_alloc]at this;rw[hw2];exact this
  clear hw2 hW hB q0 hz9 hne1;generalize wc.heap.size=b4 at*
  refine wpIn_rangeFunc_ownG rfl (by omega) (gf:=87) (lb:=#[.pointer (some ⟨b4+1,0,none⟩)]) rfl trivial (enters_of Tryd.func87 (by kernel_rfl) rfl)
   (BL Fence.wide (5-1) trivial rfl (by omega) (b4+1) w.heap.size b off cap ao l HV.out hb w2 (by omega) (by omega) e4 (hl.below hB2)) KpW.trans (KpW.put (by omega) (by omega)) Ad (fun _=>rfl)
   (fun pre W=>JoX w (.slice ao l.length cap) b4 (jF l i o pre) W/\Below w.heap.size w W)
   (fun _ _ _=>False)
   (OwnFrom.and (Own.from (PZ w _ b4 (fun pre=>jF l i o pre)) _) (ownFrom_below leR (by omega)))
   (fun _ _ _ _ _ hs _ _=>hs)
   ⟨hX2,hB2⟩
   ?a1 ?assign ?body ?done ?stop
  case assign=>
   intro lY x W K hK;unfold Hs
   gi_wp2
   exact hK
  case body=>
   rintro lY pre x W ⟨hX,hB⟩ hpl;obtain⟨x,hx⟩:=x
   have hd:1<=5-1-1:=by omega
   have q0:=hX.b0.cell;have q1:=hX.b1.cell;have f1:=hX.b1.frozen;have q2:=hX.b2.cell;have f2:=hX.b2.frozen;have q3:=hX.b3.cell;have f3:=hX.b3.frozen;have hlW:=hl.below hB;have n1:=hlW.ni x hx;have n2:=hlW.nz x hx;obtain rfl:=hl.ad (by omega);obtain⟨hs1,hs2⟩:=Dy HZ.out _ (List.getElem_mem hx);obtain⟨hp1,hp2⟩:=DG HZ.out hl6 x;obtain⟨⟨ga0,ga1⟩,⟨gb0,gb1⟩,gc0,gc1⟩:=R8 HZ.out hl6 h0 h2 pre;have HSN:Hid (jF l i o (pre++[⟨x,hx⟩])=if l[x].inp=true then((jF l i o pre).1/l[x].size,(jF l i o pre).2.1,(jF l i o pre).2.2+Ar (l.take x)*((jF l i o pre).1%l[x].size))else((jF l i o pre).1,(jF l i o pre).2.1/l[x].size,(jF l i o pre).2.2+Ar (l.take x)*((jF l i o pre).2.1%l[x].size))):=Jc _ _ _ _ _;have HX:=Ab hX
   have hpl6:(pre.length:Int)<=5:=by omega
   clear hlW hX;generalize Ar (l.take x)=pw at*;generalize l[x].size=z at*;generalize hst:jF l i o pre=st at*;clear hst;obtain⟨si,so,sn⟩:=st;simp only at ga0 ga1 gb0 gb1 gc0 gc1 q1 q2 q3
   have hz0:¬z=0:=by omega
   have hsn:0<=sn/\sn<=16384*5:=by omega
   obtain⟨hsn0,hsn1⟩:=hsn
   have hw5:w.heap.size+1≠b4:=by omega
   have hw6:w.heap.size+1+1≠b4:=by omega
   have hw7:w.heap.size≠b4:=by omega
   have hw8:b≠b4:=by omega
   have hw9:b≠w.heap.size+1:=by omega
   have hw10:b≠w.heap.size+1+1:=by omega
   clear gc0 gc1
   cases hq:l[x].inp
   ·have HSN2:Hid (jF l i o (pre++[⟨x,hx⟩])=(si,so/z,sn+pw*(so%z))):=by
     show _=_;rw[HSN.out,hq];rfl
    clear HSN;have hm0:=Int.emod_nonneg so (show z≠0 by omega);have hm1:=Int.emod_lt_of_pos so (show 0<z by omega);have hd0:=Int.ediv_nonneg gb0 (show 0<=z by omega);have hd1:=Int.ediv_le_self z gb0;have ht1:so.tmod z=so%z:=Int.tmod_eq_emod_of_nonneg gb0;have ht2:so.tdiv z=so/z:=Int.tdiv_eq_ediv_of_nonneg gb0;have hm:=G9 hp1 hp2 hm0 hm1 hs2;have hw1:IntKind.i64.wrap (so%z)=so%z:=IntWalk.i64_in _ ⟨by omega,by omega⟩;have hw2:IntKind.i64.wrap (so/z)=so/z:=IntWalk.i64_in _ ⟨by omega,by omega⟩
    have hw3:IntKind.i64.wrap (so%z*pw)=pw*(so%z):=by rw[Int.mul_comm (so%z) pw];exact IntWalk.i64_in _ ⟨by omega,by omega⟩
    have hw4:IntKind.i64.wrap (sn+pw*(so%z))=sn+pw*(so%z):=IntWalk.i64_in _ ⟨by omega,by omega⟩;generalize so/z=qt at*;generalize so%z=rm at*;clear hm
    gi_wp2
    refine A6 13 hmx (by kernel_rfl) (by kernel_rfl) ?_;simp only[List.take_succ_cons,List.take_zero,List.drop_succ_cons,List.drop_zero]
    repeat still_step
    refine wpStill_nil ?_
    gi_wp2
    refine A6 10 hmx (by kernel_rfl) (by kernel_rfl) ?_;simp only[List.take_succ_cons,List.take_zero,List.drop_succ_cons,List.drop_zero]
    repeat still_step
    refine wpStill_nil ?_
    gi_wp2
    have hk:=((((KK.refl w2.heap.size w.heap.size (b4+1) W)).drew.set (b:=b4) (by omega) (by omega) (.int .i64 (sn+pw*rm))).drew).set (b:=w.heap.size+1+1) (by omega) (by omega) (.int .i64 qt);exact⟨hk.1,hk.2,by rw[HSN2.out];exact(((HX.out.drew).letter hz1 _).drew).out hz1 _,hB.trans hk.2.1⟩
   ·have HSN2:Hid (jF l i o (pre++[⟨x,hx⟩])=(si/z,so,sn+pw*(si%z))):=by
     show _=_;rw[HSN.out,hq];rfl
    clear HSN;have hm0:=Int.emod_nonneg si (show z≠0 by omega);have hm1:=Int.emod_lt_of_pos si (show 0<z by omega);have hd0:=Int.ediv_nonneg ga0 (show 0<=z by omega);have hd1:=Int.ediv_le_self z ga0;have ht1:si.tmod z=si%z:=Int.tmod_eq_emod_of_nonneg ga0;have ht2:si.tdiv z=si/z:=Int.tdiv_eq_ediv_of_nonneg ga0;have hm:=G9 hp1 hp2 hm0 hm1 hs2;have hw1:IntKind.i64.wrap (si%z)=si%z:=IntWalk.i64_in _ ⟨by omega,by omega⟩;have hw2:IntKind.i64.wrap (si/z)=si/z:=IntWalk.i64_in _ ⟨by omega,by omega⟩
    have hw3:IntKind.i64.wrap (si%z*pw)=pw*(si%z):=by rw[Int.mul_comm (si%z) pw];exact IntWalk.i64_in _ ⟨by omega,by omega⟩
    have hw4:IntKind.i64.wrap (sn+pw*(si%z))=sn+pw*(si%z):=IntWalk.i64_in _ ⟨by omega,by omega⟩;generalize si/z=qt at*;generalize si%z=rm at*;clear hm
    gi_wp2
    refine A6 13 hmx (by kernel_rfl) (by kernel_rfl) ?_;simp only[List.take_succ_cons,List.take_zero,List.drop_succ_cons,List.drop_zero]
    repeat still_step
    refine wpStill_nil ?_
    gi_wp2
    refine A6 10 hmx (by kernel_rfl) (by kernel_rfl) ?_;simp only[List.take_succ_cons,List.take_zero,List.drop_succ_cons,List.drop_zero]
    repeat still_step
    refine wpStill_nil ?_
    gi_wp2
    have hk:=((((KK.refl w2.heap.size w.heap.size (b4+1) W)).drew.set (b:=b4) (by omega) (by omega) (.int .i64 (sn+pw*rm))).drew).set (b:=w.heap.size+1) (by omega) (by omega) (.int .i64 qt);exact⟨hk.1,hk.2,by rw[HSN2.out];exact(((HX.out.drew).letter hz1 _).drew).inp hz1 _,hB.trans hk.2.1⟩
  case done=>
   rintro D ys W hD rfl ⟨hX,hB⟩ hK;have q3:=hX.b3.cell
   gi_wp2
   refine⟨by simp,.inl ⟨_,_,rfl,run_takeDeferred hK, ?_⟩⟩;exact⟨_,results_tmp rfl _ _ _,by rw[HALL.out];rfl,hB.trans (belowK_b (w:=w) leR W D _ _ (by omega) hK rfl rfl)⟩
  case stop=>
   rintro D c pre W _ _ h _;exact h.elim
theorem KM(w:World)(vl:Value)(l:List Sig)(i o:Int)(hi:I64 i)(ho:I64 o)(hK:Bt w)(hl:AJ w vl l):
  Calls Tryd.prog 61 #[vl,.int .i64 i,.int .i64 o] w (AC (.int .i64 (AQ l i o)) w):=by
 by_cases h:0<=i/\i<An l/\0<=o/\o<Ah l
 ·have:=Nq w vl l i o hi ho hK hl h.1 h.2.1 h.2.2.1 h.2.2.2
  rwa [AQ,if_pos h]
 ·have:=Pm w vl l i o hi ho hK hl h
  rwa [AQ,if_neg h]
theorem FV{d z x:Int}(h0:0<=d)(h1:d<z):(d+z*x)%z=d:=by
 rw[Int.add_mul_emod_self_left];exact Int.emod_eq_of_lt h0 h1
theorem FU{d z x:Int}(h0:0<=d)(h1:d<z):(d+z*x)/z=x:=by
 rw[Int.add_mul_ediv_left _ _ (by omega),Int.ediv_eq_zero_of_lt h0 h1];omega
theorem GI(a z:Int):a%z+z*(a/z)=a:=Int.emod_add_mul_ediv a z
theorem Fs(a:Int){z:Int}(h:2<=z):0<=a%z/\a%z<z:=⟨Int.emod_nonneg a (by omega),Int.emod_lt_of_pos a (by omega)⟩
theorem KX{a z p:Int}(h:2<=z)(h0:0<=a)(h1:a<z*p):0<=a/z/\a/z<p:=⟨Int.ediv_nonneg h0 (by omega),Int.ediv_lt_of_lt_mul (by omega) (by rw[Int.mul_comm];exact h1)⟩
theorem LQ(q:Bool){l:List Sig}(hz:∀s∈l,AV s=true):∀a,0<=Ct q l a/\Ct q l a<A8 (fun s=>s.inp==q) l:=by
 induction l with
 |nil=>intro a;simp[Ct,A8]
 |cons s r ih=>
  intro a;have hs:=(Br hz s (by simp)).1;obtain⟨h0,h1⟩:=ih (fun x hx=>hz x (List.mem_cons_of_mem _ hx)) (a/s.size);obtain⟨d0,d1⟩:=Fs a hs;simp only[Ct,A8]
  split
  ·exact CK d0 d1 h0 h1
  ·exact⟨h0,h1⟩
theorem MI{l:List Sig}(hz:∀s∈l,AV s=true):∀a,0<=a->a<Ar l->CB l (Ct true l a) (Ct false l a)=a:=by
 induction l with
 |nil=>intro a h0 h1;simp[Ar]at h1;simp[CB];omega
 |cons s r ih=>
  intro a h0 h1;have hs:=(Br hz s (by simp)).1;obtain⟨d0,d1⟩:=Fs a hs;simp only[Ar]at h1;obtain⟨e0,e1⟩:=KX hs h0 h1;have IH:=ih (fun x hx=>hz x (List.mem_cons_of_mem _ hx)) (a/s.size) e0 e1;simp only[CB,Ct]
  cases hq:s.inp
  ·simp only[Bool.false_eq_true,if_false,beq_self_eq_true,if_true,show(false==true)=false from rfl];rw[FV d0 d1,FU d0 d1,IH,GI]
  ·simp only[if_true,beq_self_eq_true,Bool.false_eq_true,if_false,show(true==false)=false from rfl];rw[FV d0 d1,FU d0 d1,IH,GI]
theorem P3{l:List Sig}(hz:∀s∈l,AV s=true):∀i o,0<=CB l i o/\CB l i o<Ar l:=by
 induction l with
 |nil=>intro i o;simp[CB,Ar]
 |cons s r ih=>
  intro i o;have hs:=(Br hz s (by simp)).1;simp only[CB,Ar]
  split
  ·obtain⟨d0,d1⟩:=Fs i hs;obtain⟨h0,h1⟩:=ih (fun x hx=>hz x (List.mem_cons_of_mem _ hx)) (i/s.size) o;exact CK d0 d1 h0 h1
  ·obtain⟨d0,d1⟩:=Fs o hs;obtain⟨h0,h1⟩:=ih (fun x hx=>hz x (List.mem_cons_of_mem _ hx)) i (o/s.size);exact CK d0 d1 h0 h1
theorem MG{l:List Sig}(hz:∀s∈l,AV s=true):∀i o,0<=i->i<A8 (fun s=>s.inp==true) l->0<=o->o<A8 (fun s=>s.inp==false) l->
  Ct true l (CB l i o)=i/\Ct false l (CB l i o)=o:=by
 induction l with
 |nil=>intro i o h0 h1 h2 h3;simp[A8]at h1 h3;simp[Ct];omega
 |cons s r ih=>
  intro i o h0 h1 h2 h3;have hs:=(Br hz s (by simp)).1
  have hzr:∀s∈r,AV s=true:=fun x hx=>hz x (List.mem_cons_of_mem _ hx)
  simp only[A8]at h1 h3;simp only[CB,Ct]
  cases hq:s.inp
  ·simp only[hq,show(false==true)=false from rfl,beq_self_eq_true,Bool.false_eq_true,if_false,if_true]at h1 h3⊢;obtain⟨d0,d1⟩:=Fs o hs;obtain⟨e0,e1⟩:=KX hs h2 h3;obtain⟨g0,g1⟩:=ih hzr i (o/s.size) h0 h1 e0 e1;rw[FV d0 d1,FU d0 d1,g0,g1,GI];exact⟨rfl,rfl⟩
  ·simp only[hq,show(true==false)=false from rfl,beq_self_eq_true,Bool.false_eq_true,if_false,if_true]at h1 h3⊢;obtain⟨d0,d1⟩:=Fs i hs;obtain⟨e0,e1⟩:=KX hs h0 h1;obtain⟨g0,g1⟩:=ih hzr (i/s.size) o e0 e1 h2 h3;rw[FV d0 d1,FU d0 d1,g0,g1,GI];exact⟨rfl,rfl⟩
theorem Ed{l:List Sig}(hv:Ax l=true):AB l=Ar l:=by rw[AB,hv,if_pos rfl,Lg]
theorem EO{l:List Sig}(hv:Ax l=true):An l=A8 (fun s=>s.inp==true) l:=by
 rw[<-Qo,IN,hv,if_pos rfl]
theorem Eg{l:List Sig}(hv:Ax l=true):Ah l=A8 (fun s=>s.inp==false) l:=by
 rw[<-OX,IN,hv,if_pos rfl]
theorem M0{l:List Sig}(hz:∀s∈l,AV s=true)(h1:1<=l.length):2<=Ar l:=by
 cases l with
 |nil=>simp at h1
 |cons s r=>
  have hs:=Br hz s (by simp);have hp:=D2 (l:=r) (fun x hx=>hz x (List.mem_cons_of_mem _ hx));have:=Int.mul_le_mul hs.1 hp (by omega) (by omega);simp only[Ar];omega
theorem Fn{l:List Sig}(hv:Ax l=true):2<=AB l/\AB l<=64:=by
 obtain⟨hz,hl1,hl6,hp⟩:=Ba hv;rw[Ed hv];exact⟨M0 hz hl1,hp⟩
theorem IA(ch:Sig->Bool){l:List Sig}(hz:∀s∈l,AV s=true):1<=A8 ch l:=(ON ch l hz).1
theorem C5{l:List Sig}(hv:Ax l=true):(1<=An l/\An l<=64)/\1<=Ah l/\Ah l<=64:=by
 obtain⟨hz,hl1,hl6,hp⟩:=Ba hv;have h1:=IA (fun s=>s.inp==true) hz;have h2:=IA (fun s=>s.inp==false) hz;rw[<-EO hv]at h1;rw[<-Eg hv]at h2
 have h3:An l*Ah l=Ar l:=by
  rw[An,Ah,hv,if_pos rfl,if_pos rfl,Ld]
 have h4:=Int.mul_le_mul (Int.le_refl (An l)) h2 (by omega) (by omega);have h5:=Int.mul_le_mul h1 (Int.le_refl (Ah l)) (by omega) (by omega);omega
theorem K0{l:List Sig}(hv:Ax l=true){a:Int}(h0:0<=a)(h1:a<AB l):
  (0<=CQ l true a/\CQ l true a<An l)/\(0<=CQ l false a/\CQ l false a<Ah l)/\AQ l (CQ l true a) (CQ l false a)=a:=by
 obtain⟨hz,hl1,hl6,hp⟩:=Ba hv
 have e:∀q,CQ l q a=Ct q l a:=fun q=>if_pos ⟨h0,h1⟩
 rw[e,e,EO hv,Eg hv];have b1:=LQ true hz a;have b2:=LQ false hz a;refine⟨b1,b2, ?_⟩;rw[AQ,if_pos ⟨b1.1,by rw[EO hv];exact b1.2,b2.1,by rw[Eg hv];exact b2.2⟩];exact MI hz a h0 (by rwa [Ed hv]at h1)
theorem DX{l:List Sig}(hv:Ax l=true){i o:Int}(h0:0<=i)(h1:i<An l)(h2:0<=o)(h3:o<Ah l):
  (0<=AQ l i o/\AQ l i o<AB l)/\CQ l true (AQ l i o)=i/\CQ l false (AQ l i o)=o:=by
 obtain⟨hz,hl1,hl6,hp⟩:=Ba hv;have e:AQ l i o=CB l i o:=if_pos ⟨h0,h1,h2,h3⟩;have b:=P3 hz i o;rw[<-Ed hv]at b;have hh:=MG hz i o h0 (by rwa [EO hv]at h1) h2 (by rwa [Eg hv]at h3);rw[e];refine⟨b, ?_, ?_⟩
 ·rw[CQ,if_pos b];exact hh.1
 ·rw[CQ,if_pos b];exact hh.2
end Go.Proofs.YtncjeamdkjcebaaDoor
