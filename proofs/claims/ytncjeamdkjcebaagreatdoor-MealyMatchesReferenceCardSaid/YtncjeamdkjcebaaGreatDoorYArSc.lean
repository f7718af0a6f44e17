/- Signals. -/
import Derived.Test.YtncjeamdkjcebaaGreatDoorYArSb
set_option linter.all false
set_option maxHeartbeats 4000000
set_option maxRecDepth 100000
namespace Go.Proofs.YtncjeamdkjcebaaGreatDoor
open Go.RowKit
open Go.RowKit Go.Shelf
open Go
def S2(l:List Sig)(a:Int)(w:World)(e:Ending)(w':World):Prop:=e=.returned (.tuple #[.int .i64 (C1 l true a),.int .i64 (C1 l false a)])/\Below w.heap.size w w'
structure HaX(w:World)(vs:Value)(a:Int)(W:World):Prop where
 b0:Boxed W w.heap.size 22 vs
 b1:Boxed W (w.heap.size+1) 3 (.int .i64 a)
theorem HaX.below{w W W3:World}{vs:Value}{a:Int}(h:HaX w vs a W)(hb:Below W.heap.size W W3):HaX w vs a W3:=⟨AQ hb h.b0,AQ hb h.b1⟩
theorem HaX.mk'(w:World)(vs:Value)(a:Int):HaX w vs a ((w.alloc (.cells #[vs] 22)).alloc (.cells #[.int .i64 a] 3)):=by
 have e1:=Boxed.new (w.alloc (.cells #[vs] 22)) 3 (.int .i64 a);have e0:=(Boxed.new w 22 vs).alloc (.cells #[.int .i64 a] 3);simp only[World.size_alloc]at e1;exact⟨e0,e1⟩
theorem Qq(w:World)(vl:Value)(l:List Sig)(a:Int)(ha:I64 a)(hK:B7 w)(hl:AD w vl l):
  Calls Tryz.prog 71 #[vl,.int .i64 a] w (S2 l a w):=by
 have hL:Hid (∀W,Below w.heap.size w W->Calls Tryz.prog 67 #[vl] W (Av (.int .i64 (Ay l)) W)):=fun W hW=>EH W vl l (hK.below hW) (hl.below hW)
 obtain⟨ao,d,b,n,rfl,hl⟩:=hl;have hn:=hl.nb;have HI:=Ab ha
 have HH:Hid (∀(q:Bool)(W:World),0<=a->a<Ay l->Below w.heap.size w W->HaX w (.slice ao l.length d) a W->Calls Tryz.prog 109 #[.bool q,.pointer (some ⟨w.heap.size,0,none⟩),.pointer (some ⟨w.heap.size+1,0,none⟩)] W (Av (.int .i64 (C1 l q a)) W)):=fun q W h0 h1 hW hX=>by
  have:=RZ W ao d b n w.heap.size (w.heap.size+1) l a q (hl.below hW) (EW h0 h1) h0 HI.out hX.b0.cell hX.b1.cell
  rwa [C1,if_pos ⟨h0,h1⟩]
 have k:Hid (¬(0<=a/\a<Ay l)->∀q,C1 l q a=0):=fun h q=>if_neg h
 unfold I64 at ha;clear hl hK;obtain⟨x,HX⟩:∃x,Hid (Ay l=x):=⟨_,rfl⟩;rw[HX.out]at hL HH k
 rcases(by omega:a<0\/(0<=a/\x<=a)\/(0<=a/\a<x))with h0|⟨h0,h1⟩|⟨h0,h1⟩
 all_goals
  first
  |have d0:decide (a<0)=false:=decide_eq_false (by omega)
  |have d0:decide (a<0)=true:=decide_eq_true (by omega)
  first
  |have d1:decide (x<=a)=false:=decide_eq_false (by omega)
  |have d1:decide (x<=a)=true:=decide_eq_true (by omega)
  |skip
  go_enter Tryz.func71,Tryz.ntmps71
  go_upto_region 1 with(fail)
  have hV:=HaX.mk' w (.slice ao l.length d) a;have i:Below w.heap.size w ((w.alloc (.cells #[.slice ao l.length d] 22)).alloc (.cells #[.int .i64 a] 3)):=(by repeat(first|exact Ad|assumption|apply AE|apply AB));generalize((w.alloc (.cells #[.slice ao l.length d] 22)).alloc (.cells #[.int .i64 a] 3))=w4 at*
  first
  |(have _t:x<=a\/a<0:=by omega
    go_cut [14] (fun v wx=>v=.bool true/\Below w4.heap.size w4 wx))
  |(have _t:a<x:=by omega
    go_cut [14] (fun v wx=>v=.bool false/\Below w4.heap.size w4 wx))
  case first=>
   have q0:=hV.b0.cell;have q1:=hV.b1.cell
   first
   |(have _t:0<=a:=h0
     go_region_with (go_at_call 67;refine(hL.out _ (by repeat(first|exact Ad|assumption|(refine AE ?_ _)|(refine AB ?_ _)|(refine Below.drew ?_)))).mono ?_;rintro e W3 ⟨rfl,j⟩;have c:Below w4.heap.size w4 W3:=(by first|exact j|exact(Below.drew Ad).trans j|exact(Below.drew (Below.drew Ad)).trans j);have p0:=(AQ c hV.b0).cell;have p1:=(AQ c hV.b1).cell)
     all_goals go_wp2_with fail
     all_goals
      go_meet
      case rel=>exact⟨rfl,by first|assumption|exact(by assumption:Below _ _ _).trans (Below.drew Ad)⟩)
   |(go_quiet (fail)
     go_wp2_with fail
     go_meet
     case rel=>exact⟨rfl,Aj _ _ _⟩)
  case rest=>
   obtain⟨rfl,c⟩:=hcut;have hW:=hV.below c;have hB:=i.trans (c.mono i.size);clear hV i c hL
   first
   |(have _t:0<=a/\a<x:=by omega
     go_wp2_with fail
     refine(HH.out true _ h0 h1 hB hW).mono ?_;rintro e w5 ⟨rfl,f⟩
     go_wp2_with fail
     refine(HH.out false _ h0 h1 (hB.trans (f.mono hB.size)) (hW.below f)).mono ?_;rintro e w6 ⟨rfl,m⟩;go_wp2;go_ret2
     exact⟨rfl,(hB.trans (f.mono hB.size)).trans (m.mono (hB.trans (f.mono hB.size)).size)⟩)
   |(have hr:=Ab (k.out (by omega))
     go_wp2;go_ret2
     exact⟨by rw[hr.out,hr.out];rfl,hB⟩)
theorem Td(w:World)(vl:Value)(l:List Sig)(a:Int)(ha:I64 a)(hK:B7 w)(hl:AD w vl l):
  Calls Tryz.prog 33 #[vl,.int .i64 a] w (Av (.int .i64 (C1 l false a)) w):=by
 have H:=Ab (Qq w vl l a ha hK hl);obtain⟨ao,c,b,d,rfl,hl⟩:=hl;clear hl hK ha
 go_enter Tryz.func33,Tryz.ntmps33
 go_wp2_with fail
 refine H.out.mono ?_;rintro e w1 ⟨rfl,hb⟩;go_wp2;go_ret;exact⟨rfl,hb⟩
structure JoY(w:World)(vs:Value)(i o:Int)(W:World):Prop where
 b0:Boxed W w.heap.size 22 vs
 b1:Boxed W (w.heap.size+1) 3 (.int .i64 i)
 b2:Boxed W (w.heap.size+1+1) 3 (.int .i64 o)
theorem JoY.below{w W W3:World}{vs:Value}{i o:Int}(h:JoY w vs i o W)(hb:Below W.heap.size W W3):JoY w vs i o W3:=⟨AQ hb h.b0,AQ hb h.b1,AQ hb h.b2⟩
theorem JoY.mk'(w:World)(vs:Value)(i o:Int):JoY w vs i o (((w.alloc (.cells #[vs] 22)).alloc (.cells #[.int .i64 i] 3)).alloc (.cells #[.int .i64 o] 3)):=by
 have e2:=Boxed.new ((w.alloc (.cells #[vs] 22)).alloc (.cells #[.int .i64 i] 3)) 3 (.int .i64 o);have e1:=(Boxed.new (w.alloc (.cells #[vs] 22)) 3 (.int .i64 i)).alloc (.cells #[.int .i64 o] 3);have e0:=((Boxed.new w 22 vs).alloc (.cells #[.int .i64 i] 3)).alloc (.cells #[.int .i64 o] 3);simp only[World.size_alloc]at e1 e2;exact⟨e0,e1,e2⟩
theorem Lh{w4 W W3:World}(h:Below w4.heap.size w4 W)(hb:Below W.heap.size W W3):Below w4.heap.size w4 W3:=h.trans (hb.mono h.size)
theorem JD{w4 W W3:World}(h:Below w4.heap.size w4 W)(hb:Below W.drew.heap.size W.drew W3):Below w4.heap.size w4 W3:=(h.trans (Below.drew Ad)).trans (hb.mono h.size)
theorem Rp(w:World)(vl:Value)(l:List Sig)(i o:Int)(hi:I64 i)(ho:I64 o)(hK:B7 w)(hl:AD w vl l)
  (m:¬(0<=i/\i<Al l/\0<=o/\o<Ai l)):
  Calls Tryz.prog 93 #[vl,.int .i64 i,.int .i64 o] w (Av (.int .i64 0) w):=by
 have hI:Hid (∀W,Below w.heap.size w W->Calls Tryz.prog 78 #[vl] W (Av (.int .i64 (Al l)) W)):=fun W hW=>Eb W vl l (hK.below hW) (hl.below hW)
 have hO:Hid (∀W,Below w.heap.size w W->Calls Tryz.prog 79 #[vl] W (Av (.int .i64 (Ai l)) W)):=fun W hW=>Dg W vl l (hK.below hW) (hl.below hW)
 obtain⟨ao,d,b,n,rfl,hl⟩:=hl;have hn:=hl.nb;unfold I64 at hi ho;clear hl hK;generalize Al l=x at*;generalize Ai l=y at*
 rcases(by omega:i<0\/(0<=i/\x<=i)\/(0<=i/\i<x/\o<0)\/(0<=i/\i<x/\0<=o/\y<=o))with h0|⟨h0,h1⟩|⟨h0,h1,h2⟩|⟨h0,h1,h2,h3⟩
 all_goals
  first
  |have d0:decide (i<0)=false:=decide_eq_false (by omega)
  |have d0:decide (i<0)=true:=decide_eq_true (by omega)
  first
  |have d1:decide (x<=i)=false:=decide_eq_false (by omega)
  |have d1:decide (x<=i)=true:=decide_eq_true (by omega)
  |skip
  first
  |have d2:decide (o<0)=false:=decide_eq_false (by omega)
  |have d2:decide (o<0)=true:=decide_eq_true (by omega)
  |skip
  first
  |have d3:decide (y<=o)=true:=decide_eq_true (by omega)
  |skip
  go_enter Tryz.func93,Tryz.ntmps93
  go_upto_region 1 with(fail)
  have hV:=JoY.mk' w (.slice ao l.length d) i o;have c:Below w.heap.size w (((w.alloc (.cells #[.slice ao l.length d] 22)).alloc (.cells #[.int .i64 i] 3)).alloc (.cells #[.int .i64 o] 3)):=(by repeat(first|exact Ad|assumption|apply AE|apply AB));generalize(((w.alloc (.cells #[.slice ao l.length d] 22)).alloc (.cells #[.int .i64 i] 3)).alloc (.cells #[.int .i64 o] 3))=w4 at*
  go_cut [28] (fun v wx=>v=.bool true/\Below w4.heap.size w4 wx)
  case first=>
   have q0:=hV.b0.cell;have q1:=hV.b1.cell;have q2:=hV.b2.cell;have j:Below w4.heap.size w4 w4:=Ad
   first
   |(have _t:0<=i:=h0
     go_region_with (((first|(go_at_call 78;refine(hI.out _ (by repeat(first|exact Ad|assumption|(refine AE ?_ _)|(refine AB ?_ _)|(refine Below.drew ?_)))).mono ?_)|(go_at_call 79;refine(hO.out _ (by repeat(first|exact Ad|assumption|(refine AE ?_ _)|(refine AB ?_ _)|(refine Below.drew ?_)))).mono ?_));rintro e W3 ⟨rfl,f⟩;have a:Below w4.heap.size w4 W3:=(by first|exact Lh (by assumption) f|exact JD (by assumption) f);have k:Below w.heap.size w W3:=c.trans (a.mono c.size);have p0:=(AQ a hV.b0).cell;have p1:=(AQ a hV.b1).cell;have p2:=(AQ a hV.b2).cell))
     all_goals go_wp2_with fail
     all_goals
      go_meet
      case rel=>exact⟨rfl,by first|assumption|exact(by assumption:Below _ _ _).trans (Below.drew Ad)⟩)
   |(go_quiet (fail)
     go_wp2_with fail
     go_meet
     case rel=>exact⟨rfl,Aj _ _ _⟩)
  case rest=>
   obtain⟨rfl,a⟩:=hcut;have hB:=c.trans (a.mono c.size);clear hV c a;go_wp2;go_ret;exact⟨rfl,hB⟩
attribute [local go_sem] Oper.semAt_some
structure JoX(w:World)(vs:Value)(b4:Nat)(st:Int×Int×Int)(W:World):Prop where
 b0:Boxed W w.heap.size 22 vs
 b1:Boxed W (w.heap.size+1) 3 (.int .i64 st.1)
 b2:Boxed W (w.heap.size+1+1) 3 (.int .i64 st.2.1)
 b3:Boxed W b4 3 (.int .i64 st.2.2)
theorem JoX.drew{w W:World}{vs:Value}{b4:Nat}{st:Int×Int×Int}(h:JoX w vs b4 st W):JoX w vs b4 st W.drew:=⟨h.b0,h.b1,h.b2,h.b3⟩
theorem JoX.letter{w W:World}{vs:Value}{b4:Nat}{st:Int×Int×Int}(h:JoX w vs b4 st W)(hb:w.heap.size+3<=b4)(m:Int):JoX w vs b4 (st.1,st.2.1,m) (W.setCell ⟨b4,0,none⟩ (.int .i64 m)):=
 ⟨h.b0.other (by omega) _,h.b1.other (by omega) _,h.b2.other (by omega) _,h.b3.set _⟩
theorem JoX.inp{w W:World}{vs:Value}{b4:Nat}{st:Int×Int×Int}(h:JoX w vs b4 st W)(hb:w.heap.size+3<=b4)(m:Int):JoX w vs b4 (m,st.2.1,st.2.2) (W.setCell ⟨w.heap.size+1,0,none⟩ (.int .i64 m)):=
 ⟨h.b0.other (by omega) _,h.b1.set _,h.b2.other (by omega) _,h.b3.other (by omega) _⟩
theorem JoX.out{w W:World}{vs:Value}{b4:Nat}{st:Int×Int×Int}(h:JoX w vs b4 st W)(hb:w.heap.size+3<=b4)(m:Int):JoX w vs b4 (st.1,m,st.2.2) (W.setCell ⟨w.heap.size+1+1,0,none⟩ (.int .i64 m)):=
 ⟨h.b0.other (by omega) _,h.b1.other (by omega) _,h.b2.set _,h.b3.other (by omega) _⟩
theorem R8(w:World)(vs:Value)(b4:Nat){α:Type}(f:α->Int×Int×Int):Own (fun(s:α)W=>JoX w vs b4 (f s) W):=fun s X Y row h hg hr=>
 ⟨boxed_own _ _ (fun(_:Unit)=>vs) () X Y row h.b0 hg hr,boxed_own _ _ (fun s=>Value.int .i64 (f s).1) s X Y row h.b1 hg hr,boxed_own _ _ (fun s=>Value.int .i64 (f s).2.1) s X Y row h.b2 hg hr,boxed_own _ _ (fun s=>Value.int .i64 (f s).2.2) s X Y row h.b3 hg hr⟩
theorem Is{l:List Sig}{i:Int}(h0:0<=i)(h1:i<Al l):As l=true:=by
 unfold Al at h1
 cases hv:As l
 ·rw[hv]at h1;simp at h1;omega
 ·rfl
theorem Pw(w:World)(vl:Value)(l:List Sig)(i o:Int)(hi:I64 i)(ho:I64 o)(hK:B7 w)(hl:AD w vl l)
  (h0:0<=i) (h1:i<Al l) (h2:0<=o) (h3:o<Ai l):
  Calls Tryz.prog 93 #[vl,.int .i64 i,.int .i64 o] w (Av (.int .i64 (CE l i o)) w):=by
 have hI:Hid (∀W,Below w.heap.size w W->Calls Tryz.prog 78 #[vl] W (Av (.int .i64 (Al l)) W)):=fun W hW=>Eb W vl l (hK.below hW) (hl.below hW)
 have hO:Hid (∀W,Below w.heap.size w W->Calls Tryz.prog 79 #[vl] W (Av (.int .i64 (Ai l)) W)):=fun W hW=>Dg W vl l (hK.below hW) (hl.below hW)
 have hv:=Is h0 h1;obtain⟨hz,a9,ag,-⟩:=AN hv;obtain⟨ao,cap,b,off,rfl,hl⟩:=hl;have hn:=hl.nb;have hb:b<w.heap.size:=World.block_lt_of_cell? w _ (hl.nn 0 (by omega));unfold I64 at hi ho;have a8:=hi.2;have ba:=ho.2;have HV:=Ab hv;have HZ:=Ab hz;have ab:=Ab (Tx hz i o);clear hz hv hK hi ho;generalize Al l=x at*;generalize Ai l=y at*;have d0:decide (i<0)=false:=decide_eq_false (by omega);have d1:decide (x<=i)=false:=decide_eq_false (by omega);have d2:decide (o<0)=false:=decide_eq_false (by omega);have d3:decide (y<=o)=false:=decide_eq_false (by omega)
 have q:Tryz.prog.follows .mixedOrders=true:=by kernel_rfl
 refine callsIn_wide (n:=5)|>.1 ?_;refine Bz Tryz.func93 rfl trivial ?_;simp only[Tryz.ntmps93,List.size_toArray,List.length_cons,List.length_nil,Nat.reduceAdd,Nat.reduceSub,Array.replicate_succ,Array.replicate_zero,List.push_toArray,List.append_toArray,List.nil_append,List.cons_append]
 gi_upto_region 1 with(fail)
 have hV:=JoY.mk' w (.slice ao l.length cap) i o;have m:Below w.heap.size w (((w.alloc (.cells #[.slice ao l.length cap] 22)).alloc (.cells #[.int .i64 i] 3)).alloc (.cells #[.int .i64 o] 3)):=(by repeat(first|exact Ad|assumption|apply AE|apply AB));generalize(((w.alloc (.cells #[.slice ao l.length cap] 22)).alloc (.cells #[.int .i64 i] 3)).alloc (.cells #[.int .i64 o] 3))=w4 at*
 gi_cut [28]from 62 (fun v wx=>v=.bool false/\Below w4.heap.size w4 wx)
 case first=>
  have q0:=hV.b0.cell;have q1:=hV.b1.cell;have q2:=hV.b2.cell;have a6:Below w4.heap.size w4 w4:=Ad;refine wpIn_wide.2 ?_
  go_region_with (((first|(go_at_call 78;refine(hI.out _ (by repeat(first|exact Ad|assumption|(refine AE ?_ _)|(refine AB ?_ _)|(refine Below.drew ?_)))).mono ?_)|(go_at_call 79;refine(hO.out _ (by repeat(first|exact Ad|assumption|(refine AE ?_ _)|(refine AB ?_ _)|(refine Below.drew ?_)))).mono ?_));rintro e W3 ⟨rfl,af⟩;have a:Below w4.heap.size w4 W3:=(by first|exact Lh (by assumption) af|exact JD (by assumption) af);have a7:Below w.heap.size w W3:=m.trans (a.mono m.size);have p0:=(AQ a hV.b0).cell;have p1:=(AQ a hV.b1).cell;have p2:=(AQ a hV.b2).cell))
  all_goals go_wp2_with fail
  all_goals
   go_meet
   case rel=>exact⟨rfl,by first|assumption|exact(by assumption:Below _ _ _).trans (Below.drew Ad)⟩
 case rest=>
  obtain⟨rfl,a⟩:=hcut;have hW:=hV.below a;have hB:=m.trans (a.mono m.size);clear hV m a hI hO;have q0:=hW.b0.cell
  have r:w.heap.size+3<=wc.heap.size:=by have:=hW.b2.lt;omega
  have az:w.heap.size<wc.heap.size:=by omega
  have ah:¬w.heap.size=wc.heap.size:=by omega
  gi_wp2_with fail
  refine⟨trivial, ?_⟩;refine(callsIn_wide.2 (DJ _ _ _ _)).mono ?_;rintro e w2 ⟨rfl,d⟩
  gi_wp2_with fail
  rw[<-d]
  have hB2:Below w.heap.size w w2:=by rw[d];exact hB.trans ((((Below.refl _ wc).alloc leR _).alloc (by simp) _).mono hB.size)
  have an:JoX w (.slice ao l.length cap) wc.heap.size (i,o,0) w2:=by
   rw[d];exact⟨(hW.b0.alloc _).alloc _,(hW.b1.alloc _).alloc _,(hW.b2.alloc _).alloc _,(Boxed.new wc 3 (.int .i64 0)).alloc _⟩
  have a5:wc.heap.size+1<w2.heap.size:=by rw[d];simp
  have e4:w2.cell? ⟨wc.heap.size+1,0,none⟩=some (.slice ao l.length cap):=by
   have:=FY (wc.alloc (.cells #[.int .i64 0] 3)) (.slice ao l.length cap) 22;rw[World.size_alloc]at this;rw[d];exact this
  clear d hW hB q0 az ah;generalize wc.heap.size=b4 at*
  refine wpIn_rangeFunc_ownG rfl (by omega) (gf:=108) (lb:=#[.pointer (some ⟨b4+1,0,none⟩)]) rfl trivial (enters_of Tryz.func108 (by kernel_rfl) rfl)
   (Ci Fence.wide (5-1) trivial rfl (by omega) (b4+1) w.heap.size b off cap ao l HV.out hb w2 (by omega) (by omega) e4 (hl.below hB2)) KpW.trans (KpW.put (by omega) (by omega)) Ad (fun _=>rfl)
   (fun pre W=>JoX w (.slice ao l.length cap) b4 (jF l i o pre) W/\Below w.heap.size w W)
   (fun _ _ _=>False)
   (OwnFrom.and (Own.from (R8 w _ b4 (fun pre=>jF l i o pre)) _) (ownFrom_below leR (by omega)))
   (fun _ _ _ _ _ hs _ _=>hs)
   ⟨an,hB2⟩
   ?a1 ?assign ?body ?done ?stop
  case assign=>
   intro lY x W K hK;unfold Jp
   gi_wp2
   exact hK
  case body=>
   rintro lY pre x W ⟨hX,hB⟩ bb;obtain⟨x,hx⟩:=x
   have hd:1<=5-1-1:=by omega
   have q0:=hX.b0.cell;have q1:=hX.b1.cell;have f1:=hX.b1.frozen;have q2:=hX.b2.cell;have f2:=hX.b2.frozen;have q3:=hX.b3.cell;have f3:=hX.b3.frozen;have s:=hl.below hB;have n1:=s.ni x hx;have n2:=s.nz x hx;obtain rfl:=hl.ad (by omega);obtain⟨bc,ak⟩:=CX HZ.out _ (List.getElem_mem hx);obtain⟨ai,aj⟩:=DR HZ.out ag x;obtain⟨⟨j,al⟩,⟨k,am⟩,ac,ae⟩:=Un HZ.out ag h0 h2 pre;have p:Hid (jF l i o (pre++[⟨x,hx⟩])=if l[x].inp=true then((jF l i o pre).1/l[x].size,(jF l i o pre).2.1,(jF l i o pre).2.2+An (l.take x)*((jF l i o pre).1%l[x].size))else((jF l i o pre).1,(jF l i o pre).2.1/l[x].size,(jF l i o pre).2.2+An (l.take x)*((jF l i o pre).2.1%l[x].size))):=KF _ _ _ _ _;have HX:=Ab hX
   have a0:(pre.length:Int)<=5:=by omega
   clear s hX;generalize An (l.take x)=pw at*;generalize l[x].size=z at*;generalize hst:jF l i o pre=st at*;clear hst;obtain⟨si,so,sn⟩:=st;simp only at j al k am ac ae q1 q2 q3
   have bi:¬z=0:=by omega
   have ar:0<=sn/\sn<=16384*5:=by omega
   obtain⟨a2,a3⟩:=ar
   have bd:w.heap.size+1≠b4:=by omega
   have be:w.heap.size+1+1≠b4:=by omega
   have bf:w.heap.size≠b4:=by omega
   have bg:b≠b4:=by omega
   have bh:b≠w.heap.size+1:=by omega
   have a4:b≠w.heap.size+1+1:=by omega
   clear ac ae
   cases hq:l[x].inp
   ·have f:Hid (jF l i o (pre++[⟨x,hx⟩])=(si,so/z,sn+pw*(so%z))):=by
     show _=_;rw[p.out,hq];rfl
    clear p;have u:=Int.emod_nonneg so (show z≠0 by omega);have aa:=Int.emod_lt_of_pos so (show 0<z by omega);have ap:=Int.ediv_nonneg k (show 0<=z by omega);have aq:=Int.ediv_le_self z k;have au:so.tmod z=so%z:=Int.tmod_eq_emod_of_nonneg k;have av:so.tdiv z=so/z:=Int.tdiv_eq_ediv_of_nonneg k;have hm:=I5 ai aj u aa ak;have aw:IntKind.i64.wrap (so%z)=so%z:=IntWalk.i64_in _ ⟨by omega,by omega⟩;have d:IntKind.i64.wrap (so/z)=so/z:=IntWalk.i64_in _ ⟨by omega,by omega⟩
    have ax:IntKind.i64.wrap (so%z*pw)=pw*(so%z):=by rw[Int.mul_comm (so%z) pw];exact IntWalk.i64_in _ ⟨by omega,by omega⟩
    have ay:IntKind.i64.wrap (sn+pw*(so%z))=sn+pw*(so%z):=IntWalk.i64_in _ ⟨by omega,by omega⟩;generalize so/z=qt at*;generalize so%z=rm at*;clear hm
    gi_wp2
    refine Bi 13 q (by kernel_rfl) (by kernel_rfl) ?_;simp only[List.take_succ_cons,List.take_zero,List.drop_succ_cons,List.drop_zero]
    repeat still_step
    refine wpStill_nil ?_
    gi_wp2
    refine Bi 10 q (by kernel_rfl) (by kernel_rfl) ?_;simp only[List.take_succ_cons,List.take_zero,List.drop_succ_cons,List.drop_zero]
    repeat still_step
    refine wpStill_nil ?_
    gi_wp2
    have hk:=((((KK.refl w2.heap.size w.heap.size (b4+1) W)).drew.set (b:=b4) (by omega) (by omega) (.int .i64 (sn+pw*rm))).drew).set (b:=w.heap.size+1+1) (by omega) (by omega) (.int .i64 qt);exact⟨hk.1,hk.2,by rw[f.out];exact(((HX.out.drew).letter r _).drew).out r _,hB.trans hk.2.1⟩
   ·have f:Hid (jF l i o (pre++[⟨x,hx⟩])=(si/z,so,sn+pw*(si%z))):=by
     show _=_;rw[p.out,hq];rfl
    clear p;have u:=Int.emod_nonneg si (show z≠0 by omega);have aa:=Int.emod_lt_of_pos si (show 0<z by omega);have ap:=Int.ediv_nonneg j (show 0<=z by omega);have aq:=Int.ediv_le_self z j;have au:si.tmod z=si%z:=Int.tmod_eq_emod_of_nonneg j;have av:si.tdiv z=si/z:=Int.tdiv_eq_ediv_of_nonneg j;have hm:=I5 ai aj u aa ak;have aw:IntKind.i64.wrap (si%z)=si%z:=IntWalk.i64_in _ ⟨by omega,by omega⟩;have d:IntKind.i64.wrap (si/z)=si/z:=IntWalk.i64_in _ ⟨by omega,by omega⟩
    have ax:IntKind.i64.wrap (si%z*pw)=pw*(si%z):=by rw[Int.mul_comm (si%z) pw];exact IntWalk.i64_in _ ⟨by omega,by omega⟩
    have ay:IntKind.i64.wrap (sn+pw*(si%z))=sn+pw*(si%z):=IntWalk.i64_in _ ⟨by omega,by omega⟩;generalize si/z=qt at*;generalize si%z=rm at*;clear hm
    gi_wp2
    refine Bi 13 q (by kernel_rfl) (by kernel_rfl) ?_;simp only[List.take_succ_cons,List.take_zero,List.drop_succ_cons,List.drop_zero]
    repeat still_step
    refine wpStill_nil ?_
    gi_wp2
    refine Bi 10 q (by kernel_rfl) (by kernel_rfl) ?_;simp only[List.take_succ_cons,List.take_zero,List.drop_succ_cons,List.drop_zero]
    repeat still_step
    refine wpStill_nil ?_
    gi_wp2
    have hk:=((((KK.refl w2.heap.size w.heap.size (b4+1) W)).drew.set (b:=b4) (by omega) (by omega) (.int .i64 (sn+pw*rm))).drew).set (b:=w.heap.size+1) (by omega) (by omega) (.int .i64 qt);exact⟨hk.1,hk.2,by rw[f.out];exact(((HX.out.drew).letter r _).drew).inp r _,hB.trans hk.2.1⟩
  case done=>
   rintro D ys W hD rfl ⟨hX,hB⟩ hK;have q3:=hX.b3.cell
   gi_wp2
   refine⟨by simp,.inl ⟨_,_,rfl,run_takeDeferred hK, ?_⟩⟩;exact⟨_,results_tmp rfl _ _ _,by rw[ab.out];rfl,hB.trans (belowK_b (w:=w) leR W D _ _ (by omega) hK rfl rfl)⟩
  case stop=>
   rintro D c pre W _ _ h _;exact h.elim
theorem Mq(w:World)(vl:Value)(l:List Sig)(i o:Int)(hi:I64 i)(ho:I64 o)(hK:B7 w)(hl:AD w vl l):
  Calls Tryz.prog 93 #[vl,.int .i64 i,.int .i64 o] w (Av (.int .i64 (AI l i o)) w):=by
 by_cases h:0<=i/\i<Al l/\0<=o/\o<Ai l
 ·have:=Pw w vl l i o hi ho hK hl h.1 h.2.1 h.2.2.1 h.2.2.2
  rwa [AI,if_pos h]
 ·have:=Rp w vl l i o hi ho hK hl h
  rwa [AI,if_neg h]
def FE(l:List Sig):Bool:=decide (l.length<=10)&&l.all (fun s=>decide (s.name.size<=40))
theorem PE(w:World)(vl:Value)(l:List Sig)(hl:AD w vl l):
  Calls Tryz.prog 8 #[vl] w (fun e w'=>e=.returned (.bool (FE l))/\w=w'):=by
 obtain⟨ao,c,b,d,rfl,hl⟩:=hl;have hn:=hl.nb
 by_cases h10:(10:Int)<l.length
 ·go_enter Tryz.func8,Tryz.ntmps8
  go_wp2;go_ret;exact⟨Ak (by simp[FE];omega),rfl⟩
 go_enter Tryz.func8,Tryz.ntmps8
 go_wp2
 go_loop [3] (fun i=>∃k:Nat,i=.int .i64 k/\k<=l.length/\Hid ((l.take k).all (fun s=>decide (s.name.size<=40))=true)) (fun i=>l.length-(intOf i).toNat)
 case atStart=>exact⟨0,rfl,by omega,by show _=_;simp⟩
 case round=>
  obtain⟨k,rfl,hk,HA⟩:=hrel
  by_cases hlt:k<l.length
  ·obtain rfl:=hl.ad (by omega);have c1:=hl.nn k hlt;have a:=hl.sn _ (List.getElem_mem hlt);unfold Bg at a;have HS:=Ab (By l (fun s=>decide (s.name.size<=40)) k hlt)
   by_cases hs:(40:Int)<l[k].name.size
   ·have HF:Hid (FE l=false):=by
     show _=_;rw[FE,Bu l (fun s=>decide (s.name.size<=40)) k hlt (by simp;omega)];simp
    go_wp2;go_ret;exact⟨Ak (by rw[HF.out]),rfl⟩
   ·go_wp2
    go_round
    case rel=>exact⟨k+1,by go_num,by omega,by show _=_;rw[HS.out,HA.out];simp;omega⟩
    case measure=>simp[intOf];omega
  ·obtain rfl:k=l.length:=by omega
   have HF:Hid (FE l=true):=by
    show _=_;have:=HA.out;rw[List.take_length]at this;rw[FE,this];simp;omega
   go_wp2;go_ret;exact⟨Ak (by rw[HF.out]),rfl⟩
theorem GZ{d z x:Int}(h0:0<=d)(h1:d<z):(d+z*x)%z=d:=by
 rw[Int.add_mul_emod_self_left];exact Int.emod_eq_of_lt h0 h1
theorem GY{d z x:Int}(h0:0<=d)(h1:d<z):(d+z*x)/z=x:=by
 rw[Int.add_mul_ediv_left _ _ (by omega),Int.ediv_eq_zero_of_lt h0 h1];omega
theorem Iw(a z:Int):a%z+z*(a/z)=a:=Int.emod_add_mul_ediv a z
theorem Gp(a:Int){z:Int}(h:2<=z):0<=a%z/\a%z<z:=⟨Int.emod_nonneg a (by omega),Int.emod_lt_of_pos a (by omega)⟩
theorem MJ{a z p:Int}(h:2<=z)(h0:0<=a)(h1:a<z*p):0<=a/z/\a/z<p:=⟨Int.ediv_nonneg h0 (by omega),Int.ediv_lt_of_lt_mul (by omega) (by rw[Int.mul_comm];exact h1)⟩
theorem NJ(q:Bool){l:List Sig}(hz:∀s∈l,AP s=true):∀a,0<=CN q l a/\CN q l a<A9 (fun s=>s.inp==q) l:=by
 induction l with
 |nil=>intro a;simp[CN,A9]
 |cons s r ih=>
  intro a;have hs:=(BU hz s (by simp)).1;obtain⟨h0,h1⟩:=ih (fun x hx=>hz x (List.mem_cons_of_mem _ hx)) (a/s.size);obtain⟨d0,d1⟩:=Gp a hs;simp only[CN,A9]
  split
  ·exact Di d0 d1 h0 h1
  ·exact⟨h0,h1⟩
theorem OF{l:List Sig}(hz:∀s∈l,AP s=true):∀a,0<=a->a<An l->CE l (CN true l a) (CN false l a)=a:=by
 induction l with
 |nil=>intro a h0 h1;simp[An]at h1;simp[CE];omega
 |cons s r ih=>
  intro a h0 h1;have hs:=(BU hz s (by simp)).1;obtain⟨d0,d1⟩:=Gp a hs;simp only[An]at h1;obtain⟨e0,e1⟩:=MJ hs h0 h1;have IH:=ih (fun x hx=>hz x (List.mem_cons_of_mem _ hx)) (a/s.size) e0 e1;simp only[CE,CN]
  cases hq:s.inp
  ·simp only[Bool.false_eq_true,if_false,beq_self_eq_true,if_true,show(false==true)=false from rfl];rw[GZ d0 d1,GY d0 d1,IH,Iw]
  ·simp only[if_true,beq_self_eq_true,Bool.false_eq_true,if_false,show(true==false)=false from rfl];rw[GZ d0 d1,GY d0 d1,IH,Iw]
theorem Sa{l:List Sig}(hz:∀s∈l,AP s=true):∀i o,0<=CE l i o/\CE l i o<An l:=by
 induction l with
 |nil=>intro i o;simp[CE,An]
 |cons s r ih=>
  intro i o;have hs:=(BU hz s (by simp)).1;simp only[CE,An]
  split
  ·obtain⟨d0,d1⟩:=Gp i hs;obtain⟨h0,h1⟩:=ih (fun x hx=>hz x (List.mem_cons_of_mem _ hx)) (i/s.size) o;exact Di d0 d1 h0 h1
  ·obtain⟨d0,d1⟩:=Gp o hs;obtain⟨h0,h1⟩:=ih (fun x hx=>hz x (List.mem_cons_of_mem _ hx)) i (o/s.size);exact Di d0 d1 h0 h1
theorem OD{l:List Sig}(hz:∀s∈l,AP s=true):∀i o,0<=i->i<A9 (fun s=>s.inp==true) l->0<=o->o<A9 (fun s=>s.inp==false) l->
  CN true l (CE l i o)=i/\CN false l (CE l i o)=o:=by
 induction l with
 |nil=>intro i o h0 h1 h2 h3;simp[A9]at h1 h3;simp[CN];omega
 |cons s r ih=>
  intro i o h0 h1 h2 h3;have hs:=(BU hz s (by simp)).1
  have a:∀s∈r,AP s=true:=fun x hx=>hz x (List.mem_cons_of_mem _ hx)
  simp only[A9]at h1 h3;simp only[CE,CN]
  cases hq:s.inp
  ·simp only[hq,show(false==true)=false from rfl,beq_self_eq_true,Bool.false_eq_true,if_false,if_true]at h1 h3⊢;obtain⟨d0,d1⟩:=Gp o hs;obtain⟨e0,e1⟩:=MJ hs h2 h3;obtain⟨g0,g1⟩:=ih a i (o/s.size) h0 h1 e0 e1;rw[GZ d0 d1,GY d0 d1,g0,g1,Iw];exact⟨rfl,rfl⟩
  ·simp only[hq,show(true==false)=false from rfl,beq_self_eq_true,Bool.false_eq_true,if_false,if_true]at h1 h3⊢;obtain⟨d0,d1⟩:=Gp i hs;obtain⟨e0,e1⟩:=MJ hs h0 h1;obtain⟨g0,g1⟩:=ih a (i/s.size) o e0 e1 h2 h3;rw[GZ d0 d1,GY d0 d1,g0,g1,Iw];exact⟨rfl,rfl⟩
theorem E8{l:List Sig}(hv:As l=true):Ay l=An l:=by rw[Ay,hv,if_pos rfl,Jg]
theorem FP{l:List Sig}(hv:As l=true):Al l=A9 (fun s=>s.inp==true) l:=by
 rw[<-N9,Hb,hv,if_pos rfl]
theorem Fb{l:List Sig}(hv:As l=true):Ai l=A9 (fun s=>s.inp==false) l:=by
 rw[<-L8,Hb,hv,if_pos rfl]
theorem OX{l:List Sig}(hz:∀s∈l,AP s=true)(h1:1<=l.length):2<=An l:=by
 cases l with
 |nil=>simp at h1
 |cons s r=>
  have hs:=BU hz s (by simp);have hp:=ET (l:=r) (fun x hx=>hz x (List.mem_cons_of_mem _ hx));have:=Int.mul_le_mul hs.1 hp (by omega) (by omega);simp only[An];omega
theorem E7{l:List Sig}(hv:As l=true):2<=Ay l/\Ay l<=64:=by
 obtain⟨hz,a,b,hp⟩:=AN hv;rw[E8 hv];exact⟨OX hz a,hp⟩
theorem J2(ch:Sig->Bool){l:List Sig}(hz:∀s∈l,AP s=true):1<=A9 ch l:=(Je ch l hz).1
theorem Dv{l:List Sig}(hv:As l=true):(1<=Al l/\Al l<=64)/\1<=Ai l/\Ai l<=64:=by
 obtain⟨hz,a,b,hp⟩:=AN hv;have h1:=J2 (fun s=>s.inp==true) hz;have h2:=J2 (fun s=>s.inp==false) hz;rw[<-FP hv]at h1;rw[<-Fb hv]at h2
 have h3:Al l*Ai l=An l:=by
  rw[Al,Ai,hv,if_pos rfl,if_pos rfl,Jf]
 have h4:=Int.mul_le_mul (Int.le_refl (Al l)) h2 (by omega) (by omega);have h5:=Int.mul_le_mul h1 (Int.le_refl (Ai l)) (by omega) (by omega);omega
theorem MQ{l:List Sig}(hv:As l=true){a:Int}(h0:0<=a)(h1:a<Ay l):
  (0<=C1 l true a/\C1 l true a<Al l)/\(0<=C1 l false a/\C1 l false a<Ai l)/\AI l (C1 l true a) (C1 l false a)=a:=by
 obtain⟨hz,b,c,hp⟩:=AN hv
 have e:∀q,C1 l q a=CN q l a:=fun q=>if_pos ⟨h0,h1⟩
 rw[e,e,FP hv,Fb hv];have b1:=NJ true hz a;have b2:=NJ false hz a;refine⟨b1,b2, ?_⟩;rw[AI,if_pos ⟨b1.1,by rw[FP hv];exact b1.2,b2.1,by rw[Fb hv];exact b2.2⟩];exact OF hz a h0 (by rwa [E8 hv]at h1)
theorem DP{l:List Sig}(hv:As l=true){i o:Int}(h0:0<=i)(h1:i<Al l)(h2:0<=o)(h3:o<Ai l):
  (0<=AI l i o/\AI l i o<Ay l)/\C1 l true (AI l i o)=i/\C1 l false (AI l i o)=o:=by
 obtain⟨hz,a,c,hp⟩:=AN hv;have e:AI l i o=CE l i o:=if_pos ⟨h0,h1,h2,h3⟩;have b:=Sa hz i o;rw[<-E8 hv]at b;have hh:=OD hz i o h0 (by rwa [FP hv]at h1) h2 (by rwa [Fb hv]at h3);rw[e];refine⟨b, ?_, ?_⟩
 ·rw[C1,if_pos b];exact hh.1
 ·rw[C1,if_pos b];exact hh.2
end Go.Proofs.YtncjeamdkjcebaaGreatDoor
