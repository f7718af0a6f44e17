/- Signals: Valid, Letters, Inputs, Outputs, In, Out, Join, and the reference's. -/
import Derived.Test.YtncjeamdkjcebaaGreatDoorZArS
set_option linter.all false
set_option maxHeartbeats 4000000
set_option maxRecDepth 100000
namespace Go.Proofs.YtncjeamdkjcebaaGreatDoor
open Go.RowKit
open Go.RowKit Go.Shelf
open Go
attribute [local go_sem] Oper.semAt_some
theorem PB(w:World)(vl:Value)(l:List Sig)(hK:BN w)(hl:AH w vl l):
  Calls Tryz.prog 106 #[vl,.func (.func 113) #[] #[]] w (Av (.int .i64 (if At l then A9 (fun s=>s.inp) l else 0)) w):=by
 have hlx:=hl;obtain⟨ao,cap,b,off,rfl,hl⟩:=hl;have hn:=hl.nb
 cases hv:At l
 ·go_enter Tryz.func106,Tryz.ntmps106
  go_wp2_with fail
  refine(Cv _ _ l (hK.below (by repeat(first|exact Ad|assumption|apply AD|apply AE))) (hlx.below (by repeat(first|exact Ad|assumption|apply AD|apply AE)))).mono ?_;rintro e w1 ⟨rfl,n,rfl⟩;rw[hv];go_wp2;go_ret;exact⟨rfl,AE (by repeat(first|exact Ad|assumption|apply AD|apply AE)) _⟩
 have hV:Hid (∀W,Below w.heap.size w W->Calls Tryz.prog 41 #[.slice ao l.length cap] W (DL (.bool true) W)):=fun W hW=>by
  have:=Cv W _ l (hK.below hW) (hlx.below hW)
  rwa [hv]at this
 refine callsIn_wide (n:=5)|>.1 ?_;refine callsIn_of_wp_marks Tryz.func106 rfl trivial ?_;simp only[Tryz.ntmps106,List.size_toArray,List.length_cons,List.length_nil,Nat.reduceAdd,Nat.reduceSub,Array.replicate_succ,Array.replicate_zero,List.push_toArray,List.append_toArray,List.nil_append,List.cons_append]
 gi_wp2_with fail
 refine⟨trivial, ?_⟩;refine(callsIn_wide.2 (hV.out _ (by repeat(first|exact Ad|assumption|apply AD|apply AE)))).mono ?_;rintro e w1 ⟨rfl,n1,hw1⟩
 have hB1:Below w.heap.size w w1:=by rw[hw1];exact AE (by repeat(first|exact Ad|assumption|apply AD|apply AE)) _
 have hz1:w1.heap.size=w.heap.size+2:=by rw[hw1];simp[World.drewN]
 have c0:w1.cell? ⟨w.heap.size,0,none⟩=some (.slice ao l.length cap):=by rw[hw1];exact Pv n1 (Ah (Ao _) (Fz w _ _))
 have c1:w1.cell? ⟨w.heap.size+1,0,none⟩=some (.func (.func 113) #[] #[]):=by rw[hw1];have:=Fz (w.alloc (.cells #[.slice ao l.length cap] 22)) (.func (.func 113) #[] #[]) 148;rwa [World.size_alloc]at this
 clear hw1
 gi_wp2_with fail
 refine⟨trivial, ?_⟩;refine(callsIn_wide.2 (Di _ _ _ _)).mono ?_;rintro e w2 ⟨rfl,hw2⟩
 gi_wp2_with fail
 rw[<-hw2]
 have hB2:Below w.heap.size w w2:=by rw[hw2];exact hB1.trans ((((Below.refl _ w1).alloc leR _).alloc (by simp) _).mono (by omega))
 have hz2:w2.heap.size=w.heap.size+4:=by rw[hw2];simp[hz1]
 have e0:w2.cell? ⟨w.heap.size,0,none⟩=some (.slice ao l.length cap):=by rw[hw2];exact Ah (Ao _) (Ah (Ao _) c0)
 have e1:w2.cell? ⟨w.heap.size+1,0,none⟩=some (.func (.func 113) #[] #[]):=by rw[hw2];exact Ah (Ao _) (Ah (Ao _) c1)
 have en:=Fz w1 (.int .i64 1) 3
 have e2:w2.cell? ⟨w.heap.size+2,0,none⟩=some (.int .i64 1):=by rw[hw2,<-hz1];exact Ah (Ao _) en
 have f2:w2.frozen? ⟨w.heap.size+2,0,none⟩=false:=by rw[hw2,<-hz1];exact((Ao _).frozen (p:=⟨w1.heap.size,0,none⟩) (by simp)).trans (SW w1 _ _)
 have e3:w2.cell? ⟨w.heap.size+3,0,none⟩=some (.slice ao l.length cap):=by
  have:=Fz (w1.alloc (.cells #[.int .i64 1] 3)) (.slice ao l.length cap) 22;rw[World.size_alloc,hz1]at this;rw[hw2];exact this
 have hvx:=hv;simp only[At,Bool.and_eq_true,decide_eq_true_eq]at hvx;obtain⟨⟨⟨hl1,hl6⟩,hA⟩,-⟩:=hvx
 have hsz:∀s∈l,AS s=true:=fun s hs=>EY hA leR s (by rwa [List.take_length])
 have hb:b<w.heap.size:=by
  have:=World.block_lt_of_cell? w _ (hl.nn 0 (by omega));exact this
 have hmx:Tryz.prog.follows .mixedOrders=true:=by kernel_rfl
 clear hA c0 c1 en hw2 hB1 hz1
 refine wpIn_rangeFunc_ownG rfl (by omega) (gf:=108) (lb:=#[.pointer (some ⟨w.heap.size+2+1,0,none⟩)]) rfl trivial (enters_of Tryz.func108 (by kernel_rfl) rfl)
  (Ca Fence.wide (5-1) trivial rfl (by omega) (w.heap.size+3) w.heap.size b off cap ao l hv hb w2 (by omega) (by omega) e3 (hl.below hB2)) KpW.trans (KpW.put (by omega) (by omega)) Ad (fun _=>rfl)
  (fun pre W=>C3 w (.slice ao l.length cap) (.func (.func 113) #[] #[]) (Bw (fun s=>s.inp) l pre) W/\Below w.heap.size w W)
  (fun _ _ _=>False)
  (OwnFrom.and (FU w _ _ (Bw (fun s=>s.inp) l) _) (ownFrom_below leR (by omega)))
  (fun _ _ _ _ _ hs _ _=>hs)
  ⟨⟨e2,f2,e0,e1,e3⟩,hB2⟩
  (fun x=>{tmps:=#[.slice ao l.length cap,.func (.func 113) #[] #[],.pointer (some ⟨w.heap.size,0,none⟩),.pointer (some ⟨w.heap.size+1,0,none⟩),.int .i64 0,.pointer (some ⟨w.heap.size+2,0,none⟩),.int .i64 ((x:Nat):Int),.slice ao l.length cap,.bool true,.bool false,.slice ao l.length cap,.func (.func 108) #[] #[.pointer (some ⟨w.heap.size+2+1,0,none⟩)],.int .i64 ((x:Nat):Int),.int .i64 (As (l.take x)),undef,undef,undef,undef,undef,undef,undef,undef,undef,undef,undef,undef,undef,undef],defers:=[]}) ?assign ?body ?done ?stop
 case assign=>
  intro lY x W K hK;unfold IT
  gi_wp2
  exact hK
 case body=>
  rintro lY pre x W ⟨hI,hB⟩ hpl;obtain⟨q2,g2,q0,q1,-⟩:=id hI
  have hd:1<=5-1-1:=by omega
  have hlW:=hl.below hB;obtain⟨x,hx⟩:=x;have n0:=hlW.nn x hx;have n1:=hlW.ni x hx;have n2:=hlW.nz x hx;obtain rfl:=hl.ad (by omega)
  have hch:∀W:World,Calls Tryz.prog 113 #[.agg #[.string l[x].name,.bool l[x].inp,.int .i64 l[x].size]] W (Av (.bool (l[x].inp)) W):=fun W=>TA W l[x]
  have HCH:=Ab hch;clear hch hlx hK hV hn
  cases hin:l[x].inp
  ·rw[hin]at n1;simp only[hin]at HCH
   (try simp only[Bool.not_false]at HCH)
   (try simp only[Bool.not_true]at HCH)
   gi_upto_region 6 with(fail)
   gi_cut [19]from 14 (fun v wx=>∃W3:World,W3=wx/\v=.bool false/\Below W.heap.size W W3)
   case first=>
    gi_region_with_o (refine⟨trivial, ?_⟩;gi_at_call 113;refine(CallsIn.inRound lY (callsIn_wide.2 (HCH.out _))).mono ?_;rintro e W3 ⟨rfl,hb3⟩)
    all_goals gi_wp2_with fail
    all_goals
     gi_meet
     case rel=>exact⟨_,rfl,rfl,(Below.drew Ad).trans hb3⟩
   case rest=>
    obtain⟨W3,rfl,rfl,hb3⟩:=hcut
    have HSN:Hid (Bw (fun s=>s.inp) l (pre++[⟨x,hx⟩])=Bw (fun s=>s.inp) l pre):=by show _=_;rw[CW,if_neg (by simp[hin])]
    have HI:=Ab hI;clear q2 q0 q1 n0 n1 n2 g2 e0 e1 e2 e3 f2 HCH hlW hI
    gi_wp2
    have hr:=Ik (B:=w2.heap.size) HI.out hB hb3;exact⟨hr.1,hr.2.1,by rw[HSN.out];exact hr.2.2.1,hr.2.2.2⟩
  ·rw[hin]at n1;simp only[hin]at HCH
   (try simp only[Bool.not_false]at HCH)
   (try simp only[Bool.not_true]at HCH)
   gi_upto_region 6 with(fail)
   gi_cut [19]from 14 (fun v wx=>∃W3:World,W3=wx/\v=.bool true/\Below W.heap.size W W3)
   case first=>
    gi_region_with_o (refine⟨trivial, ?_⟩;gi_at_call 113;refine(CallsIn.inRound lY (callsIn_wide.2 (HCH.out _))).mono ?_;rintro e W3 ⟨rfl,hb3⟩)
    all_goals gi_wp2_with fail
    all_goals
     gi_meet
     case rel=>exact⟨_,rfl,rfl,(Below.drew Ad).trans hb3⟩
   case rest=>
    obtain⟨W3,rfl,rfl,hb3⟩:=hcut;have hsx:=hsz _ (List.getElem_mem hx);obtain⟨hp1,hp2⟩:=IE (ch:=fun s=>s.inp) hsz pre;have hp3:Bw (fun s=>s.inp) l pre<=4096:=Int.le_trans hp2 (LD (by omega));simp only[AS,Bool.and_eq_true,decide_eq_true_eq]at hsx;obtain⟨hs1,hs2⟩:=hsx;have hpw:=G2 hp1 hp3 hs1 hs2
    have HSN:Hid (Bw (fun s=>s.inp) l (pre++[⟨x,hx⟩])=Bw (fun s=>s.inp) l pre*l[x].size):=by show _=_;rw[CW,if_pos (by simp[hin])];rfl
    have r2:=Ah hb3 q2;have r0:=Ah hb3 q0;have m2:=Ah hb3 n2;have g3:W3.frozen? ⟨w.heap.size+2,0,none⟩=false:=(hb3.frozen (p:=⟨w.heap.size+2,0,none⟩) (World.block_lt_of_cell? W _ q2)).trans g2;have r1:=Ah hb3 q1;have HI:=Ab hI;clear q2 q0 q1 n0 n1 n2 g2 e0 e1 e2 e3 f2 HCH hp2 hlW hI;generalize Bw (fun s=>s.inp) l pre=pp at*
    gi_wp2
    gi_region_with_o (fail)
    all_goals gi_wp2
    all_goals
     have hr:=E3 (B:=w2.heap.size) (q:=pp*l[x].size) HI.out hB hb3;exact⟨hr.1,hr.2.1,by rw[HSN.out];exact hr.2.2.1,hr.2.2.2⟩
 case done=>
  rintro D ys W hD rfl ⟨⟨q2,g2,q0,q1,-⟩,hB⟩ hK
  gi_wp2
  refine⟨by simp,.inl ⟨_,_,rfl,run_takeDeferred hK, ?_⟩⟩;exact⟨_,results_tmp rfl _ _ _,by simp[G0],hB.trans (belowK_b (w:=w) leR W D _ _ (by omega) hK rfl rfl)⟩
 case stop=>
  rintro D c pre W _ _ h _;exact h.elim
theorem PC(w:World)(vl:Value)(l:List Sig)(hK:BN w)(hl:AH w vl l):
  Calls Tryz.prog 106 #[vl,.func (.func 114) #[] #[]] w (Av (.int .i64 (if At l then A9 (fun s=> !s.inp) l else 0)) w):=by
 have hlx:=hl;obtain⟨ao,cap,b,off,rfl,hl⟩:=hl;have hn:=hl.nb
 cases hv:At l
 ·go_enter Tryz.func106,Tryz.ntmps106
  go_wp2_with fail
  refine(Cv _ _ l (hK.below (by repeat(first|exact Ad|assumption|apply AD|apply AE))) (hlx.below (by repeat(first|exact Ad|assumption|apply AD|apply AE)))).mono ?_;rintro e w1 ⟨rfl,n,rfl⟩;rw[hv];go_wp2;go_ret;exact⟨rfl,AE (by repeat(first|exact Ad|assumption|apply AD|apply AE)) _⟩
 have hV:Hid (∀W,Below w.heap.size w W->Calls Tryz.prog 41 #[.slice ao l.length cap] W (DL (.bool true) W)):=fun W hW=>by
  have:=Cv W _ l (hK.below hW) (hlx.below hW)
  rwa [hv]at this
 refine callsIn_wide (n:=5)|>.1 ?_;refine callsIn_of_wp_marks Tryz.func106 rfl trivial ?_;simp only[Tryz.ntmps106,List.size_toArray,List.length_cons,List.length_nil,Nat.reduceAdd,Nat.reduceSub,Array.replicate_succ,Array.replicate_zero,List.push_toArray,List.append_toArray,List.nil_append,List.cons_append]
 gi_wp2_with fail
 refine⟨trivial, ?_⟩;refine(callsIn_wide.2 (hV.out _ (by repeat(first|exact Ad|assumption|apply AD|apply AE)))).mono ?_;rintro e w1 ⟨rfl,n1,hw1⟩
 have hB1:Below w.heap.size w w1:=by rw[hw1];exact AE (by repeat(first|exact Ad|assumption|apply AD|apply AE)) _
 have hz1:w1.heap.size=w.heap.size+2:=by rw[hw1];simp[World.drewN]
 have c0:w1.cell? ⟨w.heap.size,0,none⟩=some (.slice ao l.length cap):=by rw[hw1];exact Pv n1 (Ah (Ao _) (Fz w _ _))
 have c1:w1.cell? ⟨w.heap.size+1,0,none⟩=some (.func (.func 114) #[] #[]):=by rw[hw1];have:=Fz (w.alloc (.cells #[.slice ao l.length cap] 22)) (.func (.func 114) #[] #[]) 148;rwa [World.size_alloc]at this
 clear hw1
 gi_wp2_with fail
 refine⟨trivial, ?_⟩;refine(callsIn_wide.2 (Di _ _ _ _)).mono ?_;rintro e w2 ⟨rfl,hw2⟩
 gi_wp2_with fail
 rw[<-hw2]
 have hB2:Below w.heap.size w w2:=by rw[hw2];exact hB1.trans ((((Below.refl _ w1).alloc leR _).alloc (by simp) _).mono (by omega))
 have hz2:w2.heap.size=w.heap.size+4:=by rw[hw2];simp[hz1]
 have e0:w2.cell? ⟨w.heap.size,0,none⟩=some (.slice ao l.length cap):=by rw[hw2];exact Ah (Ao _) (Ah (Ao _) c0)
 have e1:w2.cell? ⟨w.heap.size+1,0,none⟩=some (.func (.func 114) #[] #[]):=by rw[hw2];exact Ah (Ao _) (Ah (Ao _) c1)
 have en:=Fz w1 (.int .i64 1) 3
 have e2:w2.cell? ⟨w.heap.size+2,0,none⟩=some (.int .i64 1):=by rw[hw2,<-hz1];exact Ah (Ao _) en
 have f2:w2.frozen? ⟨w.heap.size+2,0,none⟩=false:=by rw[hw2,<-hz1];exact((Ao _).frozen (p:=⟨w1.heap.size,0,none⟩) (by simp)).trans (SW w1 _ _)
 have e3:w2.cell? ⟨w.heap.size+3,0,none⟩=some (.slice ao l.length cap):=by
  have:=Fz (w1.alloc (.cells #[.int .i64 1] 3)) (.slice ao l.length cap) 22;rw[World.size_alloc,hz1]at this;rw[hw2];exact this
 have hvx:=hv;simp only[At,Bool.and_eq_true,decide_eq_true_eq]at hvx;obtain⟨⟨⟨hl1,hl6⟩,hA⟩,-⟩:=hvx
 have hsz:∀s∈l,AS s=true:=fun s hs=>EY hA leR s (by rwa [List.take_length])
 have hb:b<w.heap.size:=by
  have:=World.block_lt_of_cell? w _ (hl.nn 0 (by omega));exact this
 have hmx:Tryz.prog.follows .mixedOrders=true:=by kernel_rfl
 clear hA c0 c1 en hw2 hB1 hz1
 refine wpIn_rangeFunc_ownG rfl (by omega) (gf:=108) (lb:=#[.pointer (some ⟨w.heap.size+2+1,0,none⟩)]) rfl trivial (enters_of Tryz.func108 (by kernel_rfl) rfl)
  (Ca Fence.wide (5-1) trivial rfl (by omega) (w.heap.size+3) w.heap.size b off cap ao l hv hb w2 (by omega) (by omega) e3 (hl.below hB2)) KpW.trans (KpW.put (by omega) (by omega)) Ad (fun _=>rfl)
  (fun pre W=>C3 w (.slice ao l.length cap) (.func (.func 114) #[] #[]) (Bw (fun s=> !s.inp) l pre) W/\Below w.heap.size w W)
  (fun _ _ _=>False)
  (OwnFrom.and (FU w _ _ (Bw (fun s=> !s.inp) l) _) (ownFrom_below leR (by omega)))
  (fun _ _ _ _ _ hs _ _=>hs)
  ⟨⟨e2,f2,e0,e1,e3⟩,hB2⟩
  (fun x=>{tmps:=#[.slice ao l.length cap,.func (.func 114) #[] #[],.pointer (some ⟨w.heap.size,0,none⟩),.pointer (some ⟨w.heap.size+1,0,none⟩),.int .i64 0,.pointer (some ⟨w.heap.size+2,0,none⟩),.int .i64 ((x:Nat):Int),.slice ao l.length cap,.bool true,.bool false,.slice ao l.length cap,.func (.func 108) #[] #[.pointer (some ⟨w.heap.size+2+1,0,none⟩)],.int .i64 ((x:Nat):Int),.int .i64 (As (l.take x)),undef,undef,undef,undef,undef,undef,undef,undef,undef,undef,undef,undef,undef,undef],defers:=[]}) ?assign ?body ?done ?stop
 case assign=>
  intro lY x W K hK;unfold IT
  gi_wp2
  exact hK
 case body=>
  rintro lY pre x W ⟨hI,hB⟩ hpl;obtain⟨q2,g2,q0,q1,-⟩:=id hI
  have hd:1<=5-1-1:=by omega
  have hlW:=hl.below hB;obtain⟨x,hx⟩:=x;have n0:=hlW.nn x hx;have n1:=hlW.ni x hx;have n2:=hlW.nz x hx;obtain rfl:=hl.ad (by omega)
  have hch:∀W:World,Calls Tryz.prog 114 #[.agg #[.string l[x].name,.bool l[x].inp,.int .i64 l[x].size]] W (Av (.bool (!l[x].inp)) W):=fun W=>TB W l[x]
  have HCH:=Ab hch;clear hch hlx hK hV hn
  cases hin:l[x].inp
  ·rw[hin]at n1;simp only[hin]at HCH
   (try simp only[Bool.not_false]at HCH)
   (try simp only[Bool.not_true]at HCH)
   gi_upto_region 6 with(fail)
   gi_cut [19]from 14 (fun v wx=>∃W3:World,W3=wx/\v=.bool true/\Below W.heap.size W W3)
   case first=>
    gi_region_with_o (refine⟨trivial, ?_⟩;gi_at_call 114;refine(CallsIn.inRound lY (callsIn_wide.2 (HCH.out _))).mono ?_;rintro e W3 ⟨rfl,hb3⟩)
    all_goals gi_wp2_with fail
    all_goals
     gi_meet
     case rel=>exact⟨_,rfl,rfl,(Below.drew Ad).trans hb3⟩
   case rest=>
    obtain⟨W3,rfl,rfl,hb3⟩:=hcut;have hsx:=hsz _ (List.getElem_mem hx);obtain⟨hp1,hp2⟩:=IE (ch:=fun s=> !s.inp) hsz pre;have hp3:Bw (fun s=> !s.inp) l pre<=4096:=Int.le_trans hp2 (LD (by omega));simp only[AS,Bool.and_eq_true,decide_eq_true_eq]at hsx;obtain⟨hs1,hs2⟩:=hsx;have hpw:=G2 hp1 hp3 hs1 hs2
    have HSN:Hid (Bw (fun s=> !s.inp) l (pre++[⟨x,hx⟩])=Bw (fun s=> !s.inp) l pre*l[x].size):=by show _=_;rw[CW,if_pos (by simp[hin])];rfl
    have r2:=Ah hb3 q2;have r0:=Ah hb3 q0;have m2:=Ah hb3 n2;have g3:W3.frozen? ⟨w.heap.size+2,0,none⟩=false:=(hb3.frozen (p:=⟨w.heap.size+2,0,none⟩) (World.block_lt_of_cell? W _ q2)).trans g2;have r1:=Ah hb3 q1;have HI:=Ab hI;clear q2 q0 q1 n0 n1 n2 g2 e0 e1 e2 e3 f2 HCH hp2 hlW hI;generalize Bw (fun s=> !s.inp) l pre=pp at*
    gi_wp2
    gi_region_with_o (fail)
    all_goals gi_wp2
    all_goals
     have hr:=E3 (B:=w2.heap.size) (q:=pp*l[x].size) HI.out hB hb3;exact⟨hr.1,hr.2.1,by rw[HSN.out];exact hr.2.2.1,hr.2.2.2⟩
  ·rw[hin]at n1;simp only[hin]at HCH
   (try simp only[Bool.not_false]at HCH)
   (try simp only[Bool.not_true]at HCH)
   gi_upto_region 6 with(fail)
   gi_cut [19]from 14 (fun v wx=>∃W3:World,W3=wx/\v=.bool false/\Below W.heap.size W W3)
   case first=>
    gi_region_with_o (refine⟨trivial, ?_⟩;gi_at_call 114;refine(CallsIn.inRound lY (callsIn_wide.2 (HCH.out _))).mono ?_;rintro e W3 ⟨rfl,hb3⟩)
    all_goals gi_wp2_with fail
    all_goals
     gi_meet
     case rel=>exact⟨_,rfl,rfl,(Below.drew Ad).trans hb3⟩
   case rest=>
    obtain⟨W3,rfl,rfl,hb3⟩:=hcut
    have HSN:Hid (Bw (fun s=> !s.inp) l (pre++[⟨x,hx⟩])=Bw (fun s=> !s.inp) l pre):=by show _=_;rw[CW,if_neg (by simp[hin])]
    have HI:=Ab hI;clear q2 q0 q1 n0 n1 n2 g2 e0 e1 e2 e3 f2 HCH hlW hI
    gi_wp2
    have hr:=Ik (B:=w2.heap.size) HI.out hB hb3;exact⟨hr.1,hr.2.1,by rw[HSN.out];exact hr.2.2.1,hr.2.2.2⟩
 case done=>
  rintro D ys W hD rfl ⟨⟨q2,g2,q0,q1,-⟩,hB⟩ hK
  gi_wp2
  refine⟨by simp,.inl ⟨_,_,rfl,run_takeDeferred hK, ?_⟩⟩;exact⟨_,results_tmp rfl _ _ _,by simp[G0],hB.trans (belowK_b (w:=w) leR W D _ _ (by omega) hK rfl rfl)⟩
 case stop=>
  rintro D c pre W _ _ h _;exact h.elim
def AC(l:List Sig):Int:=if At l then A9 (fun _=>true) l else 0
def Ap(l:List Sig):Int:=if At l then A9 (fun s=>s.inp) l else 0
def Aj(l:List Sig):Int:=if At l then A9 (fun s=> !s.inp) l else 0
theorem D9(w:World)(vl:Value)(l:List Sig)(hK:BN w)(hl:AH w vl l):Calls Tryz.prog 67 #[vl] w (Av (.int .i64 (AC l)) w):=by
 have h:=PA w vl l hK hl;obtain⟨ao,cap,b,off,rfl,hl⟩:=hl;have H:Hid (Calls Tryz.prog 106 #[.slice ao l.length cap,.func (.func 107) #[] #[]] w (Av (.int .i64 (AC l)) w)):=h;clear h hl hK
 go_enter Tryz.func67,Tryz.ntmps67
 go_wp2_with fail
 refine H.out.mono ?_;rintro e w1 ⟨rfl,hb⟩;go_wp2;go_ret;exact⟨rfl,hb⟩
theorem DJ(w:World)(vl:Value)(l:List Sig)(hK:BN w)(hl:AH w vl l):Calls Tryz.prog 78 #[vl] w (Av (.int .i64 (Ap l)) w):=by
 have h:=PB w vl l hK hl;obtain⟨ao,cap,b,off,rfl,hl⟩:=hl;have H:Hid (Calls Tryz.prog 106 #[.slice ao l.length cap,.func (.func 113) #[] #[]] w (Av (.int .i64 (Ap l)) w)):=h;clear h hl hK
 go_enter Tryz.func78,Tryz.ntmps78
 go_wp2_with fail
 refine H.out.mono ?_;rintro e w1 ⟨rfl,hb⟩;go_wp2;go_ret;exact⟨rfl,hb⟩
theorem CY(w:World)(vl:Value)(l:List Sig)(hK:BN w)(hl:AH w vl l):Calls Tryz.prog 79 #[vl] w (Av (.int .i64 (Aj l)) w):=by
 have h:=PC w vl l hK hl;obtain⟨ao,cap,b,off,rfl,hl⟩:=hl;have H:Hid (Calls Tryz.prog 106 #[.slice ao l.length cap,.func (.func 114) #[] #[]] w (Av (.int .i64 (Aj l)) w)):=h;clear h hl hK
 go_enter Tryz.func79,Tryz.ntmps79
 go_wp2_with fail
 refine H.out.mono ?_;rintro e w1 ⟨rfl,hb⟩;go_wp2;go_ret;exact⟨rfl,hb⟩
theorem NK(l:List Sig):GF l true=Ap l:=by
 unfold GF Ap;rw[show(fun s:Sig=>s.inp==true)=fun s=>s.inp from funext fun s=>by simp]
theorem LO(l:List Sig):GF l false=Aj l:=by
 unfold GF Aj;rw[show(fun s:Sig=>s.inp==false)=fun s=> !s.inp from funext fun s=>by simp]
theorem Jb(w:World)(vl:Value)(l:List Sig)(hl:AH w vl l):Calls Tryz.prog 64 #[vl] w (Av (.int .i64 (Ap l)) w):=by
 have h:=QD w vl l true hl;rw[NK]at h;obtain⟨ao,cap,b,off,rfl,hl⟩:=hl;have H:=Ab h;clear h hl
 go_enter Tryz.func64,Tryz.ntmps64
 go_wp2_with fail
 refine H.out.mono ?_;rintro e w1 ⟨rfl,hb⟩;go_wp2;go_ret;exact⟨rfl,hb⟩
theorem Ia(w:World)(vl:Value)(l:List Sig)(hl:AH w vl l):Calls Tryz.prog 65 #[vl] w (Av (.int .i64 (Aj l)) w):=by
 have h:=QD w vl l false hl;rw[LO]at h;obtain⟨ao,cap,b,off,rfl,hl⟩:=hl;have H:=Ab h;clear h hl
 go_enter Tryz.func65,Tryz.ntmps65
 go_wp2_with fail
 refine H.out.mono ?_;rintro e w1 ⟨rfl,hb⟩;go_wp2;go_ret;exact⟨rfl,hb⟩
def mkL:List Sig->List Int->Option Int
 |[],[]=>some 0
 |s::r,v::vs=>if 0<=v/\v<s.size then(mkL r vs).map (fun x=>v+s.size*x)else none
 | _,_=>none
def JT(l:List Sig)(vals:List Int)(k:Nat)(n:Int):Prop:=
 mkL l vals=(mkL (l.drop k) (vals.drop k)).map (fun x=>n+As (l.take k)*x)/\0<=n/\n<As (l.take k)
theorem JT.start(l:List Sig)(vals:List Int):JT l vals 0 0:=by
 refine⟨?_,by simp,by simp[As]⟩;simp[As]
theorem JT.done{l:List Sig}{vals:List Int}{n:Int}(h:JT l vals l.length n)(hv:vals.length=l.length):mkL l vals=some n:=by
 rw[h.1,List.drop_length,<-hv,List.drop_length];simp[mkL]
theorem DH{p v z:Int}(hp1:1<=p)(hp2:p<=4096)(h0:0<=v)(h1:v<z)(hz:z<=4):
  (0<=p*v/\p*v<=16384)/\IntKind.i64.wrap (p*v)=p*v:=by
 have h2:=Int.mul_nonneg (show 0<=p by omega) h0;have h3:=Int.mul_le_mul hp2 (show v<=4 by omega) h0 (by omega);exact⟨⟨h2,by omega⟩,IntWalk.i64_in _ ⟨by omega,by omega⟩⟩
def CT:List Sig->Int->Int->Int
 |[],_,_=>0
 |s::r,i,o=>if s.inp then i%s.size+s.size*CT r (i/s.size) o else o%s.size+s.size*CT r i (o/s.size)
def FL(l:List Sig)(k:Nat)(n i o J:Int):Prop:=J=n+As (l.take k)*CT (l.drop k) i o/\0<=n/\n<As (l.take k)
theorem FL.next_in{l:List Sig}{k:Nat}{n i o J:Int}(h:FL l k n i o J)(hk:k<l.length)(hi:l[k].inp=true)(hz:2<=l[k].size)(hp:1<=As (l.take k)):
  FL l (k+1) (n+As (l.take k)*(i%l[k].size)) (i/l[k].size) o J:=by
 obtain⟨h1,h2,h3⟩:=h;have h0:=Int.emod_nonneg i (show l[k].size≠0 by omega);have h5:=Int.emod_lt_of_pos i (show 0<l[k].size by omega);have h6:=Int.mul_nonneg (show 0<=As (l.take k)by omega) h0;have h7:=Int.mul_le_mul_of_nonneg_left (show i%l[k].size<=l[k].size-1 by omega) (show 0<=As (l.take k)by omega);rw[Int.mul_sub,Int.mul_one]at h7;refine⟨?_,by omega,by rw[Cq hk];omega⟩;rw[h1,DE l k hk,Cq hk];simp only[CT,hi,if_true];rw[Int.mul_add,Int.mul_assoc,Int.add_assoc]
theorem FL.next_out{l:List Sig}{k:Nat}{n i o J:Int}(h:FL l k n i o J)(hk:k<l.length)(hi:l[k].inp=false)(hz:2<=l[k].size)(hp:1<=As (l.take k)):
  FL l (k+1) (n+As (l.take k)*(o%l[k].size)) i (o/l[k].size) J:=by
 obtain⟨h1,h2,h3⟩:=h;have h0:=Int.emod_nonneg o (show l[k].size≠0 by omega);have h5:=Int.emod_lt_of_pos o (show 0<l[k].size by omega);have h6:=Int.mul_nonneg (show 0<=As (l.take k)by omega) h0;have h7:=Int.mul_le_mul_of_nonneg_left (show o%l[k].size<=l[k].size-1 by omega) (show 0<=As (l.take k)by omega);rw[Int.mul_sub,Int.mul_one]at h7;refine⟨?_,by omega,by rw[Cq hk];omega⟩;rw[h1,DE l k hk,Cq hk];simp only[CT,hi,Bool.false_eq_true,if_false];rw[Int.mul_add,Int.mul_assoc,Int.add_assoc]
def AO(l:List Sig)(i o:Int):Int:=if 0<=i/\i<Ap l/\0<=o/\o<Aj l then CT l i o else 0
theorem Iw{p v z:Int}(hp1:1<=p)(hp2:p<=4096)(h0:0<=v)(h1:v<z)(hz:z<=4):0<=p*v/\p*v<=16384:=(DH hp1 hp2 h0 h1 hz).1
theorem AP{W W':World}{B:Nat}{t:TypeId}{v:Value}(hb:Below W.heap.size W W')(h:Boxed W B t v):Boxed W' B t v:=(hb.block _ h.lt).trans h
structure EW(w:World)(vs:Value)(a i r:Int)(W:World):Prop where
 b0:Boxed W w.heap.size 22 vs
 b1:Boxed W (w.heap.size+1) 3 (.int .i64 a)
 b2:Boxed W (w.heap.size+1+1) 3 (.int .i64 i)
 b3:Boxed W (w.heap.size+1+1+1) 3 (.int .i64 r)
theorem EW.below{w W W3:World}{vs:Value}{a i r:Int}(h:EW w vs a i r W)(hb:Below W.heap.size W W3):EW w vs a i r W3:=
 ⟨AP hb h.b0,AP hb h.b1,AP hb h.b2,AP hb h.b3⟩
theorem EW.mk'(w:World)(vs:Value)(a i:Int):
  EW w vs a i 0 ((((w.alloc (.cells #[vs] 22)).alloc (.cells #[.int .i64 a] 3)).alloc (.cells #[.int .i64 i] 3)).alloc (.cells #[.int .i64 0] 3)):=by
 have e3:=Boxed.new (((w.alloc (.cells #[vs] 22)).alloc (.cells #[.int .i64 a] 3)).alloc (.cells #[.int .i64 i] 3)) 3 (.int .i64 0);have e2:=(Boxed.new ((w.alloc (.cells #[vs] 22)).alloc (.cells #[.int .i64 a] 3)) 3 (.int .i64 i)).alloc (.cells #[.int .i64 0] 3);have e1:=((Boxed.new (w.alloc (.cells #[vs] 22)) 3 (.int .i64 a)).alloc (.cells #[.int .i64 i] 3)).alloc (.cells #[.int .i64 0] 3);have e0:=(((Boxed.new w 22 vs).alloc (.cells #[.int .i64 a] 3)).alloc (.cells #[.int .i64 i] 3)).alloc (.cells #[.int .i64 0] 3);simp only[World.size_alloc]at e3 e2 e1;exact⟨e0,e1,e2,e3⟩
theorem Er{l:List Sig}{a:Int}(h0:0<=a)(h1:a<AC l):At l=true:=by
 unfold AC at h1
 cases hv:At l
 ·rw[hv]at h1;simp at h1;omega
 ·rfl
section
variable {P:Program} {ops:Array Oper} {md:Region.Mode} {n l₀:Nat} {w:World}
def EF(ops:Array Oper):Bool:=ops.toList.all fun o=>match o.op with|.defer _=>false| _=>true
theorem Gz{ops:Array Oper}(h:EF ops=true){i:Nat}{o:Oper}(hi:ops[i]? =some o):∀c,o.op≠.defer c:=by
 intro c hc
 have hm:o∈ops.toList:=by
  obtain⟨hlt,e⟩:=Array.getElem?_eq_some_iff.1 hi;rw[<-e];simp
 have:=List.all_eq_true.1 h o hm;rw[hc]at this
 cases this
theorem Hq{o:Oper}(hd:∀c,o.op≠.defer c){a:Act}{K:Act->Prop}{K':Act->World->Prop}{Q:Exit->Act->World->Prop}(h:∀a,K a->K' a w)(hh:o.still P a w K):
  o.wpIn (Fence.wide.inRound l₀) n P a w K' Q:=by
 unfold Oper.still at hh;refine⟨fun _ _=>trivial, ?_⟩;rw[show o.semAt (Fence.wide.inRound l₀).round a.eval=execOp a.eval o from Oper.semAt_some l₀ _ _ hd];generalize(execOp a.eval o).run P w=r at*
 cases r with
 |ok x w'=>
  cases x<;>simp only[Oper.stillUpon]at hh<;>simp only[Oper.uponIn]
  case enter f args=>
   obtain⟨rfl,v,hc,hn⟩:=hh;refine⟨fun h=>by simp[Fence.wide]at h,(CallsIn.inRound l₀ (callsIn_wide.2 hc)).mono fun e w'' hw=> ?_⟩;obtain⟨he,hw⟩:=hw;subst he;subst hw;exact h _ hn
  all_goals(obtain⟨rfl,h2⟩:=hh;exact h _ h2)
 |halt x w'=>simp only[Oper.stillUpon]at hh
theorem Kh(hd:EF ops=true){i:Nat}{a:Act}{K:Act->Prop}{K':Act->World->Prop}{Q:Exit->Act->World->Prop}(h:∀a,K a->K' a w)(hh:stOp P ops w i K a):
  wpOpIn (Fence.wide.inRound l₀) n P ops Q i K' a w:=by
 unfold stOp at hh;unfold wpOpIn
 split
 ·rename_i ho;simp only[ho]at hh;exact h _ hh
 ·rename_i o ho;simp only[ho]at hh
  split
  ·rename_i hw;simp only[hw,if_true]at hh;exact Hq (Gz hd ho) h hh
  ·rename_i hw;simp only[hw]at hh;exact⟨fun _ _=>trivial,h _ hh⟩
theorem FD(hd:EF ops=true){m g:Nat}{L:Array Bool->Act->Prop}{Q':Exit->Act->World->Prop}(hL:∀listed a,L listed a->wpAnyIn (Fence.wide.inRound l₀) n P md ops Q' g listed a w):
  ∀(f:Nat)(listed:Array Bool)(a:Act),wpAnyL P md ops w m L f listed a->wpAnyIn (Fence.wide.inRound l₀) n P md ops Q' (f+g) listed a w
 |0,listed,a,h=>by rw[Nat.zero_add];exact hL _ _ h
 |f+1,listed,a,h=>by
  rw[show f+1+g=(f+g)+1 by omega];exact⟨fun h0=>absurd h0 h.1,fun i hi=>Kh hd (fun a' h'=>FD hd hL f _ a' h') (h.2 i hi).2⟩
theorem Gj{Q':Exit->Act->World->Prop}:∀(l:List Oper)(k:Nat)(listed:Array Bool)(a:Act)(w:World),(∀j,l[j]? =ops[k+j]?)->
  Region.seqB md ops l.length k listed=true->wpListIn (Fence.wide.inRound l₀) n P ops Q' l a w->wpAnyIn (Fence.wide.inRound l₀) n P md ops Q' l.length listed a w
 |[],_,_,_,_,_,hB,h=>⟨by simpa[Region.seqB]using hB,h⟩
 |o::l,k,listed,a,w,hl,hB,h=>by
  have h0:ops[k]? =some o:=by simpa using(hl 0).symm
  simp only[List.length_cons,Region.seqB,Bool.and_eq_true,decide_eq_true_eq]at hB;refine⟨fun h1=>(by rw[hB.1]at h1;cases h1),fun i hi=> ?_⟩;rw[hB.1]at hi
  have hik:i=k:=by simpa using hi
  subst hik
  have hw:wpOpIn (Fence.wide.inRound l₀) n P ops Q' i (wpListIn (Fence.wide.inRound l₀) n P ops Q' l) a w:=by unfold wpOpIn;simp only[h0];exact h
  exact wpOpIn_mono (fun a' w' h'=>Gj l (i+1) _ a' w' (fun j=>by have:=hl (j+1);simpa[Nat.add_assoc,Nat.add_comm 1 j]using this) hB.2 h') hw
theorem Bf{id:Nat}{Q:Exit->Act->World->Prop}{a:Act}{l:List Oper}(m:Nat)(hm:P.follows .mixedOrders=true)(hB:Region.lexTailB .any l.toArray m=true)(hd:EF l.toArray=true)
  (h:wpStill P l.toArray w.drew (fun a'=>wpListIn (Fence.wide.inRound l₀) n P l.toArray Q (l.drop m) a' w.drew) (l.take m) a):(Code.region id l.toArray true).wpIn (Fence.wide.inRound l₀) n P Q a w:=by
 simp only[Region.lexTailB,Bool.and_eq_true,decide_eq_true_eq]at hB;obtain⟨⟨⟨⟨hsel,hn⟩,hs⟩,hc⟩,hlex⟩:=hB
 have hn':m<l.length:=by simpa using hn
 have htl:(l.take m).length=m:=by simp;omega
 have hdl:(l.drop m).length=l.toArray.size-m:=by simp
 have inv0:HeadInv .any l.toArray m (Array.replicate l.toArray.size false):=
  ⟨by simp,fun j oj _ hl=>(by rw[getD_replicate_false]at hl;cases hl),fun t _ ht=>getD_in (by simpa using ht) (getD_replicate_false _ _)⟩
 have H:=wpAnyL_lex (md:=.any) (g:=l.toArray.size-m) hsel hs hc hn (l.take m) 0 _ a (fun j hj=>by
  have hj':j<m:=by rw[htl]at hj;exact hj
  simp[hj']) (by simpa using htl) inv0 (by rw[htl];exact hlex) h
 refine wpIn_region_any hm ?_
 have:=FD (l₀:=l₀) (n:=n) hd (Q':=Q) (g:=l.toArray.size-m) (fun listed a' hL=>by
  have:=Gj (l₀:=l₀) (n:=n) (md:=.any) (Q':=Q) (l.drop m) m listed a' w.drew (fun j=>by simp[List.getElem?_drop]) (by rw[hdl];exact hL.1) hL.2
  rwa [hdl]at this) _ _ _ H
 rw[htl,show m+(l.toArray.size-m)=l.toArray.size by omega]at this;exact this
/-! The same, where operations may draw. -/
theorem Hp{C:World->Prop}{o:Oper}(hd:∀c,o.op≠.defer c){a:Act}{K:Act->Prop}{K':Act->World->Prop}{Q':Exit->Act->World->Prop}(hw:C w)(h:∀a w',C w'->K a->K' a w')(hh:o.quiet P a C K):
  o.wpIn (Fence.wide.inRound l₀) n P a w K' Q':=by
 obtain⟨v,h1,h2⟩:=hh;have h3:=h1 w hw;unfold Oper.quietAt at h3;refine⟨fun _ _=>trivial, ?_⟩;rw[show o.semAt (Fence.wide.inRound l₀).round a.eval=execOp a.eval o from Oper.semAt_some l₀ _ _ hd];generalize(execOp a.eval o).run P w=r at*
 cases r with
 |ok x w'=>
  cases x<;>simp only[Oper.quietUpon]at h3<;>simp only[Oper.uponIn]
  case value u=>
   obtain⟨e1,e2⟩:=h3;rw[e1,e2];exact h _ _ hw h2
  case skip=>
   obtain⟨e1,e2⟩:=h3;rw[e1,<-e2];exact h _ _ hw h2
  case enter f args=>
   obtain⟨e1,hc⟩:=h3;rw[e1];refine⟨fun h=>by simp[Fence.wide]at h,(CallsIn.inRound l₀ (callsIn_wide.2 hc)).mono fun e w'' hw=> ?_⟩;obtain⟨he,hw''⟩:=hw;subst he;exact h _ _ hw'' h2
 |halt x w'=>simp only[Oper.quietUpon]at h3
theorem Lx{C:World->Prop}(hd:EF ops=true){i:Nat}{a:Act}{K:Act->Prop}{K':Act->World->Prop}{Q':Exit->Act->World->Prop}(hC:C w)(h:∀a w',C w'->K a->K' a w')(hh:qOp P ops C i K a):
  wpOpIn (Fence.wide.inRound l₀) n P ops Q' i K' a w:=by
 unfold qOp at hh;unfold wpOpIn
 split
 ·rename_i ho;simp only[ho]at hh;exact h _ _ hC hh
 ·rename_i o ho;simp only[ho]at hh
  split
  ·rename_i hw;simp only[hw,if_true]at hh;exact Hp (Gz hd ho) hC h hh
  ·rename_i hw;simp only[hw]at hh;exact⟨fun _ _=>trivial,h _ _ hC hh⟩
theorem EZ{C:World->Prop}(hd:EF ops=true){Q:Act->Prop}{Q':Exit->Act->World->Prop}(hQ:∀a w,C w->Q a->Q' .normal a w):∀(fuel:Nat)(listed:Array Bool)(a:Act)(w:World),C w->
  wpAnyQ P md ops C Q fuel listed a->wpAnyIn (Fence.wide.inRound l₀) n P md ops Q' fuel listed a w
 |0,_,_,_,hw,h=>⟨h.1,hQ _ _ hw h.2⟩
 |fuel+1,_,_,_,hw,h=>⟨fun h0=>hQ _ _ hw (h.1 h0),fun i hi=>Lx hd hw (fun a' w' hw'=>EZ hd hQ fuel _ a' w' hw') (h.2 i hi)⟩
theorem BS{id:Nat}{Q:Exit->Act->World->Prop}{a:Act}{l:List Oper}(hm:P.follows .mixedOrders=true)(hB:Region.lexB .any l.toArray=true)(hd:EF l.toArray=true)
  (h:wpQuiet P l.toArray (fun w'=>∃n,w'=w.drewN n) (fun a'=>∀w',(∃n,w'=w.drewN n)->Q .normal a' w') l a):(Code.region id l.toArray true).wpIn (Fence.wide.inRound l₀) n P Q a w:=by
 simp only[Region.lexB,Bool.and_eq_true]at hB;refine wpIn_region_any hm (EZ hd (C:=fun w'=>∃n,w'=w.drewN n) (Q:=fun a'=>∀w',(∃n,w'=w.drewN n)->Q .normal a' w') (fun _ w' hw' h=>h w' hw') _ _ _ _ ⟨1,rfl⟩ ?_);have:=wpAnyQ_lex (C:=fun w'=>∃n,w'=w.drewN n) (md:=.any) hB.1 l 0 (Array.replicate l.toArray.size false) a (by simp) (by simpa using hB.2) h;simpa using this
end
abbrev noP(Q:Exit->Act->World->Prop):Exit->Act->World->Prop
 |.panic _,_,_=>False
 |.normal,a,w=>Q .normal a w
 |.ret,a,w=>Q .ret a w
 |.exit i,a,w=>Q (.exit i) a w
 |.goto t,a,w=>Q (.goto t) a w
 |.outgrown,a,w=>Q .outgrown a w
theorem Bu{F:Fence}{n:Nat}{P:Program}{f:FuncId}{fn:Func}{c:Code}{args:Array Value}{w:World}{R:Ending->World->Prop}
  (hf:P.funcs[f]? =some fn) (hb:fn.body=some c) (hF:F.fn f)
  (h:c.wpIn F n P (noP (bodyPostM F n P fn R)) {tmps:=args++Array.replicate (fn.ntmps-args.size) undef,defers:=[]} w) (hro:F.round=none:=by rfl):CallsIn F n P f args w R:=
 callsIn_of_wp_marks hf hb hF (wpIn_mono h (fun e _ _ hq=>by cases e<;>first|exact hq|exact hq.elim)) hro
theorem EW.set{w W:World}{vs:Value}{a i r:Int}(h:EW w vs a i r W)(r':Int):EW w vs a i r' (W.setCell ⟨w.heap.size+1+1+1,0,none⟩ (.int .i64 r')):=
 ⟨h.b0.other (by omega) _,h.b1.other (by omega) _,h.b2.other (by omega) _,h.b3.set _⟩
theorem EW.drew{w W:World}{vs:Value}{a i r:Int}(h:EW w vs a i r W):EW w vs a i r W.drew:=⟨h.b0,h.b1,h.b2,h.b3⟩
theorem DT{l:List Sig}(hz:∀s∈l,AS s=true):∀s∈l,2<=s.size/\s.size<=4:=fun s hs=>by
 have:=hz s hs;simpa[AS]using this
theorem D3{l:List Sig}(hz:∀s∈l,AS s=true)(h6:l.length<=6)(k:Nat):1<=As (l.take k)/\As (l.take k)<=4096:=by
 obtain⟨hp1,hp2⟩:=GC (l.take k) (fun s hs=>hz s (List.mem_of_mem_take hs));exact⟨hp1,Int.le_trans hp2 (LD (by rw[List.length_take];omega))⟩
def BP(q:Bool):List Sig->Int->Int
 |[],_=>0
 |s::r,a=>if(s.inp==q)=true then a%s.size+s.size*BP q r (a/s.size)else BP q r (a/s.size)
def BZ(l:List Sig)(q:Bool)(a:Int):Int:=if 0<=a/\a<AC l then BP q l a else 0
theorem Bx{l:List Sig}(hz:∀s∈l,AS s=true):∀s∈l,2<=s.size/\s.size<=4:=fun s hs=>by
 have:=hz s hs;simpa[AS]using this
theorem El{l:List Sig}(hz:∀s∈l,AS s=true):1<=As l:=(GC l hz).1
theorem GT{a p z:Int}(hp:0<=p):a/p/z=a/(p*z):=Int.ediv_ediv_of_nonneg hp
def Dq(l:List Sig)(q:Bool)(a:Int)(k:Nat)(s o:Int):Prop:=
 BP q l a=s+o*BP q (l.drop k) (a/As (l.take k))/\0<=s/\s<o/\o=A9 (fun x=>x.inp==q) (l.take k)
theorem Dq.start(l:List Sig)(q:Bool)(a:Int):Dq l q a 0 0 1:=by
 refine⟨?_,by omega,by omega,by simp[A9]⟩;simp[As]
theorem C0{s o z d:Int}(h0:0<=s)(h1:s<o)(hd0:0<=d)(hd1:d<z):0<=s+o*d/\s+o*d<o*z:=by
 have h5:=Int.mul_nonneg (show 0<=o by omega) hd0;have h6:=Int.mul_le_mul_of_nonneg_left (show d<=z-1 by omega) (show 0<=o by omega);rw[Int.mul_sub,Int.mul_one]at h6;exact⟨by omega,by omega⟩
theorem Dq.hit{l:List Sig}{q:Bool}{a:Int}{k:Nat}{s o:Int}(h:Dq l q a k s o)(hz:∀s∈l,AS s=true)(hk:k<l.length)(hq:(l[k].inp==q)=true):
  Dq l q a (k+1) (s+o*(a/As (l.take k)%l[k].size)) (o*l[k].size):=by
 obtain⟨h1,h2,h3,h4⟩:=h;have hs:=Bx hz _ (List.getElem_mem hk);have hd0:=Int.emod_nonneg (a/As (l.take k)) (show l[k].size≠0 by omega);have hd1:=Int.emod_lt_of_pos (a/As (l.take k)) (show 0<l[k].size by omega);have hb:=C0 h2 h3 hd0 hd1;have hp:=El (l:=l.take k) (fun s hs=>hz s (List.mem_of_mem_take hs));refine⟨?_,hb.1,hb.2,by rw[F2 hk,if_pos hq,h4]⟩;rw[h1,DE l k hk,Cq hk];simp only[BP];rw[if_pos hq,GT (by omega),Int.mul_add,Int.mul_assoc,Int.add_assoc]
theorem Dq.miss{l:List Sig}{q:Bool}{a:Int}{k:Nat}{s o:Int}(h:Dq l q a k s o)(hz:∀s∈l,AS s=true)(hk:k<l.length)(hq:(l[k].inp==q)=false):
  Dq l q a (k+1) s o:=by
 obtain⟨h1,h2,h3,h4⟩:=h;have hp:=El (l:=l.take k) (fun s hs=>hz s (List.mem_of_mem_take hs));refine⟨?_,h2,h3,by rw[F2 hk,hq];simpa using h4⟩;rw[h1,DE l k hk,Cq hk];simp only[BP];rw[hq,if_neg (by simp),GT (by omega)]
theorem Dq.done{l:List Sig}{q:Bool}{a:Int}{s o:Int}(h:Dq l q a l.length s o):BP q l a=s:=by
 rw[h.1,List.drop_length];simp[BP]
/-! The same, of the places that an iterator has handed on. -/
def Nj(l:List Sig)(q:Bool)(a:Int)(st:Int×Int)(x:Fin l.length):Int×Int:=
 if(l[x].inp==q)=true then(st.1+st.2*(a/As (l.take x)%l[x].size),st.2*l[x].size)else st
def hF(l:List Sig)(q:Bool)(a:Int)(pre:List (Fin l.length)):Int×Int:=pre.foldl (Nj l q a) (0,1)
theorem Ka(l:List Sig)(q:Bool)(a:Int)(pre:List (Fin l.length))(x:Fin l.length):hF l q a (pre++[x])=Nj l q a (hF l q a pre) x:=by simp[hF]
theorem Fc{α:Type}{P:List α->Prop}(h0:P [])(h1:∀pre x,P pre->P (pre++[x])):∀pre,P pre:=by
 have key:∀(n:Nat)(pre:List α),pre.length=n->P pre:=by
  intro n
  induction n with
  |zero=>intro pre hp;rw[List.eq_nil_of_length_eq_zero hp];exact h0
  |succ n ih=>
   intro pre hp
   have hne:pre≠[]:=by intro e;rw[e]at hp;simp at hp
   rw[<-List.dropLast_concat_getLast hne];exact h1 _ _ (ih _ (by simp[hp]))
 exact fun pre=>key _ pre rfl
theorem TJ{l:List Sig}(hz:∀s∈l,AS s=true)(q:Bool)(a:Int)(pre:List (Fin l.length)):
  0<=(hF l q a pre).1/\(hF l q a pre).1<(hF l q a pre).2/\(hF l q a pre).2<=4^pre.length:=by
 induction pre using Fc with
 |h0=>simp[hF]
 |h1 pre x ih=>
  obtain⟨h2,h3,h4⟩:=ih;have hs:=Bx hz _ (List.getElem_mem x.2);have hd0:=Int.emod_nonneg (a/As (l.take x)) (show l[x.1].size≠0 by omega);have hd1:=Int.emod_lt_of_pos (a/As (l.take x)) (show 0<l[x.1].size by omega);have hb:=C0 h2 h3 hd0 hd1;rw[Ka,Nj,List.length_append,List.length_singleton,Int.pow_succ];simp only[Fin.getElem_fin]
  split
  ·exact⟨hb.1,hb.2,Int.mul_le_mul h4 hs.2 (by omega) (by omega)⟩
  ·exact⟨h2,h3,by omega⟩
theorem Rs{l:List Sig}(hz:∀s∈l,AS s=true)(q:Bool)(a:Int)(k:Nat)(hk:k<=l.length):
  Dq l q a k (hF l q a ((CK l.length).take k)).1 (hF l q a ((CK l.length).take k)).2:=by
 induction k with
 |zero=>exact Dq.start l q a
 |succ k ih=>
  have h:=ih (by omega);rw[Cy (show k<l.length by omega),Ka,Nj]
  cases hq:(l[k].inp==q)
  ·have:=h.miss hz (by omega) hq;simpa[hq]using this
  ·have:=h.hit hz (by omega) hq;simpa[hq]using this
theorem ST{l:List Sig}(hz:∀s∈l,AS s=true)(q:Bool)(a:Int):BP q l a=(hF l q a (CK l.length)).1:=by
 have h:=Rs hz q a l.length leR;rw[List.take_of_length_le (by rw[Cb];exact Nat.le_refl _)]at h;exact h.done
theorem FH{l:List Sig}(hz:∀s∈l,AS s=true)(h6:l.length<=6)(k:Nat):1<=As (l.take k)/\As (l.take k)<=4096:=by
 obtain⟨hp1,hp2⟩:=GC (l.take k) (fun s hs=>hz s (List.mem_of_mem_take hs));exact⟨hp1,Int.le_trans hp2 (LD (by rw[List.length_take];omega))⟩
/-! Joining, of the places that have come. -/
def Np(l:List Sig)(st:Int×Int×Int)(x:Fin l.length):Int×Int×Int:=
 if l[x].inp=true then(st.1/l[x].size,st.2.1,st.2.2+As (l.take x)*(st.1%l[x].size))else(st.1,st.2.1/l[x].size,st.2.2+As (l.take x)*(st.2.1%l[x].size))
def jF(l:List Sig)(i o:Int)(pre:List (Fin l.length)):Int×Int×Int:=pre.foldl (Np l) (i,o,0)
theorem Kc(l:List Sig)(i o:Int)(pre:List (Fin l.length))(x:Fin l.length):jF l i o (pre++[x])=Np l (jF l i o pre) x:=by simp[jF]
theorem TK{l:List Sig}(hz:∀s∈l,AS s=true)(h6:l.length<=6){i o:Int}(hi:0<=i)(ho:0<=o)(pre:List (Fin l.length)):
  (0<=(jF l i o pre).1/\(jF l i o pre).1<=i)/\(0<=(jF l i o pre).2.1/\(jF l i o pre).2.1<=o)/\0<=(jF l i o pre).2.2/\(jF l i o pre).2.2<=16384*pre.length:=by
 induction pre using Fc with
 |h0=>simp[jF];omega
 |h1 pre x ih=>
  obtain⟨⟨a0,a1⟩,⟨b0,b1⟩,c0,c1⟩:=ih;have hs:=Bx hz _ (List.getElem_mem x.2);obtain⟨hp1,hp2⟩:=FH hz h6 x;rw[Kc,Np,List.length_append,List.length_singleton];simp only[Fin.getElem_fin]at*
  split
  ·have e0:=Int.emod_nonneg (jF l i o pre).1 (show l[x.1].size≠0 by omega);have e1:=Int.emod_lt_of_pos (jF l i o pre).1 (show 0<l[x.1].size by omega);have d0:=Int.ediv_nonneg a0 (show 0<=l[x.1].size by omega);have d1:=Int.ediv_le_self l[x.1].size a0;obtain⟨⟨hm0,hm1⟩,-⟩:=DH hp1 hp2 e0 e1 hs.2;refine⟨⟨d0,by simp only;omega⟩,⟨b0,b1⟩,by simp only;omega, ?_⟩;simp only;push_cast;omega
  ·have e0:=Int.emod_nonneg (jF l i o pre).2.1 (show l[x.1].size≠0 by omega);have e1:=Int.emod_lt_of_pos (jF l i o pre).2.1 (show 0<l[x.1].size by omega);have d0:=Int.ediv_nonneg b0 (show 0<=l[x.1].size by omega);have d1:=Int.ediv_le_self l[x.1].size b0;obtain⟨⟨hm0,hm1⟩,-⟩:=DH hp1 hp2 e0 e1 hs.2;refine⟨⟨a0,a1⟩,⟨d0,by simp only;omega⟩,by simp only;omega, ?_⟩;simp only;push_cast;omega
theorem Ry{l:List Sig}(hz:∀s∈l,AS s=true)(i o:Int)(k:Nat)(hk:k<=l.length):
  FL l k (jF l i o ((CK l.length).take k)).2.2 (jF l i o ((CK l.length).take k)).1 (jF l i o ((CK l.length).take k)).2.1 (CT l i o):=by
 induction k with
 |zero=>exact⟨by simp[As,jF],by simp[jF],by simp[jF,As]⟩
 |succ k ih=>
  have h:=ih (by omega);have hs:=Bx hz _ (List.getElem_mem (show k<l.length by omega));have hp:=El (l:=l.take k) (fun s hs=>hz s (List.mem_of_mem_take hs));rw[Cy (show k<l.length by omega),Kc,Np]
  cases hq:l[k].inp
  ·have:=h.next_out (by omega) hq hs.1 hp;simpa[hq]using this
  ·have:=h.next_in (by omega) hq hs.1 hp;simpa[hq]using this
theorem SU{l:List Sig}(hz:∀s∈l,AS s=true)(i o:Int):CT l i o=(jF l i o (CK l.length)).2.2:=by
 have h:=Ry hz i o l.length leR;rw[List.take_of_length_le (by rw[Cb];exact Nat.le_refl _)]at h;have:=h.1;rw[List.drop_length]at this;simp only[CT]at this;omega
structure MkX(w:World)(vs vv:Value)(B n r:Int)(b4:Nat)(q:Bool)(W:World):Prop where
 b0:Boxed W w.heap.size 22 vs
 b1:Boxed W (w.heap.size+1) 26 vv
 b2:Boxed W (w.heap.size+1+1) 3 (.int .i64 r)
 b3:Boxed W (w.heap.size+1+1+1) 4 (.bool q)
 b5:Boxed W b4 3 (.int .i64 n)
theorem MkX.below{w W W3:World}{vs vv:Value}{B n r:Int}{b4:Nat}{q:Bool}(h:MkX w vs vv B n r b4 q W)(hb:Below W.heap.size W W3):MkX w vs vv B n r b4 q W3:=
 ⟨AP hb h.b0,AP hb h.b1,AP hb h.b2,AP hb h.b3,AP hb h.b5⟩
theorem MkX.drew{w W:World}{vs vv:Value}{B n r:Int}{b4:Nat}{q:Bool}(h:MkX w vs vv B n r b4 q W):MkX w vs vv B n r b4 q W.drew:=⟨h.b0,h.b1,h.b2,h.b3,h.b5⟩
theorem MkX.letter{w W:World}{vs vv:Value}{B n r:Int}{b4:Nat}{q:Bool}(h:MkX w vs vv B n r b4 q W)(hb:w.heap.size+4<=b4)(m:Int):MkX w vs vv B m r b4 q (W.setCell ⟨b4,0,none⟩ (.int .i64 m)):=
 ⟨h.b0.other (by omega) _,h.b1.other (by omega) _,h.b2.other (by omega) _,h.b3.other (by omega) _,h.b5.set _⟩
structure MkY(w:World)(vs vv:Value)(r:Int)(q:Bool)(W:World):Prop where
 b0:Boxed W w.heap.size 22 vs
 b1:Boxed W (w.heap.size+1) 26 vv
 b2:Boxed W (w.heap.size+1+1) 3 (.int .i64 r)
 b3:Boxed W (w.heap.size+1+1+1) 4 (.bool q)
theorem MkY.below{w W W3:World}{vs vv:Value}{r:Int}{q:Bool}(h:MkY w vs vv r q W)(hb:Below W.heap.size W W3):MkY w vs vv r q W3:=
 ⟨AP hb h.b0,AP hb h.b1,AP hb h.b2,AP hb h.b3⟩
theorem MkY.mk'(w:World)(vs vv:Value):
  MkY w vs vv 0 false ((((w.alloc (.cells #[vs] 22)).alloc (.cells #[vv] 26)).alloc (.cells #[.int .i64 0] 3)).alloc (.cells #[.bool false] 4)):=by
 have e3:=Boxed.new (((w.alloc (.cells #[vs] 22)).alloc (.cells #[vv] 26)).alloc (.cells #[.int .i64 0] 3)) 4 (.bool false);have e2:=(Boxed.new ((w.alloc (.cells #[vs] 22)).alloc (.cells #[vv] 26)) 3 (.int .i64 0)).alloc (.cells #[.bool false] 4);have e1:=((Boxed.new (w.alloc (.cells #[vs] 22)) 26 vv).alloc (.cells #[.int .i64 0] 3)).alloc (.cells #[.bool false] 4);have e0:=(((Boxed.new w 22 vs).alloc (.cells #[vv] 26)).alloc (.cells #[.int .i64 0] 3)).alloc (.cells #[.bool false] 4);simp only[World.size_alloc]at e3 e2 e1;exact⟨e0,e1,e2,e3⟩
attribute [local go_sem] Oper.semAt_some
theorem Dp(B:Nat)(W:World)(n:Nat):KeepsFrom B W (W.drewN n):=(show KeepsOthers W (W.drewN n)from⟨Nat.le_refl _,fun _ _ h _=>h⟩).from _
theorem MkY.drewN{w W:World}{vs vv:Value}{r:Int}{q:Bool}(h:MkY w vs vv r q W)(n:Nat):MkY w vs vv r q (W.drewN n):=⟨h.b0,h.b1,h.b2,h.b3⟩
theorem MkX.drewN{w W:World}{vs vv:Value}{B n r:Int}{b4:Nat}{q:Bool}(h:MkX w vs vv B n r b4 q W)(k:Nat):MkX w vs vv B n r b4 q (W.drewN k):=⟨h.b0,h.b1,h.b2,h.b3,h.b5⟩
theorem DG(B:Nat)(W:World)(b:Nat)(v:Value):KeepsFrom B W (W.setCell ⟨b,0,none⟩ v):=(KeepsOthers.setCell W ⟨b,0,none⟩ v).from _
attribute [local go_sem] Oper.semAt_some
def KK(B n₀ Bs:Nat)(W A:World):Prop:=KeepsFrom B W A/\KpW n₀ Bs W A
theorem KK.refl(B n₀ Bs:Nat)(W:World):KK B n₀ Bs W W:=⟨KeepsFrom.refl _ _,KpW.refl _ _ _⟩
theorem KK.drewN{B n₀ Bs:Nat}{W A:World}(h:KK B n₀ Bs W A)(n:Nat):KK B n₀ Bs W (A.drewN n):=⟨h.1.trans (Dp _ _ _),h.2.1.trans (Am _ _ _),h.2.2⟩
theorem KK.drew{B n₀ Bs:Nat}{W A:World}(h:KK B n₀ Bs W A):KK B n₀ Bs W A.drew:=⟨h.1.trans ((KeepsOthers.drew _).from _),h.2.1.trans (Below.drew Ad),h.2.2⟩
theorem KK.set{B n₀ Bs:Nat}{W A:World}(h:KK B n₀ Bs W A){b:Nat}(hne:Bs≠b)(hle:n₀<=b)(v:Value):KK B n₀ Bs W (A.setCell ⟨b,0,none⟩ v):=
 ⟨h.1.trans (DG _ _ _ _),h.2.1.setCell (p:=⟨b,0,none⟩) hle v,(heap_setCell_other A ⟨b,0,none⟩ Bs v hne).trans h.2.2⟩
structure HvX(w:World)(q:Bool)(st:Int×Int)(W:World):Prop where
 b0:Boxed W w.heap.size 4 (.bool q)
 b1:Boxed W (w.heap.size+1) 3 (.int .i64 st.1)
 b2:Boxed W (w.heap.size+1+1) 3 (.int .i64 st.2)
theorem HvX.below{w W W3:World}{q:Bool}{st:Int×Int}(h:HvX w q st W)(hb:Below W.heap.size W W3):HvX w q st W3:=⟨AP hb h.b0,AP hb h.b1,AP hb h.b2⟩
theorem HvX.drew{w W:World}{q:Bool}{st:Int×Int}(h:HvX w q st W):HvX w q st W.drew:=⟨h.b0,h.b1,h.b2⟩
theorem HvX.drewN{w W:World}{q:Bool}{st:Int×Int}(h:HvX w q st W)(n:Nat):HvX w q st (W.drewN n):=⟨h.b0,h.b1,h.b2⟩
theorem HvX.sum{w W:World}{q:Bool}{st:Int×Int}(h:HvX w q st W)(s:Int):HvX w q (s,st.2) (W.setCell ⟨w.heap.size+1,0,none⟩ (.int .i64 s)):=
 ⟨h.b0.other (by omega) _,h.b1.set _,h.b2.other (by omega) _⟩
theorem HvX.own{w W:World}{q:Bool}{st:Int×Int}(h:HvX w q st W)(o:Int):HvX w q (st.1,o) (W.setCell ⟨w.heap.size+1+1,0,none⟩ (.int .i64 o)):=
 ⟨h.b0.other (by omega) _,h.b1.other (by omega) _,h.b2.set _⟩
theorem Ru(w:World)(q:Bool){α:Type}(f:α->Int×Int):Own (fun(s:α)W=>HvX w q (f s) W):=fun s X Y row h hg hr=>
 ⟨boxed_own _ _ (fun(_:Unit)=>Value.bool q) () X Y row h.b0 hg hr,boxed_own _ _ (fun s=>Value.int .i64 (f s).1) s X Y row h.b1 hg hr,boxed_own _ _ (fun s=>Value.int .i64 (f s).2) s X Y row h.b2 hg hr⟩
theorem Rt(w:World)(ao:Option Addr)(cap b off A0 A1:Nat)(l:List Sig)(a:Int)(q:Bool)(hl:Hm w ao cap b off l)(hv:At l=true)(h0:0<=a)(ha:I64 a)
  (hc0:w.cell? ⟨A0,0,none⟩=some (.slice ao l.length cap)) (hc1:w.cell? ⟨A1,0,none⟩=some (.int .i64 a)):
  Calls Tryz.prog 109 #[.bool q,.pointer (some ⟨A0,0,none⟩),.pointer (some ⟨A1,0,none⟩)] w (Av (.int .i64 (BP q l a)) w):=by
 obtain⟨hz,hl1,hl6,-⟩:=Ba hv;have hn:=hl.nb;unfold I64 at ha;have hb:b<w.heap.size:=World.block_lt_of_cell? w _ (hl.nn 0 (by omega));have hA0:A0<w.heap.size:=World.block_lt_of_cell? w _ hc0;have hA1:A1<w.heap.size:=World.block_lt_of_cell? w _ hc1
 have hne0:¬A0=w.heap.size:=by omega
 have hne1:¬A0=w.heap.size+1:=by omega
 have hne2:¬A0=w.heap.size+1+1:=by omega
 have HV:=Ab hv;have HZ:=Ab hz;have HALL:=Ab (ST hz q a);clear hz hv
 have hmx:Tryz.prog.follows .mixedOrders=true:=by kernel_rfl
 refine callsIn_wide (n:=5)|>.1 ?_;refine Bu Tryz.func109 rfl trivial ?_;simp only[Tryz.ntmps109,List.size_toArray,List.length_cons,List.length_nil,Nat.reduceAdd,Nat.reduceSub,Array.replicate_succ,Array.replicate_zero,List.push_toArray,List.append_toArray,List.nil_append,List.cons_append]
 gi_upto_region 2 with(fail)
 have hX0:HvX w q (0,1) (((w.alloc (.cells #[.bool q] 4)).alloc (.cells #[.int .i64 0] 3)).alloc (.cells #[.int .i64 1] 3)):=by
  have e2:=Boxed.new ((w.alloc (.cells #[.bool q] 4)).alloc (.cells #[.int .i64 0] 3)) 3 (.int .i64 1);have e1:=(Boxed.new (w.alloc (.cells #[.bool q] 4)) 3 (.int .i64 0)).alloc (.cells #[.int .i64 1] 3);have e0:=((Boxed.new w 4 (.bool q)).alloc (.cells #[.int .i64 0] 3)).alloc (.cells #[.int .i64 1] 3);simp only[World.size_alloc]at e2 e1;exact⟨e0,e1,e2⟩
 have hB0:Below w.heap.size w (((w.alloc (.cells #[.bool q] 4)).alloc (.cells #[.int .i64 0] 3)).alloc (.cells #[.int .i64 1] 3)):=(by repeat(first|exact Ad|assumption|apply AD|apply AE));generalize(((w.alloc (.cells #[.bool q] 4)).alloc (.cells #[.int .i64 0] 3)).alloc (.cells #[.int .i64 1] 3))=w1 at*;have q0:=Ah hB0 hc0
 have hz1:w.heap.size+3<=w1.heap.size:=by have:=hX0.b2.lt;omega
 gi_wp2_with fail
 refine⟨trivial, ?_⟩;refine(callsIn_wide.2 (Di _ _ _ _)).mono ?_;rintro e w2 ⟨rfl,hw2⟩
 gi_wp2_with fail
 rw[<-hw2]
 have hB2:Below w.heap.size w w2:=by rw[hw2];exact hB0.trans (((Below.refl _ w1).alloc leR _).mono hB0.size)
 have hX2:HvX w q (0,1) w2:=by rw[hw2];exact hX0.below (Ao _)
 have hZ2:w1.heap.size<w2.heap.size:=by rw[hw2];simp
 have e4:w2.cell? ⟨w1.heap.size,0,none⟩=some (.slice ao l.length cap):=by rw[hw2];exact Fz _ _ _
 clear hw2 hX0 hB0 q0;generalize w1.heap.size=Bs at*
 refine wpIn_rangeFunc_ownG rfl (by omega) (gf:=108) (lb:=#[.pointer (some ⟨Bs,0,none⟩)]) rfl trivial (enters_of Tryz.func108 (by kernel_rfl) rfl)
  (Ca Fence.wide (5-1) trivial rfl (by omega) Bs w.heap.size b off cap ao l HV.out hb w2 (by omega) (by omega) e4 (hl.below hB2)) KpW.trans (KpW.put (by omega) (by omega)) Ad (fun _=>rfl)
  (fun pre W=>HvX w q (hF l q a pre) W/\Below w.heap.size w W)
  (fun _ _ _=>False)
  (OwnFrom.and (Own.from (Ru w q (fun pre=>hF l q a pre)) _) (ownFrom_below leR (by omega)))
  (fun _ _ _ _ _ hs _ _=>hs)
  ⟨hX2,hB2⟩
  ?a1 ?assign ?body ?done ?stop
 case assign=>
  intro lY x W K hK;unfold IT
  gi_wp2
  exact hK
 case body=>
  rintro lY pre x W ⟨hX,hB⟩ hpl;obtain⟨x,hx⟩:=x
  have hd:1<=5-1-1:=by omega
  have q0:=hX.b0.cell;have q1:=hX.b1.cell;have f1:=hX.b1.frozen;have q2:=hX.b2.cell;have f2:=hX.b2.frozen;have c0:=Ah hB hc0;have c1:=Ah hB hc1;have hlW:=hl.below hB;have n1:=hlW.ni x hx;have n2:=hlW.nz x hx;obtain rfl:=hl.ad (by omega);obtain⟨hs1,hs2⟩:=DT HZ.out _ (List.getElem_mem hx);obtain⟨hp1,hp2⟩:=D3 HZ.out hl6 x;obtain⟨hb0,hb1,hb2⟩:=TJ HZ.out q a pre;have hb3:(hF l q a pre).2<=4096:=Int.le_trans hb2 (LD (by omega));have HSN:Hid (hF l q a (pre++[⟨x,hx⟩])=if(l[x].inp==q)=true then((hF l q a pre).1+(hF l q a pre).2*(a/As (l.take x)%l[x].size),(hF l q a pre).2*l[x].size)else hF l q a pre):=Ka _ _ _ _ _;have HX:=Ab hX;have hq0:0<=a/As (l.take x):=Int.ediv_nonneg h0 (by omega);have hq1:a/As (l.take x)<=a:=Int.ediv_le_self _ h0;have hr0:=Int.emod_nonneg (a/As (l.take x)) (show l[x].size≠0 by omega);have hr1:=Int.emod_lt_of_pos (a/As (l.take x)) (show 0<l[x].size by omega);have ht1:a.tdiv (As (l.take x))=a/As (l.take x):=Int.tdiv_eq_ediv_of_nonneg h0;have ht2:(a/As (l.take x)).tmod l[x].size=a/As (l.take x)%l[x].size:=Int.tmod_eq_emod_of_nonneg hq0;have hw1:IntKind.i64.wrap (a/As (l.take x))=a/As (l.take x):=IntWalk.i64_in _ ⟨by omega,by omega⟩;have hw3:IntKind.i64.wrap (a/As (l.take x)%l[x].size)=a/As (l.take x)%l[x].size:=IntWalk.i64_in _ ⟨by omega,by omega⟩
  have hz0:¬As (l.take x)=0:=by omega
  have hz1:¬l[x].size=0:=by omega
  have hm:=DH (show 1<=(hF l q a pre).2 by omega) hb3 hr0 hr1 hs2;have hpw:=IF (show 1<=(hF l q a pre).2 by omega) hb3 hs1 hs2;clear hlW hX hb2 hp2;generalize As (l.take x)=pw at*;generalize l[x].size=z at*;generalize a/pw%z=rm at*;generalize a/pw=qt at*;generalize hst:hF l q a pre=st at*;have HST:=Ab hst;clear hst;obtain⟨s,o⟩:=st;simp only at hb0 hb1 hb3 q1 q2 hm hpw;obtain⟨⟨hm0,hm1⟩,hmw⟩:=hm
  have hmw2:IntKind.i64.wrap (rm*o)=o*rm:=by rw[Int.mul_comm rm o];exact hmw
  have hmw3:IntKind.i64.wrap (s+o*rm)=s+o*rm:=IntWalk.i64_in _ ⟨by omega,by omega⟩;clear hmw
  cases hq:(l[x].inp==q)
  ·gi_wp2
   refine BS hmx (by kernel_rfl) (by kernel_rfl) ?_
   ((repeat(go_big_quiet_step (fail)));refine wpQuiet_nil ?_;rintro _ ⟨nq,rfl⟩)
   gi_wp2
   exact⟨Dp _ _ _,⟨Am _ _ _,rfl⟩,by rw[HSN.out,hq];exact HX.out.drewN nq,hB.trans (Am _ _ _)⟩
  ·have HSN2:Hid (hF l q a (pre++[⟨x,hx⟩])=(s+o*rm,o*z)):=by
    show _=_;rw[HSN.out,hq];rfl
   gi_wp2
   refine BS hmx (by kernel_rfl) (by kernel_rfl) ?_
   ((repeat(go_big_quiet_step (fail)));refine wpQuiet_nil ?_;rintro _ ⟨nq,rfl⟩)
   gi_wp2
   refine Bf 13 hmx (by kernel_rfl) (by kernel_rfl) ?_;simp only[List.take_succ_cons,List.take_zero,List.drop_succ_cons,List.drop_zero]
   repeat still_step
   refine wpStill_nil ?_
   gi_wp2
   refine Bf 7 hmx (by kernel_rfl) (by kernel_rfl) ?_;simp only[List.take_succ_cons,List.take_zero,List.drop_succ_cons,List.drop_zero]
   repeat still_step
   refine wpStill_nil ?_
   gi_wp2
   have hk:=((((KK.refl w2.heap.size w.heap.size Bs W).drewN nq).drew.set (b:=w.heap.size+1) (by omega) (by omega) (.int .i64 (s+o*rm))).drew).set (b:=w.heap.size+1+1) (by omega) (by omega) (.int .i64 (o*z));exact⟨hk.1,hk.2,by rw[HSN2.out];exact((((HX.out.drewN nq).drew).sum _).drew).own _,hB.trans hk.2.1⟩
 case done=>
  rintro D ys W hD rfl ⟨hX,hB⟩ hK;have q1:=hX.b1.cell
  gi_wp2
  refine⟨by simp,.inl ⟨_,_,rfl,run_takeDeferred hK, ?_⟩⟩;exact⟨_,results_tmp rfl _ _ _,by rw[HALL.out];rfl,hB.trans (belowK_b (w:=w) leR W D _ _ (by omega) hK rfl rfl)⟩
 case stop=>
  rintro D c pre W _ _ h _;exact h.elim
end Go.Proofs.YtncjeamdkjcebaaGreatDoor
