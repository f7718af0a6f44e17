/- Signals. -/
import Derived.Test.YtncjeamdkjcebaaGreatDoorYArS
set_option linter.all false
set_option maxHeartbeats 4000000
set_option maxRecDepth 100000
namespace Go.Proofs.YtncjeamdkjcebaaGreatDoor
open Go.RowKit
open Go.RowKit Go.Shelf
open Go
attribute [local go_sem] Oper.semAt_some
theorem P9(w:World)(vl:Value)(l:List Sig)(hK:B7 w)(hl:AD w vl l):
  Calls Tryz.prog 106 #[vl,.func (.func 113) #[] #[]] w (Av (.int .i64 (if As l then A9 (fun s=>s.inp) l else 0)) w):=by
 have o:=hl;obtain⟨ao,cap,b,off,rfl,hl⟩:=hl;have hn:=hl.nb
 cases hv:As l
 ·go_enter Tryz.func106,Tryz.ntmps106
  go_wp2_with fail
  refine(CC _ _ l (hK.below (by repeat(first|exact Ad|assumption|apply AE|apply AB))) (o.below (by repeat(first|exact Ad|assumption|apply AE|apply AB)))).mono ?_;rintro e w1 ⟨rfl,n,rfl⟩;rw[hv];go_wp2;go_ret;exact⟨rfl,AB (by repeat(first|exact Ad|assumption|apply AE|apply AB)) _⟩
 have hV:Hid (∀W,Below w.heap.size w W->Calls Tryz.prog 41 #[.slice ao l.length cap] W (DZ (.bool true) W)):=fun W hW=>by
  have:=CC W _ l (hK.below hW) (o.below hW)
  rwa [hv]at this
 refine callsIn_wide (n:=5)|>.1 ?_;refine callsIn_of_wp_marks Tryz.func106 rfl trivial ?_;simp only[Tryz.ntmps106,List.size_toArray,List.length_cons,List.length_nil,Nat.reduceAdd,Nat.reduceSub,Array.replicate_succ,Array.replicate_zero,List.push_toArray,List.append_toArray,List.nil_append,List.cons_append]
 gi_wp2_with fail
 refine⟨trivial, ?_⟩;refine(callsIn_wide.2 (hV.out _ (by repeat(first|exact Ad|assumption|apply AE|apply AB)))).mono ?_;rintro e w1 ⟨rfl,n1,j⟩
 have r:Below w.heap.size w w1:=by rw[j];exact AB (by repeat(first|exact Ad|assumption|apply AE|apply AB)) _
 have k:w1.heap.size=w.heap.size+2:=by rw[j];simp[World.drewN]
 have c0:w1.cell? ⟨w.heap.size,0,none⟩=some (.slice ao l.length cap):=by rw[j];exact P3 n1 (Ag (Ao _) (FY w _ _))
 have c1:w1.cell? ⟨w.heap.size+1,0,none⟩=some (.func (.func 113) #[] #[]):=by rw[j];have:=FY (w.alloc (.cells #[.slice ao l.length cap] 22)) (.func (.func 113) #[] #[]) 148;rwa [World.size_alloc]at this
 clear j
 gi_wp2_with fail
 refine⟨trivial, ?_⟩;refine(callsIn_wide.2 (DJ _ _ _ _)).mono ?_;rintro e w2 ⟨rfl,f⟩
 gi_wp2_with fail
 rw[<-f]
 have hB2:Below w.heap.size w w2:=by rw[f];exact r.trans ((((Below.refl _ w1).alloc leR _).alloc (by simp) _).mono (by omega))
 have am:w2.heap.size=w.heap.size+4:=by rw[f];simp[k]
 have e0:w2.cell? ⟨w.heap.size,0,none⟩=some (.slice ao l.length cap):=by rw[f];exact Ag (Ao _) (Ag (Ao _) c0)
 have e1:w2.cell? ⟨w.heap.size+1,0,none⟩=some (.func (.func 113) #[] #[]):=by rw[f];exact Ag (Ao _) (Ag (Ao _) c1)
 have en:=FY w1 (.int .i64 1) 3
 have e2:w2.cell? ⟨w.heap.size+2,0,none⟩=some (.int .i64 1):=by rw[f,<-k];exact Ag (Ao _) en
 have f2:w2.frozen? ⟨w.heap.size+2,0,none⟩=false:=by rw[f,<-k];exact((Ao _).frozen (p:=⟨w1.heap.size,0,none⟩) (by simp)).trans (Tz w1 _ _)
 have e3:w2.cell? ⟨w.heap.size+3,0,none⟩=some (.slice ao l.length cap):=by
  have:=FY (w1.alloc (.cells #[.int .i64 1] 3)) (.slice ao l.length cap) 22;rw[World.size_alloc,k]at this;rw[f];exact this
 have ab:=hv;simp only[As,Bool.and_eq_true,decide_eq_true_eq]at ab;obtain⟨⟨⟨ah,ai⟩,hA⟩,-⟩:=ab
 have aa:∀s∈l,AP s=true:=fun s hs=>Fp hA leR s (by rwa [List.take_length])
 have hb:b<w.heap.size:=by
  have:=World.block_lt_of_cell? w _ (hl.nn 0 (by omega));exact this
 have aj:Tryz.prog.follows .mixedOrders=true:=by kernel_rfl
 clear hA c0 c1 en f r k
 refine wpIn_rangeFunc_ownG rfl (by omega) (gf:=108) (lb:=#[.pointer (some ⟨w.heap.size+2+1,0,none⟩)]) rfl trivial (enters_of Tryz.func108 (by kernel_rfl) rfl)
  (Ci Fence.wide (5-1) trivial rfl (by omega) (w.heap.size+3) w.heap.size b off cap ao l hv hb w2 (by omega) (by omega) e3 (hl.below hB2)) KpW.trans (KpW.put (by omega) (by omega)) Ad (fun _=>rfl)
  (fun pre W=>Dq w (.slice ao l.length cap) (.func (.func 113) #[] #[]) (BD (fun s=>s.inp) l pre) W/\Below w.heap.size w W)
  (fun _ _ _=>False)
  (OwnFrom.and (Gk w _ _ (BD (fun s=>s.inp) l) _) (ownFrom_below leR (by omega)))
  (fun _ _ _ _ _ hs _ _=>hs)
  ⟨⟨e2,f2,e0,e1,e3⟩,hB2⟩
  (fun x=>{tmps:=#[.slice ao l.length cap,.func (.func 113) #[] #[],.pointer (some ⟨w.heap.size,0,none⟩),.pointer (some ⟨w.heap.size+1,0,none⟩),.int .i64 0,.pointer (some ⟨w.heap.size+2,0,none⟩),.int .i64 ((x:Nat):Int),.slice ao l.length cap,.bool true,.bool false,.slice ao l.length cap,.func (.func 108) #[] #[.pointer (some ⟨w.heap.size+2+1,0,none⟩)],.int .i64 ((x:Nat):Int),.int .i64 (An (l.take x)),undef,undef,undef,undef,undef,undef,undef,undef,undef,undef,undef,undef,undef,undef],defers:=[]}) ?assign ?body ?done ?stop
 case assign=>
  intro lY x W K hK;unfold Jp
  gi_wp2
  exact hK
 case body=>
  rintro lY pre x W ⟨hI,hB⟩ ak;obtain⟨q2,g2,q0,q1,-⟩:=id hI
  have hd:1<=5-1-1:=by omega
  have i:=hl.below hB;obtain⟨x,hx⟩:=x;have n0:=i.nn x hx;have n1:=i.ni x hx;have n2:=i.nz x hx;obtain rfl:=hl.ad (by omega)
  have u:∀W:World,Calls Tryz.prog 113 #[.agg #[.string l[x].name,.bool l[x].inp,.int .i64 l[x].size]] W (Av (.bool (l[x].inp)) W):=fun W=>Ud W l[x]
  have d:=Ab u;clear u o hK hV hn
  cases hin:l[x].inp
  ·rw[hin]at n1;simp only[hin]at d
   (try simp only[Bool.not_false]at d)
   (try simp only[Bool.not_true]at d)
   gi_upto_region 6 with(fail)
   gi_cut [19]from 14 (fun v wx=>∃W3:World,W3=wx/\v=.bool false/\Below W.heap.size W W3)
   case first=>
    gi_region_with_o (refine⟨trivial, ?_⟩;gi_at_call 113;refine(CallsIn.inRound lY (callsIn_wide.2 (d.out _))).mono ?_;rintro e W3 ⟨rfl,a⟩)
    all_goals gi_wp2_with fail
    all_goals
     gi_meet
     case rel=>exact⟨_,rfl,rfl,(Below.drew Ad).trans a⟩
   case rest=>
    obtain⟨W3,rfl,rfl,a⟩:=hcut
    have m:Hid (BD (fun s=>s.inp) l (pre++[⟨x,hx⟩])=BD (fun s=>s.inp) l pre):=by show _=_;rw[De,if_neg (by simp[hin])]
    have HI:=Ab hI;clear q2 q0 q1 n0 n1 n2 g2 e0 e1 e2 e3 f2 d i hI
    gi_wp2
    have hr:=IV (B:=w2.heap.size) HI.out hB a;exact⟨hr.1,hr.2.1,by rw[m.out];exact hr.2.2.1,hr.2.2.2⟩
  ·rw[hin]at n1;simp only[hin]at d
   (try simp only[Bool.not_false]at d)
   (try simp only[Bool.not_true]at d)
   gi_upto_region 6 with(fail)
   gi_cut [19]from 14 (fun v wx=>∃W3:World,W3=wx/\v=.bool true/\Below W.heap.size W W3)
   case first=>
    gi_region_with_o (refine⟨trivial, ?_⟩;gi_at_call 113;refine(CallsIn.inRound lY (callsIn_wide.2 (d.out _))).mono ?_;rintro e W3 ⟨rfl,a⟩)
    all_goals gi_wp2_with fail
    all_goals
     gi_meet
     case rel=>exact⟨_,rfl,rfl,(Below.drew Ad).trans a⟩
   case rest=>
    obtain⟨W3,rfl,rfl,a⟩:=hcut;have z:=aa _ (List.getElem_mem hx);obtain⟨ac,y⟩:=Jh (ch:=fun s=>s.inp) aa pre;have ae:BD (fun s=>s.inp) l pre<=4096:=Int.le_trans y (Jd (by omega));simp only[AP,Bool.and_eq_true,decide_eq_true_eq]at z;obtain⟨af,ag⟩:=z;have al:=Hu ac ae af ag
    have m:Hid (BD (fun s=>s.inp) l (pre++[⟨x,hx⟩])=BD (fun s=>s.inp) l pre*l[x].size):=by show _=_;rw[De,if_pos (by simp[hin])];rfl
    have r2:=Ag a q2;have r0:=Ag a q0;have m2:=Ag a n2;have g3:W3.frozen? ⟨w.heap.size+2,0,none⟩=false:=(a.frozen (p:=⟨w.heap.size+2,0,none⟩) (World.block_lt_of_cell? W _ q2)).trans g2;have r1:=Ag a q1;have HI:=Ab hI;clear q2 q0 q1 n0 n1 n2 g2 e0 e1 e2 e3 f2 d y i hI;generalize BD (fun s=>s.inp) l pre=pp at*
    gi_wp2
    gi_region_with_o (fail)
    all_goals gi_wp2
    all_goals
     have hr:=Ft (B:=w2.heap.size) (q:=pp*l[x].size) HI.out hB a;exact⟨hr.1,hr.2.1,by rw[m.out];exact hr.2.2.1,hr.2.2.2⟩
 case done=>
  rintro D ys W hD rfl ⟨⟨q2,g2,q0,q1,-⟩,hB⟩ hK
  gi_wp2
  refine⟨by simp,.inl ⟨_,_,rfl,run_takeDeferred hK, ?_⟩⟩;exact⟨_,results_tmp rfl _ _ _,by simp[Hs],hB.trans (belowK_b (w:=w) leR W D _ _ (by omega) hK rfl rfl)⟩
 case stop=>
  rintro D c pre W _ _ h _;exact h.elim
theorem Qa(w:World)(vl:Value)(l:List Sig)(hK:B7 w)(hl:AD w vl l):
  Calls Tryz.prog 106 #[vl,.func (.func 114) #[] #[]] w (Av (.int .i64 (if As l then A9 (fun s=> !s.inp) l else 0)) w):=by
 have o:=hl;obtain⟨ao,cap,b,off,rfl,hl⟩:=hl;have hn:=hl.nb
 cases hv:As l
 ·go_enter Tryz.func106,Tryz.ntmps106
  go_wp2_with fail
  refine(CC _ _ l (hK.below (by repeat(first|exact Ad|assumption|apply AE|apply AB))) (o.below (by repeat(first|exact Ad|assumption|apply AE|apply AB)))).mono ?_;rintro e w1 ⟨rfl,n,rfl⟩;rw[hv];go_wp2;go_ret;exact⟨rfl,AB (by repeat(first|exact Ad|assumption|apply AE|apply AB)) _⟩
 have hV:Hid (∀W,Below w.heap.size w W->Calls Tryz.prog 41 #[.slice ao l.length cap] W (DZ (.bool true) W)):=fun W hW=>by
  have:=CC W _ l (hK.below hW) (o.below hW)
  rwa [hv]at this
 refine callsIn_wide (n:=5)|>.1 ?_;refine callsIn_of_wp_marks Tryz.func106 rfl trivial ?_;simp only[Tryz.ntmps106,List.size_toArray,List.length_cons,List.length_nil,Nat.reduceAdd,Nat.reduceSub,Array.replicate_succ,Array.replicate_zero,List.push_toArray,List.append_toArray,List.nil_append,List.cons_append]
 gi_wp2_with fail
 refine⟨trivial, ?_⟩;refine(callsIn_wide.2 (hV.out _ (by repeat(first|exact Ad|assumption|apply AE|apply AB)))).mono ?_;rintro e w1 ⟨rfl,n1,j⟩
 have r:Below w.heap.size w w1:=by rw[j];exact AB (by repeat(first|exact Ad|assumption|apply AE|apply AB)) _
 have k:w1.heap.size=w.heap.size+2:=by rw[j];simp[World.drewN]
 have c0:w1.cell? ⟨w.heap.size,0,none⟩=some (.slice ao l.length cap):=by rw[j];exact P3 n1 (Ag (Ao _) (FY w _ _))
 have c1:w1.cell? ⟨w.heap.size+1,0,none⟩=some (.func (.func 114) #[] #[]):=by rw[j];have:=FY (w.alloc (.cells #[.slice ao l.length cap] 22)) (.func (.func 114) #[] #[]) 148;rwa [World.size_alloc]at this
 clear j
 gi_wp2_with fail
 refine⟨trivial, ?_⟩;refine(callsIn_wide.2 (DJ _ _ _ _)).mono ?_;rintro e w2 ⟨rfl,f⟩
 gi_wp2_with fail
 rw[<-f]
 have hB2:Below w.heap.size w w2:=by rw[f];exact r.trans ((((Below.refl _ w1).alloc leR _).alloc (by simp) _).mono (by omega))
 have am:w2.heap.size=w.heap.size+4:=by rw[f];simp[k]
 have e0:w2.cell? ⟨w.heap.size,0,none⟩=some (.slice ao l.length cap):=by rw[f];exact Ag (Ao _) (Ag (Ao _) c0)
 have e1:w2.cell? ⟨w.heap.size+1,0,none⟩=some (.func (.func 114) #[] #[]):=by rw[f];exact Ag (Ao _) (Ag (Ao _) c1)
 have en:=FY w1 (.int .i64 1) 3
 have e2:w2.cell? ⟨w.heap.size+2,0,none⟩=some (.int .i64 1):=by rw[f,<-k];exact Ag (Ao _) en
 have f2:w2.frozen? ⟨w.heap.size+2,0,none⟩=false:=by rw[f,<-k];exact((Ao _).frozen (p:=⟨w1.heap.size,0,none⟩) (by simp)).trans (Tz w1 _ _)
 have e3:w2.cell? ⟨w.heap.size+3,0,none⟩=some (.slice ao l.length cap):=by
  have:=FY (w1.alloc (.cells #[.int .i64 1] 3)) (.slice ao l.length cap) 22;rw[World.size_alloc,k]at this;rw[f];exact this
 have ab:=hv;simp only[As,Bool.and_eq_true,decide_eq_true_eq]at ab;obtain⟨⟨⟨ah,ai⟩,hA⟩,-⟩:=ab
 have aa:∀s∈l,AP s=true:=fun s hs=>Fp hA leR s (by rwa [List.take_length])
 have hb:b<w.heap.size:=by
  have:=World.block_lt_of_cell? w _ (hl.nn 0 (by omega));exact this
 have aj:Tryz.prog.follows .mixedOrders=true:=by kernel_rfl
 clear hA c0 c1 en f r k
 refine wpIn_rangeFunc_ownG rfl (by omega) (gf:=108) (lb:=#[.pointer (some ⟨w.heap.size+2+1,0,none⟩)]) rfl trivial (enters_of Tryz.func108 (by kernel_rfl) rfl)
  (Ci Fence.wide (5-1) trivial rfl (by omega) (w.heap.size+3) w.heap.size b off cap ao l hv hb w2 (by omega) (by omega) e3 (hl.below hB2)) KpW.trans (KpW.put (by omega) (by omega)) Ad (fun _=>rfl)
  (fun pre W=>Dq w (.slice ao l.length cap) (.func (.func 114) #[] #[]) (BD (fun s=> !s.inp) l pre) W/\Below w.heap.size w W)
  (fun _ _ _=>False)
  (OwnFrom.and (Gk w _ _ (BD (fun s=> !s.inp) l) _) (ownFrom_below leR (by omega)))
  (fun _ _ _ _ _ hs _ _=>hs)
  ⟨⟨e2,f2,e0,e1,e3⟩,hB2⟩
  (fun x=>{tmps:=#[.slice ao l.length cap,.func (.func 114) #[] #[],.pointer (some ⟨w.heap.size,0,none⟩),.pointer (some ⟨w.heap.size+1,0,none⟩),.int .i64 0,.pointer (some ⟨w.heap.size+2,0,none⟩),.int .i64 ((x:Nat):Int),.slice ao l.length cap,.bool true,.bool false,.slice ao l.length cap,.func (.func 108) #[] #[.pointer (some ⟨w.heap.size+2+1,0,none⟩)],.int .i64 ((x:Nat):Int),.int .i64 (An (l.take x)),undef,undef,undef,undef,undef,undef,undef,undef,undef,undef,undef,undef,undef,undef],defers:=[]}) ?assign ?body ?done ?stop
 case assign=>
  intro lY x W K hK;unfold Jp
  gi_wp2
  exact hK
 case body=>
  rintro lY pre x W ⟨hI,hB⟩ ak;obtain⟨q2,g2,q0,q1,-⟩:=id hI
  have hd:1<=5-1-1:=by omega
  have i:=hl.below hB;obtain⟨x,hx⟩:=x;have n0:=i.nn x hx;have n1:=i.ni x hx;have n2:=i.nz x hx;obtain rfl:=hl.ad (by omega)
  have u:∀W:World,Calls Tryz.prog 114 #[.agg #[.string l[x].name,.bool l[x].inp,.int .i64 l[x].size]] W (Av (.bool (!l[x].inp)) W):=fun W=>Ue W l[x]
  have d:=Ab u;clear u o hK hV hn
  cases hin:l[x].inp
  ·rw[hin]at n1;simp only[hin]at d
   (try simp only[Bool.not_false]at d)
   (try simp only[Bool.not_true]at d)
   gi_upto_region 6 with(fail)
   gi_cut [19]from 14 (fun v wx=>∃W3:World,W3=wx/\v=.bool true/\Below W.heap.size W W3)
   case first=>
    gi_region_with_o (refine⟨trivial, ?_⟩;gi_at_call 114;refine(CallsIn.inRound lY (callsIn_wide.2 (d.out _))).mono ?_;rintro e W3 ⟨rfl,a⟩)
    all_goals gi_wp2_with fail
    all_goals
     gi_meet
     case rel=>exact⟨_,rfl,rfl,(Below.drew Ad).trans a⟩
   case rest=>
    obtain⟨W3,rfl,rfl,a⟩:=hcut;have z:=aa _ (List.getElem_mem hx);obtain⟨ac,y⟩:=Jh (ch:=fun s=> !s.inp) aa pre;have ae:BD (fun s=> !s.inp) l pre<=4096:=Int.le_trans y (Jd (by omega));simp only[AP,Bool.and_eq_true,decide_eq_true_eq]at z;obtain⟨af,ag⟩:=z;have al:=Hu ac ae af ag
    have m:Hid (BD (fun s=> !s.inp) l (pre++[⟨x,hx⟩])=BD (fun s=> !s.inp) l pre*l[x].size):=by show _=_;rw[De,if_pos (by simp[hin])];rfl
    have r2:=Ag a q2;have r0:=Ag a q0;have m2:=Ag a n2;have g3:W3.frozen? ⟨w.heap.size+2,0,none⟩=false:=(a.frozen (p:=⟨w.heap.size+2,0,none⟩) (World.block_lt_of_cell? W _ q2)).trans g2;have r1:=Ag a q1;have HI:=Ab hI;clear q2 q0 q1 n0 n1 n2 g2 e0 e1 e2 e3 f2 d y i hI;generalize BD (fun s=> !s.inp) l pre=pp at*
    gi_wp2
    gi_region_with_o (fail)
    all_goals gi_wp2
    all_goals
     have hr:=Ft (B:=w2.heap.size) (q:=pp*l[x].size) HI.out hB a;exact⟨hr.1,hr.2.1,by rw[m.out];exact hr.2.2.1,hr.2.2.2⟩
  ·rw[hin]at n1;simp only[hin]at d
   (try simp only[Bool.not_false]at d)
   (try simp only[Bool.not_true]at d)
   gi_upto_region 6 with(fail)
   gi_cut [19]from 14 (fun v wx=>∃W3:World,W3=wx/\v=.bool false/\Below W.heap.size W W3)
   case first=>
    gi_region_with_o (refine⟨trivial, ?_⟩;gi_at_call 114;refine(CallsIn.inRound lY (callsIn_wide.2 (d.out _))).mono ?_;rintro e W3 ⟨rfl,a⟩)
    all_goals gi_wp2_with fail
    all_goals
     gi_meet
     case rel=>exact⟨_,rfl,rfl,(Below.drew Ad).trans a⟩
   case rest=>
    obtain⟨W3,rfl,rfl,a⟩:=hcut
    have m:Hid (BD (fun s=> !s.inp) l (pre++[⟨x,hx⟩])=BD (fun s=> !s.inp) l pre):=by show _=_;rw[De,if_neg (by simp[hin])]
    have HI:=Ab hI;clear q2 q0 q1 n0 n1 n2 g2 e0 e1 e2 e3 f2 d i hI
    gi_wp2
    have hr:=IV (B:=w2.heap.size) HI.out hB a;exact⟨hr.1,hr.2.1,by rw[m.out];exact hr.2.2.1,hr.2.2.2⟩
 case done=>
  rintro D ys W hD rfl ⟨⟨q2,g2,q0,q1,-⟩,hB⟩ hK
  gi_wp2
  refine⟨by simp,.inl ⟨_,_,rfl,run_takeDeferred hK, ?_⟩⟩;exact⟨_,results_tmp rfl _ _ _,by simp[Hs],hB.trans (belowK_b (w:=w) leR W D _ _ (by omega) hK rfl rfl)⟩
 case stop=>
  rintro D c pre W _ _ h _;exact h.elim
def Ay(l:List Sig):Int:=if As l then A9 (fun _=>true) l else 0
def Al(l:List Sig):Int:=if As l then A9 (fun s=>s.inp) l else 0
def Ai(l:List Sig):Int:=if As l then A9 (fun s=> !s.inp) l else 0
theorem EH(w:World)(vl:Value)(l:List Sig)(hK:B7 w)(hl:AD w vl l):Calls Tryz.prog 67 #[vl] w (Av (.int .i64 (Ay l)) w):=by
 have h:=P8 w vl l hK hl;obtain⟨ao,a,b,c,rfl,hl⟩:=hl;have H:Hid (Calls Tryz.prog 106 #[.slice ao l.length a,.func (.func 107) #[] #[]] w (Av (.int .i64 (Ay l)) w)):=h;clear h hl hK
 go_enter Tryz.func67,Tryz.ntmps67
 go_wp2_with fail
 refine H.out.mono ?_;rintro e w1 ⟨rfl,hb⟩;go_wp2;go_ret;exact⟨rfl,hb⟩
theorem Eb(w:World)(vl:Value)(l:List Sig)(hK:B7 w)(hl:AD w vl l):Calls Tryz.prog 78 #[vl] w (Av (.int .i64 (Al l)) w):=by
 have h:=P9 w vl l hK hl;obtain⟨ao,a,b,c,rfl,hl⟩:=hl;have H:Hid (Calls Tryz.prog 106 #[.slice ao l.length a,.func (.func 113) #[] #[]] w (Av (.int .i64 (Al l)) w)):=h;clear h hl hK
 go_enter Tryz.func78,Tryz.ntmps78
 go_wp2_with fail
 refine H.out.mono ?_;rintro e w1 ⟨rfl,hb⟩;go_wp2;go_ret;exact⟨rfl,hb⟩
theorem Dg(w:World)(vl:Value)(l:List Sig)(hK:B7 w)(hl:AD w vl l):Calls Tryz.prog 79 #[vl] w (Av (.int .i64 (Ai l)) w):=by
 have h:=Qa w vl l hK hl;obtain⟨ao,a,b,c,rfl,hl⟩:=hl;have H:Hid (Calls Tryz.prog 106 #[.slice ao l.length a,.func (.func 114) #[] #[]] w (Av (.int .i64 (Ai l)) w)):=h;clear h hl hK
 go_enter Tryz.func79,Tryz.ntmps79
 go_wp2_with fail
 refine H.out.mono ?_;rintro e w1 ⟨rfl,hb⟩;go_wp2;go_ret;exact⟨rfl,hb⟩
theorem N9(l:List Sig):Hb l true=Al l:=by
 unfold Hb Al;rw[show(fun s:Sig=>s.inp==true)=fun s=>s.inp from funext fun s=>by simp]
theorem L8(l:List Sig):Hb l false=Ai l:=by
 unfold Hb Ai;rw[show(fun s:Sig=>s.inp==false)=fun s=> !s.inp from funext fun s=>by simp]
theorem FH(w:World)(vl:Value)(l:List Sig)(hl:AD w vl l):Calls Tryz.prog 64 #[vl] w (Av (.int .i64 (Al l)) w):=by
 have h:=Q3 w vl l true hl;rw[N9]at h;obtain⟨ao,a,b,c,rfl,hl⟩:=hl;have H:=Ab h;clear h hl
 go_enter Tryz.func64,Tryz.ntmps64
 go_wp2_with fail
 refine H.out.mono ?_;rintro e w1 ⟨rfl,hb⟩;go_wp2;go_ret;exact⟨rfl,hb⟩
theorem E2(w:World)(vl:Value)(l:List Sig)(hl:AD w vl l):Calls Tryz.prog 65 #[vl] w (Av (.int .i64 (Ai l)) w):=by
 have h:=Q3 w vl l false hl;rw[L8]at h;obtain⟨ao,a,b,c,rfl,hl⟩:=hl;have H:=Ab h;clear h hl
 go_enter Tryz.func65,Tryz.ntmps65
 go_wp2_with fail
 refine H.out.mono ?_;rintro e w1 ⟨rfl,hb⟩;go_wp2;go_ret;exact⟨rfl,hb⟩
theorem LG(l:List Sig):IntKind.i64.wrap (Al l*Ai l)=Ay l:=by
 unfold Al Ai Ay
 cases h:As l
 ·simp only[Bool.false_eq_true,if_false];decide
 ·simp only[if_true];rw[Jf,Jg];obtain⟨hz,a,b,hp⟩:=AN h;have:=(En l hz).1;exact IntWalk.i64_in _ ⟨by omega,by omega⟩
theorem Mu(w:World)(vl:Value)(l:List Sig)(hl:AD w vl l):Calls Tryz.prog 120 #[vl] w (Av (.int .i64 (Ay l)) w):=by
 have hI:Hid (∀W,Below w.heap.size w W->Calls Tryz.prog 64 #[vl] W (Av (.int .i64 (Al l)) W)):=fun W hW=>FH W vl l (hl.below hW)
 have hO:Hid (∀W,Below w.heap.size w W->Calls Tryz.prog 65 #[vl] W (Av (.int .i64 (Ai l)) W)):=fun W hW=>E2 W vl l (hl.below hW)
 obtain⟨ao,c,b,d,rfl,hl⟩:=hl;have hm:=LG l;clear hl;generalize Al l=x at*;generalize Ai l=y at*;generalize Ay l=z at*;have HM:=Ab hm;clear hm
 go_enter Tryz.func120,Tryz.ntmps120
 go_wp2_with fail
 refine(hI.out _ Ad).mono ?_;rintro e w1 ⟨rfl,hb⟩
 go_wp2_with fail
 refine(hO.out _ hb).mono ?_;rintro e w2 ⟨rfl,a⟩;have hm:=HM.out;go_wp2;go_ret;exact⟨by first|rfl|(rw[HM.out]),hb.trans (a.mono hb.size)⟩
def mkL:List Sig->List Int->Option Int
 |[],[]=>some 0
 |s::r,v::vs=>if 0<=v/\v<s.size then(mkL r vs).map (fun x=>v+s.size*x)else none
 | _,_=>none
def Fl(l:List Sig)(vals:List Int)(k:Nat)(n:Int):Prop:=
 mkL l vals=(mkL (l.drop k) (vals.drop k)).map (fun x=>n+An (l.take k)*x)/\0<=n/\n<An (l.take k)
theorem Fl.start(l:List Sig)(vals:List Int):Fl l vals 0 0:=by
 refine⟨?_,by simp,by simp[An]⟩;simp[An]
theorem Fl.done{l:List Sig}{vals:List Int}{n:Int}(h:Fl l vals l.length n)(hv:vals.length=l.length):mkL l vals=some n:=by
 rw[h.1,List.drop_length,<-hv,List.drop_length];simp[mkL]
theorem CL{p v z:Int}(b:1<=p)(a:p<=4096)(h0:0<=v)(h1:v<z)(hz:z<=4):
  (0<=p*v/\p*v<=16384)/\IntKind.i64.wrap (p*v)=p*v:=by
 have h2:=Int.mul_nonneg (show 0<=p by omega) h0;have h3:=Int.mul_le_mul a (show v<=4 by omega) h0 (by omega);exact⟨⟨h2,by omega⟩,IntWalk.i64_in _ ⟨by omega,by omega⟩⟩
def CE:List Sig->Int->Int->Int
 |[],_,_=>0
 |s::r,i,o=>if s.inp then i%s.size+s.size*CE r (i/s.size) o else o%s.size+s.size*CE r i (o/s.size)
def Ed(l:List Sig)(k:Nat)(n i o J:Int):Prop:=J=n+An (l.take k)*CE (l.drop k) i o/\0<=n/\n<An (l.take k)
theorem Ed.next_in{l:List Sig}{k:Nat}{n i o J:Int}(h:Ed l k n i o J)(hk:k<l.length)(hi:l[k].inp=true)(hz:2<=l[k].size)(hp:1<=An (l.take k)):
  Ed l (k+1) (n+An (l.take k)*(i%l[k].size)) (i/l[k].size) o J:=by
 obtain⟨h1,h2,h3⟩:=h;have h0:=Int.emod_nonneg i (show l[k].size≠0 by omega);have h5:=Int.emod_lt_of_pos i (show 0<l[k].size by omega);have h6:=Int.mul_nonneg (show 0<=An (l.take k)by omega) h0;have h7:=Int.mul_le_mul_of_nonneg_left (show i%l[k].size<=l[k].size-1 by omega) (show 0<=An (l.take k)by omega);rw[Int.mul_sub,Int.mul_one]at h7;refine⟨?_,by omega,by rw[BF hk];omega⟩;rw[h1,D8 l k hk,BF hk];simp only[CE,hi,if_true];rw[Int.mul_add,Int.mul_assoc,Int.add_assoc]
theorem Ed.next_out{l:List Sig}{k:Nat}{n i o J:Int}(h:Ed l k n i o J)(hk:k<l.length)(hi:l[k].inp=false)(hz:2<=l[k].size)(hp:1<=An (l.take k)):
  Ed l (k+1) (n+An (l.take k)*(o%l[k].size)) i (o/l[k].size) J:=by
 obtain⟨h1,h2,h3⟩:=h;have h0:=Int.emod_nonneg o (show l[k].size≠0 by omega);have h5:=Int.emod_lt_of_pos o (show 0<l[k].size by omega);have h6:=Int.mul_nonneg (show 0<=An (l.take k)by omega) h0;have h7:=Int.mul_le_mul_of_nonneg_left (show o%l[k].size<=l[k].size-1 by omega) (show 0<=An (l.take k)by omega);rw[Int.mul_sub,Int.mul_one]at h7;refine⟨?_,by omega,by rw[BF hk];omega⟩;rw[h1,D8 l k hk,BF hk];simp only[CE,hi,Bool.false_eq_true,if_false];rw[Int.mul_add,Int.mul_assoc,Int.add_assoc]
def AI(l:List Sig)(i o:Int):Int:=if 0<=i/\i<Al l/\0<=o/\o<Ai l then CE l i o else 0
theorem I5{p v z:Int}(a:1<=p)(b:p<=4096)(h0:0<=v)(h1:v<z)(hz:z<=4):0<=p*v/\p*v<=16384:=(CL a b h0 h1 hz).1
theorem Kq(w:World)(vl:Value)(l:List Sig)(i o:Int)(hi:I64 i)(ho:I64 o)(hl:AD w vl l):
  Calls Tryz.prog 61 #[vl,.int .i64 i,.int .i64 o] w (Av (.int .i64 (AI l i o)) w):=by
 have hI:Hid (∀W,Below w.heap.size w W->Calls Tryz.prog 64 #[vl] W (Av (.int .i64 (Al l)) W)):=fun W hW=>FH W vl l (hl.below hW)
 have hO:Hid (∀W,Below w.heap.size w W->Calls Tryz.prog 65 #[vl] W (Av (.int .i64 (Ai l)) W)):=fun W hW=>E2 W vl l (hl.below hW)
 obtain⟨ao,ax,b,a8,rfl,hl⟩:=hl;have hn:=hl.nb;unfold I64 at hi ho
 have a:Hid (¬(0<=i/\i<Al l/\0<=o/\o<Ai l)->AI l i o=0):=fun h=>if_neg h
 have r:Hid ((0<=i/\i<Al l/\0<=o/\o<Ai l)->AI l i o=CE l i o):=fun h=>if_pos h
 have q:Hid (0<=i/\i<Al l->As l=true):=fun h=>by
  unfold Al at h
  cases hv:As l
  ·rw[hv]at h;simp at h;omega
  ·rfl
 generalize Al l=x at*;generalize Ai l=y at*
 by_cases h0:i<0
 ·have HR:=Ab (a.out (by omega));clear hl
  go_enter Tryz.func61,Tryz.ntmps61
  go_wp2;go_ret;exact⟨Cj (by rw[HR.out]),Ad⟩
 by_cases h1:x<=i
 ·have HR:=Ab (a.out (by omega));clear hl
  go_enter Tryz.func61,Tryz.ntmps61
  go_wp2_with fail
  refine(hI.out _ Ad).mono ?_;rintro e w1 ⟨rfl,hb⟩;go_wp2;go_ret;exact⟨Cj (by rw[HR.out]),hb⟩
 by_cases h2:o<0
 ·have HR:=Ab (a.out (by omega));clear hl
  go_enter Tryz.func61,Tryz.ntmps61
  go_wp2_with fail
  refine(hI.out _ Ad).mono ?_;rintro e w1 ⟨rfl,hb⟩;go_wp2;go_ret;exact⟨Cj (by rw[HR.out]),hb⟩
 by_cases h3:y<=o
 ·have HR:=Ab (a.out (by omega));clear hl
  go_enter Tryz.func61,Tryz.ntmps61
  go_wp2_with fail
  refine(hI.out _ Ad).mono ?_;rintro e w1 ⟨rfl,hb⟩
  go_wp2_with fail
  refine(hO.out _ hb).mono ?_;rintro e w2 ⟨rfl,m⟩;go_wp2;go_ret;exact⟨Cj (by rw[HR.out]),hb.trans (m.mono hb.size)⟩
 have hv:=q.out ⟨by omega,by omega⟩;have HR:=Ab (r.out ⟨by omega,by omega,by omega,by omega⟩);obtain⟨hz,a0,a1,-⟩:=AN hv;have HZ:=Ab hz
 have ay:0<=i:=by omega
 have a4:0<=o:=by omega
 have az:=hi.2;have a5:=ho.2;clear hz hv q r a hi ho;have am:Hid (Ed l 0 0 i o (CE l i o)):=⟨by simp[An],by omega,by simp[An]⟩;generalize CE l i o=J at*
 go_enter Tryz.func61,Tryz.ntmps61
 go_wp2_with fail
 refine(hI.out _ Ad).mono ?_;rintro e w1 ⟨rfl,hb⟩
 go_wp2_with fail
 refine(hO.out _ hb).mono ?_;rintro e w2 ⟨rfl,m⟩;have hB:Below w.heap.size w w2:=hb.trans (m.mono hb.size)
 have HM:Hid (9223372036854775808>i):=by show _>_;omega
 clear hb m;go_wp2
 go_loop [1,2,7,8,9] (fun vi vo n p j=>∃(k:Nat)(ii oo nn:Int),j=.int .i64 k/\vi=.int .i64 ii/\vo=.int .i64 oo/\n=.int .i64 nn/\p=.int .i64 (An (l.take k))/\k<=l.length/\0<=ii/\ii<9223372036854775808/\0<=oo/\oo<9223372036854775808/\Hid (Ed l k nn ii oo J))
  (fun _ _ _ _ j=>l.length-(intOf j).toNat)
 case atStart=>exact⟨0,i,o,0,rfl,rfl,rfl,rfl,rfl,by omega,by omega,by omega,by omega,by omega,am⟩
 case round=>
  obtain⟨k,ii,oo,nn,rfl,rfl,rfl,rfl,rfl,hk,c,ag,d,ah,HJ⟩:=hrel
  by_cases hlt:k<l.length
  ·obtain rfl:=hl.ad (by omega);have c1:=Ag hB (hl.ni k hlt);have c2:=Ag hB (hl.nz k hlt);obtain⟨f,ai⟩:=En (l.take k) (fun s hs=>HZ.out s (List.mem_of_mem_take hs));have ac:An (l.take k)<=4096:=Int.le_trans ai (Jd (by rw[List.length_take];omega));have aj:=HZ.out _ (List.getElem_mem hlt);simp only[AP,Bool.and_eq_true,decide_eq_true_eq]at aj;obtain⟨ae,af⟩:=aj;have a6:=Eo f ac ae af;have HT:=Ab (BF hlt);have a2:0<=nn:=HJ.out.2.1;have a3:nn<An (l.take k):=HJ.out.2.2
   have al:Hid (l[k].inp=true->Ed l (k+1) (nn+An (l.take k)*(ii%l[k].size)) (ii/l[k].size) oo J):=fun h=>HJ.out.next_in hlt h ae f
   have a:Hid (l[k].inp=false->Ed l (k+1) (nn+An (l.take k)*(oo%l[k].size)) ii (oo/l[k].size) J):=fun h=>HJ.out.next_out hlt h ae f
   clear ai;generalize An (l.take k)=pp at*;generalize l[k].size=z at*
   have a7:(z==0)=false:=by simp;omega
   cases hq:l[k].inp
   ·have u:=Ab (a.out hq);have aa:=Int.emod_nonneg oo (show z≠0 by omega);have ab:=Int.emod_lt_of_pos oo (show 0<z by omega);have an:=Int.ediv_nonneg d (show 0<=z by omega);have ap:=Int.ediv_le_self z d;have v:=CL f ac aa ab af;have av:oo.tmod z=oo%z:=Int.tmod_eq_emod_of_nonneg d;have aw:oo.tdiv z=oo/z:=Int.tdiv_eq_ediv_of_nonneg d;generalize oo%z=rm at*;generalize oo/z=qt at*;obtain⟨⟨aq,ar⟩,au⟩:=v;go_wp2
    go_round
    case rel=>exact⟨k+1,ii,qt,_,by go_num,rfl,by first|rfl|go_num,rfl,by rw[HT.out],by omega,c,ag,by omega,by omega,u.out⟩
    case measure=>simp[intOf];omega
   ·have u:=Ab (al.out hq);have aa:=Int.emod_nonneg ii (show z≠0 by omega);have ab:=Int.emod_lt_of_pos ii (show 0<z by omega);have an:=Int.ediv_nonneg c (show 0<=z by omega);have ap:=Int.ediv_le_self z c;have v:=CL f ac aa ab af;have av:ii.tmod z=ii%z:=Int.tmod_eq_emod_of_nonneg c;have aw:ii.tdiv z=ii/z:=Int.tdiv_eq_ediv_of_nonneg c;generalize ii%z=rm at*;generalize ii/z=qt at*;obtain⟨⟨aq,ar⟩,au⟩:=v;go_wp2
    go_round
    case rel=>exact⟨k+1,qt,oo,_,by go_num,by first|rfl|go_num,rfl,rfl,by rw[HT.out],by omega,by omega,by omega,d,ah,u.out⟩
    case measure=>simp[intOf];omega
  ·obtain rfl:k=l.length:=by omega
   have hJ:J=nn:=by
    have:=HJ.out.1;rw[List.drop_length]at this;simp only[CE]at this;omega
   have ak:=Ab hJ;clear hJ;go_wp2;go_ret;exact⟨Cj (by rw[HR.out,ak.out]),hB⟩
theorem AQ{W W':World}{B:Nat}{t:TypeId}{v:Value}(hb:Below W.heap.size W W')(h:Boxed W B t v):Boxed W' B t v:=(hb.block _ h.lt).trans h
structure Fm(w:World)(vs:Value)(a i r:Int)(W:World):Prop where
 b0:Boxed W w.heap.size 22 vs
 b1:Boxed W (w.heap.size+1) 3 (.int .i64 a)
 b2:Boxed W (w.heap.size+1+1) 3 (.int .i64 i)
 b3:Boxed W (w.heap.size+1+1+1) 3 (.int .i64 r)
theorem Fm.below{w W W3:World}{vs:Value}{a i r:Int}(h:Fm w vs a i r W)(hb:Below W.heap.size W W3):Fm w vs a i r W3:=
 ⟨AQ hb h.b0,AQ hb h.b1,AQ hb h.b2,AQ hb h.b3⟩
theorem Fm.mk'(w:World)(vs:Value)(a i:Int):
  Fm w vs a i 0 ((((w.alloc (.cells #[vs] 22)).alloc (.cells #[.int .i64 a] 3)).alloc (.cells #[.int .i64 i] 3)).alloc (.cells #[.int .i64 0] 3)):=by
 have e3:=Boxed.new (((w.alloc (.cells #[vs] 22)).alloc (.cells #[.int .i64 a] 3)).alloc (.cells #[.int .i64 i] 3)) 3 (.int .i64 0);have e2:=(Boxed.new ((w.alloc (.cells #[vs] 22)).alloc (.cells #[.int .i64 a] 3)) 3 (.int .i64 i)).alloc (.cells #[.int .i64 0] 3);have e1:=((Boxed.new (w.alloc (.cells #[vs] 22)) 3 (.int .i64 a)).alloc (.cells #[.int .i64 i] 3)).alloc (.cells #[.int .i64 0] 3);have e0:=(((Boxed.new w 22 vs).alloc (.cells #[.int .i64 a] 3)).alloc (.cells #[.int .i64 i] 3)).alloc (.cells #[.int .i64 0] 3);simp only[World.size_alloc]at e3 e2 e1;exact⟨e0,e1,e2,e3⟩
theorem EW{l:List Sig}{a:Int}(h0:0<=a)(h1:a<Ay l):As l=true:=by
 unfold Ay at h1
 cases hv:As l
 ·rw[hv]at h1;simp at h1;omega
 ·rfl
section
variable {P:Program} {ops:Array Oper} {md:Region.Mode} {n l₀:Nat} {w:World}
def Fa(ops:Array Oper):Bool:=ops.toList.all fun o=>match o.op with|.defer _=>false| _=>true
theorem G1{a:Array Oper}(h:Fa a=true){i:Nat}{o:Oper}(hi:a[i]? =some o):∀c,o.op≠.defer c:=by
 intro c hc
 have hm:o∈a.toList:=by
  obtain⟨hlt,e⟩:=Array.getElem?_eq_some_iff.1 hi;rw[<-e];simp
 have:=List.all_eq_true.1 h o hm;rw[hc]at this
 cases this
theorem Iq{o:Oper}(hd:∀c,o.op≠.defer c){a:Act}{K:Act->Prop}{K':Act->World->Prop}{Q:Exit->Act->World->Prop}(h:∀a,K a->K' a w)(hh:o.still P a w K):
  o.wpIn (Fence.wide.inRound l₀) n P a w K' Q:=by
 unfold Oper.still at hh;refine⟨fun _ _=>trivial, ?_⟩;rw[show o.semAt (Fence.wide.inRound l₀).round a.eval=execOp a.eval o from Oper.semAt_some l₀ _ _ hd];generalize(execOp a.eval o).run P w=r at*
 cases r with
 |ok x w'=>
  cases x<;>simp only[Oper.stillUpon]at hh<;>simp only[Oper.uponIn]
  case enter f args=>
   obtain⟨rfl,v,hc,hn⟩:=hh;refine⟨fun h=>by simp[Fence.wide]at h,(CallsIn.inRound l₀ (callsIn_wide.2 hc)).mono fun e w'' hw=> ?_⟩;obtain⟨he,hw⟩:=hw;subst he;subst hw;exact h _ hn
  all_goals(obtain⟨rfl,h2⟩:=hh;exact h _ h2)
 |halt x w'=>simp only[Oper.stillUpon]at hh
theorem KM(hd:Fa ops=true){i:Nat}{a:Act}{K:Act->Prop}{K':Act->World->Prop}{Q:Exit->Act->World->Prop}(h:∀a,K a->K' a w)(hh:stOp P ops w i K a):
  wpOpIn (Fence.wide.inRound l₀) n P ops Q i K' a w:=by
 unfold stOp at hh;unfold wpOpIn
 split
 ·rename_i ho;simp only[ho]at hh;exact h _ hh
 ·rename_i o ho;simp only[ho]at hh
  split
  ·rename_i hw;simp only[hw,if_true]at hh;exact Iq (G1 hd ho) h hh
  ·rename_i hw;simp only[hw]at hh;exact⟨fun _ _=>trivial,h _ hh⟩
theorem F4(hd:Fa ops=true){m g:Nat}{L:Array Bool->Act->Prop}{Q':Exit->Act->World->Prop}(hL:∀listed a,L listed a->wpAnyIn (Fence.wide.inRound l₀) n P md ops Q' g listed a w):
  ∀(f:Nat)(listed:Array Bool)(a:Act),wpAnyL P md ops w m L f listed a->wpAnyIn (Fence.wide.inRound l₀) n P md ops Q' (f+g) listed a w
 |0,listed,a,h=>by rw[Nat.zero_add];exact hL _ _ h
 |f+1,listed,a,h=>by
  rw[show f+1+g=(f+g)+1 by omega];exact⟨fun h0=>absurd h0 h.1,fun i hi=>KM hd (fun a' h'=>F4 hd hL f _ a' h') (h.2 i hi).2⟩
theorem GN{Q':Exit->Act->World->Prop}:∀(l:List Oper)(k:Nat)(listed:Array Bool)(a:Act)(w:World),(∀j,l[j]? =ops[k+j]?)->
  Region.seqB md ops l.length k listed=true->wpListIn (Fence.wide.inRound l₀) n P ops Q' l a w->wpAnyIn (Fence.wide.inRound l₀) n P md ops Q' l.length listed a w
 |[],_,_,_,_,_,hB,h=>⟨by simpa[Region.seqB]using hB,h⟩
 |o::l,k,listed,a,w,hl,hB,h=>by
  have h0:ops[k]? =some o:=by simpa using(hl 0).symm
  simp only[List.length_cons,Region.seqB,Bool.and_eq_true,decide_eq_true_eq]at hB;refine⟨fun h1=>(by rw[hB.1]at h1;cases h1),fun i hi=> ?_⟩;rw[hB.1]at hi
  have b:i=k:=by simpa using hi
  subst b
  have hw:wpOpIn (Fence.wide.inRound l₀) n P ops Q' i (wpListIn (Fence.wide.inRound l₀) n P ops Q' l) a w:=by unfold wpOpIn;simp only[h0];exact h
  exact wpOpIn_mono (fun a' w' h'=>GN l (i+1) _ a' w' (fun j=>by have:=hl (j+1);simpa[Nat.add_assoc,Nat.add_comm 1 j]using this) hB.2 h') hw
theorem Bi{id:Nat}{Q:Exit->Act->World->Prop}{a:Act}{l:List Oper}(m:Nat)(hm:P.follows .mixedOrders=true)(hB:Region.lexTailB .any l.toArray m=true)(hd:Fa l.toArray=true)
  (h:wpStill P l.toArray w.drew (fun a'=>wpListIn (Fence.wide.inRound l₀) n P l.toArray Q (l.drop m) a' w.drew) (l.take m) a):(Code.region id l.toArray true).wpIn (Fence.wide.inRound l₀) n P Q a w:=by
 simp only[Region.lexTailB,Bool.and_eq_true,decide_eq_true_eq]at hB;obtain⟨⟨⟨⟨e,hn⟩,hs⟩,hc⟩,d⟩:=hB
 have k:m<l.length:=by simpa using hn
 have b:(l.take m).length=m:=by simp;omega
 have c:(l.drop m).length=l.toArray.size-m:=by simp
 have f:HeadInv .any l.toArray m (Array.replicate l.toArray.size false):=
  ⟨by simp,fun j oj _ hl=>(by rw[getD_replicate_false]at hl;cases hl),fun t _ ht=>getD_in (by simpa using ht) (getD_replicate_false _ _)⟩
 have H:=wpAnyL_lex (md:=.any) (g:=l.toArray.size-m) e hs hc hn (l.take m) 0 _ a (fun j hj=>by
  have i:j<m:=by rw[b]at hj;exact hj
  simp[i]) (by simpa using b) f (by rw[b];exact d) h
 refine wpIn_region_any hm ?_
 have:=F4 (l₀:=l₀) (n:=n) hd (Q':=Q) (g:=l.toArray.size-m) (fun listed a' hL=>by
  have:=GN (l₀:=l₀) (n:=n) (md:=.any) (Q':=Q) (l.drop m) m listed a' w.drew (fun j=>by simp[List.getElem?_drop]) (by rw[c];exact hL.1) hL.2
  rwa [c]at this) _ _ _ H
 rw[b,show m+(l.toArray.size-m)=l.toArray.size by omega]at this;exact this
/-! The same, where operations may draw. -/
theorem Ip{C:World->Prop}{o:Oper}(hd:∀c,o.op≠.defer c){a:Act}{K:Act->Prop}{K':Act->World->Prop}{Q':Exit->Act->World->Prop}(hw:C w)(h:∀a w',C w'->K a->K' a w')(hh:o.quiet P a C K):
  o.wpIn (Fence.wide.inRound l₀) n P a w K' Q':=by
 obtain⟨v,h1,h2⟩:=hh;have h3:=h1 w hw;unfold Oper.quietAt at h3;refine⟨fun _ _=>trivial, ?_⟩;rw[show o.semAt (Fence.wide.inRound l₀).round a.eval=execOp a.eval o from Oper.semAt_some l₀ _ _ hd];generalize(execOp a.eval o).run P w=r at*
 cases r with
 |ok x w'=>
  cases x<;>simp only[Oper.quietUpon]at h3<;>simp only[Oper.uponIn]
  case value u=>
   obtain⟨e1,e2⟩:=h3;rw[e1,e2];exact h _ _ hw h2
  case skip=>
   obtain⟨e1,e2⟩:=h3;rw[e1,<-e2];exact h _ _ hw h2
  case enter f args=>
   obtain⟨e1,hc⟩:=h3;rw[e1];refine⟨fun h=>by simp[Fence.wide]at h,(CallsIn.inRound l₀ (callsIn_wide.2 hc)).mono fun e w'' hw=> ?_⟩;obtain⟨he,b⟩:=hw;subst he;exact h _ _ b h2
 |halt x w'=>simp only[Oper.quietUpon]at h3
theorem LS{C:World->Prop}(hd:Fa ops=true){i:Nat}{a:Act}{K:Act->Prop}{K':Act->World->Prop}{Q':Exit->Act->World->Prop}(hC:C w)(h:∀a w',C w'->K a->K' a w')(hh:qOp P ops C i K a):
  wpOpIn (Fence.wide.inRound l₀) n P ops Q' i K' a w:=by
 unfold qOp at hh;unfold wpOpIn
 split
 ·rename_i ho;simp only[ho]at hh;exact h _ _ hC hh
 ·rename_i o ho;simp only[ho]at hh
  split
  ·rename_i hw;simp only[hw,if_true]at hh;exact Ip (G1 hd ho) hC h hh
  ·rename_i hw;simp only[hw]at hh;exact⟨fun _ _=>trivial,h _ _ hC hh⟩
theorem Fq{C:World->Prop}(hd:Fa ops=true){Q:Act->Prop}{Q':Exit->Act->World->Prop}(hQ:∀a w,C w->Q a->Q' .normal a w):∀(fuel:Nat)(listed:Array Bool)(a:Act)(w:World),C w->
  wpAnyQ P md ops C Q fuel listed a->wpAnyIn (Fence.wide.inRound l₀) n P md ops Q' fuel listed a w
 |0,_,_,_,hw,h=>⟨h.1,hQ _ _ hw h.2⟩
 |fuel+1,_,_,_,hw,h=>⟨fun h0=>hQ _ _ hw (h.1 h0),fun i hi=>LS hd hw (fun a' w' hw'=>Fq hd hQ fuel _ a' w' hw') (h.2 i hi)⟩
theorem BX{id:Nat}{Q:Exit->Act->World->Prop}{a:Act}{l:List Oper}(hm:P.follows .mixedOrders=true)(hB:Region.lexB .any l.toArray=true)(hd:Fa l.toArray=true)
  (h:wpQuiet P l.toArray (fun w'=>∃n,w'=w.drewN n) (fun a'=>∀w',(∃n,w'=w.drewN n)->Q .normal a' w') l a):(Code.region id l.toArray true).wpIn (Fence.wide.inRound l₀) n P Q a w:=by
 simp only[Region.lexB,Bool.and_eq_true]at hB;refine wpIn_region_any hm (Fq hd (C:=fun w'=>∃n,w'=w.drewN n) (Q:=fun a'=>∀w',(∃n,w'=w.drewN n)->Q .normal a' w') (fun _ w' hw' h=>h w' hw') _ _ _ _ ⟨1,rfl⟩ ?_);have:=wpAnyQ_lex (C:=fun w'=>∃n,w'=w.drewN n) (md:=.any) hB.1 l 0 (Array.replicate l.toArray.size false) a (by simp) (by simpa using hB.2) h;simpa using this
end
abbrev noP(Q:Exit->Act->World->Prop):Exit->Act->World->Prop
 |.panic _,_,_=>False
 |.normal,a,w=>Q .normal a w
 |.ret,a,w=>Q .ret a w
 |.exit i,a,w=>Q (.exit i) a w
 |.goto t,a,w=>Q (.goto t) a w
 |.outgrown,a,w=>Q .outgrown a w
theorem Bz{F:Fence}{n:Nat}{P:Program}{f:FuncId}{fn:Func}{c:Code}{args:Array Value}{w:World}{R:Ending->World->Prop}
  (hf:P.funcs[f]? =some fn) (hb:fn.body=some c) (hF:F.fn f)
  (h:c.wpIn F n P (noP (bodyPostM F n P fn R)) {tmps:=args++Array.replicate (fn.ntmps-args.size) undef,defers:=[]} w) (a:F.round=none:=by rfl):CallsIn F n P f args w R:=
 callsIn_of_wp_marks hf hb hF (wpIn_mono h (fun e _ _ hq=>by cases e<;>first|exact hq|exact hq.elim)) a
theorem Fm.set{w W:World}{vs:Value}{a i r:Int}(h:Fm w vs a i r W)(r':Int):Fm w vs a i r' (W.setCell ⟨w.heap.size+1+1+1,0,none⟩ (.int .i64 r')):=
 ⟨h.b0.other (by omega) _,h.b1.other (by omega) _,h.b2.other (by omega) _,h.b3.set _⟩
theorem Fm.drew{w W:World}{vs:Value}{a i r:Int}(h:Fm w vs a i r W):Fm w vs a i r W.drew:=⟨h.b0,h.b1,h.b2,h.b3⟩
theorem CX{l:List Sig}(hz:∀s∈l,AP s=true):∀s∈l,2<=s.size/\s.size<=4:=fun s hs=>by
 have:=hz s hs;simpa[AP]using this
theorem DR{l:List Sig}(hz:∀s∈l,AP s=true)(h6:l.length<=6)(k:Nat):1<=An (l.take k)/\An (l.take k)<=4096:=by
 obtain⟨a,b⟩:=En (l.take k) (fun s hs=>hz s (List.mem_of_mem_take hs));exact⟨a,Int.le_trans b (Jd (by rw[List.length_take];omega))⟩
def CN(q:Bool):List Sig->Int->Int
 |[],_=>0
 |s::r,a=>if(s.inp==q)=true then a%s.size+s.size*CN q r (a/s.size)else CN q r (a/s.size)
def C1(l:List Sig)(q:Bool)(a:Int):Int:=if 0<=a/\a<Ay l then CN q l a else 0
theorem BU{l:List Sig}(hz:∀s∈l,AP s=true):∀s∈l,2<=s.size/\s.size<=4:=fun s hs=>by
 have:=hz s hs;simpa[AP]using this
theorem ET{l:List Sig}(hz:∀s∈l,AP s=true):1<=An l:=(En l hz).1
theorem FL{a p z:Int}(hp:0<=p):a/p/z=a/(p*z):=Int.ediv_ediv_of_nonneg hp
def C2(l:List Sig)(q:Bool)(a:Int)(k:Nat)(s o:Int):Prop:=
 CN q l a=s+o*CN q (l.drop k) (a/An (l.take k))/\0<=s/\s<o/\o=A9 (fun x=>x.inp==q) (l.take k)
theorem C2.start(l:List Sig)(q:Bool)(a:Int):C2 l q a 0 0 1:=by
 refine⟨?_,by omega,by omega,by simp[A9]⟩;simp[An]
theorem Di{s o z d:Int}(h0:0<=s)(h1:s<o)(a:0<=d)(b:d<z):0<=s+o*d/\s+o*d<o*z:=by
 have h5:=Int.mul_nonneg (show 0<=o by omega) a;have h6:=Int.mul_le_mul_of_nonneg_left (show d<=z-1 by omega) (show 0<=o by omega);rw[Int.mul_sub,Int.mul_one]at h6;exact⟨by omega,by omega⟩
theorem C2.hit{l:List Sig}{q:Bool}{a:Int}{k:Nat}{s o:Int}(h:C2 l q a k s o)(hz:∀s∈l,AP s=true)(hk:k<l.length)(hq:(l[k].inp==q)=true):
  C2 l q a (k+1) (s+o*(a/An (l.take k)%l[k].size)) (o*l[k].size):=by
 obtain⟨h1,h2,h3,h4⟩:=h;have hs:=BU hz _ (List.getElem_mem hk);have b:=Int.emod_nonneg (a/An (l.take k)) (show l[k].size≠0 by omega);have c:=Int.emod_lt_of_pos (a/An (l.take k)) (show 0<l[k].size by omega);have hb:=Di h2 h3 b c;have hp:=ET (l:=l.take k) (fun s hs=>hz s (List.mem_of_mem_take hs));refine⟨?_,hb.1,hb.2,by rw[Gt hk,if_pos hq,h4]⟩;rw[h1,D8 l k hk,BF hk];simp only[CN];rw[if_pos hq,FL (by omega),Int.mul_add,Int.mul_assoc,Int.add_assoc]
theorem C2.miss{l:List Sig}{q:Bool}{a:Int}{k:Nat}{s o:Int}(h:C2 l q a k s o)(hz:∀s∈l,AP s=true)(hk:k<l.length)(hq:(l[k].inp==q)=false):
  C2 l q a (k+1) s o:=by
 obtain⟨h1,h2,h3,h4⟩:=h;have hp:=ET (l:=l.take k) (fun s hs=>hz s (List.mem_of_mem_take hs));refine⟨?_,h2,h3,by rw[Gt hk,hq];simpa using h4⟩;rw[h1,D8 l k hk,BF hk];simp only[CN];rw[hq,if_neg (by simp),FL (by omega)]
theorem C2.done{l:List Sig}{q:Bool}{a:Int}{s o:Int}(h:C2 l q a l.length s o):CN q l a=s:=by
 rw[h.1,List.drop_length];simp[CN]
/-! The same, of the places that an iterator has handed on. -/
def NI(l:List Sig)(q:Bool)(a:Int)(st:Int×Int)(x:Fin l.length):Int×Int:=
 if(l[x].inp==q)=true then(st.1+st.2*(a/An (l.take x)%l[x].size),st.2*l[x].size)else st
def hF(l:List Sig)(q:Bool)(a:Int)(pre:List (Fin l.length)):Int×Int:=pre.foldl (NI l q a) (0,1)
theorem KB(l:List Sig)(q:Bool)(a:Int)(pre:List (Fin l.length))(x:Fin l.length):hF l q a (pre++[x])=NI l q a (hF l q a pre) x:=by simp[hF]
theorem FC{α:Type}{P:List α->Prop}(h0:P [])(h1:∀pre x,P pre->P (pre++[x])):∀pre,P pre:=by
 have b:∀(n:Nat)(pre:List α),pre.length=n->P pre:=by
  intro n
  induction n with
  |zero=>intro pre hp;rw[List.eq_nil_of_length_eq_zero hp];exact h0
  |succ n ih=>
   intro pre hp
   have a:pre≠[]:=by intro e;rw[e]at hp;simp at hp
   rw[<-List.dropLast_concat_getLast a];exact h1 _ _ (ih _ (by simp[hp]))
 exact fun pre=>b _ pre rfl
theorem Um{l:List Sig}(hz:∀s∈l,AP s=true)(q:Bool)(a:Int)(pre:List (Fin l.length)):
  0<=(hF l q a pre).1/\(hF l q a pre).1<(hF l q a pre).2/\(hF l q a pre).2<=4^pre.length:=by
 induction pre using FC with
 |h0=>simp[hF]
 |h1 pre x ih=>
  obtain⟨h2,h3,h4⟩:=ih;have hs:=BU hz _ (List.getElem_mem x.2);have b:=Int.emod_nonneg (a/An (l.take x)) (show l[x.1].size≠0 by omega);have c:=Int.emod_lt_of_pos (a/An (l.take x)) (show 0<l[x.1].size by omega);have hb:=Di h2 h3 b c;rw[KB,NI,List.length_append,List.length_singleton,Int.pow_succ];simp only[Fin.getElem_fin]
  split
  ·exact⟨hb.1,hb.2,Int.mul_le_mul h4 hs.2 (by omega) (by omega)⟩
  ·exact⟨h2,h3,by omega⟩
theorem RY{l:List Sig}(hz:∀s∈l,AP s=true)(q:Bool)(a:Int)(k:Nat)(hk:k<=l.length):
  C2 l q a k (hF l q a ((CT l.length).take k)).1 (hF l q a ((CT l.length).take k)).2:=by
 induction k with
 |zero=>exact C2.start l q a
 |succ k ih=>
  have h:=ih (by omega);rw[CG (show k<l.length by omega),KB,NI]
  cases hq:(l[k].inp==q)
  ·have:=h.miss hz (by omega) hq;simpa[hq]using this
  ·have:=h.hit hz (by omega) hq;simpa[hq]using this
theorem Tv{l:List Sig}(hz:∀s∈l,AP s=true)(q:Bool)(a:Int):CN q l a=(hF l q a (CT l.length)).1:=by
 have h:=RY hz q a l.length leR;rw[List.take_of_length_le (by rw[Co];exact Nat.le_refl _)]at h;exact h.done
theorem Gc{l:List Sig}(hz:∀s∈l,AP s=true)(h6:l.length<=6)(k:Nat):1<=An (l.take k)/\An (l.take k)<=4096:=by
 obtain⟨a,b⟩:=En (l.take k) (fun s hs=>hz s (List.mem_of_mem_take hs));exact⟨a,Int.le_trans b (Jd (by rw[List.length_take];omega))⟩
/-! Joining, of the places that have come. -/
def NO(l:List Sig)(st:Int×Int×Int)(x:Fin l.length):Int×Int×Int:=
 if l[x].inp=true then(st.1/l[x].size,st.2.1,st.2.2+An (l.take x)*(st.1%l[x].size))else(st.1,st.2.1/l[x].size,st.2.2+An (l.take x)*(st.2.1%l[x].size))
def jF(l:List Sig)(i o:Int)(pre:List (Fin l.length)):Int×Int×Int:=pre.foldl (NO l) (i,o,0)
theorem KF(l:List Sig)(i o:Int)(pre:List (Fin l.length))(x:Fin l.length):jF l i o (pre++[x])=NO l (jF l i o pre) x:=by simp[jF]
theorem Un{l:List Sig}(hz:∀s∈l,AP s=true)(h6:l.length<=6){i o:Int}(hi:0<=i)(ho:0<=o)(pre:List (Fin l.length)):
  (0<=(jF l i o pre).1/\(jF l i o pre).1<=i)/\(0<=(jF l i o pre).2.1/\(jF l i o pre).2.1<=o)/\0<=(jF l i o pre).2.2/\(jF l i o pre).2.2<=16384*pre.length:=by
 induction pre using FC with
 |h0=>simp[jF];omega
 |h1 pre x ih=>
  obtain⟨⟨a0,a1⟩,⟨b0,b1⟩,c0,c1⟩:=ih;have hs:=BU hz _ (List.getElem_mem x.2);obtain⟨a,b⟩:=Gc hz h6 x;rw[KF,NO,List.length_append,List.length_singleton];simp only[Fin.getElem_fin]at*
  split
  ·have e0:=Int.emod_nonneg (jF l i o pre).1 (show l[x.1].size≠0 by omega);have e1:=Int.emod_lt_of_pos (jF l i o pre).1 (show 0<l[x.1].size by omega);have d0:=Int.ediv_nonneg a0 (show 0<=l[x.1].size by omega);have d1:=Int.ediv_le_self l[x.1].size a0;obtain⟨⟨c,d⟩,-⟩:=CL a b e0 e1 hs.2;refine⟨⟨d0,by simp only;omega⟩,⟨b0,b1⟩,by simp only;omega, ?_⟩;simp only;push_cast;omega
  ·have e0:=Int.emod_nonneg (jF l i o pre).2.1 (show l[x.1].size≠0 by omega);have e1:=Int.emod_lt_of_pos (jF l i o pre).2.1 (show 0<l[x.1].size by omega);have d0:=Int.ediv_nonneg b0 (show 0<=l[x.1].size by omega);have d1:=Int.ediv_le_self l[x.1].size b0;obtain⟨⟨c,d⟩,-⟩:=CL a b e0 e1 hs.2;refine⟨⟨a0,a1⟩,⟨d0,by simp only;omega⟩,by simp only;omega, ?_⟩;simp only;push_cast;omega
theorem R7{l:List Sig}(hz:∀s∈l,AP s=true)(i o:Int)(k:Nat)(hk:k<=l.length):
  Ed l k (jF l i o ((CT l.length).take k)).2.2 (jF l i o ((CT l.length).take k)).1 (jF l i o ((CT l.length).take k)).2.1 (CE l i o):=by
 induction k with
 |zero=>exact⟨by simp[An,jF],by simp[jF],by simp[jF,An]⟩
 |succ k ih=>
  have h:=ih (by omega);have hs:=BU hz _ (List.getElem_mem (show k<l.length by omega));have hp:=ET (l:=l.take k) (fun s hs=>hz s (List.mem_of_mem_take hs));rw[CG (show k<l.length by omega),KF,NO]
  cases hq:l[k].inp
  ·have:=h.next_out (by omega) hq hs.1 hp;simpa[hq]using this
  ·have:=h.next_in (by omega) hq hs.1 hp;simpa[hq]using this
theorem Tx{l:List Sig}(hz:∀s∈l,AP s=true)(i o:Int):CE l i o=(jF l i o (CT l.length)).2.2:=by
 have h:=R7 hz i o l.length leR;rw[List.take_of_length_le (by rw[Co];exact Nat.le_refl _)]at h;have:=h.1;rw[List.drop_length]at this;simp only[CE]at this;omega
structure MkX(w:World)(vs vv:Value)(B n r:Int)(b4:Nat)(q:Bool)(W:World):Prop where
 b0:Boxed W w.heap.size 22 vs
 b1:Boxed W (w.heap.size+1) 26 vv
 b2:Boxed W (w.heap.size+1+1) 3 (.int .i64 r)
 b3:Boxed W (w.heap.size+1+1+1) 4 (.bool q)
 b5:Boxed W b4 3 (.int .i64 n)
theorem MkX.below{w W W3:World}{vs vv:Value}{B n r:Int}{b4:Nat}{q:Bool}(h:MkX w vs vv B n r b4 q W)(hb:Below W.heap.size W W3):MkX w vs vv B n r b4 q W3:=
 ⟨AQ hb h.b0,AQ hb h.b1,AQ hb h.b2,AQ hb h.b3,AQ hb h.b5⟩
theorem MkX.drew{w W:World}{vs vv:Value}{B n r:Int}{b4:Nat}{q:Bool}(h:MkX w vs vv B n r b4 q W):MkX w vs vv B n r b4 q W.drew:=⟨h.b0,h.b1,h.b2,h.b3,h.b5⟩
theorem MkX.letter{w W:World}{vs vv:Value}{B n r:Int}{b4:Nat}{q:Bool}(h:MkX w vs vv B n r b4 q W)(hb:w.heap.size+4<=b4)(m:Int):MkX w vs vv B m r b4 q (W.setCell ⟨b4,0,none⟩ (.int .i64 m)):=
 ⟨h.b0.other (by omega) _,h.b1.other (by omega) _,h.b2.other (by omega) _,h.b3.other (by omega) _,h.b5.set _⟩
structure MkY(w:World)(vs vv:Value)(r:Int)(q:Bool)(W:World):Prop where
 b0:Boxed W w.heap.size 22 vs
 b1:Boxed W (w.heap.size+1) 26 vv
 b2:Boxed W (w.heap.size+1+1) 3 (.int .i64 r)
 b3:Boxed W (w.heap.size+1+1+1) 4 (.bool q)
theorem MkY.below{w W W3:World}{vs vv:Value}{r:Int}{q:Bool}(h:MkY w vs vv r q W)(hb:Below W.heap.size W W3):MkY w vs vv r q W3:=
 ⟨AQ hb h.b0,AQ hb h.b1,AQ hb h.b2,AQ hb h.b3⟩
theorem MkY.mk'(w:World)(vs vv:Value):
  MkY w vs vv 0 false ((((w.alloc (.cells #[vs] 22)).alloc (.cells #[vv] 26)).alloc (.cells #[.int .i64 0] 3)).alloc (.cells #[.bool false] 4)):=by
 have e3:=Boxed.new (((w.alloc (.cells #[vs] 22)).alloc (.cells #[vv] 26)).alloc (.cells #[.int .i64 0] 3)) 4 (.bool false);have e2:=(Boxed.new ((w.alloc (.cells #[vs] 22)).alloc (.cells #[vv] 26)) 3 (.int .i64 0)).alloc (.cells #[.bool false] 4);have e1:=((Boxed.new (w.alloc (.cells #[vs] 22)) 26 vv).alloc (.cells #[.int .i64 0] 3)).alloc (.cells #[.bool false] 4);have e0:=(((Boxed.new w 22 vs).alloc (.cells #[vv] 26)).alloc (.cells #[.int .i64 0] 3)).alloc (.cells #[.bool false] 4);simp only[World.size_alloc]at e3 e2 e1;exact⟨e0,e1,e2,e3⟩
attribute [local go_sem] Oper.semAt_some
theorem DQ(B:Nat)(W:World)(n:Nat):KeepsFrom B W (W.drewN n):=(show KeepsOthers W (W.drewN n)from⟨Nat.le_refl _,fun _ _ h _=>h⟩).from _
theorem MkY.drewN{w W:World}{vs vv:Value}{r:Int}{q:Bool}(h:MkY w vs vv r q W)(n:Nat):MkY w vs vv r q (W.drewN n):=⟨h.b0,h.b1,h.b2,h.b3⟩
theorem MkX.drewN{w W:World}{vs vv:Value}{B n r:Int}{b4:Nat}{q:Bool}(h:MkX w vs vv B n r b4 q W)(k:Nat):MkX w vs vv B n r b4 q (W.drewN k):=⟨h.b0,h.b1,h.b2,h.b3,h.b5⟩
theorem Ea(B:Nat)(W:World)(b:Nat)(v:Value):KeepsFrom B W (W.setCell ⟨b,0,none⟩ v):=(KeepsOthers.setCell W ⟨b,0,none⟩ v).from _
attribute [local go_sem] Oper.semAt_some
def KK(B n₀ Bs:Nat)(W A:World):Prop:=KeepsFrom B W A/\KpW n₀ Bs W A
theorem KK.refl(B n₀ Bs:Nat)(W:World):KK B n₀ Bs W W:=⟨KeepsFrom.refl _ _,KpW.refl _ _ _⟩
theorem KK.drewN{B n₀ Bs:Nat}{W A:World}(h:KK B n₀ Bs W A)(n:Nat):KK B n₀ Bs W (A.drewN n):=⟨h.1.trans (DQ _ _ _),h.2.1.trans (Aj _ _ _),h.2.2⟩
theorem KK.drew{B n₀ Bs:Nat}{W A:World}(h:KK B n₀ Bs W A):KK B n₀ Bs W A.drew:=⟨h.1.trans ((KeepsOthers.drew _).from _),h.2.1.trans (Below.drew Ad),h.2.2⟩
theorem KK.set{B n₀ Bs:Nat}{W A:World}(h:KK B n₀ Bs W A){b:Nat}(c:Bs≠b)(a:n₀<=b)(v:Value):KK B n₀ Bs W (A.setCell ⟨b,0,none⟩ v):=
 ⟨h.1.trans (Ea _ _ _ _),h.2.1.setCell (p:=⟨b,0,none⟩) a v,(heap_setCell_other A ⟨b,0,none⟩ Bs v c).trans h.2.2⟩
structure HvX(w:World)(q:Bool)(st:Int×Int)(W:World):Prop where
 b0:Boxed W w.heap.size 4 (.bool q)
 b1:Boxed W (w.heap.size+1) 3 (.int .i64 st.1)
 b2:Boxed W (w.heap.size+1+1) 3 (.int .i64 st.2)
theorem HvX.below{w W W3:World}{q:Bool}{st:Int×Int}(h:HvX w q st W)(hb:Below W.heap.size W W3):HvX w q st W3:=⟨AQ hb h.b0,AQ hb h.b1,AQ hb h.b2⟩
theorem HvX.drew{w W:World}{q:Bool}{st:Int×Int}(h:HvX w q st W):HvX w q st W.drew:=⟨h.b0,h.b1,h.b2⟩
theorem HvX.drewN{w W:World}{q:Bool}{st:Int×Int}(h:HvX w q st W)(n:Nat):HvX w q st (W.drewN n):=⟨h.b0,h.b1,h.b2⟩
theorem HvX.sum{w W:World}{q:Bool}{st:Int×Int}(h:HvX w q st W)(s:Int):HvX w q (s,st.2) (W.setCell ⟨w.heap.size+1,0,none⟩ (.int .i64 s)):=
 ⟨h.b0.other (by omega) _,h.b1.set _,h.b2.other (by omega) _⟩
theorem HvX.own{w W:World}{q:Bool}{st:Int×Int}(h:HvX w q st W)(o:Int):HvX w q (st.1,o) (W.setCell ⟨w.heap.size+1+1,0,none⟩ (.int .i64 o)):=
 ⟨h.b0.other (by omega) _,h.b1.other (by omega) _,h.b2.set _⟩
theorem R0(w:World)(q:Bool){α:Type}(f:α->Int×Int):Own (fun(s:α)W=>HvX w q (f s) W):=fun s X Y row h hg hr=>
 ⟨boxed_own _ _ (fun(_:Unit)=>Value.bool q) () X Y row h.b0 hg hr,boxed_own _ _ (fun s=>Value.int .i64 (f s).1) s X Y row h.b1 hg hr,boxed_own _ _ (fun s=>Value.int .i64 (f s).2) s X Y row h.b2 hg hr⟩
theorem RZ(w:World)(ao:Option Addr)(cap b off A0 A1:Nat)(l:List Sig)(a:Int)(q:Bool)(hl:Ik w ao cap b off l)(hv:As l=true)(h0:0<=a)(ha:I64 a)
  (m:w.cell? ⟨A0,0,none⟩=some (.slice ao l.length cap)) (aa:w.cell? ⟨A1,0,none⟩=some (.int .i64 a)):
  Calls Tryz.prog 109 #[.bool q,.pointer (some ⟨A0,0,none⟩),.pointer (some ⟨A1,0,none⟩)] w (Av (.int .i64 (CN q l a)) w):=by
 obtain⟨hz,a2,ah,-⟩:=AN hv;have hn:=hl.nb;unfold I64 at ha;have hb:b<w.heap.size:=World.block_lt_of_cell? w _ (hl.nn 0 (by omega));have ay:A0<w.heap.size:=World.block_lt_of_cell? w _ m;have az:A1<w.heap.size:=World.block_lt_of_cell? w _ aa
 have au:¬A0=w.heap.size:=by omega
 have av:¬A0=w.heap.size+1:=by omega
 have aw:¬A0=w.heap.size+1+1:=by omega
 have HV:=Ab hv;have HZ:=Ab hz;have r:=Ab (Tv hz q a);clear hz hv
 have i:Tryz.prog.follows .mixedOrders=true:=by kernel_rfl
 refine callsIn_wide (n:=5)|>.1 ?_;refine Bz Tryz.func109 rfl trivial ?_;simp only[Tryz.ntmps109,List.size_toArray,List.length_cons,List.length_nil,Nat.reduceAdd,Nat.reduceSub,Array.replicate_succ,Array.replicate_zero,List.push_toArray,List.append_toArray,List.nil_append,List.cons_append]
 gi_upto_region 2 with(fail)
 have j:HvX w q (0,1) (((w.alloc (.cells #[.bool q] 4)).alloc (.cells #[.int .i64 0] 3)).alloc (.cells #[.int .i64 1] 3)):=by
  have e2:=Boxed.new ((w.alloc (.cells #[.bool q] 4)).alloc (.cells #[.int .i64 0] 3)) 3 (.int .i64 1);have e1:=(Boxed.new (w.alloc (.cells #[.bool q] 4)) 3 (.int .i64 0)).alloc (.cells #[.int .i64 1] 3);have e0:=((Boxed.new w 4 (.bool q)).alloc (.cells #[.int .i64 0] 3)).alloc (.cells #[.int .i64 1] 3);simp only[World.size_alloc]at e2 e1;exact⟨e0,e1,e2⟩
 have f:Below w.heap.size w (((w.alloc (.cells #[.bool q] 4)).alloc (.cells #[.int .i64 0] 3)).alloc (.cells #[.int .i64 1] 3)):=(by repeat(first|exact Ad|assumption|apply AE|apply AB));generalize(((w.alloc (.cells #[.bool q] 4)).alloc (.cells #[.int .i64 0] 3)).alloc (.cells #[.int .i64 1] 3))=w1 at*;have q0:=Ag f m
 have ap:w.heap.size+3<=w1.heap.size:=by have:=j.b2.lt;omega
 gi_wp2_with fail
 refine⟨trivial, ?_⟩;refine(callsIn_wide.2 (DJ _ _ _ _)).mono ?_;rintro e w2 ⟨rfl,d⟩
 gi_wp2_with fail
 rw[<-d]
 have hB2:Below w.heap.size w w2:=by rw[d];exact f.trans (((Below.refl _ w1).alloc leR _).mono f.size)
 have ae:HvX w q (0,1) w2:=by rw[d];exact j.below (Ao _)
 have a0:w1.heap.size<w2.heap.size:=by rw[d];simp
 have e4:w2.cell? ⟨w1.heap.size,0,none⟩=some (.slice ao l.length cap):=by rw[d];exact FY _ _ _
 clear d j f q0;generalize w1.heap.size=Bs at*
 refine wpIn_rangeFunc_ownG rfl (by omega) (gf:=108) (lb:=#[.pointer (some ⟨Bs,0,none⟩)]) rfl trivial (enters_of Tryz.func108 (by kernel_rfl) rfl)
  (Ci Fence.wide (5-1) trivial rfl (by omega) Bs w.heap.size b off cap ao l HV.out hb w2 (by omega) (by omega) e4 (hl.below hB2)) KpW.trans (KpW.put (by omega) (by omega)) Ad (fun _=>rfl)
  (fun pre W=>HvX w q (hF l q a pre) W/\Below w.heap.size w W)
  (fun _ _ _=>False)
  (OwnFrom.and (Own.from (R0 w q (fun pre=>hF l q a pre)) _) (ownFrom_below leR (by omega)))
  (fun _ _ _ _ _ hs _ _=>hs)
  ⟨ae,hB2⟩
  ?a1 ?assign ?body ?done ?stop
 case assign=>
  intro lY x W K hK;unfold Jp
  gi_wp2
  exact hK
 case body=>
  rintro lY pre x W ⟨hX,hB⟩ a6;obtain⟨x,hx⟩:=x
  have hd:1<=5-1-1:=by omega
  have q0:=hX.b0.cell;have q1:=hX.b1.cell;have f1:=hX.b1.frozen;have q2:=hX.b2.cell;have f2:=hX.b2.frozen;have c0:=Ag hB m;have c1:=Ag hB aa;have p:=hl.below hB;have n1:=p.ni x hx;have n2:=p.nz x hx;obtain rfl:=hl.ad (by omega);obtain⟨an,ac⟩:=CX HZ.out _ (List.getElem_mem hx);obtain⟨a5,ai⟩:=DR HZ.out ah x;obtain⟨af,ag,y⟩:=Um HZ.out q a pre;have k:(hF l q a pre).2<=4096:=Int.le_trans y (Jd (by omega));have u:Hid (hF l q a (pre++[⟨x,hx⟩])=if(l[x].inp==q)=true then((hF l q a pre).1+(hF l q a pre).2*(a/An (l.take x)%l[x].size),(hF l q a pre).2*l[x].size)else hF l q a pre):=KB _ _ _ _ _;have HX:=Ab hX;have ak:0<=a/An (l.take x):=Int.ediv_nonneg h0 (by omega);have a7:a/An (l.take x)<=a:=Int.ediv_le_self _ h0;have al:=Int.emod_nonneg (a/An (l.take x)) (show l[x].size≠0 by omega);have am:=Int.emod_lt_of_pos (a/An (l.take x)) (show 0<l[x].size by omega);have a8:a.tdiv (An (l.take x))=a/An (l.take x):=Int.tdiv_eq_ediv_of_nonneg h0;have a9:(a/An (l.take x)).tmod l[x].size=a/An (l.take x)%l[x].size:=Int.tmod_eq_emod_of_nonneg ak;have ba:IntKind.i64.wrap (a/An (l.take x))=a/An (l.take x):=IntWalk.i64_in _ ⟨by omega,by omega⟩;have bb:IntKind.i64.wrap (a/An (l.take x)%l[x].size)=a/An (l.take x)%l[x].size:=IntWalk.i64_in _ ⟨by omega,by omega⟩
  have bc:¬An (l.take x)=0:=by omega
  have ap:¬l[x].size=0:=by omega
  have hm:=CL (show 1<=(hF l q a pre).2 by omega) k al am ac;have aj:=Eo (show 1<=(hF l q a pre).2 by omega) k an ac;clear p hX y ai;generalize An (l.take x)=pw at*;generalize l[x].size=z at*;generalize a/pw%z=rm at*;generalize a/pw=qt at*;generalize hst:hF l q a pre=st at*;have ax:=Ab hst;clear hst;obtain⟨s,o⟩:=st;simp only at af ag k q1 q2 hm aj;obtain⟨⟨a3,a4⟩,ab⟩:=hm
  have aq:IntKind.i64.wrap (rm*o)=o*rm:=by rw[Int.mul_comm rm o];exact ab
  have ar:IntKind.i64.wrap (s+o*rm)=s+o*rm:=IntWalk.i64_in _ ⟨by omega,by omega⟩;clear ab
  cases hq:(l[x].inp==q)
  ·gi_wp2
   refine BX i (by kernel_rfl) (by kernel_rfl) ?_
   ((repeat(go_big_quiet_step (fail)));refine wpQuiet_nil ?_;rintro _ ⟨nq,rfl⟩)
   gi_wp2
   exact⟨DQ _ _ _,⟨Aj _ _ _,rfl⟩,by rw[u.out,hq];exact HX.out.drewN nq,hB.trans (Aj _ _ _)⟩
  ·have v:Hid (hF l q a (pre++[⟨x,hx⟩])=(s+o*rm,o*z)):=by
    show _=_;rw[u.out,hq];rfl
   gi_wp2
   refine BX i (by kernel_rfl) (by kernel_rfl) ?_
   ((repeat(go_big_quiet_step (fail)));refine wpQuiet_nil ?_;rintro _ ⟨nq,rfl⟩)
   gi_wp2
   refine Bi 13 i (by kernel_rfl) (by kernel_rfl) ?_;simp only[List.take_succ_cons,List.take_zero,List.drop_succ_cons,List.drop_zero]
   repeat still_step
   refine wpStill_nil ?_
   gi_wp2
   refine Bi 7 i (by kernel_rfl) (by kernel_rfl) ?_;simp only[List.take_succ_cons,List.take_zero,List.drop_succ_cons,List.drop_zero]
   repeat still_step
   refine wpStill_nil ?_
   gi_wp2
   have hk:=((((KK.refl w2.heap.size w.heap.size Bs W).drewN nq).drew.set (b:=w.heap.size+1) (by omega) (by omega) (.int .i64 (s+o*rm))).drew).set (b:=w.heap.size+1+1) (by omega) (by omega) (.int .i64 (o*z));exact⟨hk.1,hk.2,by rw[v.out];exact((((HX.out.drewN nq).drew).sum _).drew).own _,hB.trans hk.2.1⟩
 case done=>
  rintro D ys W hD rfl ⟨hX,hB⟩ hK;have q1:=hX.b1.cell
  gi_wp2
  refine⟨by simp,.inl ⟨_,_,rfl,run_takeDeferred hK, ?_⟩⟩;exact⟨_,results_tmp rfl _ _ _,by rw[r.out];rfl,hB.trans (belowK_b (w:=w) leR W D _ _ (by omega) hK rfl rfl)⟩
 case stop=>
  rintro D c pre W _ _ h _;exact h.elim
end Go.Proofs.YtncjeamdkjcebaaGreatDoor
