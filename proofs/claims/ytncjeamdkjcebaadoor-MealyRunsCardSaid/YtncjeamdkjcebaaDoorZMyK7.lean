/- The statement MealyRuns is proved: running for one list and on for another one is running for both. Conditions: none beyond the given row. -/
import Derived.Test.YtncjeamdkjcebaaDoorCards
import Derived.Test.YtncjeamdkjcebaaDoorTie
import Derived.Stop.Joined
import Derived.SevenTiedAt
import Derived.Test.YtncjeamdkjcebaaDoorZMyL8
set_option linter.all false
set_option maxRecDepth 100000
namespace Go.Proofs.YtncjeamdkjcebaaDoor
open Go.ChangeShapes Go.WideShapes Go.ChangeAt Go.RowKit Go.Joins Go.Deep
theorem own:ownKnob Tryd.prog.godebug=none:=by kernel_rfl
theorem P5:laidOutB Tryd.prog=true:=by kernel_rfl
theorem Hz(os:Os)(started:os.Started)(H:Type)(enc:TypeId×Value->H):
  ReturnsInHanded {} Tryd.checked os 3 .any (fun w args=>(Rows.mealyRunsSpec.pre enc Tryd.prog Tryd.f3 [] false w args/\laidMetH Tryd.prog [("foresight/signal.keys",Rows.laid_foresight_signal_keys)] w)/\sizedMet enc Tryd.prog Tryd.f3 (OpenSpec.ofChange Rows.mealyRunsSpec) false w args) (Rows.mealyRunsSpec.post enc Tryd.prog Tryd.f3 false true false false):=by
 refine returnsInHanded_of_change_and (C:=Tryd.checked) (X:=fun w _=>laidMetH Tryd.prog [("foresight/signal.keys",Rows.laid_foresight_signal_keys)] w) (fun _ _ _ hh h=>h.of_heap hh) own started (by kernel_rfl) Tryd.func3
  (ChangeSpec.witness_shaped (enc:=enc) (C:=Tryd.checked) (os:=os) (X:=fun w _=>laidMetH Tryd.prog [("foresight/signal.keys",Rows.laid_foresight_signal_keys)] w) false (World.doorLaid Tryd.prog 400 os) #[.agg #[.int .i64 0,.int .i64 0,.int .i64 0,.slice none 0 0,.slice none 0 0],.int .u8 0,.slice none 0 0,.slice none 0 0] 8 rfl (World.shaped_of_RefB (by kernel_rfl) (by kernel_rfl)) (by kernel_rfl) (by kernel_rfl) (by kernel_rfl) (NY os _)) ?_
 intro W base args ds gs before hval0 hW hcnd hsz0 SA _;have hsz:(DataW.weightsEach Tryd.prog (Tryd.f3.params.toList++Rows.mealyRunsSpec.plain.varTypes Tryd.prog) (ds++gs)).all (·<=reachBytes)=true:=hsz0;have hval:∀(j:Nat)t v,Tryd.f3.params[j]? =some t->args[j]? =some v->Value.okWide Tryd.prog W .any base t v:=hval0;have hW':=hW;obtain⟨p,q,hA0,hV,rfl,hfz,hnd⟩:=hW;have Sy:DataW.TrodAll enc Tryd.prog W 0 (fun _=>true) true Tryd.f3.params.toList args.toList ds p:=hA0;rw[Tryd.params3]at Sy hval hsz;have hAll:=Sy;obtain⟨vl,rfl⟩:∃l:List Value,args=l.toArray:=⟨args.toList,rfl⟩
 have hz:∀(j:Nat)t d,(#[24,5,25,25]:Array TypeId).toList[j]? =some t->ds[j]? =some d->∀n∈d.weights Tryd.prog t,n<=reachBytes:=fun j t d h1 h2 n hn=>of_decide_eq_true (List.all_eq_true.1 hsz _ (DataW.weights_mem_each (j:=j) (by rw[List.getElem?_append_left (List.getElem?_eq_some_iff.1 h1).1];exact h1) (by rw[List.getElem?_append_left (List.getElem?_eq_some_iff.1 h2).1];exact h2) n hn))
 simp only at Sy;obtain⟨v0,t0,d0,e0,p0,q0,hx0,rfl,rfl,h0,hR0⟩:=trodAll_cons Sy;obtain rfl:vl=v0::t0:=hx0;obtain⟨v1,t1,d1,e1,p1,q1,hx1,rfl,rfl,h1,hR1⟩:=trodAll_cons hR0;subst hx1;obtain⟨v2,t2,d2,e2,p2,q2,hx2,rfl,rfl,h2,hR2⟩:=trodAll_cons hR1;subst hx2;obtain⟨v3,t3,d3,e3,p3,q3,hx3,rfl,rfl,h3,hR3⟩:=trodAll_cons hR2;subst hx3;obtain⟨rfl,rfl,rfl⟩:=trodAll_nil hR3;obtain⟨rfl,rfl⟩:=trodVars_none hV
 have hlt:∀x∈(p0++(p1++(p2++(p3++[])))),x.block<W.heap.size:=fun x hx=>by simpa using hW'.lt x (by simpa using hx)
 obtain⟨x0,r0⟩:=Qj (hval 0 24 v0 rfl rfl) h0 (hz 0 _ _ rfl rfl);obtain⟨n1,rfl,rfl,rfl,wn1⟩:=open_int Tryd.underlying5 (hval 1 5 v1 rfl rfl) h1;obtain⟨a2,len2,cap2,rfl⟩:=okWide_slice Tryd.underlying25 (hval 2 25 v2 rfl rfl);obtain⟨fu2,hf2⟩:=h2;obtain⟨x2,r2⟩:=ID Tryd.underlying25 hf2 (hz 2 _ _ rfl rfl);obtain⟨a3,len3,cap3,rfl⟩:=okWide_slice Tryd.underlying25 (hval 3 25 v3 rfl rfl);obtain⟨fu3,hf3⟩:=h3;obtain⟨x3,r3⟩:=ID Tryd.underlying25 hf3 (hz 3 _ _ rfl rfl);clear hA0 hval0;simp only[List.append_nil]at hW'
 refine(Ns W _ _ _ x0 n1 x2 x3 (Je SA) r0 (Sg wn1) r2 r3).mono fun e W' ⟨he,bel⟩=> ?_
 subst he;exact⟨_,rfl,_,_,_,[],_,[],hW',trodAll_mk1 (shut_bool Tryd.underlying4 _),Nb P5 (by kernel_rfl) hAll bel hlt,rfl,bel.frame _,fun h=>by cases h⟩
theorem K5:Rows.MealyRunsSaid:=
 OpenClaim.holds_of_wide 3 Tryd.f3 rfl rfl rfl rfl rfl rfl rfl ⟨rfl,rfl,rfl,rfl,rfl⟩ rfl rfl rfl rfl rfl (by kernel_rfl) Tryd.func3 (by kernel_rfl)
  (of_decide_eq_true (by kernel_rfl)) (by unfold Func.isWrapper;first|(rw[if_pos (by decide+kernel)];kernel_rfl)|(rw[if_neg (by decide+kernel)];exact⟨rfl,rfl⟩))
  (fun os started H enc _=>Hz os started H enc)
theorem mylaw7:Rows.MealyRunsCardSaid:=
 Claim7.holds_tied_plain_at .later [] [.data] true (true, "04f0e5da1ff14cc74193bc478d265562a2e84913836a8f423589cafc35356a48") false
  K5 (fun _ h=>by cases h) (by kernel_rfl) (fun _ h=>by cases h) mealyRuns_row_tie rfl ⟨rfl,rfl⟩ (by kernel_rfl) rfl
  (fun f fn hf hfn=>by
   obtain rfl:f=3:=Option.some.inj ((show Tryd.prog.funcNamed "foresight/foresightlaw26.MealyRuns"=some 3 by kernel_rfl).symm.trans hf)|>.symm;obtain rfl:fn=Tryd.f3:=(Option.some.inj (Tryd.func3.symm.trans hfn)).symm
   exact⟨by kernel_rfl,fun j t ht=>by
    rw[Tryd.params3]at ht
    have hm:t∈[24,5,25,25]:=by simpa using Array.mem_of_getElem? ht
    have hall:([24,5,25,25].all fun u=> !Tryd.prog.wantsStandIn u)=true:=by kernel_rfl
    exact(show Tryd.prog.wantsStandIn t=false by simpa using List.all_eq_true.1 hall t hm)⟩)
  (by kernel_rfl)
end Go.Proofs.YtncjeamdkjcebaaDoor
