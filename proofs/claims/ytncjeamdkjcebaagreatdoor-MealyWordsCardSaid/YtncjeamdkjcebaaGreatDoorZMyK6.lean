/- The statement MealyWords is proved: a word's letters have the inputs and the run's outputs; equal inputs so far give equal letters. Conditions: none beyond the given row. -/
import Derived.Test.YtncjeamdkjcebaaGreatDoorCards
import Derived.Test.YtncjeamdkjcebaaGreatDoorTie
import Derived.Stop.Joined
import Derived.SevenTiedAt
import Derived.Test.YtncjeamdkjcebaaGreatDoorZMyL6
set_option linter.all false
set_option maxRecDepth 100000
namespace Go.Proofs.YtncjeamdkjcebaaGreatDoor
open Go.ChangeShapes Go.WideShapes Go.ChangeAt Go.RowKit Go.Joins Go.Deep
theorem own:ownKnob Tryz.prog.godebug=none:=by kernel_rfl
theorem laidOut:laidOutB Tryz.prog=true:=by kernel_rfl
theorem I4(os:Os)(started:os.Started)(H:Type)(enc:TypeId×Value->H):
  ReturnsInHanded {} Tryz.checked os 6 .any (fun w args=>(Rows.mealyWordsSpec.pre enc Tryz.prog Tryz.f6 [] false w args/\laidMetH Tryz.prog [("foresight/signal.keys",Rows.laid_foresight_signal_keys)] w)/\sizedMet enc Tryz.prog Tryz.f6 (OpenSpec.ofChange Rows.mealyWordsSpec) false w args) (Rows.mealyWordsSpec.post enc Tryz.prog Tryz.f6 false true false false):=by
 refine returnsInHanded_of_change_and (C:=Tryz.checked) (X:=fun w _=>laidMetH Tryz.prog [("foresight/signal.keys",Rows.laid_foresight_signal_keys)] w) (fun _ _ _ hh h=>h.of_heap hh) own started (by kernel_rfl) Tryz.func6
  (ChangeSpec.witness_shaped (enc:=enc) (C:=Tryz.checked) (os:=os) (X:=fun w _=>laidMetH Tryz.prog [("foresight/signal.keys",Rows.laid_foresight_signal_keys)] w) false (World.doorLaid Tryz.prog 400 os) #[.slice none 0 0,.agg #[.int .i64 0,.int .i64 0,.int .i64 0,.slice none 0 0,.slice none 0 0],.agg #[.slice none 0 0,.slice none 0 0],.agg #[.slice none 0 0,.slice none 0 0]] 8 rfl (World.shaped_of_RefB (by kernel_rfl) (by kernel_rfl)) (by kernel_rfl) (by kernel_rfl) (by kernel_rfl) (Il os _)) ?_
 intro W base args ds gs before hval0 hW hcnd hsz0 Uh _;have hsz:(DataW.weightsEach Tryz.prog (Tryz.f6.params.toList++Rows.mealyWordsSpec.plain.varTypes Tryz.prog) (ds++gs)).all (·<=reachBytes)=true:=hsz0;have hval:∀(j:Nat)t v,Tryz.f6.params[j]? =some t->args[j]? =some v->Value.okWide Tryz.prog W .any base t v:=hval0;have hW':=hW;obtain⟨p,q,hA0,hV,rfl,hfz,hnd⟩:=hW;have Uf:DataW.TrodAll enc Tryz.prog W 0 (fun _=>true) true Tryz.f6.params.toList args.toList ds p:=hA0;rw[Tryz.params6]at Uf hval hsz;have hAll:=Uf;obtain⟨vl,rfl⟩:∃l:List Value,args=l.toArray:=⟨args.toList,rfl⟩
 have hz:∀(j:Nat)t d,(#[22,25,30,30]:Array TypeId).toList[j]? =some t->ds[j]? =some d->∀n∈d.weights Tryz.prog t,n<=reachBytes:=fun j t d h1 h2 n hn=>of_decide_eq_true (List.all_eq_true.1 hsz _ (DataW.weights_mem_each (j:=j) (by rw[List.getElem?_append_left (List.getElem?_eq_some_iff.1 h1).1];exact h1) (by rw[List.getElem?_append_left (List.getElem?_eq_some_iff.1 h2).1];exact h2) n hn))
 simp only at Uf;obtain⟨v0,t0,d0,e0,p0,q0,hx0,rfl,rfl,h0,hR0⟩:=trodAll_cons Uf;obtain rfl:vl=v0::t0:=hx0;obtain⟨v1,t1,d1,e1,p1,q1,hx1,rfl,rfl,h1,hR1⟩:=trodAll_cons hR0;subst hx1;obtain⟨v2,t2,d2,e2,p2,q2,hx2,rfl,rfl,h2,hR2⟩:=trodAll_cons hR1;subst hx2;obtain⟨v3,t3,d3,e3,p3,q3,hx3,rfl,rfl,h3,hR3⟩:=trodAll_cons hR2;subst hx3;obtain⟨rfl,rfl,rfl⟩:=trodAll_nil hR3;obtain⟨rfl,rfl⟩:=trodVars_none hV
 have hlt:∀x∈(p0++(p1++(p2++(p3++[])))),x.block<W.heap.size:=fun x hx=>by simpa using hW'.lt x (by simpa using hx)
 obtain⟨a0,len0,cap0,rfl⟩:=okWide_slice Tryz.underlying22 (hval 0 22 v0 rfl rfl);obtain⟨fu0,hf0⟩:=h0;obtain⟨x0,r0⟩:=G5 Tryz.underlying22 hf0 (hz 0 _ _ rfl rfl);obtain⟨x1,r1⟩:=H5 (hval 1 25 v1 rfl rfl) h1 (hz 1 _ _ rfl rfl);obtain⟨x2,r2⟩:=F3 (hval 2 30 v2 rfl rfl) h2 (hz 2 _ _ rfl rfl);obtain⟨x3,r3⟩:=F3 (hval 3 30 v3 rfl rfl) h3 (hz 3 _ _ rfl rfl);clear hA0 hval0;simp only[List.append_nil]at hW'
 refine(Mg W _ _ _ _ x0 x1 x2 x3 (Ex Uh) r0 r1 r2 r3).mono fun e W' ⟨he,bel⟩=> ?_
 subst he;exact⟨_,rfl,_,_,_,[],_,[],hW',trodAll_mk1 (shut_bool Tryz.underlying4 _),G8 laidOut (by kernel_rfl) hAll bel hlt,rfl,bel.frame _,fun h=>by cases h⟩
theorem MF:Rows.MealyWordsSaid:=
 OpenClaim.holds_of_wide 6 Tryz.f6 rfl rfl rfl rfl rfl rfl rfl ⟨rfl,rfl,rfl,rfl,rfl⟩ rfl rfl rfl rfl rfl (by kernel_rfl) Tryz.func6 (by kernel_rfl)
  (of_decide_eq_true (by kernel_rfl)) (by unfold Func.isWrapper;first|(rw[if_pos (by decide+kernel)];kernel_rfl)|(rw[if_neg (by decide+kernel)];exact⟨rfl,rfl⟩))
  (fun os started H enc _=>I4 os started H enc)
theorem mylaw6:Rows.MealyWordsCardSaid:=
 Claim7.holds_tied_plain_at .later [] [.data] true (true, "5d0177d3a0f18bda64e92d5d828764a3daff69dfd9f2474fc4fe355fdd8e660a") false
  MF (fun _ h=>by cases h) (by kernel_rfl) (fun _ h=>by cases h) mealyWords_row_tie rfl ⟨rfl,rfl⟩ (by kernel_rfl) rfl
  (fun f fn hf hfn=>by
   obtain rfl:f=6:=Option.some.inj ((show Tryz.prog.funcNamed "foresight/foresightlaw26.MealyWords"=some 6 by kernel_rfl).symm.trans hf)|>.symm;obtain rfl:fn=Tryz.f6:=(Option.some.inj (Tryz.func6.symm.trans hfn)).symm
   exact⟨by kernel_rfl,fun j t ht=>by
    rw[Tryz.params6]at ht
    have hm:t∈[22,25,30,30]:=by simpa using Array.mem_of_getElem? ht
    have hall:([22,25,30,30].all fun u=> !Tryz.prog.wantsStandIn u)=true:=by kernel_rfl
    exact(show Tryz.prog.wantsStandIn t=false by simpa using List.all_eq_true.1 hall t hm)⟩)
  (by kernel_rfl)
end Go.Proofs.YtncjeamdkjcebaaGreatDoor
