/- The statement MealyMatchesReference is proved: library and reference agree on runs, words, plays and both. Conditions: none beyond the given row. -/
import Derived.Test.YtncjeamdkjcebaaGreatDoorCards
import Derived.Test.YtncjeamdkjcebaaGreatDoorTie
import Derived.Stop.Joined
import Derived.SevenTiedAt
import Derived.Test.YtncjeamdkjcebaaGreatDoorYMyL3
set_option linter.all false
set_option maxRecDepth 100000
namespace Go.Proofs.YtncjeamdkjcebaaGreatDoor
open Go.ChangeShapes Go.WideShapes Go.ChangeAt Go.RowKit Go.Joins Go.Deep
theorem own:ownKnob Tryz.prog.godebug=none:=by kernel_rfl
theorem Sd:laidOutB Tryz.prog=true:=by kernel_rfl
theorem Js(os:Os)(c:os.Started)(H:Type)(enc:TypeId×Value->H):
  ReturnsInHanded {} Tryz.checked os 3 .any (fun w args=>(Rows.mealyMatchesReferenceSpec.pre enc Tryz.prog Tryz.f3 [] false w args/\laidMetH Tryz.prog [("foresight/signal.keys",Rows.laid_foresight_signal_keys)] w)/\sizedMet enc Tryz.prog Tryz.f3 (OpenSpec.ofChange Rows.mealyMatchesReferenceSpec) false w args) (Rows.mealyMatchesReferenceSpec.post enc Tryz.prog Tryz.f3 false true false false):=by
 refine returnsInHanded_of_change_and (C:=Tryz.checked) (X:=fun w _=>laidMetH Tryz.prog [("foresight/signal.keys",Rows.laid_foresight_signal_keys)] w) (fun _ _ _ hh h=>h.of_heap hh) own c (by kernel_rfl) Tryz.func3
  (ChangeSpec.witness_shaped (enc:=enc) (C:=Tryz.checked) (os:=os) (X:=fun w _=>laidMetH Tryz.prog [("foresight/signal.keys",Rows.laid_foresight_signal_keys)] w) false (World.doorLaid Tryz.prog 400 os) #[.slice none 0 0,.agg #[.int .i64 0,.int .i64 0,.int .i64 0,.slice none 0 0,.slice none 0 0],.agg #[.int .i64 0,.int .i64 0,.int .i64 0,.slice none 0 0,.slice none 0 0],.agg #[.int .i64 0,.int .i64 0,.int .i64 0,.slice none 0 0,.slice none 0 0],.int .i64 0,.slice none 0 0,.agg #[.slice none 0 0,.slice none 0 0],.slice none 0 0] 8 rfl (World.shaped_of_RefB (by kernel_rfl) (by kernel_rfl)) (by kernel_rfl) (by kernel_rfl) (by kernel_rfl) (Qd os _)) ?_
 intro W base args ds gs before b hW ar o UK _;have m:(DataW.weightsEach Tryz.prog (Tryz.f3.params.toList++Rows.mealyMatchesReferenceSpec.plain.varTypes Tryz.prog) (ds++gs)).all (·<=reachBytes)=true:=o;have a:∀(j:Nat)t v,Tryz.f3.params[j]? =some t->args[j]? =some v->Value.okWide Tryz.prog W .any base t v:=b;have f:=hW;obtain⟨p,q,i,hV,rfl,a1,a2⟩:=hW;have UI:DataW.TrodAll enc Tryz.prog W 0 (fun _=>true) true Tryz.f3.params.toList args.toList ds p:=i;rw[Tryz.params3]at UI a m;have k:=UI;obtain⟨vl,rfl⟩:∃l:List Value,args=l.toArray:=⟨args.toList,rfl⟩
 have hz:∀(j:Nat)t d,(#[22,25,25,28,3,26,30,31]:Array TypeId).toList[j]? =some t->ds[j]? =some d->∀n∈d.weights Tryz.prog t,n<=reachBytes:=fun j t d h1 h2 n hn=>of_decide_eq_true (List.all_eq_true.1 m _ (DataW.weights_mem_each (j:=j) (by rw[List.getElem?_append_left (List.getElem?_eq_some_iff.1 h1).1];exact h1) (by rw[List.getElem?_append_left (List.getElem?_eq_some_iff.1 h2).1];exact h2) n hn))
 simp only at UI;obtain⟨v0,t0,d0,e0,p0,q0,ag,rfl,rfl,h0,r⟩:=trodAll_cons UI;obtain rfl:vl=v0::t0:=ag;obtain⟨v1,t1,d1,e1,p1,q1,ah,rfl,rfl,h1,s⟩:=trodAll_cons r;subst ah;obtain⟨v2,t2,d2,e2,p2,q2,ai,rfl,rfl,h2,u⟩:=trodAll_cons s;subst ai;obtain⟨v3,t3,d3,e3,p3,q3,aj,rfl,rfl,h3,y⟩:=trodAll_cons u;subst aj;obtain⟨v4,t4,d4,e4,p4,q4,ak,rfl,rfl,h4,z⟩:=trodAll_cons y;subst ak;obtain⟨v5,t5,d5,e5,p5,q5,al,rfl,rfl,h5,aa⟩:=trodAll_cons z;subst al;obtain⟨v6,t6,d6,e6,p6,q6,am,rfl,rfl,h6,ab⟩:=trodAll_cons aa;subst am;obtain⟨v7,t7,d7,e7,p7,q7,an,rfl,rfl,h7,ac⟩:=trodAll_cons ab;subst an;obtain⟨rfl,rfl,rfl⟩:=trodAll_nil ac;obtain⟨rfl,rfl⟩:=trodVars_none hV
 have hlt:∀x∈(p0++(p1++(p2++(p3++(p4++(p5++(p6++(p7++[])))))))),x.block<W.heap.size:=fun x hx=>by simpa using f.lt x (by simpa using hx)
 obtain⟨a0,au,ao,rfl⟩:=okWide_slice Tryz.underlying22 (a 0 22 v0 rfl rfl);obtain⟨ax,ad⟩:=h0;obtain⟨x0,r0⟩:=O0 Tryz.underlying22 ad (hz 0 _ _ rfl rfl);obtain⟨x1,r1⟩:=N5 (a 1 25 v1 rfl rfl) h1 (hz 1 _ _ rfl rfl);obtain⟨x2,r2⟩:=N5 (a 2 25 v2 rfl rfl) h2 (hz 2 _ _ rfl rfl);obtain⟨x3,r3⟩:=Su (a 3 28 v3 rfl rfl) h3 (hz 3 _ _ rfl rfl);obtain⟨n4,rfl,rfl,rfl,a3⟩:=open_int Tryz.underlying3 (a 4 3 v4 rfl rfl) h4;obtain⟨a5,av,ap,rfl⟩:=okWide_slice Tryz.underlying26 (a 5 26 v5 rfl rfl);obtain⟨ay,ae⟩:=h5;obtain⟨x5,r5⟩:=FR Tryz.underlying26 ae (hz 5 _ _ rfl rfl);obtain⟨x6,r6⟩:=Nb (a 6 30 v6 rfl rfl) h6 (hz 6 _ _ rfl rfl);obtain⟨a7,aw,aq,rfl⟩:=okWide_slice Tryz.underlying31 (a 7 31 v7 rfl rfl);obtain⟨az,af⟩:=h7;obtain⟨x7,r7⟩:=Na Tryz.underlying31 af (hz 7 _ _ rfl rfl);clear i b;simp only[List.append_nil]at f
 refine(Ms W _ _ _ _ _ _ _ x0 x1 x2 x3 n4 x5 x6 x7 (KH UK) r0 r1 r2 r3 r5 r6 r7).mono fun e W' ⟨he,bel⟩=> ?_
 subst he;exact⟨_,rfl,_,_,_,[],_,[],f,trodAll_mk1 (shut_bool Tryz.underlying4 _),Pd Sd (by kernel_rfl) k bel hlt,rfl,bel.frame _,fun h=>by cases h⟩
theorem MV:Rows.MealyMatchesReferenceSaid:=
 OpenClaim.holds_of_wide 3 Tryz.f3 rfl rfl rfl rfl rfl rfl rfl ⟨rfl,rfl,rfl,rfl,rfl⟩ rfl rfl rfl rfl rfl (by kernel_rfl) Tryz.func3 (by kernel_rfl)
  (of_decide_eq_true (by kernel_rfl)) (by unfold Func.isWrapper;first|(rw[if_pos (by decide+kernel)];kernel_rfl)|(rw[if_neg (by decide+kernel)];exact⟨rfl,rfl⟩))
  (fun os started H enc _=>Js os started H enc)
theorem mylaw3:Rows.MealyMatchesReferenceCardSaid:=
 Claim7.holds_tied_plain_at .later [] [.data] true (true, "5d0177d3a0f18bda64e92d5d828764a3daff69dfd9f2474fc4fe355fdd8e660a") false
  MV (fun _ h=>by cases h) (by kernel_rfl) (fun _ h=>by cases h) mealyMatchesReference_row_tie rfl ⟨rfl,rfl⟩ (by kernel_rfl) rfl
  (fun f fn hf hfn=>by
   obtain rfl:f=3:=Option.some.inj ((show Tryz.prog.funcNamed "foresight/foresightlaw26.MealyMatchesReference"=some 3 by kernel_rfl).symm.trans hf)|>.symm;obtain rfl:fn=Tryz.f3:=(Option.some.inj (Tryz.func3.symm.trans hfn)).symm
   exact⟨by kernel_rfl,fun j t ht=>by
    rw[Tryz.params3]at ht
    have hm:t∈[22,25,25,28,3,26,30,31]:=by simpa using Array.mem_of_getElem? ht
    have a:([22,25,25,28,3,26,30,31].all fun u=> !Tryz.prog.wantsStandIn u)=true:=by kernel_rfl
    exact(show Tryz.prog.wantsStandIn t=false by simpa using List.all_eq_true.1 a t hm)⟩)
  (by kernel_rfl)
end Go.Proofs.YtncjeamdkjcebaaGreatDoor
