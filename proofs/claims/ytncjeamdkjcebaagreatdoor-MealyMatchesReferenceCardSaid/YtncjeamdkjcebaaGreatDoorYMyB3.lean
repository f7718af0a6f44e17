/- What the loops of the reference's Both keep. -/
import Derived.Test.YtncjeamdkjcebaaGreatDoorYSt7
set_option linter.all false
namespace Go.Proofs.YtncjeamdkjcebaaGreatDoor
open Go.RowKit
def X3(B:Nat)(vS vO vN:Value)(q:Nat):Prop:=vS.ownBlock=some q\/vO.ownBlock=some q\/vN.ownBlock=some q\/q<B
structure IB(w5:World)(ci co:Int)(v3 v4:Value)(n3 n4:List Value)(r3 r4:List (List Int))(S O N:List Int)(vS vO vN:Value)(W:World):Prop where
 bl:Below w5.heap.size w5 W
 s:OI W w5.heap.size vS S
 o:OI W w5.heap.size vO O
 n:OI W w5.heap.size vN N
 a1:AR vS vO
 a2:AR vS vN
 a3:AR vO vN
 am:AM W w5.heap.size w5.heap.size ci co 0 v3 v4 n3 n4 r3 r4 (X3 w5.heap.size vS vO vN)
theorem BQ(v:Value):AR v (.slice none 0 0):=fun _ _ e=>by cases e
theorem ES(v:Value):AR (.slice none 0 0) v:=fun _ e=>by cases e
section
variable {w5 W w':World} {ci co:Int} {v3 v4:Value} {n3 n4:List Value} {r3 r4:List (List Int)} {S O N L:List Int} {vS vO vN v':Value}
theorem IB.below(h:IB w5 ci co v3 v4 n3 n4 r3 r4 S O N vS vO vN W)(hb:Below W.heap.size W w'):IB w5 ci co v3 v4 n3 n4 r3 r4 S O N vS vO vN w':=
 ⟨h.bl.trans (hb.mono h.bl.size),h.s.below hb,h.o.below hb,h.n.below hb,h.a1,h.a2,h.a3,h.am.below hb⟩
theorem IB.seen(h:IB w5 ci co v3 v4 n3 n4 r3 r4 S O N vS vO vN W)(ho:OI w' w5.heap.size v' L)(hg:W.grownBy w' vS.ownBlock)(hm:AS W vS v'):IB w5 ci co v3 v4 n3 n4 r3 r4 L O N v' vO vN w':=by
 have h1:Af (X3 w5.heap.size vS vO vN) W w':=(Af.of_grown hg).mono fun q _ e=>.inl e
 refine⟨h.bl.grown hg h.bl.size h.s.ge,ho,h.o.grownA hg h.a1.symm,h.n.grownA hg h.a2.symm,(h.a1.symm.moved hm h.o.lt').symm,(h.a2.symm.moved hm h.n.lt').symm,h.a3,h.am.other h1 (fun q hq e=> ?_) (fun q e=> ?_)⟩
 ·rcases e with e|e|e|e
  ·exact(hm q e).elim (fun k=>.inl k) (fun k=>absurd hq (by omega))
  ·exact .inr (.inl e)
  ·exact .inr (.inr (.inl e))
  ·exact .inr (.inr (.inr e))
 ·rcases e with e|e|e|e
  ·exact ho.lt' q e
  ·exact(h.o.grownA hg h.a1.symm).lt' q e
  ·exact(h.n.grownA hg h.a2.symm).lt' q e
  ·exact Nat.lt_of_lt_of_le e (Nat.le_trans h.bl.size h1.size)
theorem IB.outs(h:IB w5 ci co v3 v4 n3 n4 r3 r4 S O N vS vO vN W)(ho:OI w' w5.heap.size v' L)(hg:W.grownBy w' vO.ownBlock)(hm:AS W vO v'):IB w5 ci co v3 v4 n3 n4 r3 r4 S L N vS v' vN w':=by
 have h1:Af (X3 w5.heap.size vS vO vN) W w':=(Af.of_grown hg).mono fun q _ e=>.inr (.inl e)
 refine⟨h.bl.grown hg h.bl.size h.o.ge,h.s.grownA hg h.a1,ho,h.n.grownA hg h.a3.symm,h.a1.moved hm h.s.lt',h.a2,(h.a3.symm.moved hm h.n.lt').symm,h.am.other h1 (fun q hq e=> ?_) (fun q e=> ?_)⟩
 ·rcases e with e|e|e|e
  ·exact .inl e
  ·exact(hm q e).elim (fun k=>.inr (.inl k)) (fun k=>absurd hq (by omega))
  ·exact .inr (.inr (.inl e))
  ·exact .inr (.inr (.inr e))
 ·rcases e with e|e|e|e
  ·exact(h.s.grownA hg h.a1).lt' q e
  ·exact ho.lt' q e
  ·exact(h.n.grownA hg h.a3.symm).lt' q e
  ·exact Nat.lt_of_lt_of_le e (Nat.le_trans h.bl.size h1.size)
theorem IB.make{m:Nat}(h:IB w5 ci co v3 v4 n3 n4 r3 r4 S O N vS vO (.slice none 0 0) W)(ho:OI w' w5.heap.size (.slice (some ⟨W.heap.size,0,none⟩) m m) L)(hg:W.grownBy w' none):IB w5 ci co v3 v4 n3 n4 r3 r4 S O L vS vO (.slice (some ⟨W.heap.size,0,none⟩) m m) w':=by
 have hb:Below W.heap.size W w':=Ad.grown hg leR (fun k hk=>by cases hk);have g:=h.below hb
 have hB:∀q,(Value.slice (some ⟨W.heap.size,0,none⟩) m m).ownBlock=some q->q=W.heap.size:=fun q e=>by simpa[Value.ownBlock]using e.symm
 refine⟨g.bl,g.s,g.o,ho,g.a1,fun q e k=> ?_,fun q e k=> ?_,h.am.other (Af.of_below hb) (fun q hq e=> ?_) (fun q e=> ?_)⟩
 ·have:=h.s.lt' q e;have:=hB q k;omega
 ·have:=h.o.lt' q e;have:=hB q k;omega
 ·rcases e with e|e|e|e
  ·exact .inl e
  ·exact .inr (.inl e)
  ·have:=hB q e;omega
  ·exact .inr (.inr (.inr e))
 ·rcases e with e|e|e|e
  ·exact g.s.lt' q e
  ·exact g.o.lt' q e
  ·exact ho.lt' q e
  ·exact Nat.lt_of_lt_of_le e g.bl.size
theorem IB.set{g m c j:Nat}{x:Int}(h:IB w5 ci co v3 v4 n3 n4 r3 r4 S O N vS vO (.slice (some ⟨g,0,none⟩) m c) W)(hm:m=N.length):IB w5 ci co v3 v4 n3 n4 r3 r4 S O (N.set j x) vS vO (.slice (some ⟨g,0,none⟩) m c) (W.setCell ⟨g,j,none⟩ (.int .i64 x)):=by
 have hg:=h.n.ge g rfl;have h1:Af (X3 w5.heap.size vS vO (.slice (some ⟨g,0,none⟩) m c)) W (W.setCell ⟨g,j,none⟩ (.int .i64 x)):=Af.set g j _ (.inr (.inr (.inl rfl)));refine⟨BS h.bl hg,h.s.setNe (fun e=>h.a2 g e rfl),h.o.setNe (fun e=>h.a3 g e rfl),h.n.set hm j x,h.a1,h.a2,h.a3,h.am.other h1 (fun _ _ e=>e) (fun q e=>Nat.lt_of_lt_of_le (h.am.xz q e).1 h1.size)⟩
theorem IB.appO(h:IB w5 ci co v3 v4 n3 n4 r3 r4 S O N vS vO vN W)(hn:O.length<=100000)(hr:∀x∈O,I64 x)
  (ho:w'.ownsRow w5.heap.size 26 1 v' (r3.length+1) (n3++[vO])) (hg:W.grownBy w' v3.ownBlock) (hm:AS W v3 v'):
  w'.heap[w5.heap.size]? =some (.cells #[.int .i64 ci,.int .i64 co,.int .i64 0,v3,v4] 25 (0,0))/\IB w5 ci co v' v4 (n3++[vO]) n4 (r3++[O]) r4 S [] N vS (.slice none 0 0) vN (w'.setCell ⟨w5.heap.size,3,none⟩ v'):=by
 have hA:AM W w5.heap.size w5.heap.size ci co 0 v3 v4 n3 n4 r3 r4 (X3 w5.heap.size vS (.slice none 0 0) vN):=h.am.other (Af.refl _ _) (fun q _ e=>by
  rcases e with e|e|e|e
  ·exact .inl e
  ·cases e
  ·exact .inr (.inr (.inl e))
  ·exact .inr (.inr (.inr e))) (fun q e=>by
  rcases e with e|e|e|e
  ·exact h.s.lt' q e
  ·cases e
  ·exact h.n.lt' q e
  ·exact Nat.lt_of_lt_of_le e h.bl.size)
 have hy:=hA.fresh h.o (fun q e hh=>by
  have hx:=h.am.xz q (.inr (.inl e))
  rcases hh with k|k|k|k
  ·exact hx.2.1 k
  ·exact hx.2.2.1 k
  ·exact hx.2.2.2 k
  ·rcases k with k|k|k|k
   ·exact h.a1 q k e
   ·cases k
   ·exact h.a3 q e k
   ·have:=h.o.ge q e;omega) hn hr
 obtain⟨h1,h2,h3,h4⟩:=hA.appN hy ho hg hm;refine⟨h1,h.bl.trans h4,h.s.only h3 (fun q e k=> ?_),Br _ _,h.n.only h3 (fun q e k=> ?_),BQ _,h.a2,ES _,h2⟩
 ·have hx:=h.am.xz q (.inl e)
  rcases k with k|k
  ·exact hx.2.1 k
  ·exact hx.2.2.1 k
 ·have hx:=h.am.xz q (.inr (.inr (.inl e)))
  rcases k with k|k
  ·exact hx.2.1 k
  ·exact hx.2.2.1 k
theorem IB.appN(h:IB w5 ci co v3 v4 n3 n4 r3 r4 S O N vS (.slice none 0 0) vN W)(hn:N.length<=100000)(hr:∀x∈N,I64 x)
  (ho:w'.ownsRow w5.heap.size 26 1 v' (r4.length+1) (n4++[vN])) (hg:W.grownBy w' v4.ownBlock) (hm:AS W v4 v'):
  w'.heap[w5.heap.size]? =some (.cells #[.int .i64 ci,.int .i64 co,.int .i64 0,v3,v4] 25 (0,0))/\IB w5 ci co v3 v' n3 (n4++[vN]) r3 (r4++[N]) S [] [] vS (.slice none 0 0) (.slice none 0 0) (w'.setCell ⟨w5.heap.size,4,none⟩ v'):=by
 have hA:AM W w5.heap.size w5.heap.size ci co 0 v3 v4 n3 n4 r3 r4 (X3 w5.heap.size vS (.slice none 0 0) (.slice none 0 0)):=h.am.other (Af.refl _ _) (fun q _ e=>by
  rcases e with e|e|e|e
  ·exact .inl e
  ·cases e
  ·cases e
  ·exact .inr (.inr (.inr e))) (fun q e=>by
  rcases e with e|e|e|e
  ·exact h.s.lt' q e
  ·cases e
  ·cases e
  ·exact Nat.lt_of_lt_of_le e h.bl.size)
 have hy:=hA.fresh h.n (fun q e hh=>by
  have hx:=h.am.xz q (.inr (.inr (.inl e)))
  rcases hh with k|k|k|k
  ·exact hx.2.1 k
  ·exact hx.2.2.1 k
  ·exact hx.2.2.2 k
  ·rcases k with k|k|k|k
   ·exact h.a2 q k e
   ·cases k
   ·cases k
   ·have:=h.n.ge q e;omega) hn hr
 obtain⟨h1,h2,h3,h4⟩:=hA.appP hy ho hg hm;refine⟨h1,h.bl.trans h4,h.s.only h3 (fun q e k=> ?_),Br _ _,Br _ _,BQ _,BQ _,ES _,h2⟩
 ·have hx:=h.am.xz q (.inl e)
  rcases k with k|k
  ·exact hx.2.1 k
  ·exact hx.2.2.2 k
end
theorem IB.start{w5:World}{ci co:Int}{S:List Int}{vS:Value}{W:World}(h:W.heap[w5.heap.size]? =some (.cells #[.int .i64 ci,.int .i64 co,.int .i64 0,.slice none 0 0,.slice none 0 0] 25 (0,0)))(hb:Below w5.heap.size w5 W)(hs:OI W w5.heap.size vS S)(hn:vS.ownBlock≠some w5.heap.size):
  IB w5 ci co (.slice none 0 0) (.slice none 0 0) [] [] [] [] S [] [] vS (.slice none 0 0) (.slice none 0 0) W:=
 ⟨hb,hs,Br _ _,Br _ _,BQ _,BQ _,ES _,AM.of h leR fun q e=>by
  have hz:=(ltE h)
  rcases e with e|e|e|e
  ·exact⟨hs.lt' q e,fun k=>hn (by rw[<-k];exact e)⟩
  ·cases e
  ·cases e
  ·omega⟩
theorem IB.is{w5 W:World}{ci co:Int}{v3 v4:Value}{n3 n4:List Value}{r3 r4:List (List Int)}{S O N:List Int}{vS vO vN:Value}(h:IB w5 ci co v3 v4 n3 n4 r3 r4 S O N vS vO vN W)(hi:I64 ci)(ho:I64 co)(h3:r3.length<=100000)(h4:r4.length<=100000):
  ∀W',Af (fun q=>q<w5.heap.size) W W'->BB W' (.agg #[.int .i64 ci,.int .i64 co,.int .i64 0,v3,v4]) ⟨ci,co,0,r3,r4⟩:=fun W' hW=>
 (h.am.other (hW.mono fun q _ e=>.inr (.inr (.inr e))) (fun _ _ e=>e) (fun q e=>Nat.lt_of_lt_of_le (h.am.xz q e).1 hW.size)).is hi ho (by unfold I64;decide) h3 h4
def cdP(p:Pr):Int:=((p.1*3000+p.2:Nat):Int)
def cds(S:List Pr):List Int:=S.map cdP
theorem Ny{p q:Pr}(hp:p.2<3000)(hq:q.2<3000):cdP p=cdP q↔p=q:=by
 constructor
 ·intro h
  have h':p.1*3000+p.2=q.1*3000+q.2:=by unfold cdP at h;omega
  exact Prod.ext (by omega) (by omega)
 ·rintro rfl;rfl
theorem Nz{S:List Pr}{q:Pr}(hS:∀x∈S,x.2<3000)(hq:q.2<3000):cdP q∈cds S↔q∈S:=by
 unfold cds;rw[List.mem_map]
 constructor
 ·rintro⟨x,hx,e⟩
  rwa [<-(Ny (hS x hx) hq).1 e]
 ·intro h;exact⟨q,h,rfl⟩
theorem RR{S:List Pr}{q:Pr}(hS:∀x∈S,x.2<3000)(hq:q.2<3000):(cds S).idxOf (cdP q)=S.idxOf q:=by
 unfold cds
 induction S with
 |nil=>rfl
 |cons x S ih=>
  rw[List.map_cons,List.idxOf_cons,List.idxOf_cons,ih fun y hy=>hS y (List.mem_cons_of_mem _ hy)];have h1:=Ny (hS x (List.mem_cons_self ..)) hq
  by_cases e:x=q
  ·rw[beq_iff_eq.2 e,beq_iff_eq.2 (h1.2 e)]
  ·rw[beq_eq_false_iff_ne.2 e,beq_eq_false_iff_ne.2 fun h=>e (h1.1 h)]
theorem RS{S:List Pr}{q:Pr}(hS:∀x∈S,x.2<3000)(hq:q.2<3000):KD (cds S) (cdP q)=cds (Im S q):=by
 unfold KD Im
 by_cases h:q∈S
 ·rw[if_pos h,if_pos ((Nz hS hq).2 h)]
 ·rw[if_neg h,if_neg fun k=>h ((Nz hS hq).1 k)];simp[cds]
end Go.Proofs.YtncjeamdkjcebaaGreatDoor
namespace Go.Proofs.YtncjeamdkjcebaaGreatDoor
open Go Go.RowKit
section
variable {P:Program} {ops:Array Oper} {Q:Exit->Act->World->Prop}
def ED(ops:Array Oper)(i j:Nat):Bool:=match ops[j]? with|some o=>o.after.toList.any (fun e=>Region.binds .any e&&e.on==i)|none=>false
theorem GA{i j:Nat}(h:ED ops i j=true):∃o,ops[j]? =some o/\∃e∈o.after,Region.binds .any e=true/\e.on=i:=by
 unfold ED at h
 split at h
 ·rename_i o ho;obtain⟨e,he,h2⟩:=List.any_eq_true.1 h;simp only[Bool.and_eq_true,beq_iff_eq]at h2;exact⟨o,ho,e,by simpa using he,h2.1,h2.2⟩
 ·cases h
end
section
variable {P:Program} {ops:Array Oper} {Q:Exit->Act->World->Prop}
def upS(S:Nat->Bool)(i:Nat):Nat->Bool:=fun j=>if j=i then true else S j
def Cl(ops:Array Oper)(S:Nat->Bool):Prop:=∀i j,ED ops i j=true->S j=true->S i=true
def SG(P:Program)(Q:Exit->Act->World->Prop)(ops:Array Oper)(J:(Nat->Bool)->(Nat->Value)->World->Prop)(A:(Nat->Value)->Act)(i:Nat)(o:Oper):Prop:=
 ∀(S:Nat->Bool)(vs:Nat->Value)(W:World)(K:Act->World->Prop),S i=false->(∀j,ED ops j i=true->S j=true)->Cl ops S->J S vs W->
  (∀v W',J (upS S i) (upd vs i v) W'->K (A (upd vs i v)) W')->
  if Region.wanted o (yielded ops (A vs).tmps)=true then Oper.wp P o (A vs) W K Q else K ((A vs).put o.dst undef) W
theorem NN(J:(Nat->Bool)->(Nat->Value)->World->Prop)(A:(Nat->Value)->Act)(hb:Eh .any ops=true)
  (f:∀i o,ops[i]? =some o->SG P Q ops J A i o)
  (c:∀S vs W,(∀i,i<ops.size->S i=true)->J S vs W->Q .normal (A vs) W):
  ∀(fuel:Nat)(listed:Array Bool)(vs:Nat->Value)(W:World),listed.size=ops.size->listed.toList.count false<=fuel->J (fun i=>listed.getD i false) vs W->
   (∀j o,ops[j]? =some o->listed.getD j false=true->∀e∈o.after,Region.binds .any e=true->listed.getD e.on false=true)->wpAny P .any ops Q fuel listed (A vs) W
 |0,listed,vs,W,hs,hc,hinv,_=>by
  have p:∀j,¬listed.getD j true=false:=fun j h=>by
   obtain⟨_,h2⟩:=Ce h;have:0<listed.toList.count false:=List.count_pos_iff.2 (List.mem_of_getElem? h2);omega
  have hr:Region.ready .any ops listed=[]:=List.eq_nil_iff_forall_not_mem.2 fun j hj=>p j (mem_ready.1 hj).1
  exact⟨hr,c _ vs W (fun i hi=>Cc hb hs hr i hi) hinv⟩
 |fuel+1,listed,vs,W,hs,hc,hinv,hcl=>by
  refine⟨fun hr=>c _ vs W (fun i hi=>Cc hb hs hr i hi) hinv,fun i hi=> ?_⟩;obtain⟨hl,o,ho,k⟩:=mem_ready.1 hi
  have n:listed.getD i false=false:=by
   obtain⟨h1,h2⟩:=Ce hl;simp[Array.getD,h1]at hl⊢;exact hl
  have d:(fun j=>(listed.setIfInBounds i true).getD j false)=upS (fun j=>listed.getD j false) i:=funext fun j=>by
   by_cases hji:j=i
   ·subst hji;obtain⟨h1,_⟩:=Ce hl;simp[upS,Array.getD,h1]
   ·simp[upS,Array.getD_eq_getD_getElem?,Ne.symm hji,hji]
  refine wpOp_step ho fun K hK=> ?_
  refine f i o ho (fun j=>listed.getD j false) vs W K n (fun j hj=> ?_) (fun a b hab hb'=> ?_) hinv fun v W' hJ=>hK _ _ ?_
  ·obtain⟨o',ho',e,he,hbd,m⟩:=GA hj;rw[ho]at ho'
   cases ho'
   rw[<-m];exact k e he hbd
  ·obtain⟨o',ho',e,he,hbd,m⟩:=GA hab;rw[<-m];exact hcl b o' ho' hb' e he hbd
  refine NN J A hb f c fuel _ (upd vs i v) W' (by simpa using hs) (DC hl hc) (by rw[d];exact hJ) (fun j o' ho' hj e he hbd=> ?_)
  have l:upS (fun j=>listed.getD j false) i j=true:=by rw[<-d];exact hj
  show(fun j=>(listed.setIfInBounds i true).getD j false) e.on=true;rw[d];unfold upS at l⊢
  by_cases hei:e.on=i
  ·rw[if_pos hei]
  ·rw[if_neg hei]
   by_cases hji:j=i
   ·subst hji;rw[ho]at ho'
    cases ho'
    exact k e he hbd
   ·rw[if_neg hji]at l;exact hcl j o' ho' l e he hbd
theorem Jj{id:Nat}{a:Act}{w:World}(hm:P.follows .mixedOrders=true)(J:(Nat->Bool)->(Nat->Value)->World->Prop)(A:(Nat->Value)->Act)(vs:Nat->Value)(ha:a=A vs)(hb:Eh .any ops=true)
  (h0:J (fun _=>false) vs w.drew)
  (b:∀i o,ops[i]? =some o->SG P Q ops J A i o)
  (c:∀S vs W,(∀i,i<ops.size->S i=true)->J S vs W->Q .normal (A vs) W):(Code.region id ops true).wp P Q a w:=by
 subst ha
 have d:∀i,(Array.replicate ops.size false).getD i false=false:=fun i=>by
  rcases Nat.lt_or_ge i ops.size with h|h
  ·simp[Array.getD,h]
  ·simp[Array.getD,Nat.not_lt.2 h]
 refine wp_region_any hm (NN J A hb b c ops.size _ vs w.drew (by simp) ?_ ?_ (fun j o _ hj=> ?_))
 ·simp
 ·rw[show(fun i=>(Array.replicate ops.size false).getD i false)=fun _=>false from funext d];exact h0
 ·exfalso
  have:=d j;rw[this]at hj;cases hj
end
section
variable {P:Program} {ops:Array Oper} {Q:Exit->Act->World->Prop}
def Oo(ops:Array Oper)(p:Nat):List Nat:=
 (List.range (p+1)).reverse.foldl (fun acc j=>if acc.contains j then acc++(match ops[j]? with|some o=>(o.after.toList.filter fun e=>Region.binds .any e).map (·.on)|none=>[])else acc) [p]
theorem Iu{S:Nat->Bool}(hc:Cl ops S){p:Nat}(hp:S p=true):∀i∈Oo ops p,S i=true:=by
 unfold Oo
 have c:∀(js:List Nat)(acc:List Nat),(∀i∈acc,S i=true)->∀i∈js.foldl (fun acc j=>if acc.contains j then acc++(match ops[j]? with|some o=>(o.after.toList.filter fun e=>Region.binds .any e).map (·.on)|none=>[])else acc) acc,S i=true:=by
  intro js
  induction js with
  |nil=>intro acc h i hi;exact h i hi
  |cons j js ih=>
   intro acc h i hi;rw[List.foldl_cons]at hi;refine ih _ (fun i hi=> ?_) i hi
   split at hi
   ·rename_i hj
    rcases List.mem_append.1 hi with hi|hi
    ·exact h i hi
    ·split at hi
     ·rename_i o ho;obtain⟨e,he,rfl⟩:=List.mem_map.1 hi;obtain⟨a,b⟩:=List.mem_filter.1 he;refine hc e.on j ?_ (h j (by simpa using hj));unfold ED;rw[ho];exact List.any_eq_true.2 ⟨e,a,by simp[b]⟩
     ·cases hi
   ·exact h i hi
 exact c _ [p] fun i hi=>by rw[List.mem_singleton.1 hi];exact hp
def Qp(ops:Array Oper)(p m:Nat)(free:Nat->Bool):Bool:=decide (p<m)&&Eh .any ops&&(decide (ops.size=m+1)&&(List.range m).all fun i=>(List.range m).any fun j=>ED ops j m&&(Oo ops j).contains i)&&(List.range m).all fun i=>i==p||free i||(!free i&&(Oo ops p).contains i)
def TS(R:Nat->Value->World->Prop)(App:Value->World->World->Prop)(Fin:Value->Value->World->Prop)(p m:Nat)(vm:Value)(w:World)(S:Nat->Bool)(vs:Nat->Value)(W:World):Prop:=
 (S m=false->vs m=vm)/\
 (S m=false->S p=false->Below w.heap.size w W/\∀i,i<m->S i=true->R i (vs i) W)/\
 (S m=false->S p=true->∃W9,Below w.heap.size w W9/\(∀i,i<m->i≠p->S i=true->R i (vs i) W9)/\App (vs p) W9 W)/\
 (S m=true->(∀i,i<m->i≠p->∃W9,R i (vs i) W9)/\Fin (vs p) (vs m) W)
def Pv(P:Program)(Q:Exit->Act->World->Prop)(ops:Array Oper)(R:Nat->Value->World->Prop)(A:(Nat->Value)->Act)(m0:Nat)(vm:Value)(w:World)(i:Nat)(o:Oper):Prop:=
 ∀(vs:Nat->Value)(W:World)(K:Act->World->Prop),vs m0=vm->Below w.heap.size w W->(∀j,ED ops j i=true->R j (vs j) W)->(∀v W',Below W.heap.size W W'->R i v W'->K (A (upd vs i v)) W')->
  if Region.wanted o (yielded ops (A vs).tmps)=true then Oper.wp P o (A vs) W K Q else K ((A vs).put o.dst undef) W
def Pt(P:Program)(Q:Exit->Act->World->Prop)(ops:Array Oper)(R:Nat->Value->World->Prop)(A:(Nat->Value)->Act)(m0:Nat)(vm:Value)(p i:Nat)(o:Oper):Prop:=
 ∀(vs:Nat->Value)(W:World)(K:Act->World->Prop),vs m0=vm->(∀j,j≠p->ED ops j i=true->∃W9,R j (vs j) W9)->(∀v,(∀W,R i v W)->K (A (upd vs i v)) W)->
  if Region.wanted o (yielded ops (A vs).tmps)=true then Oper.wp P o (A vs) W K Q else K ((A vs).put o.dst undef) W
def SE(P:Program)(Q:Exit->Act->World->Prop)(ops:Array Oper)(R:Nat->Value->World->Prop)(App:Value->World->World->Prop)(A:(Nat->Value)->Act)(m0:Nat)(vm:Value)(w:World)(i:Nat)(o:Oper):Prop:=
 ∀(vs:Nat->Value)(W:World)(K:Act->World->Prop),vs m0=vm->Below w.heap.size w W->(∀j,ED ops j i=true->R j (vs j) W)->(∀v W',App v W W'->K (A (upd vs i v)) W')->
  if Region.wanted o (yielded ops (A vs).tmps)=true then Oper.wp P o (A vs) W K Q else K ((A vs).put o.dst undef) W
def Pu(P:Program)(Q:Exit->Act->World->Prop)(ops:Array Oper)(R:Nat->Value->World->Prop)(App:Value->World->World->Prop)(Fin:Value->Value->World->Prop)(A:(Nat->Value)->Act)(m0:Nat)(vm:Value)(w:World)(p m:Nat)(o:Oper):Prop:=
 ∀(vs:Nat->Value)(W9 W:World)(K:Act->World->Prop),vs m0=vm->Below w.heap.size w W9->(∀i,i<m->i≠p->R i (vs i) W9)->App (vs p) W9 W->(∀v W',Fin (vs p) v W'->K (A (upd vs m v)) W')->
  if Region.wanted o (yielded ops (A vs).tmps)=true then Oper.wp P o (A vs) W K Q else K ((A vs).put o.dst undef) W
theorem Gw{S:Nat->Bool}{i:Nat}:upS S i i=true:=if_pos rfl
theorem CM{S:Nat->Bool}{i j:Nat}(h:j≠i):upS S i j=S j:=if_neg h
theorem DX{vs:Nat->Value}{i j:Nat}{v:Value}(h:j≠i):upd vs i v j=vs j:=if_neg h
theorem H5{vs:Nat->Value}{i:Nat}{v:Value}:upd vs i v i=v:=if_pos rfl
theorem L1{id:Nat}{a:Act}{w:World}(hm:P.follows .mixedOrders=true)(R:Nat->Value->World->Prop)(s:Value->World->World->Prop)(x:Value->Value->World->Prop)(l:Nat->Bool)(p m:Nat)(A:(Nat->Value)->Act)(f:Nat->Value)(ha:a=A f)
  (hg:Qp ops p m l=true) (hR:∀i v W W',R i v W->Below W.heap.size W W'->R i v W')
  (aa:∀i o,ops[i]? =some o->if i=p then SE P Q ops R s A m (f m) w.drew i o else if i=m then Pu P Q ops R s x A m (f m) w.drew p m o else if l i=true then Pt P Q ops R A m (f m) p i o else Pv P Q ops R A m (f m) w.drew i o)
  (ad:∀vs W,(∀i,i<m->i≠p->∃W9,R i (vs i) W9)->x (vs p) (vs m) W->Q .normal (A vs) W):
  (Code.region id ops true).wp P Q a w:=by
 simp only[Qp,Bool.and_eq_true,decide_eq_true_eq,List.all_eq_true,List.mem_range,List.any_eq_true,List.contains_iff_mem]at hg;obtain⟨⟨⟨z,hb⟩,ak,ae⟩,ac⟩:=hg
 have n:∀S,Cl ops S->S m=true->∀i,i<m->S i=true:=fun S hc hS i hi=>by
  obtain⟨j,hj,hw,y⟩:=ae i hi;exact Iu hc (hc j m hw hS) i y
 refine Jj hm (TS R s x p m (f m) w.drew) A f ha hb ⟨fun _=>rfl,fun _ _=>⟨Ad,fun _ _ h=>(nomatch h)⟩,fun _ h=>(nomatch h),fun h=>(nomatch h)⟩ (fun i o ho=> ?_) fun S vs W hS hJ=>ad vs W (hJ.2.2.2 (hS m (by omega))).1 (hJ.2.2.2 (hS m (by omega))).2
 intro S vs W K k hd r hJ hK;have ai:i<ops.size:=(ltE ho)
 have ab:∀j,ED ops j i=true->j<i:=fun j hj=>by
  obtain⟨o',ag,e,he,af,ah⟩:=GA hj;rw[<-ah];exact IN hb ag e he af
 have hs:=aa i o ho
 by_cases hip:i=p
 ·rw[if_pos hip]at hs;subst hip
  have b:S m=false:=by
   cases e:S m
   ·rfl
   ·have:=n S r e i z;rw[k]at this;cases this
  obtain⟨hB,c⟩:=hJ.2.1 b k
  refine hs vs W K (hJ.1 b) hB (fun j hj=>c j (Nat.lt_trans (ab j hj) z) (hd j hj)) fun v W' hA=>hK v W' ⟨fun h=>by rw[DX (by omega)];exact hJ.1 b,fun _ h=> ?_,fun _ _=>⟨W,hB,fun j hj hne hSj=> ?_, ?_⟩,fun h=> ?_⟩
  ·rw[Gw]at h;cases h
  ·rw[CM hne]at hSj;rw[DX hne];exact c j hj hSj
  ·rw[H5];exact hA
  ·rw[CM (by omega),b]at h;cases h
 ·rw[if_neg hip]at hs
  by_cases him:i=m
  ·rw[if_pos him]at hs;subst him
   have d:∀j,j<i->S j=true:=fun j hj=>by
    obtain⟨u,hu,hw,y⟩:=ae j hj;exact Iu r (hd u hw) j y
   have q:S p=true:=d p z;obtain⟨W9,hB,c,hA⟩:=hJ.2.2.1 k q
   refine hs vs W9 W K (hJ.1 k) hB (fun j hj hne=>c j hj hne (d j hj)) hA fun v W' hQ=>hK v W' ⟨fun h=> ?_,fun h=> ?_,fun h=> ?_,fun _=>⟨fun j hj hne=>⟨W9, ?_⟩, ?_⟩⟩
   ·rw[Gw]at h;cases h
   ·rw[Gw]at h;cases h
   ·rw[Gw]at h;cases h
   ·rw[DX (by omega)];exact c j hj hne (d j hj)
   ·rw[DX (by omega),H5];exact hQ
  ·rw[if_neg him]at hs
   have hi:i<m:=by omega
   have b:S m=false:=by
    cases e:S m
    ·rfl
    ·have:=n S r e i hi;rw[k]at this;cases this
   by_cases hf:l i=true
   ·rw[if_pos hf]at hs
    refine hs vs W K (hJ.1 b) (fun j hjp hj=> ?_) fun v hv=>hK v W ⟨fun h=>by rw[DX (by omega)];exact hJ.1 b,fun _ h=> ?_,fun _ h=> ?_,fun h=> ?_⟩
    ·have aj:=ab j hj
     cases e:S p
     ·exact⟨W,(hJ.2.1 b e).2 j (by omega) (hd j hj)⟩
     ·obtain⟨W9,_,h2,h3⟩:=hJ.2.2.1 b e;exact⟨W9,h2 j (by omega) hjp (hd j hj)⟩
    ·rw[CM (fun e=>hip e.symm)]at h;obtain⟨h1,h2⟩:=hJ.2.1 b h;refine⟨h1,fun j hj hSj=> ?_⟩
     by_cases e:j=i
     ·subst e;rw[H5];exact hv W
     ·rw[CM e]at hSj;rw[DX e];exact h2 j hj hSj
    ·rw[CM (fun e=>hip e.symm)]at h;obtain⟨W9,h1,h2,h3⟩:=hJ.2.2.1 b h;refine⟨W9,h1,fun j hj hne hSj=> ?_,by rw[DX (fun e=>hip e.symm)];exact h3⟩
     by_cases e:j=i
     ·subst e;rw[H5];exact hv W9
     ·rw[CM e]at hSj;rw[DX e];exact h2 j hj hne hSj
    ·rw[CM (by omega),b]at h;cases h
   ·rw[if_neg hf]at hs
    have q:S p=false:=by
     cases e:S p
     ·rfl
     ·have h1:=ac i hi;simp only[Bool.or_eq_true,Bool.and_eq_true,beq_iff_eq,List.contains_iff_mem]at h1
      have:S i=true:=by
       rcases h1 with(h1|h1)|h1
       ·exact absurd h1 hip
       ·exact absurd h1 hf
       ·exact Iu r e i h1.2
      rw[k]at this;cases this
    obtain⟨hB,c⟩:=hJ.2.1 b q
    refine hs vs W K (hJ.1 b) hB (fun j hj=>c j (Nat.lt_trans (ab j hj) hi) (hd j hj)) fun v W' hb' hr=>hK v W' ⟨fun h=>by rw[DX (by omega)];exact hJ.1 b,fun _ _=>⟨hB.trans (hb'.mono hB.size),fun j hj hSj=> ?_⟩,fun _ h=> ?_,fun h=> ?_⟩
    ·by_cases e:j=i
     ·subst e;rw[H5];exact hr
     ·rw[CM e]at hSj;rw[DX e];exact hR j _ W W' (c j hj hSj) hb'
    ·rw[CM (fun e=>hip e.symm),q]at h;cases h
    ·rw[CM (by omega),b]at h;cases h
theorem KP{id:Nat}{a:Act}{w:World}(hm:P.follows .mixedOrders=true)(R:Nat->Value->World->Prop)(d:Value->World->World->Prop)(e:Value->Value->World->Prop)(b:Nat->Bool)(p m:Nat)(A:(Nat->Value)->Act)(c:Nat->Value)(ha:a=A c)
  (hg:Qp ops p m b=true) (hR:∀i v W W',R i v W->Below W.heap.size W W'->R i v W')
  (k:∀i o,i≠p->i≠m->b i=false->ops[i]? =some o->Pv P Q ops R A m (c m) w.drew i o)
  (f:∀i o,b i=true->ops[i]? =some o->Pt P Q ops R A m (c m) p i o)
  (l:∀o,ops[p]? =some o->SE P Q ops R d A m (c m) w.drew p o)
  (j:∀o,ops[m]? =some o->Pu P Q ops R d e A m (c m) w.drew p m o)
  (n:∀vs W,(∀i,i<m->i≠p->∃W9,R i (vs i) W9)->e (vs p) (vs m) W->Q .normal (A vs) W):
  (Code.region id ops true).wp P Q a w:=by
 refine L1 hm R d e b p m A c ha hg hR (fun i o ho=> ?_) n
 by_cases h1:i=p
 ·rw[if_pos h1];subst h1;exact l o ho
 ·rw[if_neg h1]
  by_cases h2:i=m
  ·rw[if_pos h2];subst h2;exact j o ho
  ·rw[if_neg h2]
   by_cases h3:b i=true
   ·rw[if_pos h3];exact f i o h3 ho
   ·rw[if_neg h3];exact k i o h1 h2 (by simpa using h3) ho
end
def Fk(B:Nat)(row:List Int)(y:Value)(W:World):Prop:=(∃a c,y=.slice a row.length c)/\OI W B y row
theorem Fk.below{B:Nat}{row:List Int}{y:Value}{W W':World}(h:Fk B row y W)(hb:Below W.heap.size W W'):Fk B row y W':=⟨h.1,h.2.below hb⟩
def GH(B:Nat)(row:List Int)(v:Value)(W:World):Prop:=∃b y,v=.slice (some ⟨b,0,none⟩) 1 1/\W.heap[b]? =some (.cells #[y] 26 (0,0))/\Fk B row y W
theorem GH.below{B:Nat}{row:List Int}{v:Value}{W W':World}(h:GH B row v W)(hb:Below W.heap.size W W'):GH B row v W':=by
 obtain⟨b,y,h1,h2,h3⟩:=h;exact⟨b,y,h1,(hb.block b (ltE h2)).trans h2,h3.below hb⟩
theorem GH.made{B:Nat}{row:List Int}{y:Value}{W:World}(h:Fk B row y W):GH B row (.slice (some ⟨W.heap.size,0,none⟩) 1 1) (W.alloc (.cells #[y] 26)):=
 ⟨_,y,rfl,heap_alloc_new _ _,h.below (Ao _)⟩
end Go.Proofs.YtncjeamdkjcebaaGreatDoor
namespace Go.Proofs.YtncjeamdkjcebaaGreatDoor
open Go.RowKit
def ElI(b:Int)(v:Value)(W:World):Prop:=∃u,v=.slice (some ⟨u,0,none⟩) 1 1/\W.heap[u]? =some (.cells #[.int .i64 b] 3 (0,0))
theorem ElI.below{b:Int}{v:Value}{W W':World}(h:ElI b v W)(hb:Below W.heap.size W W'):ElI b v W':=by
 obtain⟨u,h1,h2⟩:=h;exact⟨u,h1,(hb.block u (ltE h2)).trans h2⟩
theorem ElI.made(b:Int)(W:World):ElI b (.slice (some ⟨W.heap.size,0,none⟩) 1 1) (W.alloc (.cells #[.int .i64 b] 3)):=⟨_,rfl,heap_alloc_new _ _⟩
def TO(B:Nat)(b:Int)(v:Value)(l:List Int)(v':Value)(W9 W:World):Prop:=OI W B v' (l++[b])/\W9.grownBy W v.ownBlock/\AS W9 v v'
theorem Mk{b:Int}{o:Oper}{a:Act}{K:Act->World->Prop}{Q:Exit->Act->World->Prop}(w:World)(s x:Operand)
  (ho:o.op=.call {callee:=.builtin .append,args:=#[s,x],argTypes:=#[26,26]})
  (base:Nat) (v:Value) (l:List Int) (hs:a.eval s=v) (d:OI w base v l) (u:Value) (hx:a.eval x=u)
  (k:ElI b u w) (hn:l.length<17592186044415) (f:base<=w.heap.size)
  (h:∀v' w',TO base b v l v' w w'->K (a.put o.dst v') w'):Oper.wp Tryz.prog o a w K Q:=by
 obtain⟨g,rfl,hb⟩:=k;obtain⟨i0,i,m,n,p⟩:=info_parts Dt
 have c:∀j u',([.int .i64 b]:List Value)[j]? =some u'->w.cell? ((⟨g,0,none⟩:Addr).add j)=some u':=fun j u' hu=>by
  rw[show(⟨g,0,none⟩:Addr).add j=⟨g,j,none⟩by simp[Addr.add];omega,cell_of_row w _ j _ _ _ hb];simpa using hu
 have h1:∀u∈([.int .i64 b]:List Value),u.oneCell'=true:=by intro u hu;rw[List.mem_singleton.1 hu];rfl
 obtain⟨v',w',hr,h2,h3,h4⟩:=run_append_own (P:=Tryz.prog) w base 26 o.type 3 i0 _ 1 8 Tryz.underlying26 i m n p rfl (by decide) v l.length _ d ⟨g,0,none⟩ 1 1 [.int .i64 b] rfl c h1 (by simp only[maxLen];omega) (by omega) f;have h5:=DH (P:=Tryz.prog) w base 26 o.type 3 i0 _ 1 8 Tryz.underlying26 i m n p v l.length _ d ⟨g,0,none⟩ 1 1 [.int .i64 b] rfl c h1 (by simp only[maxLen];omega) (by omega) v' w' hr;unfold Oper.wp execOp;simp only[ho,resolve,invoke,builtin,Sem.run_bind,Sem.run_pure,Result.andThen_ok,List.map_toArray,List.map_cons,List.map_nil,hs,hx,hr];refine h v' w' ⟨?_,h3,fun g hg=>(h5 g hg).imp id (fun e=>by omega)⟩;unfold OI;rw[List.map_append,List.length_append];exact h2
end Go.Proofs.YtncjeamdkjcebaaGreatDoor
namespace Go.Proofs.YtncjeamdkjcebaaGreatDoor
open Go Go.RowKit
structure JG(v0:Nat->Value)(P0:World->Prop)(P1 P2:Value->World->Prop)(PV:Value->Nat->Value->Prop)(p m:Nat)(x:Value)(S:Nat->Bool)(vs:Nat->Value)(W:World):Prop where
 p0:S p=false->P0 W
 p1:S p=true->S m=false->P1 x W
 p2:S m=true->P2 x W
 pv:∀i,S i=true->PV x i (vs i)
 un:∀i,S i=false->vs i=v0 i
def JX(v0:Nat->Value)(P0:World->Prop)(P1 P2:Value->World->Prop)(PV:Value->Nat->Value->Prop)(p m:Nat)(S:Nat->Bool)(vs:Nat->Value)(W:World):Prop:=∃x,JG v0 P0 P1 P2 PV p m x S vs W
section
variable {v0:Nat->Value} {P0:World->Prop} {P1 P2:Value->World->Prop} {PV:Value->Nat->Value->Prop} {p m:Nat} {x y:Value} {S:Nat->Bool} {vs:Nat->Value} {W W':World}
theorem JX.start(h:P0 W):JX v0 P0 P1 P2 PV p m (fun _=>false) v0 W:=⟨undef,fun _=>h,(fun e=>by cases e),(fun e=>by cases e),(fun _ e=>by cases e),fun _ _=>rfl⟩
theorem JG.pvs{i:Nat}{u:Value}(h:∀i,S i=true->PV x i (vs i))(hp:PV x i u):∀j,upS S i j=true->PV x j (upd vs i u j):=fun j hj=>by
 by_cases e:j=i
 ·subst e;rw[H5];exact hp
 ·rw[DX e];rw[CM e]at hj;exact h j hj
theorem JG.uns{i:Nat}{u:Value}(h:∀i,S i=false->vs i=v0 i):∀j,upS S i j=false->upd vs i u j=v0 j:=fun j hj=>by
 by_cases e:j=i
 ·subst e;rw[Gw]at hj;cases hj
 ·rw[DX e];rw[CM e]at hj;exact h j hj
theorem JG.keep(h:JG v0 P0 P1 P2 PV p m x S vs W){i:Nat}{u:Value}(hp:i≠p)(hm:i≠m)(hv:PV x i u):JX v0 P0 P1 P2 PV p m (upS S i) (upd vs i u) W:=
 ⟨x,by rw[CM (Ne.symm hp)];exact h.p0,by rw[CM (Ne.symm hp),CM (Ne.symm hm)];exact h.p1,by rw[CM (Ne.symm hm)];exact h.p2,JG.pvs h.pv hv,JG.uns h.un⟩
theorem JG.call(h:JG v0 P0 P1 P2 PV p m x S vs W)(b:p≠m)(a:S m=false)(hf:∀i,S i=true->PV x i (vs i)->PV y i (vs i)){u:Value}(hv:PV y p u)(h1:P1 y W'):JX v0 P0 P1 P2 PV p m (upS S p) (upd vs p u) W':=
 ⟨y,(by rw[Gw];exact fun e=>by cases e),fun _ _=>h1,(by rw[CM (Ne.symm b),a];exact fun e=>by cases e),JG.pvs (fun i hi=>hf i hi (h.pv i hi)) hv,JG.uns h.un⟩
theorem JG.store(h:JG v0 P0 P1 P2 PV p m x S vs W)(b:p≠m)(a:S p=true){u:Value}(hv:PV x m u)(h2:P2 x W'):JX v0 P0 P1 P2 PV p m (upS S m) (upd vs m u) W':=
 ⟨x,(by rw[CM b,a];exact fun e=>by cases e),(by rw[Gw];exact fun _ e=>by cases e),fun _=>h2,JG.pvs h.pv hv,JG.uns h.un⟩
end
theorem NA{a:Array Oper}{S:Nat->Bool}(hc:Cl a S){i j:Nat}(hj:S j=true)(h:(Oo a j).contains i=true):S i=true:=Iu hc hj i (by simpa using h)
theorem Bo{a:Array Oper}{S:Nat->Bool}(hc:Cl a S){i:Nat}(hi:S i=false)(j:Nat)(h:(Oo a j).contains i=true):S j=false:=by
 cases e:S j
 ·rfl
 ·have:=NA hc e h;rw[hi]at this;cases this
end Go.Proofs.YtncjeamdkjcebaaGreatDoor
