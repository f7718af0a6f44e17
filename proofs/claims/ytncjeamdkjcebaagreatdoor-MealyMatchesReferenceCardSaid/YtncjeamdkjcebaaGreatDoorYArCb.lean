/- Games. -/
import Derived.Lib.AppendZeros
import Derived.RegionIn
import Derived.Test.YtncjeamdkjcebaaGreatDoorYArC
set_option linter.all false
set_option maxHeartbeats 2000000
namespace Go.Proofs.YtncjeamdkjcebaaGreatDoor
open Go.RowKit
open Go Go.RowKit
theorem Rows.push{w w':World}{B n ob:Nat}{vals:List Value}{bf:List (List Int)}{v':Value}{u:Nat}{l:List Int}(h:Rows w B n ob vals bf)(hu:u<n)(hv:OI w' B v' l)(hg:w.grownBy w' (vals.getD u undef).ownBlock)(hm:AS w (vals.getD u undef) v'):
  w'.cell? ⟨ob,u,none⟩=some (vals.getD u undef)/\w'.frozen? ⟨ob,u,none⟩=false/\Rows (w'.setCell ⟨ob,u,none⟩ v') B n ob (vals.set u v') (bf.set u l):=by
 have m:Af (fun k=>(vals.getD u undef).ownBlock=some k) w w':=Af.of_grown hg;have ho:w'.ownsRow B 26 1 (.slice (some ⟨ob,0,none⟩) n n) n vals:=Ax h.o m (fun k hk=>by cases hk;exact h.ob' u hu)
 have c:∀b,v'.ownBlock=some b->b≠ob:=fun b hb=>by
  rcases hm b hb with e|e
  ·exact fun x=>h.ob' u hu (x▸e)
  ·have hr:=h.row.2;omega
 have p:Af (fun k=>k=ob) w' (w'.setCell ⟨ob,u,none⟩ v'):=Af.set ob u v' rfl
 have d:u<vals.length:=by rw[h.lv];exact hu
 have q:u<bf.length:=by rw[h.lr];exact hu
 refine⟨?_,World.ownsRow.frozenAt ho u,⟨(World.ownsRow.stored ho u v').1,fun j hj=> ?_,fun i j hi hj hij=> ?_,fun j hj=> ?_,by simpa using h.lv,by simpa using h.lr⟩⟩
 ·rw[World.ownsRow.cellAt ho u (by omega),List.getD];simp[d]
 ·by_cases e:u=j
  ·subst e;rw[AA _ _ _ _ d,AA _ _ _ _ q];exact hv.only p (fun k hk x=>c k hk x)
  ·rw[AJ _ _ _ _ _ e,AJ _ _ _ _ _ e];exact((h.e j hj).only m (fun k hk x=>h.a u j hu hj e k x hk)).only p (fun k hk x=>h.ob' j hj (x▸hk))
 ·have f:∀j,j<n->u≠j->AR v' (vals.getD j undef):=fun j hj e k h1 h2=>by
   rcases hm k h1 with x|x
   ·exact h.a u j hu hj e k x h2
   ·have:=(h.e j hj).lt' k h2;omega
  by_cases e:u=i
  ·subst e;rw[AA _ _ _ _ d,AJ _ _ _ _ _ hij];exact f j hj hij
  ·by_cases e2:u=j
   ·subst e2;rw[AA _ _ _ _ d,AJ _ _ _ _ _ e];exact(f i hi e).symm
   ·rw[AJ _ _ _ _ _ e,AJ _ _ _ _ _ e2];exact h.a i j hi hj hij
 ·by_cases e:u=j
  ·subst e;rw[AA _ _ _ _ d]
   exact fun x=>c ob x rfl
  ·rw[AJ _ _ _ _ _ e];exact h.ob' j hj
theorem So(g:Gm)(i:Nat):okB g i=true↔(0<=g.owner.getD i 0/\g.owner.getD i 0<=1)/\(0<=g.prio.getD i 0/\g.prio.getD i 0<=30000)/\g.succ.getD i []≠[]/\∀x∈g.succ.getD i [],0<=x/\x<g.owner.length:=by
 unfold okB inB;simp only[Bool.and_eq_true,decide_eq_true_eq,List.all_eq_true,Bool.not_eq_true',List.isEmpty_eq_false_iff]
 constructor
 ·rintro⟨⟨⟨a,b⟩,c⟩,d⟩;exact⟨a,b,c,fun x hx=>⟨(d x hx).1,by have:=(d x hx).2;omega⟩⟩
 ·rintro⟨a,b,c,d⟩;exact⟨⟨⟨a,b⟩,c⟩,fun x hx=>⟨(d x hx).1,by have:=(d x hx).2;omega⟩⟩
theorem Hd{g:Gm}(h:Cg g=true)(i:Nat)(hi:i<g.owner.length):(0<=g.owner.getD i 0/\g.owner.getD i 0<=1)/\(0<=g.prio.getD i 0/\g.prio.getD i 0<=30000)/\g.succ.getD i []≠[]/\∀x∈g.succ.getD i [],0<=x/\x<g.owner.length:=by
 obtain⟨a,b,c⟩:=Es h;exact(So g i).1 ((Nj g a b c).1 h i hi)
section
variable {P:Program} {ops:Array Oper} {Q:Exit->Act->World->Prop} {md:Region.Mode}
def Eh(md:Region.Mode)(ops:Array Oper):Bool:=(List.range ops.size).all fun i=>match ops[i]? with|some o=>o.after.toList.all (fun e=> !Region.binds md e||decide (e.on<i))|none=>true
theorem IN(h:Eh md ops=true){i:Nat}{o:Oper}(hi:ops[i]? =some o):∀e∈o.after,Region.binds md e=true->e.on<i:=by
 intro e he hb;have:=List.all_eq_true.1 h i (List.mem_range.2 (ltE hi));rw[hi]at this;have:=List.all_eq_true.1 this e (by simpa using he);rw[hb]at this;simpa using this
theorem Cc(h:Eh md ops=true){a:Array Bool}(hs:a.size=ops.size)(hr:Region.ready md ops a=[]):∀i,i<ops.size->a.getD i false=true:=by
 intro i
 induction i using Nat.strongRecOn with
 | _ i ih=>
  intro hi
  cases hl:a.getD i false with
  |true=>rfl
  |false=>
   have b:i<a.size:=by omega
   have hm:i∈Region.ready md ops a:=by
    refine mem_ready.2 ⟨?_,ops[i],by simp[hi],fun e he hb=> ?_⟩
    ·simp[Array.getD,b]at hl⊢;exact hl
    ·have hlt:=IN h (i:=i) (o:=ops[i]) (by simp[hi]) e he hb;exact ih e.on hlt (by omega)
   rw[hr]at hm
   cases hm
def Nu(R:Nat->Value->World->Prop)(w:World)(listed:Array Bool)(vs:Nat->Value)(W:World):Prop:=
 Below w.heap.size w W/\∀i,listed.getD i false=true->R i (vs i) W
def upd(vs:Nat->Value)(i:Nat)(v:Value):Nat->Value:=fun j=>if j=i then v else vs j
def Ks(P:Program)(Q:Exit->Act->World->Prop)(ops:Array Oper)(R:Nat->Value->World->Prop)(A:(Nat->Value)->Act)(w:World)(i:Nat)(o:Oper):Prop:=
 ∀(vs:Nat->Value)(W:World)(K:Act->World->Prop),Below w.heap.size w W->(∀e∈o.after,Region.binds .any e=true->R e.on (vs e.on) W)->
  (∀v W',Below W.heap.size W W'->R i v W'->K (A (upd vs i v)) W')->
  if Region.wanted o (yielded ops (A vs).tmps)=true then Oper.wp P o (A vs) W K Q else K ((A vs).put o.dst undef) W
theorem Ce{l:Array Bool}{i:Nat}(h:l.getD i true=false):i<l.size/\l.toList[i]? =some false:=by
 rcases Nat.lt_or_ge i l.size with hi|hi
 ·refine⟨hi, ?_⟩;simp[Array.getD,hi]at h;simp[hi,h]
 ·simp[Array.getD,Nat.not_lt.2 hi]at h
theorem DC{l:Array Bool}{i n:Nat}(h:l.getD i true=false)(hc:l.toList.count false<=n+1):(l.setIfInBounds i true).toList.count false<=n:=by
 obtain⟨h1,h2⟩:=Ce h
 have h3:i<l.toList.length:=by simpa using h1
 have h4:l.toList[i]=false:=by
  rw[List.getElem?_eq_getElem h3]at h2;exact Option.some.inj h2
 rw[Array.toList_setIfInBounds,List.count_set h3,h4];simp only[BEq.rfl,if_true,show(true==false)=false from rfl,Bool.false_eq_true,if_false];omega
theorem Jm(R:Nat->Value->World->Prop)(A:(Nat->Value)->Act){w:World}(hb:Eh .any ops=true)(hR:∀i v W W',R i v W->Below W.heap.size W W'->R i v W')
  (b:∀i o,ops[i]? =some o->Ks P Q ops R A w i o)
  (a:∀vs W,Below w.heap.size w W->(∀i,i<ops.size->R i (vs i) W)->Q .normal (A vs) W):
  ∀(fuel:Nat)(listed:Array Bool)(vs:Nat->Value)(W:World),listed.size=ops.size->listed.toList.count false<=fuel->Nu R w listed vs W->wpAny P .any ops Q fuel listed (A vs) W
 |0,listed,vs,W,hs,hc,hinv=>by
  have f:∀j,¬listed.getD j true=false:=fun j h=>by
   obtain⟨_,h2⟩:=Ce h;have:0<listed.toList.count false:=List.count_pos_iff.2 (List.mem_of_getElem? h2);omega
  have hr:Region.ready .any ops listed=[]:=List.eq_nil_iff_forall_not_mem.2 fun j hj=>f j (mem_ready.1 hj).1
  exact⟨hr,a vs W hinv.1 fun i hi=>hinv.2 i (Cc hb hs hr i hi)⟩
 |fuel+1,listed,vs,W,hs,hc,hinv=>by
  refine⟨fun hr=>a vs W hinv.1 fun i hi=>hinv.2 i (Cc hb hs hr i hi),fun i hi=> ?_⟩;obtain⟨hl,o,ho,c⟩:=mem_ready.1 hi
  refine wpOp_step ho fun K hK=> ?_
  refine b i o ho vs W K hinv.1 (fun e he hbd=>hinv.2 _ (c e he hbd)) fun v W' hbl hr=>hK _ _ ?_
  refine Jm R A hb hR b a fuel _ (upd vs i v) W' (by simpa using hs) (DC hl hc) ⟨hinv.1.trans (hbl.mono hinv.1.size),fun j hj=> ?_⟩
  by_cases hji:j=i
  ·subst hji;simpa[upd]using hr
  ·have d:listed.getD j false=true:=by
    have:(listed.setIfInBounds i true).getD j false=listed.getD j false:=by
     simp[Array.getD_eq_getD_getElem?,Ne.symm hji]
    rwa [this]at hj
   simp only[upd,if_neg hji];exact hR j _ W W' (hinv.2 j d) hbl
theorem Be{id:Nat}{a:Act}{w:World}(hm:P.follows .mixedOrders=true)(R:Nat->Value->World->Prop)(A:(Nat->Value)->Act)(vs:Nat->Value)(ha:a=A vs)(hb:Eh .any ops=true)
  (hR:∀i v W W',R i v W->Below W.heap.size W W'->R i v W')
  (b:∀i o,ops[i]? =some o->Ks P Q ops R A w.drew i o)
  (c:∀vs W,Below w.drew.heap.size w.drew W->(∀i,i<ops.size->R i (vs i) W)->Q .normal (A vs) W):(Code.region id ops true).wp P Q a w:=by
 subst ha;refine wp_region_any hm (Jm R A hb hR b c ops.size _ vs w.drew (by simp) ?_ ⟨Ad,fun i hi=> ?_⟩)
 ·simp
 ·exfalso
  rcases Nat.lt_or_ge i ops.size with h|h
  ·simp[Array.getD,h]at hi
  ·simp[Array.getD,Nat.not_lt.2 h]at hi
def Ic(ops:Array Oper)(m:Nat):Bool:=decide (ops.size=m+1)&&match ops[m]? with|some o=>(List.range m).all (fun j=>o.after.toList.any fun e=>Region.binds .any e&&e.on==j)|none=>false
theorem FS{a:Array Bool}(h:∀i,i<ops.size->a.getD i false=true):Region.ready md ops a=[]:=
 List.eq_nil_iff_forall_not_mem.2 fun j hj=>by
  obtain⟨h1,o,ho,_⟩:=mem_ready.1 hj;have b:=(ltE ho);have h2:=h j b;obtain⟨h3,_⟩:=Ce h1;simp[Array.getD,h3]at h1 h2;rw[h1]at h2;cases h2
theorem Nm{b:Array Bool}{a:Act}{w:World}(h:∀i,i<ops.size->b.getD i false=true)(hQ:Q .normal a w):∀fuel,wpAny P md ops Q fuel b a w
 |0=>⟨FS h,hQ⟩
 | _+1=>⟨fun _=>hQ,by rw[FS h];simp⟩
def PG(P:Program)(Q:Exit->Act->World->Prop)(ops:Array Oper)(R:Nat->Value->World->Prop)(A:(Nat->Value)->Act)(w:World)(m:Nat)(o:Oper):Prop:=
 ∀(vs:Nat->Value)(W:World)(K:Act->World->Prop),Below w.heap.size w W->(∀i,i<m->R i (vs i) W)->(∀a' W',Q .normal a' W'->K a' W')->
  if Region.wanted o (yielded ops (A vs).tmps)=true then Oper.wp P o (A vs) W K Q else K ((A vs).put o.dst undef) W
theorem LF(R:Nat->Value->World->Prop)(A:(Nat->Value)->Act){w:World}(m:Nat)(hb:Eh .any ops=true)(hl:Ic ops m=true)(hR:∀i v W W',R i v W->Below W.heap.size W W'->R i v W')
  (d:∀i o,i<m->ops[i]? =some o->Ks P Q ops R A w i o) (b:∀o,ops[m]? =some o->PG P Q ops R A w m o):
  ∀(fuel:Nat)(listed:Array Bool)(vs:Nat->Value)(W:World),listed.size=ops.size->listed.toList.count false<=fuel->listed.getD m false=false->Nu R w listed vs W->wpAny P .any ops Q fuel listed (A vs) W
 |0,listed,vs,W,hs,hc,hm,hinv=>by
  simp only[Ic,Bool.and_eq_true,decide_eq_true_eq]at hl
  have h1:listed.getD m true=false:=by
   have:m<listed.size:=by omega
   simp[Array.getD,this]at hm⊢;exact hm
  obtain⟨_,h2⟩:=Ce h1;have:0<listed.toList.count false:=List.count_pos_iff.2 (List.mem_of_getElem? h2);omega
 |fuel+1,listed,vs,W,hs,hc,hm,hinv=>by
  have k:=hl;simp only[Ic,Bool.and_eq_true,decide_eq_true_eq]at k;obtain⟨q,l⟩:=k;refine⟨fun hr=> ?_,fun i hi=> ?_⟩
  ·have:=Cc hb hs hr m (by omega);rw[hm]at this;cases this
  ·obtain⟨n,o,ho,f⟩:=mem_ready.1 hi;have p:=(ltE ho)
   have c:∀j,j≠i->(listed.setIfInBounds i true).getD j false=listed.getD j false:=fun j hj=>by
    simp[Array.getD_eq_getD_getElem?,Ne.symm hj]
   by_cases him:i=m
   ·subst him;rw[ho]at l
    have a:∀j,j<i->listed.getD j false=true:=fun j hj=>by
     have:=List.all_eq_true.1 l j (List.mem_range.2 hj);obtain⟨e,he,h2⟩:=List.any_eq_true.1 this;simp only[Bool.and_eq_true,beq_iff_eq]at h2;obtain⟨h3,rfl⟩:=h2;exact f e (by simpa using he) h3
    refine wpOp_step ho fun K hK=> ?_
    refine b o ho vs W K hinv.1 (fun j hj=>hinv.2 j (a j hj)) fun a' W' hQ=>hK _ _ (Nm (fun j hj=> ?_) hQ fuel)
    by_cases hji:j=i
    ·subst hji
     have:j<listed.size:=by omega
     simp[Array.getD,this]
    ·rw[c j hji];exact a j (by omega)
   ·refine wpOp_step ho fun K hK=> ?_
    refine d i o (by omega) ho vs W K hinv.1 (fun e he hbd=>hinv.2 _ (f e he hbd)) fun v W' hbl hr=>hK _ _ ?_
    refine LF R A m hb hl hR d b fuel _ (upd vs i v) W' (by simpa using hs) (DC n hc) (by rw[c m (Ne.symm him)];exact hm) ⟨hinv.1.trans (hbl.mono hinv.1.size),fun j hj=> ?_⟩
    by_cases hji:j=i
    ·subst hji;simpa[upd]using hr
    ·rw[c j hji]at hj;simp only[upd,if_neg hji];exact hR j _ W W' (hinv.2 j hj) hbl
theorem B9{id:Nat}{a:Act}{w:World}(hm:P.follows .mixedOrders=true)(R:Nat->Value->World->Prop)(A:(Nat->Value)->Act)(vs:Nat->Value)(m:Nat)(ha:a=A vs)(hb:Eh .any ops=true)(hl:Ic ops m=true)
  (hR:∀i v W W',R i v W->Below W.heap.size W W'->R i v W')
  (d:∀i o,i<m->ops[i]? =some o->Ks P Q ops R A w.drew i o) (c:∀o,ops[m]? =some o->PG P Q ops R A w.drew m o):(Code.region id ops true).wp P Q a w:=by
 subst ha
 have b:∀i,(Array.replicate ops.size false).getD i false=false:=fun i=>by
  rcases Nat.lt_or_ge i ops.size with h|h
  ·simp[Array.getD,h]
  ·simp[Array.getD,Nat.not_lt.2 h]
 refine wp_region_any hm (LF R A m hb hl hR d c ops.size _ vs w.drew (by simp) (by simp) (b m) ⟨Ad,fun i hi=> ?_⟩);rw[b i]at hi;cases hi
theorem Ac{o:Oper}{R:Nat->Value->World->Prop}{vs:Nat->Value}{W:World}(hD:∀e∈o.after,Region.binds .any e=true->R e.on (vs e.on) W)(j:Nat)(h:(o.after.toList.any fun e=>Region.binds .any e&&e.on==j)=true):R j (vs j) W:=by
 obtain⟨e,he,h2⟩:=List.any_eq_true.1 h;simp only[Bool.and_eq_true,beq_iff_eq]at h2;obtain⟨h3,rfl⟩:=h2;exact hD e (by simpa using he) h3
def Ut(ops:Array Oper)(listed:Array Bool):Prop:=∀j o,listed.getD j false=true->ops[j]? =some o->∀e∈o.after,Region.binds .any e=true->listed.getD e.on false=true
end
theorem IM{i:Array Oper}{rest:List Oper}{o:Oper}{a:Act}{Q:Exit->Act->World->Prop}{w:World}(m:o.guard=none)(s x:Operand)
  (ho:o.op=.call {callee:=.builtin .append,args:=#[s,x],argTypes:=#[26,26]})
  (base:Nat) (v v2:Value) (l l2:List Int) (f:OI w base v l) (hs:a.eval s=v) (c:Ah w v2 l2) (hx:a.eval x=v2)
  (hn:l.length+l2.length<=17592186043904) (d:base<=w.heap.size)
  (h:∀v' w',OI w' base v' (l++l2)->w.grownBy w' v.ownBlock->AS w v v'->wpList Tryz.prog i Q rest (a.put o.dst v') w'):
  wpList Tryz.prog i Q (o::rest) a w:=by
 obtain⟨⟨ao,k,b,n,rfl,c⟩,-⟩:=c
 refine Mj m s x _ _ 8 _ ho Tryz.underlying26 Dt rfl base v l.length _ hs f ao k b n l2.length (ivF l2) hx c (fun _=>rfl) (by omega) (by decide) d fun v' w' h1 h2 h3=>h v' w' ?_ h2 h3
 have e:(List.range l2.length).map (ivF l2)=l2.map (Value.int .i64):=by
  apply List.ext_getElem (by simp)
  intro j h1 h2
  have:j<l2.length:=by simpa using h1
  simp[ivF,this]
 rw[e]at h1;unfold OI;simpa using h1
theorem Fr.cells{w wr:World}{x y z:Value}(h:Fr w wr #[x,y,z]):(wr.cell? ⟨w.heap.size,0,none⟩=some x/\wr.cell? ⟨w.heap.size,1,none⟩=some y/\wr.cell? ⟨w.heap.size,2,none⟩=some z)/\wr.frozen? ⟨w.heap.size,0,none⟩=false/\wr.frozen? ⟨w.heap.size,1,none⟩=false/\wr.frozen? ⟨w.heap.size,2,none⟩=false:=
 ⟨⟨h.bx.cell 0 rfl,h.bx.cell 1 rfl,h.bx.cell 2 rfl⟩,At 0 h.bx.bx,At 1 h.bx.bx,At 2 h.bx.bx⟩
theorem Fr.res{w wr:World}{cs:Array Value}(h:Fr w wr cs):(wr.cell? ⟨w.heap.size+1,0,none⟩=some (.slice none 0 0)/\wr.cell? ⟨w.heap.size+1,1,none⟩=some (.slice none 0 0)/\wr.cell? ⟨w.heap.size+1,2,none⟩=some (.slice none 0 0))/\wr.frozen? ⟨w.heap.size+1,0,none⟩=false/\wr.frozen? ⟨w.heap.size+1,1,none⟩=false/\wr.frozen? ⟨w.heap.size+1,2,none⟩=false:=
 ⟨⟨Aa 0 h.rc,Aa 1 h.rc,Aa 2 h.rc⟩,At 0 h.rc,At 1 h.rc,At 2 h.rc⟩
theorem FF{o:Oper}{a:Act}{K:Act->World->Prop}{Q:Exit->Act->World->Prop}(w:World)(s x:Operand)
  (ho:o.op=.call {callee:=.builtin .append,args:=#[s,x],argTypes:=#[26,26]})
  (base:Nat) (v v2:Value) (l l2:List Int) (hs:a.eval s=v) (c:OI w base v l) (hx:a.eval x=v2) (n:Ah w v2 l2)
  (hn:l.length+l2.length<=17592186043904) (f:base<=w.heap.size)
  (h:∀v' w',OI w' base v' (l++l2)->w.grownBy w' v.ownBlock->K (a.put o.dst v') w'):Oper.wp Tryz.prog o a w K Q:=by
 obtain⟨i,hi,y,z,aa⟩:=info_parts Dt;obtain⟨⟨ao,p,b,ab,rfl,g⟩,-⟩:=n
 have e:(List.range l2.length).map (ivF l2)=l2.map (Value.int .i64):=by
  apply List.ext_getElem (by simp)
  intro j h1 h2
  have:j<l2.length:=by simpa using h1
  simp[ivF,this]
 cases ao with
 |none=>
  have r:l2.length=0:=by rcases Nat.eq_zero_or_pos l2.length with h0|h0;exact h0;have:=g.ad h0;cases this
  have q:=List.eq_nil_of_length_eq_zero r;subst q;obtain rfl:=g.nc rfl;have m:=run_append_owned_none (P:=Tryz.prog) (w:=w) base 26 o.type 3 i 1 Tryz.underlying26 hi v l.length _ c;unfold Oper.wp execOp;simp only[ho,resolve,invoke,builtin,Sem.run_bind,Sem.run_pure,Result.andThen_ok,List.map_toArray,List.map_cons,List.map_nil,hs,hx];simp only[List.length_nil,m];exact h _ _ (by simpa using c) (E5 _ _)
 |some ad=>
  obtain⟨v',w',hr,h2,h3,h4⟩:=run_append_own (P:=Tryz.prog) w base 26 o.type 3 i _ 1 8 Tryz.underlying26 hi y z aa rfl (by decide) v l.length _ c ad l2.length p ((List.range l2.length).map (ivF l2)) (by simp) (by
   intro j u hj
   have k:j<l2.length:=by
    rcases Nat.lt_or_ge j l2.length with h|h
    ·exact h
    ·simp[Nat.not_lt.2 h]at hj
   have d:=g.ad (by omega);simp only[Option.some.injEq]at d;subst d
   have:ivF l2 j=u:=by simpa[k]using hj
   subst this;have h2:=g.el j k;unfold Addr.add
   split
   ·subst j;exact h2
   ·exact h2) (by
   intro u hu;obtain⟨j,_,rfl⟩:=List.mem_map.1 hu
   rfl) (by simp only[maxLen];omega) (by omega) f
  unfold Oper.wp execOp;simp only[ho,resolve,invoke,builtin,Sem.run_bind,Sem.run_pure,Result.andThen_ok,List.map_toArray,List.map_cons,List.map_nil,hs,hx,hr];refine h _ _ ?_ h3;unfold OI;rw[e]at h2;simpa using h2
theorem Nn{o:Oper}{a:Act}{K:Act->World->Prop}{Q:Exit->Act->World->Prop}(w:World)(s x:Operand)(u:Value)
  (ho:o.op=.call {callee:=.builtin .append,args:=#[s,x],argTypes:=#[23,23]})
  (base:Nat) (v:Value) (n:Nat) (l:List Value) (hs:a.eval s=v) (b:w.ownsRow base 26 1 v n l) (hx:a.eval x=.slice (some ⟨w.heap.size,0,none⟩) 1 1) (hu:u.oneCell'=true)
  (hn:n<5864062014000) (c:base<=w.heap.size)
  (h:∀v' w',w'.ownsRow base 26 1 v' (n+1) (l++[u])->w.grownBy w' v.ownBlock->AS w v v'->K (a.put o.dst v') w'):
  Oper.wp Tryz.prog o a (w.alloc (.cells #[u] 26)) K Q:=by
 obtain⟨i0,d,f,i,j⟩:=info_parts D9;refine wp_append_lies _ s x _ ho base _ i0 _ 1 24 Tryz.underlying23 d f i j rfl (by decide) v n _ hs (b.alloc _) ⟨w.heap.size,0,none⟩ 1 1 [u] hx rfl (World.news_of_block (cs:=#[u]) (t:=26) (fr:=(0,0)) (heap_alloc_new w _)) (by simpa using hu) (by omega) (by simp only[maxLen];omega) (by omega) (by simp;omega) (w.heap.size+1) (by simp) ?_;intro g m w' h1 h2 h3 h4;refine h _ _ (by simpa using h1) ⟨h2.os,h2.tape,h2.output,by have:=h2.size;simp at this;omega,fun k hk hr=> ?_⟩ (fun k hk=> ?_)
 ·rw[h2.block k (by simp;omega) hr];exact Dm w _ hk
 ·obtain rfl:g=k:=by simpa[Value.ownBlock]using hk
  rcases h3 with e|e
  ·exact .inl e
  ·exact .inr (by omega)
theorem LK{d:Array Oper}{rest:List Oper}{o:Oper}{a:Act}{Q:Exit->Act->World->Prop}{w:World}(e:o.guard=none)(l c:Operand)(t:TypeId)(ht:Tryz.prog.underlying t=some (.slice 26))
  (ho:o.op=Op.makeSlice t l c) (base:Nat) (L:Int) (n:Nat) (hl:a.eval l=.int .i64 L) (hc:a.eval c=.int .i64 L) (hL:L=(n:Int)) (hn:n<=11728124028000) (b:base<=w.heap.size)
  (h:∀w',w'.ownsRow base 26 1 (.slice (some ⟨w.heap.size,0,none⟩) n n) n (List.replicate n (.slice none 0 0))->w.grownBy w' none->wpList Tryz.prog d Q rest (a.put o.dst (.slice (some ⟨w.heap.size,0,none⟩) n n)) w'):
  wpList Tryz.prog d Q (o::rest) a w:=
 GD e l c t _ 24 _ ho ht D9 rfl base L n hl hc hL (by omega) (by omega) b h
theorem Rows.is{w:World}{B n ob:Nat}{vals:List Value}{a:List (List Int)}(h:Rows w B n ob vals a)(hn:n<=3000)(hl:∀j,j<n->(a.getD j []).length<=3000/\∀x∈a.getD j [],I64 x):Ar w (.slice (some ⟨ob,0,none⟩) n n) a:=by
 have b:=h.lr;refine⟨fun j=>vals.getD j undef, ?_,fun j hj=>(h.e j (by omega)).is (by have:=(hl j (by omega)).1;unfold Bg;omega) (hl j (by omega)).2⟩;rw[b]
 refine Ct h.o (by unfold Bg;omega) _ fun j hj=> ?_
 have:j<vals.length:=by rw[h.lv];exact hj
 rw[Ae _ _ _ this];simp[this]
theorem Sep.sub{l l':List Value}(h:Sep l)(hs:l'.Sublist l):Sep l':=h.sublist hs
section
variable {w w':World} {B z:Nat} {v0 v1 v2:Value} {vals others:List Value} {gm:Gm}
theorem GB.drop{u:Value}(h:GB w B z v0 v1 v2 vals gm (u::others)):GB w B z v0 v1 v2 vals gm others:=
 {h with
  sep:=h.sep.sub (by simp)
  lt:=fun x hx=>h.lt x (List.mem_cons_of_mem _ hx)}
end
end Go.Proofs.YtncjeamdkjcebaaGreatDoor
namespace Go.Proofs.YtncjeamdkjcebaaGreatDoor
open Go.RowKit
def S4(l:List Int)(x:Int)(w:World)(e:Ending)(w':World):Prop:=∃r:Int,e=.returned (.int .i64 r)/\I64 r/\(0<=r↔x∈l)/\∃n,w'=w.drewN n
theorem Jv(l:List Int)(x:Int)(k:Nat)(h:k<l.length)(h1:x∉l.take k)(h2:(x==l[k])=false):x∉l.take (k+1):=by
 rw[List.take_succ_eq_append_getElem h,List.mem_append,List.mem_singleton];rintro(h|rfl)
 ·exact h1 h
 ·simp at h2
theorem Ro(w:World)(v:Value)(l:List Int)(x:Int)(h:Ah w v l):
  Calls Tryz.prog 133 #[v,.int .i64 x] w (S4 l x w):=by
 obtain⟨⟨ao,c,b,d,rfl,g⟩,_⟩:=h;have hn:=g.nb
 go_enter Tryz.func133,Tryz.ntmps133
 go_wp2
 go_loop [4,5,8] (fun r _ i=>∃k:Nat,i=.int .i64 k/\r=.int .i64 0/\k<=l.length/\x∉l.take k) (fun _ _ i=>l.length-(intOf i).toNat)
 case atStart=>exact⟨0,rfl,rfl,by omega,by simp⟩
 case round=>
  obtain⟨k,rfl,rfl,hk,a⟩:=hrel;have HE:=Ab a;clear a
  by_cases hlt:k<l.length
  ·obtain rfl:=g.ad (by omega);have c2:=g.el k hlt;unfold ivF at c2;rw[Ae _ _ _ hlt]at c2
   cases hq:(x==l[k])
   ·go_wp2
    go_round
    case rel=>exact⟨k+1,by go_num,rfl,by omega,Jv l x k hlt HE.out hq⟩
    case measure=>simp[intOf];omega
   ·go_wp2;go_ret;refine⟨_,rfl,by unfold I64;omega,⟨fun _=> ?_,fun _=>by omega⟩,0,rfl⟩
    have:x=l[k]:=by simpa using hq
    rw[this];exact List.getElem_mem hlt
  ·go_wp2;go_ret;refine⟨_,rfl,by unfold I64;omega,⟨fun h=>by omega,fun hm=> ?_⟩,0,rfl⟩;have h3:=HE.out;rw[List.take_of_length_le (by omega)]at h3;exact absurd hm h3
theorem Gf(w:World)(v:Value)(l:List Int)(x:Int)(h:Ah w v l):
  Calls Tryz.prog 119 #[v,.int .i64 x] w (DZ (.bool (decide (x∈l))) w):=by
 go_enter Tryz.func119,Tryz.ntmps119
 go_wp2_with fail
 refine(Ro _ _ l x h).mono ?_;rintro e w1 ⟨r,rfl,hr,a,n,rfl⟩;go_wp2;go_ret;refine⟨Ak ?_,n,rfl⟩;simp
theorem Bf.shape{w:World}{v:Value}{l:List Bool}(h:Bf w v l):∃a c,v=.slice a l.length c:=by
 obtain⟨a,c,b,o,rfl,-⟩:=h;exact⟨a,c,rfl⟩
theorem Ah.shape{w:World}{v:Value}{l:List Int}(h:Ah w v l):∃a c,v=.slice a l.length c:=by
 obtain⟨⟨a,c,b,o,rfl,-⟩,-⟩:=h;exact⟨a,c,rfl⟩
theorem Bf.data{w:World}{a:Option Addr}{n c:Nat}{l:List Bool}(h:Bf w (.slice a n c) l):∃b o,(0<n->a=some ⟨b,o,none⟩)/\n<=140737488351232/\∀j,j<n->w.cell? ⟨b,o+j,none⟩=some (.bool (l.getD j false)):=by
 obtain⟨a',c',b,o,hv,ha⟩:=h
 injection hv with h1 h2 h3
 subst h1 h2 h3;exact⟨b,o,fun h=>ha.ad h,ha.nb,fun j hj=>ha.el j hj⟩
theorem Ah.data{w:World}{a:Option Addr}{n c:Nat}{l:List Int}(h:Ah w (.slice a n c) l):∃b o,(0<n->a=some ⟨b,o,none⟩)/\n<=140737488351232/\∀j,j<n->w.cell? ⟨b,o+j,none⟩=some (.int .i64 (l.getD j 0)):=by
 obtain⟨⟨a',c',b,o,hv,ha⟩,-⟩:=h
 injection hv with h1 h2 h3
 subst h1 h2 h3;exact⟨b,o,fun h=>ha.ad h,ha.nb,fun j hj=>ha.el j hj⟩
theorem Ar.data{w:World}{v:Value}{ll:List (List Int)}(h:Ar w v ll):∃a c b o,∃V:Nat->Value,v=.slice a ll.length c/\(0<ll.length->a=some ⟨b,o,none⟩)/\ll.length<=140737488351232/\∀j,j<ll.length->w.cell? ⟨b,o+j,none⟩=some (V j)/\Ah w (V j) (ll.getD j []):=by
 obtain⟨V,⟨a,c,b,o,rfl,ha⟩,hr⟩:=h;exact⟨a,c,b,o,V,rfl,fun h=>ha.ad h,ha.nb,fun j hj=>⟨ha.el j hj,hr j hj⟩⟩
theorem QG(W:World)(c x:Nat)(vs:Value)(set:List Bool)(hc:W.cell? ⟨c,0,none⟩=some vs)(hs:Bf W vs set)(hx:x<set.length):
  Calls Tryz.prog 129 #[.int .i64 (x:Int),.pointer (some ⟨c,0,none⟩)] W (DZ (.bool (!set.getD x false)) W):=by
 obtain⟨a,cp,rfl⟩:=hs.shape;obtain⟨b,o,ha,hm,hd⟩:=hs.data;obtain rfl:=ha (by omega);have e1:=hd x hx;clear hs ha hd;generalize set.getD x false=y at*
 go_enter Tryz.func129,Tryz.ntmps129
 go_wp2;go_ret;exact⟨rfl,0,rfl⟩
def TR(p:Int->Bool)(l:List Int)(w:World)(e:Ending)(w':World):Prop:=∃r:Int,e=.returned (.int .i64 r)/\I64 r/\(0<=r↔∃x∈l,p x=true)/\∃n,w'=w.drewN n
theorem K3(w:World)(vl vs:Value)(l:List Int)(c:Nat)(set:List Bool)(hl:Ah w vl l)(hc:w.cell? ⟨c,0,none⟩=some vs)(hs:Bf w vs set)(hx:∀x∈l,0<=x/\x<set.length):
  Calls Tryz.prog 134 #[vl,.func (.func 129) #[] #[.pointer (some ⟨c,0,none⟩)]] w (TR (fun x=> !set.getD x.toNat false) l w):=by
 obtain⟨ao,j,rfl⟩:=hl.shape;obtain⟨b,o,f,hm,hd⟩:=hl.data;have HD:=Ab hd;have HX:=Ab hx
 have HF:Hid (∀(n x:Nat),x<set.length->Calls Tryz.prog 129 #[.int .i64 (x:Int),.pointer (some ⟨c,0,none⟩)] (w.drewN n) (DZ (.bool (!set.getD x false)) (w.drewN n))):=
  fun n x h=>QG _ c x vs set hc (hs.below (Aj _ _ _)) h
 clear hd hx hl hc hs
 go_enter Tryz.func134,Tryz.ntmps134
 go_wp2
 go_loopg [4,5,8] l.length (fun gh r _ i wr=>∃k n:Nat,gh=l.length-k/\i=.int .i64 k/\r=.int .i64 0/\k<=l.length/\wr=w.drewN n/\Hid (∀x∈l.take k,set.getD x.toNat false=true))
 case atStart=>exact⟨0,0,rfl,rfl,rfl,by omega,rfl,by simp[Hid]⟩
 case round=>
  obtain⟨k,n,a,rfl,rfl,hk,rfl,HE⟩:=hrel;have HG:=Ab a;clear a
  by_cases hlt:k<l.length
  ·obtain rfl:=f (by omega);have c2:(w.drewN n).cell? ⟨b,o+k,none⟩=_:=HD.out k hlt;obtain⟨x0,x1⟩:=HX.out (l.getD k 0) (by rw[Ae _ _ _ hlt];exact List.getElem_mem hlt)
   have HY:Hid (l.take (k+1)=l.take k++[l.getD k 0]):=by show _=_;rw[List.take_succ_eq_append_getElem hlt,Ae _ _ _ hlt]
   have HM:Hid (l.getD k 0∈l):=by show _∈_;rw[Ae _ _ _ hlt];exact List.getElem_mem hlt
   generalize l.getD k 0=x at*;obtain⟨y,rfl⟩:=Int.eq_ofNat_of_zero_le x0
   have hy:y<set.length:=by omega
   clear x0 x1
   go_wp2_with fail
   refine(HF.out n y hy).mono ?_;rintro e w1 ⟨rfl,m,rfl⟩
   cases hq:set.getD y false
   ·go_wp2;go_ret;refine⟨_,rfl,by unfold I64;omega,⟨fun _=>⟨_,HM.out, ?_⟩,fun _=>by omega⟩,_,rfl⟩;show(!set.getD (y:Int).toNat false)=true;rw[Int.toNat_natCast,hq];rfl
   ·go_wp2
    go_roundg (l.length-(k+1))
    case measure=>have:=HG.out;omega
    case rel=>
     refine⟨k+1,_,rfl,by go_num,rfl,by omega,rfl, ?_⟩;intro x hx;rw[HY.out]at hx
     rcases List.mem_append.1 hx with h|h
     ·exact HE.out x h
     ·rw[List.mem_singleton.1 h,Int.toNat_natCast,hq]
  ·go_wp2;go_ret;refine⟨_,rfl,by unfold I64;omega,⟨fun h=>by omega,fun⟨x,hx,hp⟩=> ?_⟩,n,rfl⟩;have h3:=HE.out;rw[List.take_of_length_le (by omega)]at h3;have d:(!set.getD x.toNat false)=true:=hp;rw[h3 x hx]at d;cases d
theorem ID(w:World)(vl vs:Value)(l:List Int)(c:Nat)(set:List Bool)(hl:Ah w vl l)(hc:w.cell? ⟨c,0,none⟩=some vs)(hs:Bf w vs set)(hx:∀x∈l,0<=x/\x<set.length):
  Calls Tryz.prog 130 #[vl,.func (.func 129) #[] #[.pointer (some ⟨c,0,none⟩)]] w (DZ (.bool (!l.all fun x=>set.getD x.toNat false)) w):=by
 go_enter Tryz.func130,Tryz.ntmps130
 go_wp2_with fail
 refine(K3 _ _ _ l c set hl hc hs hx).mono ?_;rintro e w1 ⟨r,rfl,hr,a,n,rfl⟩;have b:=Ab a;clear a;go_wp2;go_ret;refine⟨Ak ?_,n,rfl⟩;rw[Bool.eq_iff_iff];have h:=b.out;simp[h]
def DU(g:Gm)(p:Int)(set:List Bool)(s:List Int)(v:Nat):Bool:=
 if set.getD v false then
  if g.owner.getD v 0=p then decide (s.getD v 0∈g.succ.getD v [])&&set.getD (s.getD v 0).toNat false
  else s.getD v 0==-1&&(g.succ.getD v []).all (fun x=>set.getD x.toNat false)
 else s.getD v 0==-1
theorem Sb(w:World)(vg vs vt:Value)(g:Gm)(p:Int)(set:List Bool)(s:List Int)(v:Nat)(hg:Cx w vg g)(hs:Bf w vs set)(ht:Ah w vt s)(hv:Cg g=true)(h1:set.length=g.owner.length)(h2:s.length=g.owner.length)(hlt:v<g.owner.length):
  Calls Tryz.prog 116 #[vg,.int .i64 p,vs,vt,.int .i64 v] w (Av (.bool (DU g p set s v)) w):=by
 have b:=Hd hv v hlt;obtain⟨l1,l2,l3⟩:=Es hv;obtain⟨v0,v1,v2,rfl,i0,i1,i2⟩:=id hg;obtain⟨a0,c0,rfl⟩:=i0.shape;obtain⟨a1,c1,rfl⟩:=i1.shape;obtain⟨a2,c2,b2,o2,V,rfl,q,m2,d⟩:=i2.data;obtain⟨b0,o0,o,m0,k⟩:=i0.data;obtain⟨aS,cS,rfl⟩:=hs.shape;obtain⟨aT,cT,rfl⟩:=ht.shape;obtain⟨bS,oS,r,mS,f⟩:=hs.data;obtain⟨bT,oT,u,mT,l⟩:=ht.data;obtain rfl:=o (by omega);obtain rfl:=q (by omega);obtain rfl:=r (by omega);obtain rfl:=u (by omega);have hB:Below w.heap.size w ((w.alloc (.cells #[.slice (some ⟨b0,o0,none⟩) g.owner.length c0,.slice a1 g.prio.length c1,.slice (some ⟨b2,o2,none⟩) g.succ.length c2] 65)).alloc (.cells #[.slice (some ⟨bS,oS,none⟩) set.length cS] 31)):=(by repeat(first|exact Ad|assumption|apply AE|apply AB));have e0:=Ag hB (k v hlt);have e2:=Ag hB (d v (by omega)).1;have a:=(d v (by omega)).2;have eS:=Ag hB (f v (by omega));have eT:=Ag hB (l v (by omega));obtain⟨aV,cV,m⟩:=a.shape;rw[m]at e2 a;have i:=heap_alloc_new (w.alloc (.cells #[.slice (some ⟨b0,o0,none⟩) g.owner.length c0,.slice a1 g.prio.length c1,.slice (some ⟨b2,o2,none⟩) g.succ.length c2] 65)) (.cells #[.slice (some ⟨bS,oS,none⟩) set.length cS] 31);rw[World.size_alloc]at i;have aa:=Ab (Aa 0 i);clear i;have ab:=Ab (fun y(h:y<set.length)=>Ag hB (f y h));have ac:=Ab hs;have c:=Ab a;have HK:Hid (DU g p set s v=if set.getD v false then(if g.owner.getD v 0=p then decide (s.getD v 0∈g.succ.getD v [])&&set.getD (s.getD v 0).toNat false else s.getD v 0==-1&&(g.succ.getD v []).all (fun x=>set.getD x.toNat false))else s.getD v 0==-1):=rfl;have HR:=Ab b.2.2.2
 have af:s.length=set.length:=by omega
 have ae:g.owner.length=set.length:=by omega
 have ad:g.succ.length=set.length:=by omega
 have ag:I64 (s.getD v 0):=ht.2 _ (by rw[Ae _ _ _ (show v<s.length by omega)];exact List.getElem_mem _);have HL:=Ab (show set.length=g.owner.length from h1)
 have k1:v<set.length:=by omega
 have k2:v<s.length:=by omega
 have k3:v<g.succ.length:=by omega
 have k4:(v:Int)<set.length:=by omega
 have k5:(v:Int)<s.length:=by omega
 have k6:(v:Int)<g.succ.length:=by omega
 have k7:(v:Int)<g.owner.length:=by omega
 clear b k d f l o q r u i0 i1 i2 hg hs ht hB m l2 l3 h1 h2 a af ae ad;generalize hxe:s.getD v 0=x at*;have HX:=Ab hxe;clear hxe;generalize g.owner.getD v 0=ow at*;generalize g.succ.getD v []=sv at*;have ah:set.length<=140737488351232:=mS
 cases hq:set.getD v false
 ·rw[hq]at eS HK
  go_enter Tryz.func116,Tryz.ntmps116
  go_wp2;go_ret;refine⟨Ak ?_,(by repeat(first|exact Ad|assumption|apply AE|apply AB))⟩;rw[HK.out];rfl
 ·rw[hq]at eS HK
  cases ho:(ow==p)
  ·have j:¬ow=p:=by simpa using ho
   rw[if_neg j]at HK
   go_enter Tryz.func116,Tryz.ntmps116
   cases hx1:(x==-1)
   ·go_wp2;go_ret;refine⟨Ak ?_,(by repeat(first|exact Ad|assumption|(refine AE ?_ _)|(refine AB ?_ _)|(refine Below.drew ?_)))⟩;rw[HK.out,hx1];rfl
   ·go_wp2_with fail
    refine(ID _ _ _ sv (w.heap.size+1) set (c.out.below (by repeat(first|exact Ad|assumption|(refine AE ?_ _)|(refine AB ?_ _)|(refine Below.drew ?_)))) ?_ (ac.out.below (by repeat(first|exact Ad|assumption|(refine AE ?_ _)|(refine AB ?_ _)|(refine Below.drew ?_)))) (fun y hy=>by have:=HR.out y hy;have:=HL.out;omega)).mono ?_
    ·exact aa.out
    rintro e w1 ⟨rfl,n,rfl⟩;go_wp2;go_ret;refine⟨Ak ?_,(by repeat(first|exact Ad|assumption|(refine AE ?_ _)|(refine AB ?_ _)|(refine Below.drew ?_)))⟩;rw[HK.out,hx1];simp
  ·have j:ow=p:=by simpa using ho
   rw[if_pos j]at HK
   go_enter Tryz.func116,Tryz.ntmps116
   cases hc:decide (x∈sv)
   ·rw[hc]at HK;go_wp2
    go_quiet ((go_at_call 119;refine(Gf _ _ sv x (c.out.below (by repeat(first|exact Ad|assumption|(refine AE ?_ _)|(refine AB ?_ _)|(refine Below.drew ?_))))).mono ?_;rintro e w' ⟨rfl,n3,rfl⟩;rw[hc];exact⟨rfl,_,World.drewN_drewN ..⟩))
    go_wp2;go_ret;refine⟨Ak ?_,(by repeat(first|exact Ad|assumption|(refine AE ?_ _)|(refine AB ?_ _)|(refine Below.drew ?_)))⟩;rw[HK.out];rfl
   ·rw[hc]at HK;obtain⟨x0,x1⟩:=HR.out x (by simpa using hc);obtain⟨y,rfl⟩:=Int.eq_ofNat_of_zero_le x0
    have hy:y<set.length:=by have:=HL.out;omega
    have ai:(y:Int)<set.length:=by omega
    have eY:=ab.out y hy;rw[Int.toNat_natCast]at HK;generalize set.getD y false=z at*;clear x0 x1;go_wp2
    go_quiet ((go_at_call 119;refine(Gf _ _ sv y (c.out.below (by repeat(first|exact Ad|assumption|(refine AE ?_ _)|(refine AB ?_ _)|(refine Below.drew ?_))))).mono ?_;rintro e w' ⟨rfl,n3,rfl⟩;rw[hc];exact⟨rfl,_,World.drewN_drewN ..⟩))
    go_wp2;go_ret;refine⟨Ak ?_,(by repeat(first|exact Ad|assumption|(refine AE ?_ _)|(refine AB ?_ _)|(refine Below.drew ?_)))⟩;rw[HK.out];simp
end Go.Proofs.YtncjeamdkjcebaaGreatDoor
namespace Go.Proofs.YtncjeamdkjcebaaGreatDoor
open Go Go.RowKit
section
variable {F:Fence} {n:Nat} {P:Program} {ops:Array Oper} {Q:Exit->Act->World->Prop} {md:Region.Mode}
def GL(F:Fence)(n:Nat)(P:Program)(Q:Exit->Act->World->Prop)(ops:Array Oper)(R:Nat->Value->World->Prop)(A:(Nat->Value)->Act)(w:World)(i:Nat)(o:Oper):Prop:=
 ∀(vs:Nat->Value)(W:World)(K:Act->World->Prop),Below w.heap.size w W->(∀e∈o.after,Region.binds .any e=true->R e.on (vs e.on) W)->
  (∀v W',Below W.heap.size W W'->R i v W'->K (A (upd vs i v)) W')->
  if Region.wanted o (yielded ops (A vs).tmps)=true then Oper.wpIn F n P o (A vs) W K Q else(∀f,o.about P W (A vs).eval=some f->F.fn f)/\K ((A vs).put o.dst undef) W
theorem Hc(R:Nat->Value->World->Prop)(A:(Nat->Value)->Act){w:World}(hb:Eh .any ops=true)(hR:∀i v W W',R i v W->Below W.heap.size W W'->R i v W')
  (b:∀i o,ops[i]? =some o->GL F n P Q ops R A w i o)
  (a:∀vs W,Below w.heap.size w W->(∀i,i<ops.size->R i (vs i) W)->Q .normal (A vs) W):
  ∀(fuel:Nat)(listed:Array Bool)(vs:Nat->Value)(W:World),listed.size=ops.size->listed.toList.count false<=fuel->Nu R w listed vs W->wpAnyIn F n P .any ops Q fuel listed (A vs) W
 |0,listed,vs,W,hs,hc,hinv=>by
  have f:∀j,¬listed.getD j true=false:=fun j h=>by
   obtain⟨_,h2⟩:=Ce h;have:0<listed.toList.count false:=List.count_pos_iff.2 (List.mem_of_getElem? h2);omega
  have hr:Region.ready .any ops listed=[]:=List.eq_nil_iff_forall_not_mem.2 fun j hj=>f j (mem_ready.1 hj).1
  exact⟨hr,a vs W hinv.1 fun i hi=>hinv.2 i (Cc hb hs hr i hi)⟩
 |fuel+1,listed,vs,W,hs,hc,hinv=>by
  refine⟨fun hr=>a vs W hinv.1 fun i hi=>hinv.2 i (Cc hb hs hr i hi),fun i hi=> ?_⟩;obtain⟨hl,o,ho,c⟩:=mem_ready.1 hi
  refine wpOpIn_step ho fun K hK=> ?_
  refine b i o ho vs W K hinv.1 (fun e he hbd=>hinv.2 _ (c e he hbd)) fun v W' hbl hr=>hK _ _ ?_
  refine Hc R A hb hR b a fuel _ (upd vs i v) W' (by simpa using hs) (DC hl hc) ⟨hinv.1.trans (hbl.mono hinv.1.size),fun j hj=> ?_⟩
  by_cases hji:j=i
  ·subst hji;simpa[upd]using hr
  ·have d:listed.getD j false=true:=by
    have:(listed.setIfInBounds i true).getD j false=listed.getD j false:=by
     simp[Array.getD_eq_getD_getElem?,Ne.symm hji]
    rwa [this]at hj
   simp only[upd,if_neg hji];exact hR j _ W W' (hinv.2 j d) hbl
theorem DV{id:Nat}{a:Act}{w:World}(hm:P.follows .mixedOrders=true)(R:Nat->Value->World->Prop)(A:(Nat->Value)->Act)(vs:Nat->Value)(ha:a=A vs)(hb:Eh .any ops=true)
  (hR:∀i v W W',R i v W->Below W.heap.size W W'->R i v W')
  (b:∀i o,ops[i]? =some o->GL F n P Q ops R A w.drew i o)
  (c:∀vs W,Below w.drew.heap.size w.drew W->(∀i,i<ops.size->R i (vs i) W)->Q .normal (A vs) W):(Code.region id ops true).wpIn F n P Q a w:=by
 subst ha;refine wpIn_region_any hm (Hc R A hb hR b c ops.size _ vs w.drew (by simp) ?_ ⟨Ad,fun i hi=> ?_⟩)
 ·simp
 ·exfalso
  rcases Nat.lt_or_ge i ops.size with h|h
  ·simp[Array.getD,h]at hi
  ·simp[Array.getD,Nat.not_lt.2 h]at hi
theorem K1{b:Array Bool}{a:Act}{w:World}(h:∀i,i<ops.size->b.getD i false=true)(hQ:Q .normal a w):∀fuel,wpAnyIn F n P md ops Q fuel b a w
 |0=>⟨FS h,hQ⟩
 | _+1=>⟨fun _=>hQ,by rw[FS h];simp⟩
def K9(F:Fence)(n:Nat)(P:Program)(Q:Exit->Act->World->Prop)(ops:Array Oper)(R:Nat->Value->World->Prop)(A:(Nat->Value)->Act)(w:World)(m:Nat)(o:Oper):Prop:=
 ∀(vs:Nat->Value)(W:World)(K:Act->World->Prop),Below w.heap.size w W->(∀i,i<m->R i (vs i) W)->(∀a' W',Q .normal a' W'->K a' W')->
  if Region.wanted o (yielded ops (A vs).tmps)=true then Oper.wpIn F n P o (A vs) W K Q else(∀f,o.about P W (A vs).eval=some f->F.fn f)/\K ((A vs).put o.dst undef) W
theorem I1(R:Nat->Value->World->Prop)(A:(Nat->Value)->Act){w:World}(m:Nat)(hb:Eh .any ops=true)(hl:Ic ops m=true)(hR:∀i v W W',R i v W->Below W.heap.size W W'->R i v W')
  (d:∀i o,i<m->ops[i]? =some o->GL F n P Q ops R A w i o) (b:∀o,ops[m]? =some o->K9 F n P Q ops R A w m o):
  ∀(fuel:Nat)(listed:Array Bool)(vs:Nat->Value)(W:World),listed.size=ops.size->listed.toList.count false<=fuel->listed.getD m false=false->Nu R w listed vs W->wpAnyIn F n P .any ops Q fuel listed (A vs) W
 |0,listed,vs,W,hs,hc,hm,hinv=>by
  simp only[Ic,Bool.and_eq_true,decide_eq_true_eq]at hl
  have h1:listed.getD m true=false:=by
   have:m<listed.size:=by omega
   simp[Array.getD,this]at hm⊢;exact hm
  obtain⟨_,h2⟩:=Ce h1;have:0<listed.toList.count false:=List.count_pos_iff.2 (List.mem_of_getElem? h2);omega
 |fuel+1,listed,vs,W,hs,hc,hm,hinv=>by
  have k:=hl;simp only[Ic,Bool.and_eq_true,decide_eq_true_eq]at k;obtain⟨r,l⟩:=k;refine⟨fun hr=> ?_,fun i hi=> ?_⟩
  ·have:=Cc hb hs hr m (by omega);rw[hm]at this;cases this
  ·obtain⟨p,o,ho,f⟩:=mem_ready.1 hi;have q:=(ltE ho)
   have c:∀j,j≠i->(listed.setIfInBounds i true).getD j false=listed.getD j false:=fun j hj=>by
    simp[Array.getD_eq_getD_getElem?,Ne.symm hj]
   by_cases him:i=m
   ·subst him;rw[ho]at l
    have a:∀j,j<i->listed.getD j false=true:=fun j hj=>by
     have:=List.all_eq_true.1 l j (List.mem_range.2 hj);obtain⟨e,he,h2⟩:=List.any_eq_true.1 this;simp only[Bool.and_eq_true,beq_iff_eq]at h2;obtain⟨h3,rfl⟩:=h2;exact f e (by simpa using he) h3
    refine wpOpIn_step ho fun K hK=> ?_
    refine b o ho vs W K hinv.1 (fun j hj=>hinv.2 j (a j hj)) fun a' W' hQ=>hK _ _ (K1 (fun j hj=> ?_) hQ fuel)
    by_cases hji:j=i
    ·subst hji
     have:j<listed.size:=by omega
     simp[Array.getD,this]
    ·rw[c j hji];exact a j (by omega)
   ·refine wpOpIn_step ho fun K hK=> ?_
    refine d i o (by omega) ho vs W K hinv.1 (fun e he hbd=>hinv.2 _ (f e he hbd)) fun v W' hbl hr=>hK _ _ ?_
    refine I1 R A m hb hl hR d b fuel _ (upd vs i v) W' (by simpa using hs) (DC p hc) (by rw[c m (Ne.symm him)];exact hm) ⟨hinv.1.trans (hbl.mono hinv.1.size),fun j hj=> ?_⟩
    by_cases hji:j=i
    ·subst hji;simpa[upd]using hr
    ·rw[c j hji]at hj;simp only[upd,if_neg hji];exact hR j _ W W' (hinv.2 j hj) hbl
theorem Gd{id:Nat}{a:Act}{w:World}(hm:P.follows .mixedOrders=true)(R:Nat->Value->World->Prop)(A:(Nat->Value)->Act)(vs:Nat->Value)(m:Nat)(ha:a=A vs)(hb:Eh .any ops=true)(hl:Ic ops m=true)
  (hR:∀i v W W',R i v W->Below W.heap.size W W'->R i v W')
  (d:∀i o,i<m->ops[i]? =some o->GL F n P Q ops R A w.drew i o) (c:∀o,ops[m]? =some o->K9 F n P Q ops R A w.drew m o):(Code.region id ops true).wpIn F n P Q a w:=by
 subst ha
 have b:∀i,(Array.replicate ops.size false).getD i false=false:=fun i=>by
  rcases Nat.lt_or_ge i ops.size with h|h
  ·simp[Array.getD,h]
  ·simp[Array.getD,Nat.not_lt.2 h]
 refine wpIn_region_any hm (I1 R A m hb hl hR d c ops.size _ vs w.drew (by simp) (by simp) (b m) ⟨Ad,fun i hi=> ?_⟩);rw[b i]at hi;cases hi
end
section
variable {F:Fence} {n:Nat} {P:Program} {ops:Array Oper} {Q:Exit->Act->World->Prop}
def Pp(F:Fence)(n:Nat)(P:Program)(Q:Exit->Act->World->Prop)(ops:Array Oper)(R:Nat->Value->World->Prop)(B0:World->Prop)(A:(Nat->Value)->Act)(i:Nat)(o:Oper):Prop:=
 ∀(vs:Nat->Value)(W:World)(K:Act->World->Prop),B0 W->(∀e∈o.after,Region.binds .any e=true->R e.on (vs e.on) W)->
  (∀v W',B0 W'->(∀j x,j≠i->R j x W->R j x W')->R i v W'->K (A (upd vs i v)) W')->
  if Region.wanted o (yielded ops (A vs).tmps)=true then Oper.wpIn F n P o (A vs) W K Q else(∀f,o.about P W (A vs).eval=some f->F.fn f)/\K ((A vs).put o.dst undef) W
theorem Lu(R:Nat->Value->World->Prop)(B0:World->Prop)(A:(Nat->Value)->Act)(hb:Eh .any ops=true)
  (b:∀i o,ops[i]? =some o->Pp F n P Q ops R B0 A i o)
  (a:∀vs W,B0 W->(∀i,i<ops.size->R i (vs i) W)->Q .normal (A vs) W):
  ∀(fuel:Nat)(listed:Array Bool)(vs:Nat->Value)(W:World),listed.size=ops.size->listed.toList.count false<=fuel->(B0 W/\∀i,listed.getD i false=true->R i (vs i) W)->wpAnyIn F n P .any ops Q fuel listed (A vs) W
 |0,listed,vs,W,hs,hc,hinv=>by
  have f:∀j,¬listed.getD j true=false:=fun j h=>by
   obtain⟨_,h2⟩:=Ce h;have:0<listed.toList.count false:=List.count_pos_iff.2 (List.mem_of_getElem? h2);omega
  have hr:Region.ready .any ops listed=[]:=List.eq_nil_iff_forall_not_mem.2 fun j hj=>f j (mem_ready.1 hj).1
  exact⟨hr,a vs W hinv.1 fun i hi=>hinv.2 i (Cc hb hs hr i hi)⟩
 |fuel+1,listed,vs,W,hs,hc,hinv=>by
  refine⟨fun hr=>a vs W hinv.1 fun i hi=>hinv.2 i (Cc hb hs hr i hi),fun i hi=> ?_⟩;obtain⟨hl,o,ho,c⟩:=mem_ready.1 hi
  refine wpOpIn_step ho fun K hK=> ?_
  refine b i o ho vs W K hinv.1 (fun e he hbd=>hinv.2 _ (c e he hbd)) fun v W' hbl hk hr=>hK _ _ ?_
  refine Lu R B0 A hb b a fuel _ (upd vs i v) W' (by simpa using hs) (DC hl hc) ⟨hbl,fun j hj=> ?_⟩
  by_cases hji:j=i
  ·subst hji;simpa[upd]using hr
  ·have d:listed.getD j false=true:=by
    have:(listed.setIfInBounds i true).getD j false=listed.getD j false:=by
     simp[Array.getD_eq_getD_getElem?,Ne.symm hji]
    rwa [this]at hj
   simp only[upd,if_neg hji];exact hk j _ hji (hinv.2 j d)
theorem Ju{id:Nat}{a:Act}{w:World}(hm:P.follows .mixedOrders=true)(R:Nat->Value->World->Prop)(B0:World->Prop)(A:(Nat->Value)->Act)(vs:Nat->Value)(ha:a=A vs)(hb:Eh .any ops=true)(h0:B0 w.drew)
  (b:∀i o,ops[i]? =some o->Pp F n P Q ops R B0 A i o)
  (c:∀vs W,B0 W->(∀i,i<ops.size->R i (vs i) W)->Q .normal (A vs) W):(Code.region id ops true).wpIn F n P Q a w:=by
 subst ha;refine wpIn_region_any hm (Lu R B0 A hb b c ops.size _ vs w.drew (by simp) ?_ ⟨h0,fun i hi=> ?_⟩)
 ·simp
 ·exfalso
  rcases Nat.lt_or_ge i ops.size with h|h
  ·simp[Array.getD,h]at hi
  ·simp[Array.getD,Nat.not_lt.2 h]at hi
end
end Go.Proofs.YtncjeamdkjcebaaGreatDoor
namespace Go.Proofs.YtncjeamdkjcebaaGreatDoor
open Go.RowKit
theorem Aw{w0 w:World}{B:Nat}(hb:Below B w0 w)(hB:B<=w.heap.size)(cs:Array Value)(t:TypeId):(w.alloc (.cells cs t)).heap[w.heap.size]? =some (.cells cs t (0,0))/\Below w.heap.size w (w.alloc (.cells cs t))/\Below B w0 (w.alloc (.cells cs t)):=
 ⟨heap_alloc_new _ _,Ao _,hb.trans ((Ao _).mono hB)⟩
theorem BS{w W:World}{g j:Nat}{u:Value}(h:Below w.heap.size w W)(hg:w.heap.size<=g):Below w.heap.size w (W.setCell ⟨g,j,none⟩ u):=
 h.trans ((Af.set (S:=fun q=>q=g) g j u rfl).below _ (fun q e=>by have e:q=g:=e;omega) h.size)
theorem Ar.dat2{w:World}{a:Option Addr}{n c:Nat}{ll:List (List Int)}(h:Ar w (.slice a n c) ll):∃b o,(0<n->a=some ⟨b,o,none⟩)/\n<=140737488351232/\∀j,j<n->∃ao i,w.cell? ⟨b,o+j,none⟩=some (.slice ao (ll.getD j []).length i)/\Ah w (.slice ao (ll.getD j []).length i) (ll.getD j []):=by
 obtain⟨a',c',b,o,V,hv,d,hn,f⟩:=h.data
 injection hv with h1 h2 h3
 subst h1 h2 h3;refine⟨b,o,d,hn,fun j hj=> ?_⟩;obtain⟨f1,f2⟩:=f j hj;obtain⟨ao,i,e⟩:=f2.shape;rw[e]at f1 f2;exact⟨ao,i,f1,f2⟩
theorem Ar.shape{w:World}{v:Value}{ll:List (List Int)}(h:Ar w v ll):∃a c,v=.slice a ll.length c:=by
 obtain⟨a,c,b,o,V,rfl,-⟩:=h.data;exact⟨a,c,rfl⟩
def EZ(ll:List (List Int))(w:World)(e:Ending)(w':World):Prop:=∃v,e=.returned v/\Ar w' v ll/\Below w.heap.size w w'
structure DM(w:World)(B:Nat)(v:Value)(vals:List Value)(rows:List (List Int)):Prop where
 o:w.ownsRow B 26 1 v rows.length vals
 e:∀j,j<rows.length->OI w B (vals.getD j undef) (rows.getD j [])
 a:∀j,j<rows.length->AR v (vals.getD j undef)
 lv:vals.length=rows.length
section
variable {w w':World} {B:Nat} {v u:Value} {vals:List Value} {rows:List (List Int)} {l:List Int}
theorem DM.nil(w:World)(B:Nat):DM w B (.slice none 0 0) [] []:=⟨World.ownsRow_nil _ _ _ _,fun j hj=>by simp at hj,fun j hj=>by simp at hj,rfl⟩
theorem DM.grown(h:DM w B v vals rows){r:Option Nat}(hg:w.grownBy w' r)(h1:v.ownBlock=none\/v.ownBlock≠r)(h2:∀j,j<rows.length->(vals.getD j undef).ownBlock=none\/(vals.getD j undef).ownBlock≠r):DM w' B v vals rows:=
 ⟨World.ownsRow.kept h.o hg h1,fun j hj=>(h.e j hj).grown hg (h2 j hj),h.a,h.lv⟩
theorem DM.below(h:DM w B v vals rows)(hb:Below w.heap.size w w'):DM w' B v vals rows:=
 h.grown (AW hb) (by cases v.ownBlock<;>simp) (fun j _=>by cases(vals.getD j undef).ownBlock<;>simp)
theorem DM.lt(h:DM w B v vals rows):∀g,v.ownBlock=some g->B<=g/\g<w.heap.size:=fun g hg=>World.ownsRow.lt h.o g hg
theorem DM.row(h:DM w B v vals rows)(hn:0<rows.length):∃g a,v=.slice (some ⟨g,0,none⟩) rows.length a/\B<=g/\g<w.heap.size:=by
 rcases h.o.2 with⟨-,e⟩|⟨g,a,b,rfl,hb,hg,-⟩
 ·have:=h.lv;rw[e]at this;simp at this;omega
 ·exact⟨g,a,rfl,hb,(ltE hg)⟩
theorem DM.slice(h:DM w B v vals rows):∃ao a,v=.slice ao rows.length a:=by
 rcases h.o.2 with⟨rfl,e⟩|⟨g,a,b,rfl,-⟩
 ·have:=h.lv
  try rw[e]at this
  try simp at this
  exact⟨none,0,by rw[show rows.length=0 by omega]⟩
 ·exact⟨_,_,rfl⟩
theorem DM.cell{g n a j:Nat}(h:DM w B (.slice (some ⟨g,0,none⟩) n a) vals rows)(hn:rows.length=n)(hj:j<n):w.cell? ⟨g,j,none⟩=some (vals.getD j undef):=by
 subst hn;rw[World.ownsRow.cellAt h.o j (by omega)];simp[List.getD,show j<vals.length by rw[h.lv];exact hj]
theorem DM.fz{g n a:Nat}(h:DM w B (.slice (some ⟨g,0,none⟩) n a) vals rows)(hn:rows.length=n)(j:Nat):w.frozen? ⟨g,j,none⟩=false:=by
 subst hn;exact World.ownsRow.frozenAt h.o j
theorem DM.set{g n b:Nat}(h:DM w B (.slice (some ⟨g,0,none⟩) n b) vals rows)(hn:rows.length=n){j:Nat}(hu:OI w B u l)(ha:AR (.slice (some ⟨g,0,none⟩) n b) u):
  DM (w.setCell ⟨g,j,none⟩ u) B (.slice (some ⟨g,0,none⟩) n b) (vals.set j u) (rows.set j l):=by
 subst hn;have d:=(World.ownsRow.stored h.o j u).1
 have c:∀(x:Value),AR (.slice (some ⟨g,0,none⟩) rows.length b) x->x.ownBlock=none\/x.ownBlock≠some g:=fun x hx=>by
  cases hxo:x.ownBlock with
  |none=>exact .inl rfl
  |some q=>exact .inr fun e=>by cases e;exact hx g rfl hxo
 refine⟨by rw[List.length_set];exact d,fun i hi=> ?_,fun i hi=> ?_,by rw[List.length_set,List.length_set];exact h.lv⟩
 ·rw[List.length_set]at hi
  by_cases e:j=i
  ·subst e;rw[AA _ _ _ _ (by rw[h.lv];exact hi),AA _ _ _ _ hi];exact hu.grown (CK w g j u) (c _ ha)
  ·rw[AJ _ _ _ _ _ e,AJ _ _ _ _ _ e];exact(h.e i hi).grown (CK w g j u) (c _ (h.a i hi))
 ·rw[List.length_set]at hi
  by_cases e:j=i
  ·subst e;rw[AA _ _ _ _ (by rw[h.lv];exact hi)];exact ha
  ·rw[AJ _ _ _ _ _ e];exact h.a i hi
theorem DM.is(h:DM w B v vals rows)(hn:rows.length<=20000)(hl:∀j,j<rows.length->(rows.getD j []).length<=20000/\∀x∈rows.getD j [],I64 x):Ar w v rows:=by
 refine⟨fun j=>vals.getD j undef,Ct h.o (by unfold Bg;omega) _ fun j hj=> ?_,fun j hj=>(h.e j hj).is (by have:=(hl j hj).1;unfold Bg;omega) (hl j hj).2⟩
 have:j<vals.length:=by rw[h.lv];exact hj
 rw[Ae _ _ _ this];simp[this]
theorem DM.app{v':Value}(h:DM w B v vals rows)(hu:OI w B u l)(ha:AR v u)(ho:w'.ownsRow B 26 1 v' (rows.length+1) (vals++[u]))(hg:w.grownBy w' v.ownBlock)(hm:AS w v v'):DM w' B v' (vals++[u]) (rows++[l]):=by
 have hk:∀j,j<rows.length->(vals++[u]).getD j undef=vals.getD j undef:=fun j hj=>by
  rw[List.getD_eq_getElem?_getD,List.getD_eq_getElem?_getD,List.getElem?_append_left (by rw[h.lv];exact hj)]
 have b:∀j,j<rows.length->(rows++[l]).getD j []=rows.getD j []:=fun j hj=>by
  rw[List.getD_eq_getElem?_getD,List.getD_eq_getElem?_getD,List.getElem?_append_left hj]
 have e1:(vals++[u]).getD rows.length undef=u:=by
  rw[List.getD_eq_getElem?_getD,List.getElem?_append_right (by rw[h.lv];omega),h.lv];simp
 have e2:(rows++[l]).getD rows.length []=l:=by
  rw[List.getD_eq_getElem?_getD,List.getElem?_append_right (by omega)];simp
 refine⟨by rw[List.length_append,List.length_singleton];exact ho,fun j hj=> ?_,fun j hj=> ?_,by simp[h.lv]⟩
 ·rw[List.length_append,List.length_singleton]at hj
  by_cases e:j=rows.length
  ·subst e;rw[e1,e2];exact hu.grown hg ha.symm.ne
  ·rw[hk j (by omega),b j (by omega)];exact(h.e j (by omega)).grown hg (h.a j (by omega)).symm.ne
 ·rw[List.length_append,List.length_singleton]at hj
  by_cases e:j=rows.length
  ·subst e;rw[e1];exact(ha.symm.moved hm hu.lt').symm
  ·rw[hk j (by omega)];exact((h.a j (by omega)).symm.moved hm (h.e j (by omega)).lt').symm
end
structure My where
 ins:Int
 outs:Int
 start:Int
 out:List (List Int)
 next:List (List Int)
deriving DecidableEq
structure Mo where
 ins:Int
 outs:Int
 start:Int
 inn:List Int
 next:List (List Int)
deriving DecidableEq
def BB(w:World)(v:Value)(m:My):Prop:=∃v3 v4,v=.agg #[.int .i64 m.ins,.int .i64 m.outs,.int .i64 m.start,v3,v4]/\(I64 m.ins/\I64 m.outs/\I64 m.start)/\Ar w v3 m.out/\Ar w v4 m.next
def Dy(w:World)(v:Value)(m:Mo):Prop:=∃v3 v4,v=.agg #[.int .i64 m.ins,.int .i64 m.outs,.int .i64 m.start,v3,v4]/\(I64 m.ins/\I64 m.outs/\I64 m.start)/\Ah w v3 m.inn/\Ar w v4 m.next
theorem BB.below{w wr:World}{v:Value}{m:My}(h:BB w v m)(hb:Below w.heap.size w wr):BB wr v m:=by
 obtain⟨v3,v4,rfl,h0,h2,h3⟩:=h;exact⟨v3,v4,rfl,h0,h2.below hb,h3.below hb⟩
theorem Dy.below{w wr:World}{v:Value}{m:Mo}(h:Dy w v m)(hb:Below w.heap.size w wr):Dy wr v m:=by
 obtain⟨v3,v4,rfl,h0,h2,h3⟩:=h;exact⟨v3,v4,rfl,h0,h2.below hb,h3.below hb⟩
def BG(width most:Int)(l:List Int):Bool:=decide ((l.length:Int)=width)&&l.all fun x=>decide (0<=x)&&decide (x<most)
def Cq(width most:Int)(ll:List (List Int)):Bool:=ll.all (BG width most)
def BN(ins outs states start:Int):Bool:=decide (1<=ins)&&decide (ins<=64)&&decide (1<=outs)&&decide (outs<=64)&&decide (states<=3000)&&decide (0<=start)&&decide (start<states)
def A5(m:My):Bool:=BN m.ins m.outs m.out.length m.start&&decide (m.next.length=m.out.length)&&Cq m.ins m.outs m.out&&Cq m.ins m.out.length m.next
def Bw(e:Mo):Bool:=BN e.ins e.outs e.inn.length e.start&&decide (e.next.length=e.inn.length)&&Cq e.inn.length e.ins [e.inn]&&Cq e.outs e.inn.length e.next
theorem Cf{a b c d:Int}:BN a b c d=true↔1<=a/\a<=64/\1<=b/\b<=64/\c<=3000/\0<=d/\d<c:=by
 simp only[BN,Bool.and_eq_true,decide_eq_true_eq]
 constructor
 ·rintro⟨⟨⟨⟨⟨⟨h1,h2⟩,h3⟩,h4⟩,h5⟩,h6⟩,h7⟩;exact⟨h1,h2,h3,h4,h5,h6,h7⟩
 ·rintro⟨h1,h2,h3,h4,h5,h6,h7⟩;exact⟨⟨⟨⟨⟨⟨h1,h2⟩,h3⟩,h4⟩,h5⟩,h6⟩,h7⟩
theorem Hy{a b:Int}{ll:List (List Int)}:Cq a b ll=true↔∀i,i<ll.length->((ll.getD i []).length:Int)=a/\∀k,k<(ll.getD i []).length->0<=(ll.getD i []).getD k 0/\(ll.getD i []).getD k 0<b:=by
 unfold Cq;rw[List.all_eq_true]
 constructor
 ·intro h i hi;have:=h _ (List.getElem_mem hi);rw[<-Ae ll [] i hi]at this;simp only[BG,Bool.and_eq_true,decide_eq_true_eq,List.all_eq_true]at this;refine⟨this.1,fun k hk=> ?_⟩;rw[Ae _ 0 k hk];exact this.2 _ (List.getElem_mem hk)
 ·intro h l hl;obtain⟨i,hi,rfl⟩:=List.mem_iff_getElem.1 hl;have:=h i hi;rw[Ae ll [] i hi]at this;simp only[BG,Bool.and_eq_true,decide_eq_true_eq,List.all_eq_true];refine⟨this.1,fun x hx=> ?_⟩;obtain⟨k,hk,rfl⟩:=List.mem_iff_getElem.1 hx;have h2:=this.2 k hk;rw[Ae _ 0 k hk]at h2;exact h2
structure MyV(m:My):Prop where
 i1:1<=m.ins
 i2:m.ins<=64
 o1:1<=m.outs
 o2:m.outs<=64
 n:m.out.length<=3000
 s0:0<=m.start
 s1:m.start<m.out.length
 nl:m.next.length=m.out.length
 out:∀i,i<m.out.length->((m.out.getD i []).length:Int)=m.ins/\∀k,k<(m.out.getD i []).length->0<=(m.out.getD i []).getD k 0/\(m.out.getD i []).getD k 0<m.outs
 nxt:∀i,i<m.out.length->((m.next.getD i []).length:Int)=m.ins/\∀k,k<(m.next.getD i []).length->0<=(m.next.getD i []).getD k 0/\(m.next.getD i []).getD k 0<m.out.length
theorem Fd{m:My}:A5 m=true↔MyV m:=by
 simp only[A5,Bool.and_eq_true,Cf,Hy,decide_eq_true_eq]
 constructor
 ·rintro⟨⟨⟨⟨h1,h2,h3,h4,h5,h6,h7⟩,h8⟩,h9⟩,a⟩;exact⟨h1,h2,h3,h4,by omega,h6,h7,h8,h9,fun i hi=>a i (by omega)⟩
 ·intro h;exact⟨⟨⟨⟨h.i1,h.i2,h.o1,h.o2,by have:=h.n;omega,h.s0,h.s1⟩,h.nl⟩,h.out⟩,fun i hi=>h.nxt i (by have:=h.nl;omega)⟩
structure MoV(e:Mo):Prop where
 i1:1<=e.ins
 i2:e.ins<=64
 o1:1<=e.outs
 o2:e.outs<=64
 n:e.inn.length<=3000
 s0:0<=e.start
 s1:e.start<e.inn.length
 nl:e.next.length=e.inn.length
 inn:∀k,k<e.inn.length->0<=e.inn.getD k 0/\e.inn.getD k 0<e.ins
 nxt:∀i,i<e.inn.length->((e.next.getD i []).length:Int)=e.outs/\∀k,k<(e.next.getD i []).length->0<=(e.next.getD i []).getD k 0/\(e.next.getD i []).getD k 0<e.inn.length
theorem Fc{e:Mo}:Bw e=true↔MoV e:=by
 simp only[Bw,Bool.and_eq_true,Cf,Hy,decide_eq_true_eq]
 constructor
 ·rintro⟨⟨⟨⟨h1,h2,h3,h4,h5,h6,h7⟩,h8⟩,h9⟩,a⟩;exact⟨h1,h2,h3,h4,by omega,h6,h7,h8,(h9 0 (by simp)).2,fun i hi=>a i (by omega)⟩
 ·intro h;refine⟨⟨⟨⟨h.i1,h.i2,h.o1,h.o2,by have:=h.n;omega,h.s0,h.s1⟩,h.nl⟩,fun i hi=> ?_⟩,fun i hi=>h.nxt i (by have:=h.nl;omega)⟩
  obtain rfl:i=0:=by simp at hi;omega
  exact⟨rfl,h.inn⟩
end Go.Proofs.YtncjeamdkjcebaaGreatDoor
