/- Games: the two Valid, Small, Greatest, Part, Swap; rows of one's own. -/
import Derived.Test.YtncjeamdkjcebaaGreatDoorZArC
set_option linter.all false
namespace Go.Proofs.YtncjeamdkjcebaaGreatDoor
open Go.RowKit
open Go Go.RowKit
theorem Bl.push{w w':World}{B n ob:Nat}{vals:List Value}{bf:List (List Int)}{v':Value}{u:Nat}{l:List Int}(h:Bl w B n ob vals bf)(hu:u<n)(hv:OI w' B v' l)(hg:w.grownBy w' (vals.getD u undef).ownBlock)(hm:A7 w (vals.getD u undef) v'):
  w'.cell? ⟨ob,u,none⟩=some (vals.getD u undef)/\w'.frozen? ⟨ob,u,none⟩=false/\Bl (w'.setCell ⟨ob,u,none⟩ v') B n ob (vals.set u v') (bf.set u l):=by
 have ho1:Ag (fun k=>(vals.getD u undef).ownBlock=some k) w w':=Ag.of_grown hg;have ho:w'.ownsRow B 26 1 (.slice (some ⟨ob,0,none⟩) n n) n vals:=Ax h.o ho1 (fun k hk=>by cases hk;exact h.ob' u hu)
 have hfresh:∀b,v'.ownBlock=some b->b≠ob:=fun b hb=>by
  rcases hm b hb with e|e
  ·exact fun x=>h.ob' u hu (x▸e)
  ·have hr:=h.row.2;omega
 have ho2:Ag (fun k=>k=ob) w' (w'.setCell ⟨ob,u,none⟩ v'):=Ag.set ob u v' rfl
 have hlv:u<vals.length:=by rw[h.lv];exact hu
 have hlr:u<bf.length:=by rw[h.lr];exact hu
 refine⟨?_,World.ownsRow.frozenAt ho u,⟨(World.ownsRow.stored ho u v').1,fun j hj=> ?_,fun i j hi hj hij=> ?_,fun j hj=> ?_,by simpa using h.lv,by simpa using h.lr⟩⟩
 ·rw[World.ownsRow.cellAt ho u (by omega),List.getD];simp[hlv]
 ·by_cases e:u=j
  ·subst e;rw[AA _ _ _ _ hlv,AA _ _ _ _ hlr];exact hv.only ho2 (fun k hk x=>hfresh k hk x)
  ·rw[AJ _ _ _ _ _ e,AJ _ _ _ _ _ e];exact((h.e j hj).only ho1 (fun k hk x=>h.a u j hu hj e k x hk)).only ho2 (fun k hk x=>h.ob' j hj (x▸hk))
 ·have aux:∀j,j<n->u≠j->AQ v' (vals.getD j undef):=fun j hj e k h1 h2=>by
   rcases hm k h1 with x|x
   ·exact h.a u j hu hj e k x h2
   ·have:=(h.e j hj).lt' k h2;omega
  by_cases e:u=i
  ·subst e;rw[AA _ _ _ _ hlv,AJ _ _ _ _ _ hij];exact aux j hj hij
  ·by_cases e2:u=j
   ·subst e2;rw[AA _ _ _ _ hlv,AJ _ _ _ _ _ e];exact(aux i hi e).symm
   ·rw[AJ _ _ _ _ _ e,AJ _ _ _ _ _ e2];exact h.a i j hi hj hij
 ·by_cases e:u=j
  ·subst e;rw[AA _ _ _ _ hlv]
   exact fun x=>hfresh ob x rfl
  ·rw[AJ _ _ _ _ _ e];exact h.ob' j hj
theorem RO(g:Gm)(i:Nat):okB g i=true↔(0<=g.owner.getD i 0/\g.owner.getD i 0<=1)/\(0<=g.prio.getD i 0/\g.prio.getD i 0<=30000)/\g.succ.getD i []≠[]/\∀x∈g.succ.getD i [],0<=x/\x<g.owner.length:=by
 unfold okB inB;simp only[Bool.and_eq_true,decide_eq_true_eq,List.all_eq_true,Bool.not_eq_true',List.isEmpty_eq_false_iff]
 constructor
 ·rintro⟨⟨⟨a,b⟩,c⟩,d⟩;exact⟨a,b,c,fun x hx=>⟨(d x hx).1,by have:=(d x hx).2;omega⟩⟩
 ·rintro⟨a,b,c,d⟩;exact⟨⟨⟨a,b⟩,c⟩,fun x hx=>⟨(d x hx).1,by have:=(d x hx).2;omega⟩⟩
theorem GH{g:Gm}(h:B9 g=true)(i:Nat)(hi:i<g.owner.length):(0<=g.owner.getD i 0/\g.owner.getD i 0<=1)/\(0<=g.prio.getD i 0/\g.prio.getD i 0<=30000)/\g.succ.getD i []≠[]/\∀x∈g.succ.getD i [],0<=x/\x<g.owner.length:=by
 obtain⟨a,b,c⟩:=DV h;exact(RO g i).1 ((M3 g a b c).1 h i hi)
section
variable {P:Program} {ops:Array Oper} {Q:Exit->Act->World->Prop} {md:Region.Mode}
def EQ(md:Region.Mode)(ops:Array Oper):Bool:=(List.range ops.size).all fun i=>match ops[i]? with|some o=>o.after.toList.all (fun e=> !Region.binds md e||decide (e.on<i))|none=>true
theorem Mj(h:EQ md ops=true){i:Nat}{o:Oper}(hi:ops[i]? =some o):∀e∈o.after,Region.binds md e=true->e.on<i:=by
 intro e he hb;have:=List.all_eq_true.1 h i (List.mem_range.2 (ltE hi));rw[hi]at this;have:=List.all_eq_true.1 this e (by simpa using he);rw[hb]at this;simpa using this
theorem CN(h:EQ md ops=true){listed:Array Bool}(hs:listed.size=ops.size)(hr:Region.ready md ops listed=[]):∀i,i<ops.size->listed.getD i false=true:=by
 intro i
 induction i using Nat.strongRecOn with
 | _ i ih=>
  intro hi
  cases hl:listed.getD i false with
  |true=>rfl
  |false=>
   have hi2:i<listed.size:=by omega
   have hm:i∈Region.ready md ops listed:=by
    refine mem_ready.2 ⟨?_,ops[i],by simp[hi],fun e he hb=> ?_⟩
    ·simp[Array.getD,hi2]at hl⊢;exact hl
    ·have hlt:=Mj h (i:=i) (o:=ops[i]) (by simp[hi]) e he hb;exact ih e.on hlt (by omega)
   rw[hr]at hm
   cases hm
def Nd(R:Nat->Value->World->Prop)(w:World)(listed:Array Bool)(vs:Nat->Value)(W:World):Prop:=
 Below w.heap.size w W/\∀i,listed.getD i false=true->R i (vs i) W
def upd(vs:Nat->Value)(i:Nat)(v:Value):Nat->Value:=fun j=>if j=i then v else vs j
def JZ(P:Program)(Q:Exit->Act->World->Prop)(ops:Array Oper)(R:Nat->Value->World->Prop)(A:(Nat->Value)->Act)(w:World)(i:Nat)(o:Oper):Prop:=
 ∀(vs:Nat->Value)(W:World)(K:Act->World->Prop),Below w.heap.size w W->(∀e∈o.after,Region.binds .any e=true->R e.on (vs e.on) W)->
  (∀v W',Below W.heap.size W W'->R i v W'->K (A (upd vs i v)) W')->
  if Region.wanted o (yielded ops (A vs).tmps)=true then Oper.wp P o (A vs) W K Q else K ((A vs).put o.dst undef) W
theorem CV{l:Array Bool}{i:Nat}(h:l.getD i true=false):i<l.size/\l.toList[i]? =some false:=by
 rcases Nat.lt_or_ge i l.size with hi|hi
 ·refine⟨hi, ?_⟩;simp[Array.getD,hi]at h;simp[hi,h]
 ·simp[Array.getD,Nat.not_lt.2 hi]at h
theorem DP{l:Array Bool}{i n:Nat}(h:l.getD i true=false)(hc:l.toList.count false<=n+1):(l.setIfInBounds i true).toList.count false<=n:=by
 obtain⟨h1,h2⟩:=CV h
 have h3:i<l.toList.length:=by simpa using h1
 have h4:l.toList[i]=false:=by
  rw[List.getElem?_eq_getElem h3]at h2;exact Option.some.inj h2
 rw[Array.toList_setIfInBounds,List.count_set h3,h4];simp only[BEq.rfl,if_true,show(true==false)=false from rfl,Bool.false_eq_true,if_false];omega
theorem IP(R:Nat->Value->World->Prop)(A:(Nat->Value)->Act){w:World}(hb:EQ .any ops=true)(hR:∀i v W W',R i v W->Below W.heap.size W W'->R i v W')
  (hstep:∀i o,ops[i]? =some o->JZ P Q ops R A w i o)
  (hfin:∀vs W,Below w.heap.size w W->(∀i,i<ops.size->R i (vs i) W)->Q .normal (A vs) W):
  ∀(fuel:Nat)(listed:Array Bool)(vs:Nat->Value)(W:World),listed.size=ops.size->listed.toList.count false<=fuel->Nd R w listed vs W->wpAny P .any ops Q fuel listed (A vs) W
 |0,listed,vs,W,hs,hc,hinv=>by
  have hno:∀j,¬listed.getD j true=false:=fun j h=>by
   obtain⟨_,h2⟩:=CV h;have:0<listed.toList.count false:=List.count_pos_iff.2 (List.mem_of_getElem? h2);omega
  have hr:Region.ready .any ops listed=[]:=List.eq_nil_iff_forall_not_mem.2 fun j hj=>hno j (mem_ready.1 hj).1
  exact⟨hr,hfin vs W hinv.1 fun i hi=>hinv.2 i (CN hb hs hr i hi)⟩
 |fuel+1,listed,vs,W,hs,hc,hinv=>by
  refine⟨fun hr=>hfin vs W hinv.1 fun i hi=>hinv.2 i (CN hb hs hr i hi),fun i hi=> ?_⟩;obtain⟨hl,o,ho,hall⟩:=mem_ready.1 hi
  refine wpOp_step ho fun K hK=> ?_
  refine hstep i o ho vs W K hinv.1 (fun e he hbd=>hinv.2 _ (hall e he hbd)) fun v W' hbl hr=>hK _ _ ?_
  refine IP R A hb hR hstep hfin fuel _ (upd vs i v) W' (by simpa using hs) (DP hl hc) ⟨hinv.1.trans (hbl.mono hinv.1.size),fun j hj=> ?_⟩
  by_cases hji:j=i
  ·subst hji;simpa[upd]using hr
  ·have hj':listed.getD j false=true:=by
    have:(listed.setIfInBounds i true).getD j false=listed.getD j false:=by
     simp[Array.getD_eq_getD_getElem?,Ne.symm hji]
    rwa [this]at hj
   simp only[upd,if_neg hji];exact hR j _ W W' (hinv.2 j hj') hbl
theorem AB{id:Nat}{a:Act}{w:World}(hm:P.follows .mixedOrders=true)(R:Nat->Value->World->Prop)(A:(Nat->Value)->Act)(vs:Nat->Value)(ha:a=A vs)(hb:EQ .any ops=true)
  (hR:∀i v W W',R i v W->Below W.heap.size W W'->R i v W')
  (hstep:∀i o,ops[i]? =some o->JZ P Q ops R A w.drew i o)
  (hfin:∀vs W,Below w.drew.heap.size w.drew W->(∀i,i<ops.size->R i (vs i) W)->Q .normal (A vs) W):(Code.region id ops true).wp P Q a w:=by
 subst ha;refine wp_region_any hm (IP R A hb hR hstep hfin ops.size _ vs w.drew (by simp) ?_ ⟨Ad,fun i hi=> ?_⟩)
 ·simp
 ·exfalso
  rcases Nat.lt_or_ge i ops.size with h|h
  ·simp[Array.getD,h]at hi
  ·simp[Array.getD,Nat.not_lt.2 h]at hi
def Hf(ops:Array Oper)(m:Nat):Bool:=decide (ops.size=m+1)&&match ops[m]? with|some o=>(List.range m).all (fun j=>o.after.toList.any fun e=>Region.binds .any e&&e.on==j)|none=>false
theorem Fs{listed:Array Bool}(h:∀i,i<ops.size->listed.getD i false=true):Region.ready md ops listed=[]:=
 List.eq_nil_iff_forall_not_mem.2 fun j hj=>by
  obtain⟨h1,o,ho,_⟩:=mem_ready.1 hj;have hj2:=(ltE ho);have h2:=h j hj2;obtain⟨h3,_⟩:=CV h1;simp[Array.getD,h3]at h1 h2;rw[h1]at h2;cases h2
theorem M7{listed:Array Bool}{a:Act}{w:World}(h:∀i,i<ops.size->listed.getD i false=true)(hQ:Q .normal a w):∀fuel,wpAny P md ops Q fuel listed a w
 |0=>⟨Fs h,hQ⟩
 | _+1=>⟨fun _=>hQ,by rw[Fs h];simp⟩
def Pd(P:Program)(Q:Exit->Act->World->Prop)(ops:Array Oper)(R:Nat->Value->World->Prop)(A:(Nat->Value)->Act)(w:World)(m:Nat)(o:Oper):Prop:=
 ∀(vs:Nat->Value)(W:World)(K:Act->World->Prop),Below w.heap.size w W->(∀i,i<m->R i (vs i) W)->(∀a' W',Q .normal a' W'->K a' W')->
  if Region.wanted o (yielded ops (A vs).tmps)=true then Oper.wp P o (A vs) W K Q else K ((A vs).put o.dst undef) W
theorem Ll(R:Nat->Value->World->Prop)(A:(Nat->Value)->Act){w:World}(m:Nat)(hb:EQ .any ops=true)(hl:Hf ops m=true)(hR:∀i v W W',R i v W->Below W.heap.size W W'->R i v W')
  (hstep:∀i o,i<m->ops[i]? =some o->JZ P Q ops R A w i o) (hlast:∀o,ops[m]? =some o->Pd P Q ops R A w m o):
  ∀(fuel:Nat)(listed:Array Bool)(vs:Nat->Value)(W:World),listed.size=ops.size->listed.toList.count false<=fuel->listed.getD m false=false->Nd R w listed vs W->wpAny P .any ops Q fuel listed (A vs) W
 |0,listed,vs,W,hs,hc,hm,hinv=>by
  simp only[Hf,Bool.and_eq_true,decide_eq_true_eq]at hl
  have h1:listed.getD m true=false:=by
   have:m<listed.size:=by omega
   simp[Array.getD,this]at hm⊢;exact hm
  obtain⟨_,h2⟩:=CV h1;have:0<listed.toList.count false:=List.count_pos_iff.2 (List.mem_of_getElem? h2);omega
 |fuel+1,listed,vs,W,hs,hc,hm,hinv=>by
  have hl':=hl;simp only[Hf,Bool.and_eq_true,decide_eq_true_eq]at hl';obtain⟨hsz,hla⟩:=hl';refine⟨fun hr=> ?_,fun i hi=> ?_⟩
  ·have:=CN hb hs hr m (by omega);rw[hm]at this;cases this
  ·obtain⟨hli,o,ho,hall⟩:=mem_ready.1 hi;have hilt:=(ltE ho)
   have hset:∀j,j≠i->(listed.setIfInBounds i true).getD j false=listed.getD j false:=fun j hj=>by
    simp[Array.getD_eq_getD_getElem?,Ne.symm hj]
   by_cases him:i=m
   ·subst him;rw[ho]at hla
    have hothers:∀j,j<i->listed.getD j false=true:=fun j hj=>by
     have:=List.all_eq_true.1 hla j (List.mem_range.2 hj);obtain⟨e,he,h2⟩:=List.any_eq_true.1 this;simp only[Bool.and_eq_true,beq_iff_eq]at h2;obtain⟨h3,rfl⟩:=h2;exact hall e (by simpa using he) h3
    refine wpOp_step ho fun K hK=> ?_
    refine hlast o ho vs W K hinv.1 (fun j hj=>hinv.2 j (hothers j hj)) fun a' W' hQ=>hK _ _ (M7 (fun j hj=> ?_) hQ fuel)
    by_cases hji:j=i
    ·subst hji
     have:j<listed.size:=by omega
     simp[Array.getD,this]
    ·rw[hset j hji];exact hothers j (by omega)
   ·refine wpOp_step ho fun K hK=> ?_
    refine hstep i o (by omega) ho vs W K hinv.1 (fun e he hbd=>hinv.2 _ (hall e he hbd)) fun v W' hbl hr=>hK _ _ ?_
    refine Ll R A m hb hl hR hstep hlast fuel _ (upd vs i v) W' (by simpa using hs) (DP hli hc) (by rw[hset m (Ne.symm him)];exact hm) ⟨hinv.1.trans (hbl.mono hinv.1.size),fun j hj=> ?_⟩
    by_cases hji:j=i
    ·subst hji;simpa[upd]using hr
    ·rw[hset j hji]at hj;simp only[upd,if_neg hji];exact hR j _ W W' (hinv.2 j hj) hbl
theorem Ci{id:Nat}{a:Act}{w:World}(hm:P.follows .mixedOrders=true)(R:Nat->Value->World->Prop)(A:(Nat->Value)->Act)(vs:Nat->Value)(m:Nat)(ha:a=A vs)(hb:EQ .any ops=true)(hl:Hf ops m=true)
  (hR:∀i v W W',R i v W->Below W.heap.size W W'->R i v W')
  (hstep:∀i o,i<m->ops[i]? =some o->JZ P Q ops R A w.drew i o) (hlast:∀o,ops[m]? =some o->Pd P Q ops R A w.drew m o):(Code.region id ops true).wp P Q a w:=by
 subst ha
 have hnone:∀i,(Array.replicate ops.size false).getD i false=false:=fun i=>by
  rcases Nat.lt_or_ge i ops.size with h|h
  ·simp[Array.getD,h]
  ·simp[Array.getD,Nat.not_lt.2 h]
 refine wp_region_any hm (Ll R A m hb hl hR hstep hlast ops.size _ vs w.drew (by simp) (by simp) (hnone m) ⟨Ad,fun i hi=> ?_⟩);rw[hnone i]at hi;cases hi
theorem Ac{o:Oper}{R:Nat->Value->World->Prop}{vs:Nat->Value}{W:World}(hD:∀e∈o.after,Region.binds .any e=true->R e.on (vs e.on) W)(j:Nat)(h:(o.after.toList.any fun e=>Region.binds .any e&&e.on==j)=true):R j (vs j) W:=by
 obtain⟨e,he,h2⟩:=List.any_eq_true.1 h;simp only[Bool.and_eq_true,beq_iff_eq]at h2;obtain⟨h3,rfl⟩:=h2;exact hD e (by simpa using he) h3
def TV(ops:Array Oper)(listed:Array Bool):Prop:=∀j o,listed.getD j false=true->ops[j]? =some o->∀e∈o.after,Region.binds .any e=true->listed.getD e.on false=true
end
theorem Ps{ops:Array Oper}{rest:List Oper}{o:Oper}{a:Act}{Q:Exit->Act->World->Prop}{w:World}(hgd:o.guard=none)(s x:Operand)
  (ho:o.op=.call {callee:=.builtin .append,args:=#[s,x],argTypes:=#[26,26]})
  (base:Nat) (v v2:Value) (l l2:List Int) (hown:OI w base v l) (hs:a.eval s=v) (hsrc:Ai w v2 l2) (hx:a.eval x=v2)
  (hn:l.length+l2.length<=17592186043904) (hbase:base<=w.heap.size)
  (h:∀v' w',OI w' base v' (l++l2)->w.grownBy w' v.ownBlock->A7 w v v'->wpList Tryz.prog ops Q rest (a.put o.dst v') w'):
  wpList Tryz.prog ops Q (o::rest) a w:=by
 obtain⟨⟨ao,cap,b,off,rfl,hsrc⟩,-⟩:=hsrc
 refine L5 hgd s x _ _ 8 _ ho Tryz.underlying26 C5 rfl base v l.length _ hs hown ao cap b off l2.length (ivF l2) hx hsrc (fun _=>rfl) (by omega) (by decide) hbase fun v' w' h1 h2 h3=>h v' w' ?_ h2 h3
 have e:(List.range l2.length).map (ivF l2)=l2.map (Value.int .i64):=by
  apply List.ext_getElem (by simp)
  intro j h1 h2
  have:j<l2.length:=by simpa using h1
  simp[ivF,this]
 rw[e]at h1;unfold OI;simpa using h1
theorem Fr.cells{w wr:World}{x y z:Value}(h:Fr w wr #[x,y,z]):(wr.cell? ⟨w.heap.size,0,none⟩=some x/\wr.cell? ⟨w.heap.size,1,none⟩=some y/\wr.cell? ⟨w.heap.size,2,none⟩=some z)/\wr.frozen? ⟨w.heap.size,0,none⟩=false/\wr.frozen? ⟨w.heap.size,1,none⟩=false/\wr.frozen? ⟨w.heap.size,2,none⟩=false:=
 ⟨⟨h.bx.cell 0 rfl,h.bx.cell 1 rfl,h.bx.cell 2 rfl⟩,Ay 0 h.bx.bx,Ay 1 h.bx.bx,Ay 2 h.bx.bx⟩
theorem Fr.res{w wr:World}{cs:Array Value}(h:Fr w wr cs):(wr.cell? ⟨w.heap.size+1,0,none⟩=some (.slice none 0 0)/\wr.cell? ⟨w.heap.size+1,1,none⟩=some (.slice none 0 0)/\wr.cell? ⟨w.heap.size+1,2,none⟩=some (.slice none 0 0))/\wr.frozen? ⟨w.heap.size+1,0,none⟩=false/\wr.frozen? ⟨w.heap.size+1,1,none⟩=false/\wr.frozen? ⟨w.heap.size+1,2,none⟩=false:=
 ⟨⟨Aa 0 h.rc,Aa 1 h.rc,Aa 2 h.rc⟩,Ay 0 h.rc,Ay 1 h.rc,Ay 2 h.rc⟩
theorem Hk{o:Oper}{a:Act}{K:Act->World->Prop}{Q:Exit->Act->World->Prop}(w:World)(s x:Operand)
  (ho:o.op=.call {callee:=.builtin .append,args:=#[s,x],argTypes:=#[26,26]})
  (base:Nat) (v v2:Value) (l l2:List Int) (hs:a.eval s=v) (hown:OI w base v l) (hx:a.eval x=v2) (hsrc:Ai w v2 l2)
  (hn:l.length+l2.length<=17592186043904) (hbase:base<=w.heap.size)
  (h:∀v' w',OI w' base v' (l++l2)->w.grownBy w' v.ownBlock->K (a.put o.dst v') w'):Oper.wp Tryz.prog o a w K Q:=by
 obtain⟨i,hi,hz0,hz1,hz2⟩:=info_parts C5;obtain⟨⟨ao,cap,b,off,rfl,g⟩,-⟩:=hsrc
 have e:(List.range l2.length).map (ivF l2)=l2.map (Value.int .i64):=by
  apply List.ext_getElem (by simp)
  intro j h1 h2
  have:j<l2.length:=by simpa using h1
  simp[ivF,this]
 cases ao with
 |none=>
  have hm0:l2.length=0:=by rcases Nat.eq_zero_or_pos l2.length with h0|h0;exact h0;have:=g.ad h0;cases this
  have hl2:=List.eq_nil_of_length_eq_zero hm0;subst hl2;obtain rfl:=g.nc rfl;have hrun:=run_append_owned_none (P:=Tryz.prog) (w:=w) base 26 o.type 3 i 1 Tryz.underlying26 hi v l.length _ hown;unfold Oper.wp execOp;simp only[ho,resolve,invoke,builtin,Sem.run_bind,Sem.run_pure,Result.andThen_ok,List.map_toArray,List.map_cons,List.map_nil,hs,hx];simp only[List.length_nil,hrun];exact h _ _ (by simpa using hown) (FV _ _)
 |some ad=>
  obtain⟨v',w',hr,h2,h3,h4⟩:=run_append_own (P:=Tryz.prog) w base 26 o.type 3 i _ 1 8 Tryz.underlying26 hi hz0 hz1 hz2 rfl (by decide) v l.length _ hown ad l2.length cap ((List.range l2.length).map (ivF l2)) (by simp) (by
   intro j u hj
   have hjm:j<l2.length:=by
    rcases Nat.lt_or_ge j l2.length with h|h
    ·exact h
    ·simp[Nat.not_lt.2 h]at hj
   have hadd:=g.ad (by omega);simp only[Option.some.injEq]at hadd;subst hadd
   have:ivF l2 j=u:=by simpa[hjm]using hj
   subst this;have h2:=g.el j hjm;unfold Addr.add
   split
   ·subst j;exact h2
   ·exact h2) (by
   intro u hu;obtain⟨j,_,rfl⟩:=List.mem_map.1 hu
   rfl) (by simp only[maxLen];omega) (by omega) hbase
  unfold Oper.wp execOp;simp only[ho,resolve,invoke,builtin,Sem.run_bind,Sem.run_pure,Result.andThen_ok,List.map_toArray,List.map_cons,List.map_nil,hs,hx,hr];refine h _ _ ?_ h3;unfold OI;rw[e]at h2;simpa using h2
theorem M8{o:Oper}{a:Act}{K:Act->World->Prop}{Q:Exit->Act->World->Prop}(w:World)(s x:Operand)(u:Value)
  (ho:o.op=.call {callee:=.builtin .append,args:=#[s,x],argTypes:=#[23,23]})
  (base:Nat) (v:Value) (n:Nat) (l:List Value) (hs:a.eval s=v) (hown:w.ownsRow base 26 1 v n l) (hx:a.eval x=.slice (some ⟨w.heap.size,0,none⟩) 1 1) (hu:u.oneCell'=true)
  (hn:n<5864062014000) (hbase:base<=w.heap.size)
  (h:∀v' w',w'.ownsRow base 26 1 v' (n+1) (l++[u])->w.grownBy w' v.ownBlock->A7 w v v'->K (a.put o.dst v') w'):
  Oper.wp Tryz.prog o a (w.alloc (.cells #[u] 26)) K Q:=by
 obtain⟨i0,hi0,hz0,hz1,hz2⟩:=info_parts DF;refine wp_append_lies _ s x _ ho base _ i0 _ 1 24 Tryz.underlying23 hi0 hz0 hz1 hz2 rfl (by decide) v n _ hs (hown.alloc _) ⟨w.heap.size,0,none⟩ 1 1 [u] hx rfl (World.news_of_block (cs:=#[u]) (t:=26) (fr:=(0,0)) (heap_alloc_new w _)) (by simpa using hu) (by omega) (by simp only[maxLen];omega) (by omega) (by simp;omega) (w.heap.size+1) (by simp) ?_;intro g cap w' h1 h2 h3 h4;refine h _ _ (by simpa using h1) ⟨h2.os,h2.tape,h2.output,by have:=h2.size;simp at this;omega,fun k hk hr=> ?_⟩ (fun k hk=> ?_)
 ·rw[h2.block k (by simp;omega) hr];exact Dt w _ hk
 ·obtain rfl:g=k:=by simpa[Value.ownBlock]using hk
  rcases h3 with e|e
  ·exact .inl e
  ·exact .inr (by omega)
theorem Lp{ops:Array Oper}{rest:List Oper}{o:Oper}{a:Act}{Q:Exit->Act->World->Prop}{w:World}(hgd:o.guard=none)(l c:Operand)(t:TypeId)(ht:Tryz.prog.underlying t=some (.slice 26))
  (ho:o.op=Op.makeSlice t l c) (base:Nat) (L:Int) (n:Nat) (hl:a.eval l=.int .i64 L) (hc:a.eval c=.int .i64 L) (hL:L=(n:Int)) (hn:n<=11728124028000) (hbase:base<=w.heap.size)
  (h:∀w',w'.ownsRow base 26 1 (.slice (some ⟨w.heap.size,0,none⟩) n n) n (List.replicate n (.slice none 0 0))->w.grownBy w' none->wpList Tryz.prog ops Q rest (a.put o.dst (.slice (some ⟨w.heap.size,0,none⟩) n n)) w'):
  wpList Tryz.prog ops Q (o::rest) a w:=
 Ga hgd l c t _ 24 _ ho ht DF rfl base L n hl hc hL (by omega) (by omega) hbase h
theorem Bl.is{w:World}{B n ob:Nat}{vals:List Value}{rows:List (List Int)}(h:Bl w B n ob vals rows)(hn:n<=3000)(hl:∀j,j<n->(rows.getD j []).length<=3000/\∀x∈rows.getD j [],I64 x):Ar w (.slice (some ⟨ob,0,none⟩) n n) rows:=by
 have hlr:=h.lr;refine⟨fun j=>vals.getD j undef, ?_,fun j hj=>(h.e j (by omega)).is (by have:=(hl j (by omega)).1;unfold Bk;omega) (hl j (by omega)).2⟩;rw[hlr]
 refine Ch h.o (by unfold Bk;omega) _ fun j hj=> ?_
 have:j<vals.length:=by rw[h.lv];exact hj
 rw[Af _ _ _ this];simp[this]
end Go.Proofs.YtncjeamdkjcebaaGreatDoor
