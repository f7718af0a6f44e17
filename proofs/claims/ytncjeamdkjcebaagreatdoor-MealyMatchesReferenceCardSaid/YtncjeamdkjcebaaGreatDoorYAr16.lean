/- The marks that a range over a function leave. -/
import Derived.Test.YtncjeamdkjcebaaGreatDoorYMyB5
set_option linter.all false
set_option maxRecDepth 100000
namespace Go.Proofs.YtncjeamdkjcebaaGreatDoor
open Go.RowKit Go.Shelf Go.Maps Go.WideMaps
def BZ(n₁:Nat)(ds:List Deferred)(w:World):Prop:=(∀d∈ds,∃D,d={target:=.collected D,args:=#[]}/\n₁<=D/\w.heap[D]? =some (.deferred (some [])))/\ds.Pairwise (fun d e=>d≠e)
theorem BZ.nil(n₁:Nat)(w:World):BZ n₁ [] w:=⟨(fun d hd=>absurd hd (by simp)),List.Pairwise.nil⟩
theorem BZ.keeps{n₁:Nat}{ds:List Deferred}{w w':World}(h:BZ n₁ ds w)(hk:KeepsFrom n₁ w w'):BZ n₁ ds w':=
 ⟨fun d hd=>by obtain⟨D,h1,h2,h3⟩:=h.1 d hd;exact⟨D,h1,h2,hk.same D _ h2 h3 rfl⟩,h.2⟩
theorem BZ.lt{n₁:Nat}{ds:List Deferred}{w:World}(h:BZ n₁ ds w){D:Nat}{ar:Array Value}(hd:({target:=.collected D,args:=ar}:Deferred)∈ds):D<w.heap.size:=by
 obtain⟨D',h1,h2,h3⟩:=h.1 _ hd;simp only[Deferred.mk.injEq,Target.collected.injEq]at h1;obtain⟨rfl,-⟩:=h1;exact(ltE h3)
theorem BZ.own{n₁ n₂:Nat}{ds:List Deferred}{w0 w w':World}{row:Option Nat}(h0:BZ n₁ ds w0)(hs:w0.heap.size<=n₂)(h:BZ n₁ ds w)(hg:w.grownBy w' row)(hr:∀r,row=some r->n₂<=r):BZ n₁ ds w':=
 ⟨fun d hd=>by
  obtain⟨D,h1,h2,h3⟩:=h.1 d hd;refine⟨D,h1,h2,(hg.block D (ltE h3) (fun e=> ?_)).trans h3⟩;have h4:=hr D e.symm;subst h1;have:=h0.lt hd
  omega,h.2⟩
theorem BZ.cons{n₁:Nat}{ds:List Deferred}{w0 w:World}{D:Nat}(h0:BZ n₁ ds w0)(h:BZ n₁ ds w)(h1:n₁<=D)(h2:w0.heap.size<=D)(hD:w.heap[D]? =some (.deferred (some []))):BZ n₁ ({target:=.collected D,args:=#[]}::ds) w:=
 ⟨fun d hd=>by
  rcases List.mem_cons.1 hd with rfl|hd
  ·exact⟨D,rfl,h1,hD⟩
  ·exact h.1 d hd,List.pairwise_cons.2 ⟨fun e he=>by
   rintro rfl;have:=h0.lt he
   omega,h.2⟩⟩
theorem E6{F:Fence}{n:Nat}{P:Program}{fn:Func}{a:Array Value}{R:Ending->World->Prop}{n₁:Nat}:∀(ds:List Deferred)(w:World),BZ n₁ ds w->
  (∀w',Below n₁ w w'->(∀(k:Nat)(o:Obj),w.heap[k]? =some o->o.isCells=true->w'.heap[k]? =some o)->LeavesInM F n P fn a R [] .returning w')->LeavesInM F n P fn a R ds .returning w
 |[],w,_,h=>h w Ad (fun _ _ hk _=>hk)
 |d::ds,w,hm,h=>by
  obtain⟨D,rfl,h2,h3⟩:=hm.1 d (by simp);refine⟨by simp,.inl ⟨D,_,rfl,run_takeDeferred h3, ?_⟩⟩;have hb:Below n₁ w (w.putObj D (.deferred none)):=(Below.refl n₁ w).grown (grownBy_putObj' w D _) (by have:=(ltE h3);omega) (fun k e=>by cases e;omega)
  refine E6 (n₁:=n₁) ds _ ⟨fun d hd=> ?_,(List.pairwise_cons.1 hm.2).2⟩ fun w' h4 h5=>h w' (hb.trans h4) fun k o hk ho=>h5 k o ?_ ho
  ·obtain⟨D',e1,e2,e3⟩:=hm.1 d (List.mem_cons_of_mem _ hd);refine⟨D',e1,e2, ?_⟩
   have:D≠D':=by
    rintro rfl;exact(List.pairwise_cons.1 hm.2).1 d hd e1.symm
   exact(World.putObj_heap_other (Ne.symm this)).trans e3
  ·have:D≠k:=by
    rintro rfl;rw[h3]at hk;cases hk;cases ho
   exact(World.putObj_heap_other (Ne.symm this)).trans hk
structure LR(a:Au)(T:List (List Int))(most:Nat)(x0:UE)(B n₁ zg zp zm zn:Nat)(w9:World)(n' k:Nat)(pls:List UE)(ds:List Deferred)(v0 v1 v2 vp:Value)(vals:List Value)(w':World):Prop where
 gh:n'=most-k
 ap:AtP (AZ a T) most x0 k pls
 bo:BO w' B zg zp zm zn v0 v1 v2 vp vals (C0 (AZ a T) (AU a) pls k) pls
 bl:Below B w9 w'
 ok:∀y∈pls,Ij a T y/\PlW y
 mks:BZ n₁ ds w'
 n1:n₁<=w'.heap.size
theorem QP{w:World}{b:Nat}{y:UE}(hy:WfP y)(h:w.ownsMap Tryz.prog 108 (plainElem Tryz.prog 3) b 1 ((.map []:DataW Unit).put (klP y) (.lit (.int .i64 0)))):CB w b [y]:=
 CB.put (l:=[]) isMap_empty hy (by simp) (fun z _=>by simp[Maps.has]) (fun z _ hz=>by simp at hz) h
theorem OO{S:UE->List UE}{top:Int}{l e:List UE}{k:Nat}(hk:k<=l.length)(hc:∀j,j<k->∀(h2:j<l.length),∀y∈S l[j],y∈l):C0 S top (l++e) k=C0 S top l k:=by
 unfold C0;rw[List.take_append_of_le_length hk]
 congr 1
 refine List.map_congr_left fun x hx=>JW fun y hy=> ?_
 obtain⟨j,hj,rfl⟩:=List.getElem_of_mem hx;rw[List.length_take]at hj;rw[List.getElem_take]at hy;exact hc j (by omega) (by omega) y hy
theorem OR{S:UE->List UE}{top:Int}{l:List UE}{k:Nat}(hk:k<l.length):C0 S top l (k+1)=⟨(C0 S top l k).owner++[Ex l[k]],(C0 S top l k).prio++[Ey top l[k]],(C0 S top l k).succ++[Dj l (S l[k])]⟩:=by
 unfold C0;rw[List.take_succ_eq_append_getElem hk];simp only[List.map_append,List.map_cons,List.map_nil]
def DE(S:List UE)(pre:List (Fin S.length)):List UE:=pre.map fun x=>S[x]
theorem JL(S:List UE)(pre:List (Fin S.length))(x:Fin S.length):DE S (pre++[x])=DE S pre++[S[x]]:=by simp[DE]
theorem JM(S:List UE)(k:Nat):DE S ((CT S.length).take k)=S.take k:=by
 apply List.ext_getElem (by simp[DE,Co])
 intro i h1 h2;simp[DE,CT]
theorem Qn(S:List UE):DE S (CT S.length)=S:=by
 have:=JM S S.length
 rwa [List.take_of_length_le (by rw[Co];exact Nat.le_refl _),List.take_length]at this
theorem Qo(S:List UE)(pre:List (Fin S.length)):(DE S pre).length=pre.length:=by simp[DE]
structure INV(most B n₁ z zp zm zn zS Bp Bb:Nat)(v0 v1 v2:Value)(vals:List Value)(gm:Gm)(pls S:List UE)(ds:List Deferred)(w9:World)(pre:List (Fin S.length))(vp vS:Value)(W:World):Prop where
 bi:BI W B z zp zm zn zS Bp Bb v0 v1 v2 vp vS vals gm (BL pls (DE S pre)) (BL pls (DE S pre)) (Dj (BL pls (DE S pre)) (DE S pre))
 le:(BL pls (DE S pre)).length<=most
 bl:Below B w9 W
 mks:BZ n₁ ds W
 n1:n₁<=W.heap.size
def TU(most B n₁ z zp zm zn zS Bp Bb:Nat)(v0 v1 v2:Value)(vals:List Value)(gm:Gm)(pls S:List UE)(ds:List Deferred)(w9:World)(pre:List (Fin S.length))(W:World):Prop:=
 ∃vp vS,INV most B n₁ z zp zm zn zS Bp Bb v0 v1 v2 vals gm pls S ds w9 pre vp vS W
structure IXV(most n₁ h:Nat)(pls S:List UE)(ds:List Deferred)(w:World)(c:Code)(pre:List (Fin S.length))(W:World):Prop where
 ret:c=.ret
 gt:most<(BL pls (DE S pre)).length
 r1:W.heap[h+1+1]? =some (.cells #[.slice none 0 0,.slice none 0 0,.slice none 0 0] 65 (0,0))
 r2:W.heap[h+1+1+1]? =some (.cells #[.slice none 0 0] 66 (0,0))
 r3:W.heap[h+1+1+1+1]? =some (.cells #[.int .i64 2] 39 (0,0))
 bl:Below w.heap.size w W
 mks:BZ n₁ ds W
theorem JE{B n₂:Nat}{w9 W W':World}{row:Option Nat}(h:Below B w9 W)(hB:B<=n₂)(hs:B<=w9.heap.size)(hg:W.grownBy W' row)(hr:∀r,row=some r->n₂<=r):Below B w9 W':=
 h.grown hg (Nat.le_trans hs h.size) (fun k e=>Nat.le_trans hB (hr k e))
theorem INV.own{a B n₁ z zp zm zn zS Bp Bb:Nat}{v0 v1 v2:Value}{vals:List Value}{gm:Gm}{b S:List UE}{ds:List Deferred}{w9 w1:World}(h0:BZ n₁ ds w1)(hm:zm<w1.heap.size)(hB:B<=w1.heap.size)(hs:B<=w9.heap.size):
  OwnFrom w1.heap.size (TU a B n₁ z zp zm zn zS Bp Bb v0 v1 v2 vals gm b S ds w9):=fun _ _ _ _ ⟨vp,vS,h⟩ hg hr=>
 ⟨vp,vS,{bi:=h.bi.own hg hm hr,le:=h.le,bl:=JE h.bl hB hs hg (fun r e=>(hr r e).1),mks:=BZ.own h0 leR h.mks hg (fun r e=>(hr r e).1),n1:=Nat.le_trans h.n1 hg.size}⟩
theorem IXV.own{a n₁ h:Nat}{b S:List UE}{ds:List Deferred}{w w1:World}(h0:BZ n₁ ds w1)(hB:w.heap.size<=w1.heap.size)(c:Code):
  OwnFrom w1.heap.size (IXV a n₁ h b S ds w c):=fun _ X Y _ hx hg hr=>by
 have hc:∀(k:Nat)(o:Obj),X.heap[k]? =some o->o.isCells=true->Y.heap[k]? =some o:=fun k o hk ho=>(hg.block k (ltE hk) (fun e=>by
  obtain⟨-,o',h1,h2⟩:=hr k e.symm
  rw[hk]at h1;cases h1;rw[ho]at h2;cases h2)).trans hk
 exact {ret:=hx.ret,gt:=hx.gt,r1:=hc _ _ hx.r1 rfl,r2:=hc _ _ hx.r2 rfl,r3:=hc _ _ hx.r3 rfl,bl:=JE hx.bl hB leR hg (fun r e=>(hr r e).1),mks:=BZ.own h0 leR hx.mks hg (fun r e=>(hr r e).1)}
theorem OM{B:Nat}{b:Nat}{cs:Array Value}{t:TypeId}{W W':World}{row:Option Nat}(h:W.heap[b]? =some (.cells cs t (0,0)))(hg:W.grownBy W' row)(hr:∀r,row=some r->B<=r/\∃o:Obj,W.heap[r]? =some o/\o.isCells=false):W'.heap[b]? =some (.cells cs t (0,0)):=
 (hg.block b (ltE h) (fun e=>by
  obtain⟨-,o',h1,h2⟩:=hr b e.symm
  rw[h]at h1;cases h1;cases h2)).trans h
theorem Em{B B':Nat}{W W':World}(h:KeepsFrom B W W')(hB:B<=B'):KeepsFrom B' W W':=⟨h.size,fun k o hk=>h.same k o (Nat.le_trans hB hk)⟩
theorem Hf(w:World):(zeroValue 3).run Tryz.prog w=.ok (.int .i64 0) w:=by kernel_rfl
theorem CB.get{w:World}{b:Nat}{l:List UE}(h:CB w b l){y:UE}(hy:WfP y):
  (y∈l->(Instr.lookup 109 (.map (some b)) (plV y) true).run Tryz.prog w=.ok (.tuple #[.int .i64 (l.idxOf y:Int),.bool true]) w)/\
  (y∉l->∃c,(Instr.lookup 109 (.map (some b)) (plV y) true).run Tryz.prog w=.ok (.tuple #[.int .i64 c,.bool false]) w):=by
 obtain⟨D,h1,h2,h3,h4⟩:=h;obtain⟨v,ps,d,hv⟩:=h1.look_ok DG Tryz.underlying109 (Hf w) (plainElem_int Tryz.underlying3 (q:=.i64) (a:=0) rfl) (Jb y hy);obtain⟨c,rfl,hc,e⟩:=plainElem_int_inv Tryz.underlying3 hv;rw[h3 y hy]at d;simp only[Prod.mk.injEq]at hc;refine⟨fun hm=> ?_,fun hm=>⟨c,by rw[d,decide_eq_false hm]⟩⟩;have h5:=h4 y hy hm;rw[hc.1]at h5;simp only[DataW.lit.injEq,Lit.int.injEq,true_and]at h5;rw[d,decide_eq_true hm,h5]
theorem CB.upd{w:World}{b:Nat}{l:List UE}(h:CB w b l){y:UE}(hy:WfP y)(hn:y∉l)(hl:l.length<=3000):
  ∃w',(Instr.mapUpdate 109 (.map (some b)) (plV y) (.int .i64 (l.length:Int))).run Tryz.prog w=.ok () w'/\CB w' b (l++[y])/\w.grownBy w' (some b):=by
 obtain⟨D,h1,h2,h3,h4⟩:=h;obtain⟨w',c,r1,r2⟩:=h1.update DG Tryz.underlying109 (by simp only[maxLen];omega) (Jb y hy) (plainElem_int Tryz.underlying3 (q:=.i64) (a:=(l.length:Int)) (EA (by unfold I64;omega)));exact⟨w',c,CB.put h2 hy hn h3 h4 r1,r2⟩
theorem CB.isMap{w:World}{b:Nat}{l:List UE}(h:CB w b l):∃es c,w.heap[b]? =some (.map es c):=by
 obtain⟨D,⟨es,a,h1,-⟩,-⟩:=h;exact⟨es,a,h1⟩
theorem RI{l:List UE}{y:UE}(h:y∈l):FX l y=l:=if_pos h
theorem Lc{l:List UE}{y:UE}(h:y∉l):FX l y=l++[y]:=if_neg h
theorem Ni{n₁:Nat}{ds:List Deferred}{W:World}{h:Nat}(hm:BZ n₁ ds W)(a b c d e:Value):BZ n₁ ds (((((W.setCell ⟨h+1+1,0,none⟩ a).setCell ⟨h+1+1,1,none⟩ b).setCell ⟨h+1+1,2,none⟩ c).setCell ⟨h+1+1+1,0,none⟩ d).setCell ⟨h+1+1+1+1,0,none⟩ e):=
 hm.keeps (((((KeepsOthers.setCell W ⟨h+1+1,0,none⟩ a).trans (KeepsOthers.setCell _ ⟨h+1+1,1,none⟩ b)).trans (KeepsOthers.setCell _ ⟨h+1+1,2,none⟩ c)).trans (KeepsOthers.setCell _ ⟨h+1+1+1,0,none⟩ d)).trans (KeepsOthers.setCell _ ⟨h+1+1+1+1,0,none⟩ e)|>.from _)
theorem PM{p:UE->Prop}{l ys:List UE}(h1:∀z∈l,p z)(h2:∀z∈ys,p z):∀z∈BL l ys,p z:=by
 induction ys generalizing l with
 |nil=>exact h1
 |cons y ys ih=>
  rw[BL,List.foldl_cons,<-BL]
  refine ih (fun z hz=> ?_) fun z hz=>h2 z (List.mem_cons_of_mem _ hz)
  unfold FX at hz
  split at hz
  ·exact h1 z hz
  ·rcases List.mem_append.1 hz with hz|hz
   ·exact h1 z hz
   ·rw[List.mem_singleton.1 hz];exact h2 y List.mem_cons_self
theorem PN(l ys zs:List UE):BL l (ys++zs)=BL (BL l ys) zs:=by simp[BL]
theorem Kt(l ys:List UE)(j:Nat):(BL l (ys.take j)).length<=(BL l ys).length:=by
 conv=>rhs;rw[<-List.take_append_drop j ys,PN]
 obtain⟨e,he⟩:=EL (BL l (ys.take j)) (ys.drop j);rw[he,List.length_append];omega
theorem Oq{F:Fence}{nF:Nat}{d:Array Oper}{rest:List Oper}{o:Oper}{a:Act}{Q:Exit->Act->World->Prop}{w:World}(e:o.guard=none)(s x:Operand)(u:Value)
  (ho:o.op=.call {callee:=.builtin .append,args:=#[s,x],argTypes:=#[23,23]})
  (base:Nat) (v:Value) (n:Nat) (l:List Value) (c:w.ownsRow base 26 1 v n l) (hs:a.eval s=v) (m:Nat) (hm:m=w.heap.size) (hx:a.eval x=.slice (some ⟨m,0,none⟩) 1 1) (hu:u.oneCell'=true)
  (hn:n<5864062014000) (b:base<=w.heap.size)
  (h:∀v' w',w'.ownsRow base 26 1 v' (n+1) (l++[u])->w.grownBy w' v.ownBlock->AS w v v'->wpListIn F nF Tryz.prog d Q rest (a.put o.dst v') w'):
  wpListIn F nF Tryz.prog d Q (o::rest) a (w.alloc (.cells #[u] 26)):=
 DL e s x _ _ 1 24 _ #[u] ho Tryz.underlying23 D9 rfl (by decide) base v n _ hs c m hm hx rfl (by simpa using hu) (by simp only[maxLen];omega) (by omega) b h
theorem BO.setFar{w:World}{B z zp zm zn:Nat}{v0 v1 v2 vp:Value}{vals:List Value}{gm:Gm}{a:List UE}(h:BO w B z zp zm zn v0 v1 v2 vp vals gm a){b j:Nat}{x:Value}(hb:b<B)(hn:b≠zn):BO (w.setCell ⟨b,j,none⟩ x) B z zp zm zn v0 v1 v2 vp vals gm a:=
 {g:=h.g.setFar hb
  p:=AF h.p fun k hk=>AK _ _ _ _ _ (fun e=>by have:=(World.ownsRow.lt h.p k hk).1;omega)
  bp:=(AK _ _ _ _ _ (by have:=h.lo;omega)).trans h.bp
  m:=h.m.blk (AK _ _ _ _ _ (by have:=h.lo;omega))
  bn:=(AK _ _ _ _ _ (Ne.symm hn)).trans h.bn
  lo:=h.lo}
structure RB(w:World)(B n₁ z zp zm zn:Nat)(v0 v1 v2 vp:Value)(vals:List Value)(gm:Gm)(pls:List UE)(ds:List Deferred)(W:World):Prop where
 bo:BO W B z zp zm zn v0 v1 v2 vp vals gm pls
 mks:BZ n₁ ds W
 bl:Below w.heap.size w W
 c1:∃x y u,W.heap[w.heap.size+1+1]? =some (.cells #[x,y,u] 65 (0,0))
 c2:∃x,W.heap[w.heap.size+1+1+1]? =some (.cells #[x] 66 (0,0))
 c3:∃x,W.heap[w.heap.size+1+1+1+1]? =some (.cells #[x] 39 (0,0))
theorem RB.set1{w W:World}{B n₁ z zp zm zn:Nat}{v0 v1 v2 vp:Value}{vals:List Value}{gm:Gm}{a:List UE}{ds:List Deferred}(h:RB w B n₁ z zp zm zn v0 v1 v2 vp vals gm a ds W)(hB:w.heap.size+5<=B)(hn:B<=zn)(x y u:Value):
  RB w B n₁ z zp zm zn v0 v1 v2 vp vals gm a ds (((W.setCell ⟨w.heap.size+1+1,0,none⟩ x).setCell ⟨w.heap.size+1+1,1,none⟩ y).setCell ⟨w.heap.size+1+1,2,none⟩ u)/\
  (((W.setCell ⟨w.heap.size+1+1,0,none⟩ x).setCell ⟨w.heap.size+1+1,1,none⟩ y).setCell ⟨w.heap.size+1+1,2,none⟩ u).heap[w.heap.size+1+1]? =some (.cells #[x,y,u] 65 (0,0)):=by
 obtain⟨x',y',u',hc⟩:=h.c1;have h1:(((W.setCell ⟨w.heap.size+1+1,0,none⟩ x).setCell ⟨w.heap.size+1+1,1,none⟩ y).setCell ⟨w.heap.size+1+1,2,none⟩ u).heap[w.heap.size+1+1]? =some (.cells #[x,y,u] 65 (0,0)):=FU hc
 have ho:∀k,k≠w.heap.size+1+1->(((W.setCell ⟨w.heap.size+1+1,0,none⟩ x).setCell ⟨w.heap.size+1+1,1,none⟩ y).setCell ⟨w.heap.size+1+1,2,none⟩ u).heap[k]? =W.heap[k]? :=fun k hk=>by
  rw[AK _ _ _ _ _ hk,AK _ _ _ _ _ hk,AK _ _ _ _ _ hk]
 refine⟨{bo:=((h.bo.setFar (by omega) (by omega)).setFar (by omega) (by omega)).setFar (by omega) (by omega),mks:=h.mks.keeps ((((KeepsOthers.setCell W _ _).trans (KeepsOthers.setCell _ _ _)).trans (KeepsOthers.setCell _ _ _)).from _),bl:=((h.bl.setCell (p:=⟨w.heap.size+1+1,0,none⟩) (by show w.heap.size<=w.heap.size+1+1;omega) _).setCell (p:=⟨w.heap.size+1+1,1,none⟩) (by show w.heap.size<=w.heap.size+1+1;omega) _).setCell (p:=⟨w.heap.size+1+1,2,none⟩) (by show w.heap.size<=w.heap.size+1+1;omega) _,c1:=⟨_,_,_,h1⟩,c2:= ?_,c3:= ?_},h1⟩
 ·obtain⟨x',hc⟩:=h.c2;exact⟨x',(ho _ (by omega)).trans hc⟩
 ·obtain⟨x',hc⟩:=h.c3;exact⟨x',(ho _ (by omega)).trans hc⟩
theorem RB.set2{w W:World}{B n₁ z zp zm zn:Nat}{v0 v1 v2 vp:Value}{vals:List Value}{gm:Gm}{a:List UE}{ds:List Deferred}(h:RB w B n₁ z zp zm zn v0 v1 v2 vp vals gm a ds W)(hB:w.heap.size+5<=B)(hn:B<=zn)(x:Value):
  RB w B n₁ z zp zm zn v0 v1 v2 vp vals gm a ds (W.setCell ⟨w.heap.size+1+1+1,0,none⟩ x)/\(W.setCell ⟨w.heap.size+1+1+1,0,none⟩ x).heap[w.heap.size+1+1+1]? =some (.cells #[x] 66 (0,0)):=by
 obtain⟨x',hc⟩:=h.c2;have h1:=heap_setCell_same W (w.heap.size+1+1+1) 0 #[x'] 66 x hc;refine⟨{bo:=h.bo.setFar (by omega) (by omega),mks:=h.mks.keeps ((KeepsOthers.setCell W _ _).from _),bl:=h.bl.setCell (p:=⟨w.heap.size+1+1+1,0,none⟩) (by show w.heap.size<=w.heap.size+1+1+1;omega) _,c1:= ?_,c2:=⟨_,h1⟩,c3:= ?_},h1⟩
 ·obtain⟨x',y',u',hc⟩:=h.c1;exact⟨x',y',u',(AK _ _ _ _ _ (by omega)).trans hc⟩
 ·obtain⟨x',hc⟩:=h.c3;exact⟨x',(AK _ _ _ _ _ (by omega)).trans hc⟩
theorem RB.set3{w W:World}{B n₁ z zp zm zn:Nat}{v0 v1 v2 vp:Value}{vals:List Value}{gm:Gm}{a:List UE}{ds:List Deferred}(h:RB w B n₁ z zp zm zn v0 v1 v2 vp vals gm a ds W)(hB:w.heap.size+5<=B)(hn:B<=zn)(x:Value):
  RB w B n₁ z zp zm zn v0 v1 v2 vp vals gm a ds (W.setCell ⟨w.heap.size+1+1+1+1,0,none⟩ x)/\(W.setCell ⟨w.heap.size+1+1+1+1,0,none⟩ x).heap[w.heap.size+1+1+1+1]? =some (.cells #[x] 39 (0,0)):=by
 obtain⟨x',hc⟩:=h.c3;have h1:=heap_setCell_same W (w.heap.size+1+1+1+1) 0 #[x'] 39 x hc;refine⟨{bo:=h.bo.setFar (by omega) (by omega),mks:=h.mks.keeps ((KeepsOthers.setCell W _ _).from _),bl:=h.bl.setCell (p:=⟨w.heap.size+1+1+1+1,0,none⟩) (by show w.heap.size<=w.heap.size+1+1+1+1;omega) _,c1:= ?_,c2:= ?_,c3:=⟨_,h1⟩},h1⟩
 ·obtain⟨x',y',u',hc⟩:=h.c1;exact⟨x',y',u',(AK _ _ _ _ _ (by omega)).trans hc⟩
 ·obtain⟨x',hc⟩:=h.c2;exact⟨x',(AK _ _ _ _ _ (by omega)).trans hc⟩
def R26(w:World)(v0 v1 v2 vp:Value)(ix:Nat)(u:Value)(W:World):Prop:=
 match ix with
 |0=>u=.agg #[v0,v1,v2]
 |1=>u=vp
 |2=>W.heap[w.heap.size+1+1]? =some (.cells #[v0,v1,v2] 65 (0,0))
 |3=>W.heap[w.heap.size+1+1+1]? =some (.cells #[vp] 66 (0,0))
 |4=>W.heap[w.heap.size+1+1+1+1]? =some (.cells #[.int .i64 0] 39 (0,0))
 | _=>True
theorem R26.set{w W:World}{v0 v1 v2 vp:Value}{ix:Nat}{u:Value}(h:R26 w v0 v1 v2 vp ix u W)(W':World)(i:Nat)(hi:ix≠i)(hs:∀k,k≠w.heap.size+i->W'.heap[k]? =W.heap[k]?):R26 w v0 v1 v2 vp ix u W':=by
 unfold R26 at*
 split at h
 ·exact h
 ·exact h
 ·exact(hs _ (by omega)).trans h
 ·exact(hs _ (by omega)).trans h
 ·exact(hs _ (by omega)).trans h
 ·trivial
theorem Sg{m c:Int}{row:List Int}(h0:0<=m)(h1:m<=c)(h:∀x∈row,x<=c):0<=Gn m row/\Gn m row<=c:=by
 induction row generalizing m with
 |nil=>exact⟨h0,h1⟩
 |cons x r ih=>
  have:=h x (by simp)
  exact ih (m:=max m x) (by omega) (by omega) fun y hy=>h y (List.mem_cons_of_mem _ hy)
theorem Qi{m c:Int}{a:List (List Int)}(h0:0<=m)(h1:m<=c)(h:∀r∈a,∀x∈r,x<=c):0<=a.foldl Gn m/\a.foldl Gn m<=c:=by
 induction a generalizing m with
 |nil=>exact⟨h0,h1⟩
 |cons r rs ih=>
  have:=Sg h0 h1 (h r (by simp))
  exact ih this.1 this.2 fun r hr=>h r (List.mem_cons_of_mem _ hr)
theorem Oe{a:Au}(hv:AC a=true):0<=AU a/\AU a<=20000:=by
 refine Qi (by omega) (by omega) fun r hr x hx=> ?_
 obtain⟨s,hs,rfl⟩:=List.mem_iff_getElem.1 hr;have c:=hv;simp only[AC,Bool.and_eq_true,decide_eq_true_eq]at c
 have b:s<a.next.length:=by have:=c.1;omega
 obtain⟨h1,h2,-⟩:=Cy hv b;obtain⟨k,hk,rfl⟩:=List.mem_iff_getElem.1 hx;have h3:=(H6 hv b k (by rw[Ae _ _ _ hs]at h2;omega)).2
 rwa [Ae _ _ _ hs,Ae _ _ _ hk]at h3
theorem Mb{a:Au}{T:List (List Int)}(hv:AC a=true)(hA:Ml a T):(Ij a T ⟨a.start,-1,AU a⟩/\PlW ⟨a.start,-1,AU a⟩)/\WfP ⟨a.start,-1,AU a⟩:=by
 have ht:=Oe hv;have hT:=hA.t;have b:=hv;simp only[AC,Bool.and_eq_true,decide_eq_true_eq]at b;have h1:Ij a T ⟨a.start,-1,AU a⟩:=hA.pl' ⟨b.1.2.1,b.1.2.2⟩ (by show(-1:Int)<_;omega);have h2:PlW ⟨a.start,-1,AU a⟩:=⟨by show(-1:Int)<=-1;omega,by show -1<=AU a;omega,ht.2⟩;exact⟨⟨h1,h2⟩,wfP hv hT.2 h1 h2⟩
structure Ux(w:World)(ao:Option Addr)(cap b off:Nat)(l:List UE):Prop where
 lc:l.length<=cap
 cm:cap<=maxLen
 nm:l.length<=Bg
 nc:ao=none->cap=0
 ad:0<l.length->ao=some ⟨b,off,none⟩
 e0:∀j(hj:j<l.length),w.cell? ⟨b,off+j*3,none⟩=some (.int .i64 l[j].st)
 e1:∀j(hj:j<l.length),w.cell? ⟨b,off+j*3+1,none⟩=some (.int .i64 l[j].inn)
 e2:∀j(hj:j<l.length),w.cell? ⟨b,off+j*3+2,none⟩=some (.int .i64 l[j].pr)
def CA(w:World)(v:Value)(l:List UE):Prop:=∃ao cap b off,v=.slice ao l.length cap/\Ux w ao cap b off l/\∀y∈l,WfP y
theorem CA.below{w wr:World}{v:Value}{l:List UE}(h:CA w v l)(hb:Below w.heap.size w wr):CA wr v l:=by
 obtain⟨ao,a,b,c,rfl,h1,h2⟩:=h;exact⟨ao,a,b,c,rfl,{h1 with e0:=fun j hj=>Ag hb (h1.e0 j hj),e1:=fun j hj=>Ag hb (h1.e1 j hj),e2:=fun j hj=>Ag hb (h1.e2 j hj)},h2⟩
theorem OP.is{w:World}{base:Nat}{v:Value}{l:List UE}(h:OP w base v l)(hn:l.length<=Bg)(hw:∀y∈l,WfP y):CA w v l:=by
 rcases h.2 with⟨hv,h0⟩|⟨g,a,f,hv,hb,hg,c,b,i,d⟩
 ·have:l=[]:=List.eq_nil_of_length_eq_zero h0;subst this;rw[hv];exact⟨none,0,0,0,rfl,⟨Nat.le_refl _,Nat.zero_le _,Nat.zero_le _,fun _=>rfl,fun h=>absurd h (by simp),fun j h=>absurd h (by simp),fun j h=>absurd h (by simp),fun j h=>absurd h (by simp)⟩,hw⟩
 ·subst hv
  have hc:=fun j hj=>OP.at' h rfl j hj
  refine⟨some ⟨g,0,none⟩,a,g,0,rfl,⟨c,b,hn,(fun e=>by cases e),fun _=>rfl,fun j hj=> ?_,fun j hj=> ?_,fun j hj=> ?_⟩,hw⟩
  ·rw[Nat.zero_add];exact(hc j hj).1
  ·rw[Nat.zero_add];exact(hc j hj).2.1
  ·rw[Nat.zero_add];exact(hc j hj).2.2
theorem Og(w:World):CA w (.slice none 0 0) []:=⟨none,0,0,0,rfl,⟨Nat.le_refl _,Nat.zero_le _,Nat.zero_le _,fun _=>rfl,fun h=>absurd h (by simp),fun j h=>absurd h (by simp),fun j h=>absurd h (by simp),fun j h=>absurd h (by simp)⟩,by simp⟩
theorem BO.cells{w w':World}{B z zp zm zn:Nat}{v0 v1 v2 vp:Value}{vals:List Value}{gm:Gm}{a:List UE}(h:BO w B z zp zm zn v0 v1 v2 vp vals gm a)(hs:w.heap.size<=w'.heap.size)
  (hc:∀(k:Nat)(o:Obj),w.heap[k]? =some o->o.isCells=true->w'.heap[k]? =some o):GB w' B z v0 v1 v2 vals gm [vp,Az zp,Az zm,Az zn]/\OP w' B vp a:=by
 have hw:∀{base e size n v xs},w.ownsRow base e size n v xs->∀k,n.ownBlock=some k->w'.heap[k]? =w.heap[k]? :=fun{base e size n v xs}h k hk=>by
  obtain⟨o,h1,h2⟩:=Bj h hk;rw[h1];exact hc k o h1 h2
 refine⟨h.g.blk hs fun u hu k hk=> ?_,AF h.p (hw h.p)⟩;simp only[List.mem_cons]at hu
 rcases hu with rfl|rfl|rfl|rfl|hu
 ·cases hk;rw[h.g.box];exact hc _ _ h.g.box rfl
 ·exact hw h.g.o k hk
 ·exact hw h.g.p k hk
 ·exact hw h.g.r k hk
 ·obtain⟨j,hj,rfl⟩:=List.getElem_of_mem hu;have:=h.g.e j (by rw[<-h.g.vl];exact hj);rw[Ae _ _ _ hj]at this;exact hw this k hk
theorem QS(S:UE->List UE)(top:Int)(l:List UE):(C0 S top l l.length).owner.length=l.length/\(C0 S top l l.length).prio.length=l.length/\(C0 S top l l.length).succ.length=l.length:=by simp[C0]
theorem Sp{w:World}{B z:Nat}{v0 v1 v2:Value}{vals others:List Value}{a:Au}{T:List (List Int)}{b:List UE}(hv:AC a=true)(hA:Ml a T)(hn:b.length<=3000)(c:∀y∈b,Ij a T y/\PlW y)
  (h:GB w B z v0 v1 v2 vals (C0 (AZ a T) (AU a) b b.length) others):Cx w (.agg #[v0,v1,v2]) (C0 (AZ a T) (AU a) b b.length):=by
 obtain⟨h1,h2,h3⟩:=QS (AZ a T) (AU a) b;have ht:=Oe hv
 have hm:b.length<=Bg:=by simp only[Bg];omega
 refine h.is ⟨by rw[h1];exact hm,fun x hx=> ?_⟩ ⟨by rw[h2];exact hm,fun x hx=> ?_⟩ (by rw[h3];exact hm) fun j hj=> ?_
 ·simp only[C0,List.take_length]at hx;obtain⟨y,hy,rfl⟩:=List.mem_map.1 hx;unfold Ex I64;split<;>omega
 ·simp only[C0,List.take_length]at hx;obtain⟨y,hy,rfl⟩:=List.mem_map.1 hx;have:=(c y hy).2;unfold Ey I64;unfold PlW at this;split<;>omega
 ·rw[h3]at hj
  have e:(C0 (AZ a T) (AU a) b b.length).succ.getD j []=Dj b (AZ a T b[j]):=by simp[C0,List.getD,hj]
  rw[e];have hT:=hA.t;refine⟨?_,fun x hx=> ?_⟩
  ·have hl:(AZ a T b[j]).length<=64:=by
    unfold AZ
    split
    ·simpa using hT.2
    ·rw[List.length_map];exact hA.len _ (by have:=(c b[j] (List.getElem_mem hj)).1.inn;omega)
   simp only[Dj,List.length_map,Bg];omega
  ·obtain⟨y,hy,rfl⟩:=List.mem_map.1 hx;have:=List.idxOf_le_length (a:=y) (l:=b);unfold I64;omega
end Go.Proofs.YtncjeamdkjcebaaGreatDoor
