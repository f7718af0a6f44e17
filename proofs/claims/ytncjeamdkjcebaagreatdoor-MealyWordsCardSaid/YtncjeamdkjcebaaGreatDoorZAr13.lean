/- What Build's loop has made: rows, boxes and the map, which lie apart from each other. -/
import Derived.RangeFuncWrites
import Derived.RangeFuncBox
import Derived.Test.YtncjeamdkjcebaaGreatDoorZAr7
set_option linter.all false
set_option maxHeartbeats 4000000
set_option maxRecDepth 100000
namespace Go.Proofs.YtncjeamdkjcebaaGreatDoor
open Go.RowKit Go.Shelf Go.Maps Go.WideMaps
/-! Bl of places. -/
def MK(y:T4):List Value:=[.int .i64 y.st,.int .i64 y.inn,.int .i64 y.pr]
def Ou(l:List T4):List Value:=l.flatMap MK
theorem Qt(l:List T4)(j k:Nat)(hj:j<l.length)(hk:k<3):(Ou l)[j*3+k]? =(MK l[j])[k]? :=by
 induction l generalizing j with
 |nil=>simp at hj
 |cons s r ih=>
  simp only[Ou,List.flatMap_cons]at*
  cases j with
  |zero=>rw[List.getElem?_append_left (by simp[MK];omega)];simp
  |succ j=>
   rw[List.getElem?_append_right (by simp[MK];omega)];have:=ih j (by simpa using hj);simp only[MK,List.length_cons,List.length_nil,List.getElem_cons_succ]at this⊢;rw[<-this]
   congr 1
   omega
theorem Ov(l:List T4)(y:T4):Ou (l++[y])=Ou l++MK y:=by simp[Ou]
def OP(w:World)(base:Nat)(v:Value)(l:List T4):Prop:=w.ownsRow base 108 3 v l.length (Ou l)
theorem OP.slice{w:World}{base:Nat}{v:Value}{l:List T4}(h:OP w base v l):∃ao cap,v=.slice ao l.length cap:=by
 rcases h.2 with⟨hv,h0⟩|⟨g,cap,cur,hv,hb,hg,_⟩
 ·exact⟨none,0,by rw[hv,h0]⟩
 ·exact⟨_,cap,hv⟩
theorem OP.at'{w:World}{base g n cap:Nat}{l:List T4}(h:OP w base (.slice (some ⟨g,0,none⟩) n cap) l)(hn:n=l.length)(j:Nat)(hj:j<l.length):
  w.cell? ⟨g,j*3,none⟩=some (.int .i64 l[j].st)/\w.cell? ⟨g,j*3+1,none⟩=some (.int .i64 l[j].inn)/\w.cell? ⟨g,j*3+2,none⟩=some (.int .i64 l[j].pr):=by
 subst hn
 have hc:∀k,k<3->w.cell? ⟨g,j*3+k,none⟩=(MK l[j])[k]? :=fun k hk=>by
  rw[World.ownsRow.cellAt h (j*3+k) (by omega),Qt l j k hj hk]
 exact⟨hc 0 (by omega),hc 1 (by omega),hc 2 (by omega)⟩
theorem MA:(Tryz.prog.info? 108).map (fun i=>(i.zero,i.size,i.bytes))=some (some (.agg #[.int .i64 0,.int .i64 0,.int .i64 0]),3,24):=by kernel_rfl
theorem Kx{F:Fence}{nF:Nat}{P:Program}{ops:Array Oper}{rest:List Oper}{o:Oper}{a:Act}{Q:Exit->Act->World->Prop}{w:World}(hgd:o.guard=none)(s x:Operand)(t e:TypeId)(size bytes:Nat)(z:Value)
  (ho:o.op=.call {callee:=.builtin .append,args:=#[s,x],argTypes:=#[t,t]})
  (ht:P.underlying t=some (.slice e)) (hinfo:(P.info? e).map (fun i=>(i.zero,i.size,i.bytes))=some (some z,size,bytes)) (hzs:z.cells.size=size) (hsz:0<size)
  (base:Nat) (v:Value) (n:Nat) (xs:List Value) (hs:a.eval s=v) (hown:w.ownsRow base e size v n xs)
  (ad:Addr) (m c:Nat) (news:List Value) (hx:a.eval x=.slice (some ad) m c) (hl:news.length=m*size) (hnews:∀j u,news[j]? =some u->w.cell? (ad.add j)=some u) (h1:∀u∈news,u.oneCell'=true)
  (h63:n+m<=maxLen) (hbytes:(n+m)*bytes<=140737488355328) (hbase:base<=w.heap.size)
  (h:∀v' w',w'.ownsRow base e size v' (n+m) (xs++news)->w.grownBy w' v.ownBlock->A7 w v v'->wpListIn F nF P ops Q rest (a.put o.dst v') w'):
  wpListIn F nF P ops Q (o::rest) a w:=by
 refine wpListIn_plain hgd fun K hK=> ?_
 obtain⟨i,hi,hz0,hz1,hz2⟩:=info_parts hinfo;obtain⟨v',w',hr,h2,h3,h4⟩:=run_append_own (P:=P) w base t o.type e i z size bytes ht hi hz0 hz1 hz2 hzs hsz v n xs hown ad m c news hl hnews h1 h63 hbytes hbase;have h5:=En (P:=P) w base t o.type e i z size bytes ht hi hz0 hz1 hz2 v n xs hown ad m c news hl hnews h1 h63 hbytes v' w' hr;unfold Oper.wpIn;refine⟨by simp[Oper.about,ho,resolve,Target.leads,Sem.run_pure], ?_⟩;rw[Oper.semAt_plain F _ _ (by rw[ho];intro c hc';cases hc')];simp[execOp,ho,resolve,invoke,builtin,hs,hx,hr,Result.andThen];exact hK _ _ (h v' w' h2 h3 (fun g hg=>(h5 g hg).imp id (fun e=>by omega)))
theorem Dk{F:Fence}{nF:Nat}{P:Program}{ops:Array Oper}{rest:List Oper}{o:Oper}{a:Act}{Q:Exit->Act->World->Prop}{w:World}(hgd:o.guard=none)(s x:Operand)(t e:TypeId)(size bytes:Nat)(z:Value)(cs:Array Value)
  (ho:o.op=.call {callee:=.builtin .append,args:=#[s,x],argTypes:=#[t,t]})
  (ht:P.underlying t=some (.slice e)) (hinfo:(P.info? e).map (fun i=>(i.zero,i.size,i.bytes))=some (some z,size,bytes)) (hzs:z.cells.size=size) (hsz:0<size)
  (base:Nat) (v:Value) (n:Nat) (xs:List Value) (hs:a.eval s=v) (hown:w.ownsRow base e size v n xs)
  (m:Nat) (hm:m=w.heap.size) (hx:a.eval x=.slice (some ⟨m,0,none⟩) 1 1) (hl:cs.size=size) (h1:∀u∈cs.toList,u.oneCell'=true)
  (h63:n+1<=maxLen) (hbytes:(n+1)*bytes<=140737488355328) (hbase:base<=w.heap.size)
  (h:∀v' w',w'.ownsRow base e size v' (n+1) (xs++cs.toList)->w.grownBy w' v.ownBlock->A7 w v v'->wpListIn F nF P ops Q rest (a.put o.dst v') w'):
  wpListIn F nF P ops Q (o::rest) a (w.alloc (.cells cs e)):=by
 subst hm;refine Kx hgd s x t e size bytes z ho ht hinfo hzs hsz base v n xs hs (hown.alloc _) ⟨w.heap.size,0,none⟩ 1 1 cs.toList hx (by simpa using hl) (World.news_of_block (cs:=cs) (t:=e) (fr:=(0,0)) (heap_alloc_new w _)) h1 h63 hbytes (by simp;omega) ?_;intro v' w' h1 h2 h4;refine h v' w' h1 ⟨h2.os,h2.tape,h2.output,by have:=h2.size;simp at this;omega,fun k hk hr=> ?_⟩ (fun g hg=> ?_)
 ·rw[h2.block k (by simp;omega) hr];exact(Ao (w:=w) _).block k hk
 ·rcases h4 g hg with e|e
  ·exact .inl e
  ·refine .inr ?_;simp at e;omega
theorem KO{F:Fence}{nF:Nat}{ops:Array Oper}{rest:List Oper}{o:Oper}{a:Act}{Q:Exit->Act->World->Prop}{w:World}(hgd:o.guard=none)(s x:Operand)(y:T4)
  (ho:o.op=.call {callee:=.builtin .append,args:=#[s,x],argTypes:=#[66,66]})
  (base:Nat) (v:Value) (l:List T4) (hown:OP w base v l) (hs:a.eval s=v) (m:Nat) (hm:m=w.heap.size) (hx:a.eval x=.slice (some ⟨m,0,none⟩) 1 1)
  (hn:l.length<5864062014000) (hbase:base<=w.heap.size)
  (h:∀v' w',OP w' base v' (l++[y])->w.grownBy w' v.ownBlock->A7 w v v'->wpListIn F nF Tryz.prog ops Q rest (a.put o.dst v') w'):
  wpListIn F nF Tryz.prog ops Q (o::rest) a (w.alloc (.cells #[.int .i64 y.st,.int .i64 y.inn,.int .i64 y.pr] 108)):=by
 refine Dk hgd s x _ _ 3 24 _ #[.int .i64 y.st,.int .i64 y.inn,.int .i64 y.pr] ho Tryz.underlying66 MA rfl (by decide) base v l.length _ hs hown m hm hx rfl (by simp[Value.oneCell']) (by simp only[maxLen];omega) (by omega) hbase fun v' w' h1 h2 h3=>h v' w' ?_ h2 h3
 unfold OP;rw[List.length_append,Ov];exact h1
theorem Fk{F:Fence}{nF:Nat}{ops:Array Oper}{rest:List Oper}{o:Oper}{a:Act}{Q:Exit->Act->World->Prop}{w:World}(hgd:o.guard=none)(s x:Operand)(b:Int)
  (ho:o.op=.call {callee:=.builtin .append,args:=#[s,x],argTypes:=#[26,26]})
  (base:Nat) (v:Value) (l:List Int) (hown:OI w base v l) (hs:a.eval s=v) (m:Nat) (hm:m=w.heap.size) (hx:a.eval x=.slice (some ⟨m,0,none⟩) 1 1)
  (hn:l.length<17592186043904) (hbase:base<=w.heap.size)
  (h:∀v' w',OI w' base v' (l++[b])->w.grownBy w' v.ownBlock->A7 w v v'->wpListIn F nF Tryz.prog ops Q rest (a.put o.dst v') w'):
  wpListIn F nF Tryz.prog ops Q (o::rest) a (w.alloc (.cells #[.int .i64 b] 3)):=by
 refine Dk hgd s x _ _ 1 8 _ #[.int .i64 b] ho Tryz.underlying26 C5 rfl (by decide) base v l.length _ hs hown m hm hx rfl (by simp[Value.oneCell']) (by simp only[maxLen];omega) (by omega) hbase fun v' w' h1 h2 h3=>h v' w' ?_ h2 h3
 unfold OI;simpa using h1
/-! Blocks. -/
theorem AG{w w':World}{base:Nat}{e:TypeId}{size n:Nat}{v:Value}{xs:List Value}(h:w.ownsRow base e size v n xs)(hb:∀k,v.ownBlock=some k->w'.heap[k]? =w.heap[k]?):w'.ownsRow base e size v n xs:=by
 refine⟨h.1, ?_⟩
 rcases h.2 with hn|⟨g,cap,cur,rfl,hbg,hgg,rest⟩
 ·exact .inl hn
 ·exact .inr ⟨g,cap,cur,rfl,hbg,by rw[hb g rfl];exact hgg,rest⟩
theorem Bh{w:World}{base:Nat}{e:TypeId}{size n:Nat}{v:Value}{xs:List Value}(h:w.ownsRow base e size v n xs){g:Nat}(hg:v.ownBlock=some g):∃o,w.heap[g]? =some o/\o.isCells=true:=by
 rcases h.2 with⟨rfl,_⟩|⟨g',cap,cur,rfl,hbg,hgg,rest⟩
 ·cases hg
 ·cases hg;exact⟨_,hgg,rfl⟩
theorem Cu.blk{w w':World}{b:Nat}{l:List T4}(h:Cu w b l)(hb:w'.heap[b]? =w.heap[b]?):Cu w' b l:=by
 obtain⟨D,⟨es,clock,h1,h2⟩,h3⟩:=h;exact⟨D,⟨es,clock,by rw[hb];exact h1,h2⟩,h3⟩
theorem GB.blk{w w':World}{B z:Nat}{v0 v1 v2:Value}{vals others:List Value}{gm:Gm}(h:GB w B z v0 v1 v2 vals gm others)(hs:w.heap.size<=w'.heap.size)
  (hb:∀u∈Aw z::v0::v1::v2::vals,∀k,u.ownBlock=some k->w'.heap[k]? =w.heap[k]?):GB w' B z v0 v1 v2 vals gm others:=
 {h with
  box:=by rw[hb (Aw z) (by simp) z rfl];exact h.box
  o:=AG h.o (hb v0 (by simp))
  p:=AG h.p (hb v1 (by simp))
  r:=AG h.r (hb v2 (by simp))
  e:=fun j hj=>AG (h.e j hj) (hb _ (by
   have hl:j<vals.length:=by rw[h.vl];exact hj
   rw[Af _ _ _ hl];simp))
  lt:=fun u hu g hg=>Nat.lt_of_lt_of_le (h.lt u hu g hg) hs}
theorem GB.perm{w:World}{B z:Nat}{v0 v1 v2:Value}{vals others others':List Value}{gm:Gm}(h:GB w B z v0 v1 v2 vals gm others)(hp:others.Perm others'):GB w B z v0 v1 v2 vals gm others':=
 {h with
  sep:=h.sep.perm (by
   refine .cons _ (.cons _ (.cons _ (.cons _ ?_)))
   exact hp.append_left vals)
  lt:=fun u hu=>h.lt u (hp.mem_iff.2 hu)}
theorem GB.sub{w:World}{B z:Nat}{v0 v1 v2:Value}{vals others others':List Value}{gm:Gm}(h:GB w B z v0 v1 v2 vals gm others)(hp:others'.Sublist others):GB w B z v0 v1 v2 vals gm others':=
 {h with
  sep:=List.Pairwise.sublist (by simp[hp]) h.sep
  lt:=fun u hu=>h.lt u (hp.subset hu)}
theorem GB.oneAt{w:World}{B z:Nat}{v0 v1 v2:Value}{vals others:List Value}{gm:Gm}(h:GB w B z v0 v1 v2 vals gm others){u:Value}(hu:u∈Aw z::v0::v1::v2::vals){i:Nat}{v:Value}(hi:others[i]? =some v):AQ u v:=by
 obtain⟨j,hj,rfl⟩:=List.getElem_of_mem hu
 have hj2:j<vals.length+4:=by simpa using hj
 refine h.sep.get (i:=j) (j:=gm.succ.length+i+4) (by have:=h.vl;omega) ?_ (h.otherAt hi);have:(Aw z::v0::v1::v2::(vals++others))=(Aw z::v0::v1::v2::vals)++others:=rfl;rw[this,List.getElem?_append_left hj];simp
theorem GB.twoAt{w:World}{B z:Nat}{v0 v1 v2:Value}{vals others:List Value}{gm:Gm}(h:GB w B z v0 v1 v2 vals gm others){i j:Nat}(hij:i≠j){u v:Value}(hi:others[i]? =some u)(hj:others[j]? =some v):AQ u v:=h.apart hij hi hj
theorem GB.app{w w':World}{B z:Nat}{v0 v1 v2:Value}{vals others:List Value}{gm:Gm}(h:GB w B z v0 v1 v2 vals gm others){i j:Nat}{v v':Value}{b:Nat}(hij:i≠j)(hi:others[i]? =some v)(hj:others[j]? =some (Aw b))
  (hg:w.grownBy w' v.ownBlock) (hm:A7 w v v') (hv':∀g,v'.ownBlock=some g->g<w'.heap.size) (x:Value):
  GB (w'.setCell ⟨b,0,none⟩ x) B z v0 v1 v2 vals gm (others.set i v')/\w'.heap[b]? =w.heap[b]? /\v'.ownBlock≠some b/\
   ∀m u,m≠i->m≠j->others[m]? =some u->∀k,u.ownBlock=some k->(w'.setCell ⟨b,0,none⟩ x).heap[k]? =w.heap[k]? :=by
 have h1:=h.other hi hg hm hv';have hb:b<w.heap.size:=h.lt (Aw b) (List.mem_of_getElem? hj) b rfl;have hvb:AQ v (Aw b):=h.twoAt hij hi hj;have hil:i<others.length:=(List.getElem?_eq_some_iff.1 hi).1
 have hj':(others.set i v')[j]? =some (Aw b):=by rw[List.getElem?_set_ne hij];exact hj
 have hi':(others.set i v')[i]? =some v':=by rw[List.getElem?_set_self hil]
 refine⟨h1.blk (by rw[World.size_setCell];exact Nat.le_refl _) fun u hu k hk=> ?_,hg.block b hb (fun e=>hvb b e.symm rfl),fun e=>h1.twoAt hij hi' hj' b e rfl,fun m u hmi hmj hu k hk=> ?_⟩
 ·refine AK _ _ _ _ _ ?_;rintro rfl;exact h1.oneAt hu hj' k hk rfl
 ·have hkl:=h.lt u (List.mem_of_getElem? hu) k hk;have a1:AQ u v:=h.twoAt hmi hu hi;have a2:AQ u (Aw b):=h.twoAt hmj hu hj;rw[AK _ _ _ _ _ (fun e=>a2 k hk (by rw[e];rfl))];exact hg.block k hkl (fun e=>a1 k hk e.symm)
theorem GB.othBlk{w w':World}{B z:Nat}{v0 v1 v2:Value}{vals others:List Value}{gm:Gm}(h:GB w B z v0 v1 v2 vals gm others){v:Value}(hv:v=v0\/v=v1\/v=v2)(hg:w.grownBy w' v.ownBlock)(j:Nat)(x:Value){i:Nat}{u:Value}(hu:others[i]? =some u){k:Nat}(hk:u.ownBlock=some k):
  (w'.setCell ⟨z,j,none⟩ x).heap[k]? =w.heap[k]? :=by
 have hkl:=h.lt u (List.mem_of_getElem? hu) k hk;have a1:AQ v u:=h.oneAt (by rcases hv with rfl|rfl|rfl<;>simp) hu;have a2:AQ (Aw z) u:=h.oneAt (by simp) hu;rw[AK _ _ _ _ _ (fun e=>a2 z rfl (by rw[<-e];exact hk))];exact hg.block k hkl (fun e=>a1 k e.symm hk)
structure BO(w:World)(B z zp zm zn:Nat)(v0 v1 v2 vp:Value)(vals:List Value)(gm:Gm)(pls:List T4):Prop where
 g:GB w B z v0 v1 v2 vals gm [vp,Aw zp,Aw zm,Aw zn]
 p:OP w B vp pls
 bp:w.heap[zp]? =some (.cells #[vp] 66 (0,0))
 m:Cu w zm pls
 bn:w.heap[zn]? =some (.cells #[.map (some zm)] 109 (0,0))
 lo:B<=zp/\B<=zm
structure BI(w:World)(B z zp zm zn zS Bp Bb:Nat)(v0 v1 v2 vp vS:Value)(vals:List Value)(gm:Gm)(pls ml:List T4)(nums:List Int):Prop where
 g:GB w B z v0 v1 v2 vals gm [vS,Aw zS,vp,Aw zp,Aw zm,Aw zn,Aw Bp,Aw Bb]
 o:OI w B vS nums
 bs:w.heap[zS]? =some (.cells #[vS] 26 (0,0))
 p:OP w B vp pls
 bp:w.heap[zp]? =some (.cells #[vp] 66 (0,0))
 m:Cu w zm ml
 bn:w.heap[zn]? =some (.cells #[.map (some zm)] 109 (0,0))
 lo:B<=zS/\B<=zp/\B<=zm
section
variable {w w':World} {B z zp zm zn zS Bp Bb:Nat} {v0 v1 v2 vp vS:Value} {vals:List Value} {gm:Gm} {pls ml:List T4} {nums:List Int}
theorem BO.below(h:BO w B z zp zm zn v0 v1 v2 vp vals gm pls)(hb:Below w.heap.size w w'):BO w' B z zp zm zn v0 v1 v2 vp vals gm pls:=
 {g:=h.g.below hb
  p:=AG h.p fun k hk=>hb.block k (h.g.lt vp (by simp) k hk)
  bp:=(hb.block _ (Array.getElem?_eq_some_iff.1 h.bp).1).trans h.bp
  m:=h.m.below hb
  bn:=(hb.block _ (Array.getElem?_eq_some_iff.1 h.bn).1).trans h.bn
  lo:=h.lo}
theorem BI.below(h:BI w B z zp zm zn zS Bp Bb v0 v1 v2 vp vS vals gm pls ml nums)(hb:Below w.heap.size w w'):BI w' B z zp zm zn zS Bp Bb v0 v1 v2 vp vS vals gm pls ml nums:=
 {g:=h.g.below hb
  o:=AG h.o fun k hk=>hb.block k (h.g.lt vS (by simp) k hk)
  bs:=(hb.block _ (Array.getElem?_eq_some_iff.1 h.bs).1).trans h.bs
  p:=AG h.p fun k hk=>hb.block k (h.g.lt vp (by simp) k hk)
  bp:=(hb.block _ (Array.getElem?_eq_some_iff.1 h.bp).1).trans h.bp
  m:=h.m.below hb
  bn:=(hb.block _ (Array.getElem?_eq_some_iff.1 h.bn).1).trans h.bn
  lo:=h.lo}
theorem BO.open(h:BO w B z zp zm zn v0 v1 v2 vp vals gm pls)(hB:B<=w.heap.size)(hb:Below w.heap.size w w')(hs:w.heap.size<=zS/\zS<w'.heap.size)(hp:w.heap.size<=Bp/\Bp<w'.heap.size)(hq:w.heap.size<=Bb/\Bb<w'.heap.size)(n1:zS≠Bp)(n2:zS≠Bb)(n3:Bp≠Bb)
  (hbs:w'.heap[zS]? =some (.cells #[.slice none 0 0] 26 (0,0))):BI w' B z zp zm zn zS Bp Bb v0 v1 v2 vp (.slice none 0 0) vals gm pls pls []:=by
 have h1:=h.below hb;have hl:=h.g.lts;refine {g:= ?_,o:=BC _ _,bs:=hbs,p:=h1.p,bp:=h1.bp,m:=h1.m,bn:=h1.bn,lo:=⟨by omega,h.lo.1,h.lo.2⟩}
 have hsep:Sep (.slice none 0 0::Aw zS::Aw Bp::Aw Bb::(Aw z::v0::v1::v2::(vals++[vp,Aw zp,Aw zm,Aw zn]))):=by
  have q:∀{x:Nat},w.heap.size<=x->∀u∈Aw z::v0::v1::v2::(vals++[vp,Aw zp,Aw zm,Aw zn]),AQ (Aw x) u:=fun{x}hx u hu g hg hg2=>by
   cases hg
   have h3:x<w.heap.size:=hl u hu x hg2;omega
  have d:∀{x y:Nat},x≠y->AQ (Aw x) (Aw y):=fun hxy g hg hg2=>by cases hg;cases hg2;exact hxy rfl
  refine List.pairwise_cons.2 ⟨fun x _=>DO rfl,List.pairwise_cons.2 ⟨fun u hu=> ?_,List.pairwise_cons.2 ⟨fun u hu=> ?_,List.pairwise_cons.2 ⟨fun u hu=>q hq.1 u hu,h.g.sep⟩⟩⟩⟩
  ·rcases List.mem_cons.1 hu with rfl|hu
   ·exact d n1
   rcases List.mem_cons.1 hu with rfl|hu
   ·exact d n2
   ·exact q hs.1 u hu
  ·rcases List.mem_cons.1 hu with rfl|hu
   ·exact d n3
   ·exact q hp.1 u hu
 refine {h1.g with sep:=hsep.perm ?_,lt:=fun u hu g hg=> ?_}
 ·have e1:(Value.slice none 0 0::Aw zS::Aw Bp::Aw Bb::(Aw z::v0::v1::v2::(vals++[vp,Aw zp,Aw zm,Aw zn])))=[.slice none 0 0,Aw zS,Aw Bp,Aw Bb]++((Aw z::v0::v1::v2::vals)++[vp,Aw zp,Aw zm,Aw zn]):=rfl;have e2:(Aw z::v0::v1::v2::(vals++[.slice none 0 0,Aw zS,vp,Aw zp,Aw zm,Aw zn,Aw Bp,Aw Bb]))=(Aw z::v0::v1::v2::vals)++([.slice none 0 0,Aw zS]++([vp,Aw zp,Aw zm,Aw zn]++[Aw Bp,Aw Bb])):=rfl;rw[e1,e2];have e3:([.slice none 0 0,Aw zS,Aw Bp,Aw Bb]:List Value)=[.slice none 0 0,Aw zS]++[Aw Bp,Aw Bb]:=rfl;rw[e3,List.append_assoc];refine .trans (.append_left _ List.perm_append_comm) ?_;rw[List.append_assoc];refine .trans List.perm_append_comm ?_;rw[List.append_assoc];refine .append_left _ ?_;exact List.perm_append_comm
 ·simp only[List.mem_cons,List.not_mem_nil,or_false]at hu
  rcases hu with rfl|rfl|rfl|rfl|rfl|rfl|rfl|rfl
  ·cases hg
  ·cases hg;exact hs.2
  ·exact h1.g.lt u (by simp) g hg
  ·exact h1.g.lt (Aw zp) (by simp) g hg
  ·exact h1.g.lt (Aw zm) (by simp) g hg
  ·exact h1.g.lt (Aw zn) (by simp) g hg
  ·cases hg;exact hp.2
  ·cases hg;exact hq.2
end
end Go.Proofs.YtncjeamdkjcebaaGreatDoor
namespace Go.Proofs.YtncjeamdkjcebaaGreatDoor
open Go.RowKit
def Bz(lt:Nat->Int)(k:Nat):List Int:=(List.range k).map lt
theorem Cp(lt:Nat->Int)(k:Nat):(Bz lt k).length=k:=by simp[Bz]
theorem IW(lt:Nat->Int)(k:Nat):Bz lt (k+1)=Bz lt k++[lt k]:=by simp[Bz,List.range_succ]
theorem IZ{lt:Nat->Int}{m n:Nat}(h:m<=n):(Bz lt n).take m=(AW lt m n).stem:=by
 apply List.ext_getElem
 ·simp[Bz,AW];omega
 ·intro i h1 h2;simp[Bz,AW]
theorem IV{lt:Nat->Int}{m n:Nat}:(Bz lt n).drop m=(AW lt m n).loop:=by
 apply List.ext_getElem
 ·simp[Bz,AW]
 ·intro i h1 h2;simp[Bz,AW]
structure PS(w:World)(zs za:Nat)(st:Nat->Nat)(lt:Nat->Int)(N k:Nat)(v:Value)(L:List Int)(W:World):Prop where
 bl:Below w.heap.size w W
 rb:W.heap[w.heap.size]? =some (.cells #[.slice none 0 0,.slice none 0 0] 30 (0,0))
 sb:W.heap[zs]? =some (.cells #[.slice (some ⟨w.heap.size+1,0,none⟩) N N] 139 (0,0))
 ab:W.heap[za]? =some (.cells #[v] 140 (0,0))
 o:O32 W (w.heap.size+1) (.slice (some ⟨w.heap.size+1,0,none⟩) N N) L
 a:O8 W (w.heap.size+1) v (Bz lt k)
 ap:∀g,v.ownBlock=some g->za+3<=g
 zz:w.heap.size+1<zs/\zs<za
 ll:L.length=N
 l1:∀i,i<k->L.getD (st i) 0=(i:Int)+1
 l0:∀s,s<N->(∀i,i<k->st i≠s)->L.getD s 0=0
theorem O8.blk{w w':World}{base:Nat}{v:Value}{l:List Int}(h:O8 w base v l)(hb:∀k,v.ownBlock=some k->w'.heap[k]? =w.heap[k]?):O8 w' base v l:=AG h hb
theorem O32.blk{w w':World}{base:Nat}{v:Value}{l:List Int}(h:O32 w base v l)(hb:∀k,v.ownBlock=some k->w'.heap[k]? =w.heap[k]?):O32 w' base v l:=AG h hb
section
variable {w W W':World} {zs za N k:Nat} {st:Nat->Nat} {lt:Nat->Int} {v:Value} {L:List Int}
theorem PS.own{B:Nat}(hB:w.heap.size<=B):OwnFrom B (fun(x:Nat×Value×List Int)W=>PS w zs za st lt N x.1 x.2.1 x.2.2 W):=by
 rintro⟨k,v,L⟩ W W' row h hg hr
 have hsame:∀(g:Nat)(o:Obj),W.heap[g]? =some o->o.isCells=true->W'.heap[g]? =W.heap[g]? :=fun g o hgo hc=>by
  refine hg.block g (ltE hgo) fun e=> ?_
  obtain⟨-,o',h1,h2⟩:=hr g e.symm;rw[hgo]at h1
  cases h1
  rw[hc]at h2
  cases h2
 refine⟨h.bl.grown hg h.bl.size (fun r e=>Nat.le_trans hB (hr r e).1),(hsame _ _ h.rb rfl).trans h.rb,(hsame _ _ h.sb rfl).trans h.sb,(hsame _ _ h.ab rfl).trans h.ab,h.o.blk fun g e=> ?_,h.a.blk fun g e=> ?_,h.ap,h.zz,h.ll,h.l1,h.l0⟩
 ·obtain⟨o,h1,h2⟩:=Bh h.o e;exact hsame g o h1 h2
 ·obtain⟨o,h1,h2⟩:=Bh h.a e;exact hsame g o h1 h2
def chS(w:World)(za:Nat)(v:Value)(q:Nat):Prop:=q=za\/q=w.heap.size+1\/v.ownBlock=some q
theorem PS.keeps(h:PS w zs za st lt N k v L W)(ho:Ag (chS w za v) W W')(B:Nat):KeepsFrom B W W':=by
 refine⟨ho.size,fun i o _ hi hc=> ?_⟩;rw[ho.block i (ltE hi) ?_]
 ·exact hi
 ·rintro(rfl|rfl|e)
  ·rw[h.ab]at hi;cases hi;cases hc
  ·obtain⟨o',h1,h2⟩:=Bh h.o rfl;rw[h1]at hi;cases hi;rw[h2]at hc;cases hc
  ·obtain⟨o',h1,h2⟩:=Bh h.a e;rw[h1]at hi;cases hi;rw[h2]at hc;cases hc
theorem PS.kp(h:PS w zs za st lt N k v L W)(hzW:za+3<=W.heap.size)(ho:Ag (chS w za v) W W'):KpL w.heap.size (za+1) W W':=by
 obtain⟨z1,z2⟩:=h.zz;refine⟨ho.below _ ?_ h.bl.size,ho.block _ (by omega) ?_,ho.block _ (by omega) ?_⟩
 ·rintro q (rfl|rfl|e)
  ·omega
  ·omega
  ·have:=h.ap q e;omega
 ·rintro(e|e|e)
  ·omega
  ·omega
  ·have:=h.ap _ e;omega
 ·rintro(e|e|e)
  ·omega
  ·omega
  ·have:=h.ap _ e;omega
theorem PS.push(h:PS w zs za st lt N k v L W){w6:World}{v':Value}(hzW:za+3<=W.heap.size)(hs:st k<N)(hinj:∀i,i<k->st i≠st k)(ho:O8 w6 (w.heap.size+1) v' (Bz lt k++[lt k]))(hg:W.grownBy w6 v.ownBlock)(hm:A7 W v v'):
  (w6.heap[za]? =some (.cells #[v] 140 (0,0)))/\((w6.setCell ⟨za,0,none⟩ v').heap[zs]? =some (.cells #[.slice (some ⟨w.heap.size+1,0,none⟩) N N] 139 (0,0))/\(w6.setCell ⟨za,0,none⟩ v').heap[za]? =some (.cells #[v'] 140 (0,0))/\O32 (w6.setCell ⟨za,0,none⟩ v') (w.heap.size+1) (.slice (some ⟨w.heap.size+1,0,none⟩) N N) L)/\
   PS w zs za st lt N (k+1) v' (L.set (st k) ((k:Int)+1)) ((w6.setCell ⟨za,0,none⟩ v').setCell ⟨w.heap.size+1,st k,none⟩ (.int .i32 ((k:Int)+1)))/\Ag (chS w za v) W ((w6.setCell ⟨za,0,none⟩ v').setCell ⟨w.heap.size+1,st k,none⟩ (.int .i32 ((k:Int)+1))):=by
 obtain⟨z1,z2⟩:=h.zz
 have n1:v.ownBlock≠some (w.heap.size+1):=fun e=>by have:=h.ap _ e;omega
 have n2:v.ownBlock≠some zs:=fun e=>by have:=h.ap _ e;omega
 have n3:v.ownBlock≠some za:=fun e=>by have:=h.ap _ e;omega
 have lza:=(Array.getElem?_eq_some_iff.1 h.ab).1;have lzs:=(Array.getElem?_eq_some_iff.1 h.sb).1;have hab:w6.heap[za]? =some (.cells #[v] 140 (0,0)):=(hg.block za lza (Ne.symm n3)).trans h.ab
 have hlt:∀g,v'.ownBlock=some g->v.ownBlock=some g\/W.heap.size<=g:=fun g e=>hm g e
 have hne:∀q,q<W.heap.size->v.ownBlock≠some q->v'.ownBlock≠some q:=fun q hq hv e=>by
  rcases hlt q e with h1|h1
  ·exact hv h1
  ·omega
 have lZB:w.heap.size+1<W.heap.size:=by omega
 have a1:=hne _ lZB n1;have a2:=hne _ lzs n2;have a3:=hne _ lza n3
 have o1:Ag (chS w za v) W w6:=(Ag.of_grown hg).mono fun q _ e=>.inr (.inr e)
 have o2:Ag (chS w za v) w6 (w6.setCell ⟨za,0,none⟩ v'):=Ag.set za 0 v' (.inl rfl);have o3:Ag (chS w za v) (w6.setCell ⟨za,0,none⟩ v') ((w6.setCell ⟨za,0,none⟩ v').setCell ⟨w.heap.size+1,st k,none⟩ (.int .i32 ((k:Int)+1))):=Ag.set _ _ _ (.inr (.inl rfl));have o12:=o1.trans o2
 have hO7:O32 (w6.setCell ⟨za,0,none⟩ v') (w.heap.size+1) (.slice (some ⟨w.heap.size+1,0,none⟩) N N) L:=by
  refine h.o.blk fun g e=> ?_
  have e:w.heap.size+1=g:=by simpa[Value.ownBlock]using e
  subst e;rw[heap_setCell_other w6 ⟨za,0,none⟩ _ v' (by intro e;have e:w.heap.size+1=za:=e;omega)];exact hg.block _ lZB (Ne.symm n1)
 have hsb7:(w6.setCell ⟨za,0,none⟩ v').heap[zs]? =some (.cells #[.slice (some ⟨w.heap.size+1,0,none⟩) N N] 139 (0,0)):=by
  rw[heap_setCell_other w6 ⟨za,0,none⟩ _ v' (by intro e;have e:zs=za:=e;omega)];exact(hg.block zs lzs (Ne.symm n2)).trans h.sb
 have hab7:(w6.setCell ⟨za,0,none⟩ v').heap[za]? =some (.cells #[v'] 140 (0,0)):=Kr hab
 have hge:∀g,v.ownBlock=some g->w.heap.size+1<=g:=fun g e=>(World.ownsRow.lt h.a g e).1
 have hbl:Below w.heap.size w ((w6.setCell ⟨za,0,none⟩ v').setCell ⟨w.heap.size+1,st k,none⟩ (.int .i32 ((k:Int)+1))):=by
  refine h.bl.trans ((o12.trans o3).below _ ?_ h.bl.size);rintro q (rfl|rfl|e)
  ·omega
  ·omega
  ·have:=hge q e;omega
 refine⟨hab,⟨hsb7,hab7,hO7⟩,⟨hbl, ?_, ?_, ?_,hO7.set h.ll.symm (st k) _, ?_,fun g e=>(hlt g e).elim (fun e=>h.ap g e) (fun e=>by omega),h.zz,by rw[List.length_set];exact h.ll,fun i hi=> ?_,fun s hs' hno=> ?_⟩,o12.trans o3⟩
 ·rw[(o12.trans o3).block _ (by omega) ?_]
  ·exact h.rb
  ·rintro(e|e|e)
   ·omega
   ·omega
   ·have:=hge _ e;omega
 ·rw[heap_setCell_other _ ⟨w.heap.size+1,st k,none⟩ _ _ (by intro e;have e:zs=w.heap.size+1:=e;omega)];exact hsb7
 ·rw[heap_setCell_other _ ⟨w.heap.size+1,st k,none⟩ _ _ (by intro e;have e:za=w.heap.size+1:=e;omega)];exact hab7
 ·rw[IW]
  refine ho.blk fun g e=> ?_
  rw[heap_setCell_other _ ⟨w.heap.size+1,st k,none⟩ _ _ (by rintro rfl;exact a1 e),heap_setCell_other _ ⟨za,0,none⟩ _ _ (by rintro rfl;exact a3 e)]
 ·rcases Nat.lt_or_ge i k with h1|h1
  ·rw[AJ _ _ _ _ _ (Ne.symm (hinj i h1))];exact h.l1 i h1
  ·obtain rfl:i=k:=by omega
   exact AA _ _ _ _ (by rw[h.ll];exact hs)
 ·rw[AJ _ _ _ _ _ (hno k (by omega))]
  exact h.l0 s hs' fun i hi=>hno i (by omega)
end
theorem Pq{F:Fence}{nF:Nat}{ops:Array Oper}{rest:List Oper}{o:Oper}{a:Act}{Q:Exit->Act->World->Prop}{w:World}(hgd:o.guard=none)(s x:Operand)(b:Int)
  (ho:o.op=.call {callee:=.builtin .append,args:=#[s,x],argTypes:=#[140,140]})
  (base:Nat) (v:Value) (l:List Int) (hown:O8 w base v l) (hs:a.eval s=v) (m:Nat) (hm:m=w.heap.size) (hx:a.eval x=.slice (some ⟨m,0,none⟩) 1 1)
  (hn:l.length<17592186043904) (hbase:base<=w.heap.size)
  (h:∀v' w',O8 w' base v' (l++[b])->w.grownBy w' v.ownBlock->A7 w v v'->wpListIn F nF Tryz.prog ops Q rest (a.put o.dst v') w'):
  wpListIn F nF Tryz.prog ops Q (o::rest) a (w.alloc (.cells #[.int .u8 b] 5)):=by
 refine Dk hgd s x _ _ 1 1 _ #[.int .u8 b] ho Tryz.underlying140 Rw rfl (by decide) base v l.length _ hs hown m hm hx rfl (by simp[Value.oneCell']) (by simp only[maxLen];omega) (by omega) hbase fun v' w' h1 h2 h3=>h v' w' ?_ h2 h3
 unfold O8;simpa using h1
end Go.Proofs.YtncjeamdkjcebaaGreatDoor
namespace Go.Proofs.YtncjeamdkjcebaaGreatDoor
open Go.RowKit
open Go Go.RowKit
theorem Fr.own{w wr:World}{cs:Array Value}(h:Fr w wr cs){g j:Nat}(hg:w.heap.size+2<=g)(v:Value):Fr w (wr.setCell ⟨g,j,none⟩ v) cs:=
 h.step (Ad.setCell hg v)
def O5(l:List Int)(w:World)(e:Ending)(w':World):Prop:=∃v,e=.returned v/\Ai w' v l/\Below w.heap.size w w'
theorem P5(l:List Int)(k j:Nat):ivF (l.drop k) j=ivF l (k+j):=by simp[ivF,List.getD]
theorem Ai.drop{w:World}{ao:Option Addr}{cap b off:Nat}{l:List Int}(h:I8 w ao cap b off l.length (ivF l))(hr:∀x∈l,I64 x)(k:Nat)(hk:k<l.length):
  Ai w (.slice (some ⟨b,off+k,none⟩) (l.length-k) (cap-k)) (l.drop k):=by
 have:=h.lc;have:=h.cm;have:=h.nm;refine⟨⟨_,_,b,off+k,by rw[List.length_drop],⟨by rw[List.length_drop];omega,by omega,by rw[List.length_drop];omega,(fun e=>by cases e),fun _=>rfl,fun j hj=> ?_⟩⟩,fun x hx=>hr x (List.mem_of_mem_drop hx)⟩;rw[List.length_drop]at hj;have e:=h.el (k+j) (by omega);rw[P5,Nat.add_assoc];exact e
theorem NS(w:World):OI (w.alloc (.cells #[] 3)) w.heap.size (.slice (some ⟨w.heap.size,0,none⟩) 0 0) []:=
 World.ownsRow_made w #[] 0 leR (by simp[maxLen]) rfl
theorem SY(w:World):Sem.run Tryz.prog (binOp BinOp.eql 26 (.slice none 0 0) (.slice none 0 0)) w=.ok (.bool true) w:=by rfl
theorem R0(w:World)(ad:Addr)(n c:Nat):Sem.run Tryz.prog (binOp BinOp.eql 26 (.slice (some ad) n c) (.slice none 0 0)) w=.ok (.bool false) w:=by rfl
def TX(l:List Int)(w:World)(e:Ending)(w':World):Prop:=∃v,e=.returned v/\OI w' w.heap.size v l/\Below w.heap.size w w'
end Go.Proofs.YtncjeamdkjcebaaGreatDoor
namespace Go.Proofs.YtncjeamdkjcebaaGreatDoor
open Go.RowKit
theorem Qb{x:Int}(h:CO x=true):I64 x:=by
 simp only[CO,Bool.and_eq_true,decide_eq_true_eq]at h;unfold I64;omega
theorem K6{w:Ls}(h:BV w=true):w.stem.length<=60/\1<=w.loop.length/\w.loop.length<=40:=by
 obtain⟨h1,h2,h3,_⟩:=(CB w).1 h;exact⟨h1,h2,h3⟩
end Go.Proofs.YtncjeamdkjcebaaGreatDoor
namespace Go.Proofs.YtncjeamdkjcebaaGreatDoor
open Go.RowKit Go.Shelf
attribute [local go_sem] Oper.semAt_some
structure CM(g bo:Nat)(W W':World):Prop where
 os:W'.os=W.os
 tape:W'.tape=W.tape
 output:W'.output=W.output
 size:W.heap.size<=W'.heap.size
 block:∀k,k<W.heap.size->k≠g->k≠bo->W'.heap[k]? =W.heap[k]?
theorem CM.refl(g bo:Nat)(W:World):CM g bo W W:=⟨rfl,rfl,rfl,Nat.le_refl _,fun _ _ _ _=>rfl⟩
theorem CM.trans{g bo:Nat}{A B C:World}(h:CM g bo A B)(k:CM g bo B C):CM g bo A C:=
 ⟨k.os.trans h.os,k.tape.trans h.tape,k.output.trans h.output,Nat.le_trans h.size k.size,fun i hi h1 h2=>(k.block i (Nat.lt_of_lt_of_le hi h.size) h1 h2).trans (h.block i hi h1 h2)⟩
theorem CM.alloc{g bo:Nat}(W:World)(o:Obj):CM g bo W (W.alloc o):=⟨rfl,rfl,rfl,by simp,fun _ hi _ _=>Dt W o hi⟩
theorem CM.of_grown{g bo:Nat}{W W':World}(h:W.grownBy W' (some g)):CM g bo W W':=⟨h.os,h.tape,h.output,h.size,fun k hk h1 _=>h.block k hk (by simpa using h1)⟩
theorem CM.set{g bo:Nat}(W:World)(j:Nat)(u:Value):CM g bo W (W.setCell ⟨bo,j,none⟩ u):=⟨rfl,rfl,rfl,by simp,fun k _ _ h2=>heap_setCell_other W ⟨bo,j,none⟩ k u h2⟩
theorem CM.below{g bo n₀:Nat}{W W':World}(h:CM g bo W W')(hn:n₀<=W.heap.size)(h1:n₀<=g)(h2:n₀<=bo):Below n₀ W W':=
 ⟨h.os,h.tape,h.output,h.size,fun k hk=>h.block k (by omega) (by omega) (by omega)⟩
theorem CM.keepsFrom{g bo B:Nat}{W W':World}(h:CM g bo W W'){cs cs':Array Value}{t t':TypeId}{f f':Nat×Nat}(h1:W.heap[g]? =some (.cells cs t f))(h2:W.heap[bo]? =some (.cells cs' t' f')):KeepsFrom B W W':=by
 refine⟨h.size,fun i o _ hi ho=>(h.block i (ltE hi) ?_ ?_).trans hi⟩
 ·rintro rfl;rw[h1]at hi;cases hi;cases ho
 ·rintro rfl;rw[h2]at hi;cases hi;cases ho
theorem CM.kpL{g bo n₀ z:Nat}{W W':World}(h:CM g bo W W')(hn:n₀<=W.heap.size)(h1:n₀<=g)(h2:n₀<=bo)(hz:z+2<=W.heap.size)(hg:g<z)(hb:bo<z):KpL n₀ z W W':=
 ⟨h.below hn h1 h2,h.block z (by omega) (by omega) (by omega),h.block (z+1) (by omega) (by omega) (by omega)⟩
structure PI(w:World)(l:Ls)(n bo g k:Nat)(W:World):Prop where
 bl:Below w.heap.size w W
 nb:W.heap[w.heap.size+1]? =some (.cells #[.int .i64 (n:Nat)] 3 (0,0))
 ob:W.heap[bo]? =some (.cells #[.slice (some ⟨g,0,none⟩) k n] 26 (0,0))
 row:OI W w.heap.size (.slice (some ⟨g,0,none⟩) k n) (CF l k)
theorem Fa(l:Ls)(k:Nat):(CF l k).length=k:=by simp[CF]
theorem Kk(l:Ls)(k:Nat):CF l (k+1)=CF l k++[atL l k]:=by simp[CF,List.range_succ]
theorem OI.blk{w:World}{base g n cap:Nat}{l:List Int}(h:OI w base (.slice (some ⟨g,0,none⟩) n cap) l):∃cs,w.heap[g]? =some (.cells cs 3 (0,0)):=by
 rcases h.2 with⟨h0,_⟩|⟨g',cap',cur,h1,_,h2,_⟩
 ·cases h0
 ·simp only[Value.slice.injEq,Option.some.injEq,Addr.mk.injEq,and_true]at h1;obtain⟨rfl,_⟩:=h1;exact⟨_,h2⟩
theorem PI.grown{w W W':World}{l:Ls}{n bo g k:Nat}{row:Option Nat}(h:PI w l n bo g k W)(hg:W.grownBy W' row)(h0:∀r,row=some r->w.heap.size<=r/\r≠w.heap.size+1/\r≠bo/\r≠g):PI w l n bo g k W':=by
 refine⟨h.bl.grown hg h.bl.size (fun r e=>(h0 r e).1), ?_, ?_, ?_⟩
 ·exact(hg.block _ (Array.getElem?_eq_some_iff.1 h.nb).1 (fun e=>by have:=(h0 _ e.symm).2.1;exact this rfl)).trans h.nb
 ·exact(hg.block _ (Array.getElem?_eq_some_iff.1 h.ob).1 (fun e=>by have:=(h0 _ e.symm).2.2.1;exact this rfl)).trans h.ob
 ·exact h.row.grown hg (.inr (fun e=>by
   have:=(h0 g (by rw[<-e];rfl)).2.2.2;exact this rfl))
theorem PI.own{w:World}{l:Ls}{n bo g B:Nat}(hB:w.heap.size<=B):OwnFrom B (fun k W=>PI w l n bo g k W):=by
 intro k W W' row h hg hr
 refine h.grown hg fun r e=> ?_
 obtain⟨h1,o,ho,hc⟩:=hr r e;refine⟨by omega, ?_, ?_, ?_⟩
 ·rintro rfl;rw[h.nb]at ho;cases ho;cases hc
 ·rintro rfl;rw[h.ob]at ho;cases ho;cases hc
 ·rintro rfl;obtain⟨cs,h2⟩:=h.row.blk;rw[h2]at ho;cases ho;cases hc
theorem PI.push{w W W':World}{l:Ls}{n bo g k:Nat}{x:Value}(h:PI w l n bo g k W)(hbo:w.heap.size+1<bo)(hgo:w.heap.size+1<g)(hne:g≠bo)(hO:OI W' w.heap.size (.slice (some ⟨g,0,none⟩) (k+1) n) (CF l (k+1)))(hg:(W.alloc (.cells #[x] 3)).grownBy W' (some g)):
  PI w l n bo g (k+1) (W'.setCell ⟨bo,0,none⟩ (.slice (some ⟨g,0,none⟩) (k+1) n))/\CM g bo W (W'.setCell ⟨bo,0,none⟩ (.slice (some ⟨g,0,none⟩) (k+1) n)):=by
 have o1:CM g bo W (W'.setCell ⟨bo,0,none⟩ (.slice (some ⟨g,0,none⟩) (k+1) n)):=((CM.alloc W _).trans (CM.of_grown hg)).trans (CM.set W' 0 _);have hb:=h.bl.size
 have ob':W'.heap[bo]? =some (.cells #[.slice (some ⟨g,0,none⟩) k n] 26 (0,0)):=
  (hg.block bo (by have:=(Array.getElem?_eq_some_iff.1 h.ob).1;simp;omega) (by simpa using fun e=>hne e.symm)).trans ((Dt W _ (Array.getElem?_eq_some_iff.1 h.ob).1).trans h.ob)
 refine⟨⟨h.bl.trans (o1.below hb (by omega) (by omega)), ?_,Kr ob', ?_⟩,o1⟩
 ·exact(o1.block _ (Array.getElem?_eq_some_iff.1 h.nb).1 (by omega) (by omega)).trans h.nb
 ·exact hO.grown (CC W' bo 0 _) (.inr (by simpa[Value.ownBlock]using hne))
theorem LF{l:Ls}{i:Int}(h:i<1):Bt l i=[]:=if_neg (by omega)
theorem Kj{l:Ls}{i:Int}(h:500<i):Bt l i=[]:=if_neg (by omega)
theorem LH{l:Ls}{i:Int}(h:BV l=false):Bt l i=[]:=if_neg (by rw[h];simp)
theorem LG{l:Ls}{n:Nat}(h:BV l=true)(h1:1<=n)(h2:n<=500):Bt l (n:Int)=CF l n:=if_pos ⟨by omega,by omega,h⟩
attribute [local go_sem] Oper.semAt_some
theorem GN(w:World)(v:Value)(l:Ls)(i:Int)(hl:Co w v l)(hr:Bt l i=[])(hno:i<1\/500<i\/BV l=false):
  Calls Tryz.prog 34 #[v,.int .i64 i] w (O5 (Bt l i) w):=by
 have HF:=Ab (fun(W:World)(hW:Below w.heap.size w W)=>Gs W v l (hl.below hW))
 have HR:Hid (∀W,O5 (Bt l i) w (.returned (.slice none 0 0)) W↔Below w.heap.size w W):=fun W=>by
  rw[hr];exact⟨fun⟨_,_,_,h⟩=>h,fun h=>⟨_,rfl,Eh _,h⟩⟩
 clear hr;generalize Bt l i=r at*;obtain⟨v0,v1,rfl,h0,h1⟩:=hl;obtain⟨⟨a0,c0,b0,o0,rfl,g0⟩,-⟩:=h0;obtain⟨⟨a1,c1,b1,o1,rfl,g1⟩,-⟩:=h1;clear g0 g1
 by_cases h1:i<1
 ·have d1:decide (i<1)=true:=decide_eq_true h1;clear hno
  go_enter Tryz.func34,Tryz.ntmps34
  go_wp2;go_ret;exact(HR.out _).2 (by repeat(first|exact Ad|assumption|apply AD|apply AE))
 by_cases h2:500<i
 ·have d1:decide (i<1)=false:=decide_eq_false h1;have d2:decide (500<i)=true:=decide_eq_true h2;clear hno
  go_enter Tryz.func34,Tryz.ntmps34
  go_wp2;go_ret;exact(HR.out _).2 (by repeat(first|exact Ad|assumption|apply AD|apply AE))
 have hf:BV l=false:=by rcases hno with h|h|h;exact absurd h h1;exact absurd h h2;exact h
 have d1:decide (i<1)=false:=decide_eq_false h1;have d2:decide (500<i)=false:=decide_eq_false h2;rw[hf]at HF;clear hno hf
 go_enter Tryz.func34,Tryz.ntmps34
 go_wp2_with fail
 refine(HF.out _ (by repeat(first|exact Ad|assumption|apply AD|apply AE))).mono ?_;rintro e w2 ⟨rfl,hb2⟩;go_wp2;go_ret;exact(HR.out _).2 ((AD (Ao _) _).trans (hb2.mono (by simp;omega)))
theorem Md(w:World)(v:Value)(l:Ls)(n:Nat)(hl:Co w v l)(h1:1<=n)(h2:n<=500)(hf:BV l=true):
  Calls Tryz.prog 34 #[v,.int .i64 (n:Int)] w (O5 (CF l n) w):=by
 have HF:=Ab (fun(W:World)(hW:Below w.heap.size w W)=>Gs W v l (hl.below hW));rw[hf]at HF;obtain⟨s1,s2,s3⟩:=K6 hf;have HL:=Ab hl
 have HI:Hid (∀x∈CF l n,I64 x):=fun x hx=>by
  obtain⟨j,_,rfl⟩:=List.mem_map.1 hx;have:=(Lm (K7 hf)).1 ⟨((CB l).1 hf).2.2.2.1,((CB l).1 hf).2.2.2.2⟩ j;exact Qb this
 obtain⟨v0,v1,rfl,h0,h1'⟩:=hl;obtain⟨⟨a0,c0,b0,o0,rfl,g0⟩,-⟩:=h0;obtain⟨⟨a1,c1,b1,o1,rfl,g1⟩,-⟩:=h1';clear g0 g1 hf;have d1:decide (((n:Nat):Int)<1)=false:=decide_eq_false (by omega);have d2:decide (500<((n:Nat):Int))=false:=decide_eq_false (by omega);have d3:decide (n<1)=false:=decide_eq_false (by omega);have d4:decide (500<n)=false:=decide_eq_false (by omega);obtain⟨ii,hii,hz0,hz1,hz2⟩:=info_parts C5;refine callsIn_wide (n:=5)|>.1 ?_;refine callsIn_of_wp_marks Tryz.func34 rfl trivial ?_;simp only[Tryz.ntmps34,List.size_toArray,List.length_cons,List.length_nil,Nat.reduceAdd,Nat.reduceSub,Array.replicate_succ,Array.replicate_zero,List.push_toArray,List.append_toArray,List.nil_append,List.cons_append]
 gi_wp2_with fail
 refine⟨trivial, ?_⟩;refine(callsIn_wide.2 (HF.out _ (by repeat(first|exact Ad|assumption|apply AD|apply AE)))).mono ?_;rintro e w2 ⟨rfl,hb2⟩;have hB2:Below w.heap.size w w2:=(AD (Ao _) _).trans (hb2.mono (by simp;omega));have rA:w2.heap[w.heap.size]? =some (Obj.cells #[Value.slice a0 l.stem.length c0,Value.slice a1 l.loop.length c1] 30 (0,0)):=(hb2.block _ (by simp;omega)).trans ((Dt _ _ (by simp)).trans (heap_alloc_new _ _));have rB:w2.heap[w.heap.size+1]? =some (Obj.cells #[Value.int .i64 (n:Int)] 3 (0,0)):=(hb2.block _ (by simp)).trans (by have:=heap_alloc_new (w.alloc (Obj.cells #[Value.slice a0 l.stem.length c0,Value.slice a1 l.loop.length c1] 30)) (Obj.cells #[Value.int .i64 (n:Int)] 3);simpa using this);clear hb2 d1 d2 d3 d4 HF;have k2:w2.cell? ⟨w.heap.size+1,0,none⟩=some (.int .i64 (n:Int)):=Aa 0 rB
 have hz2':w.heap.size+2<=w2.heap.size:=by have:=(ltE rB);omega
 gi_upto_region 4 with(refine wpListIn_make_own _ rfl _ _ _ rfl w.heap.size 3 ii _ 1 Tryz.underlying26 hii hz0 hz1 .i64 .i64 (n:Int) n rfl rfl rfl (by rw[hz2];omega) (by unfold maxLen;omega) hB2.size ?_;intro w3 hown3 hg3;have HO3:=Ab hown3;have HG3:=Ab hg3;clear hown3 hg3)
 have O3:OI w3 w.heap.size (.slice (some ⟨w2.heap.size,0,none⟩) 0 n) (CF l 0):=HO3.out;have hg2:w2.heap.size<w3.heap.size:=(World.ownsRow.lt HO3.out _ rfl).2;have hB3:Below w.heap.size w w3:=hB2.grown HG3.out hB2.size (fun g h=>by cases h);have hbb:Below w2.heap.size w2 w3:=Ad.grown HG3.out leR (fun g h=>by cases h);have rA3:=(hbb.block _ (by omega:w.heap.size<w2.heap.size)).trans rA;have rB3:=(hbb.block _ (by omega:w.heap.size+1<w2.heap.size)).trans rB
 have hPI:PI w l n w3.heap.size w2.heap.size 0 (w3.alloc (Obj.cells #[Value.slice (some ⟨w2.heap.size,0,none⟩) 0 n] 26)):=
  ⟨AD hB3 _|>.trans Ad,(Dt _ _ (by omega)).trans rB3,heap_alloc_new _ _,World.ownsRow.alloc O3 _⟩
 have rA4:(w3.alloc (Obj.cells #[Value.slice (some ⟨w2.heap.size,0,none⟩) 0 n] 26)).heap[w.heap.size]? =_:=(Dt _ _ (by omega)).trans rA3
 have hz4:(w3.alloc (Obj.cells #[Value.slice (some ⟨w2.heap.size,0,none⟩) 0 n] 26)).heap.size=w3.heap.size+1:=by simp
 clear rA rB rA3 rB3 hbb hB3 hB2 HO3 HG3 O3 k2;generalize(w3.alloc (Obj.cells #[Value.slice (some ⟨w2.heap.size,0,none⟩) 0 n] 26))=w4 at*;generalize w2.heap.size=g at*;generalize w3.heap.size=bo at*;obtain⟨k0,k1,-,-⟩:=SF rA4
 gi_wp2_with fail
 refine⟨trivial, ?_⟩;refine(callsIn_wide.2 (Oh _ _ _)).mono ?_;rintro e w5 ⟨rfl,hw5⟩
 have hbx:Below w4.heap.size w4 w5:=by rw[hw5];exact Ao _
 have hBs:w5.heap[w4.heap.size]? =some (.cells #[.slice a0 l.stem.length c0,.slice a1 l.loop.length c1] 30 (0,0)):=by rw[hw5];exact heap_alloc_new _ _
 have hP5:PI w l n bo g 0 w5:=hPI.grown (row:=none) (by rw[hw5];exact World.grownBy_alloc _ _ none) (fun r e=>by cases e)
 have hz5:w5.heap.size=w4.heap.size+1:=by rw[hw5];simp
 clear hw5 rA4 k0 k1 hbx hPI;have hBs2:=hBs;rw[hz4]at hBs2;have HStops:=I0 (5-1) n (bo+1) (by omega) a0 a1 c0 c1 l w w5 HL.out hP5.bl hBs2 (by omega) (by omega) (by omega);have hws:w.heap.size<=w5.heap.size:=hP5.bl.size
 gi_wp2_with fail
 refine F7 rfl (by omega) (gf:=110) (lb:=#[.pointer (some ⟨bo+1,0,none⟩)]) rfl trivial (enters_of Tryz.func110 (by kernel_rfl) rfl)
  HStops (by omega) KpL.trans (KpL.put hws) Ad (fun _=>rfl)
  (fun k W=>PI w l n bo g k W) (fun c k W=>PI w l n bo g n W/\c=.exit 0)
  (PI.own hws) (fun k A B h _ hg=>h.grown hg (fun r e=>by cases e;omega))
  (fun c s W W' row h hg hr=>⟨PI.own (l:=l) (n:=n) (bo:=bo) (g:=g) hws n W W' row h.1 hg hr,h.2⟩)
  hP5 ?a1 ?assign ?body ?stop
 case assign=>
  intro lY k W K hK;unfold SI
  gi_wp2
  exact hK
 case body=>
  rintro lY k W hI hsz hk
  have hd:1<=5-1-1:=by omega
  have q0:W.cell? ⟨bo,0,none⟩=some (.slice (some ⟨g,0,none⟩) k n):=Aa 0 hI.ob;have qf:W.frozen? ⟨bo,0,none⟩=false:=Ay 0 hI.ob;have q1:W.cell? ⟨w.heap.size+1,0,none⟩=some (.int .i64 (n:Int)):=Aa 0 hI.nb;have hbo:bo<W.heap.size:=(Array.getElem?_eq_some_iff.1 hI.ob).1
  have hRow:Hid ((W.alloc (.cells #[.int .i64 (atL l k)] 3)).ownsRow w.heap.size 3 1 (.slice (some ⟨g,0,none⟩) k n) k ((CF l k).map (Value.int .i64))):=by
   have:=World.ownsRow.alloc hI.row (.cells #[.int .i64 (atL l k)] 3)
   rwa [Fa]at this
  have HNew:Hid (∀j u,[Value.int .i64 (atL l k)][j]? =some u->(W.alloc (.cells #[.int .i64 (atL l k)] 3)).cell? ((⟨W.heap.size,0,none⟩:Addr).add j)=some u):=cell_one_new _ _ _;have HI2:=Ab hI;have HSucc:=Ab (Kk l k);have HLen:=Ab (Fa l (k+1));clear hI;generalize atL l k=x at*
  gi_upto_region 7 with(refine wpListIn_append_fits _ rfl _ _ _ rfl w.heap.size 3 ii 1 Tryz.underlying26 hii hz1 g k n _ rfl hRow.out ⟨W.heap.size,0,none⟩ 1 1 [.int .i64 x] rfl rfl HNew.out (by simp[Value.oneCell']) (by omega) ?_;intro w6 hown6 hg6;have HP6:=Ab (HI2.out.push (by omega) (by omega) (by omega) (show OI w6 w.heap.size _ _ by unfold OI;rw[HLen.out,HSucc.out];simpa using hown6) hg6);have q0:w6.cell? ⟨bo,0,none⟩=some (.slice (some ⟨g,0,none⟩) k n):=(hg6.cell_far ⟨bo,0,none⟩ (by simp;omega) (by simp;omega)).trans (Ah (Ao _) q0);have qf:w6.frozen? ⟨bo,0,none⟩=false:=(hg6.frozen_far ⟨bo,0,none⟩ (by simp;omega) (by simp;omega)).trans ((Ao _).frozen (p:=⟨bo,0,none⟩) hbo|>.trans qf);clear hown6 hg6)
  have p0:=Aa 0 HP6.out.1.ob;have p1:=Aa 0 HP6.out.1.nb;obtain⟨W7,hW7⟩:∃W7,w6.setCell ⟨bo,0,none⟩ (.slice (some ⟨g,0,none⟩) (k+1) n)=W7:=⟨_,rfl⟩;rw[hW7]at HP6 p0 p1⊢;obtain⟨hP7,hO7⟩:=HP6.out;have HO7:=Ab hO7;obtain⟨cs,hgc⟩:=HI2.out.row.blk;have HK:=Ab (hO7.keepsFrom (B:=w5.heap.size) hgc HI2.out.ob);have HKp:=Ab (hO7.kpL (n₀:=w.heap.size) (z:=w5.heap.size+2) HI2.out.bl.size (by omega) (by omega) (by omega) (by omega) (by omega));have HP7:=Ab hP7;clear hP7 hO7 HO7 q0 q1 qf hgc hRow HNew hW7
  by_cases hkn:k+1=n
  ·have hq:(((k:Nat):Int)+1==(n:Int))=true:=by simp;omega
   have HKN:=Ab hkn;clear hkn
   gi_wp2
   exact⟨HK.out,by have:=HP7.out;rw[HKN.out]at this;exact this,rfl⟩
  ·have hq:(((k:Nat):Int)+1==(n:Int))=false:=by simp;omega
   have hkn2:k+1<n:=by omega
   clear hkn
   gi_wp2
   exact⟨HK.out,HKp.out,hkn2,HP7.out⟩
 case stop=>
  rintro D c k W hD ⟨hI,rfl⟩ hK
  have hDb:bo≠D:=fun e=>by have:=hI.ob;rw[e,hK]at this;cases this
  have hP:=hI.grown (grownBy_putObj' W D (.deferred none)) (fun r e=>by
   cases e
   refine⟨by omega, ?_,fun e=>hDb e.symm, ?_⟩
   ·rintro rfl;have:=hI.nb;rw[hK]at this;cases this
   ·rintro rfl;obtain⟨cs,h⟩:=hI.row.blk;rw[hK]at h;cases h)
  have q0:W.cell? ⟨bo,0,none⟩=some (.slice (some ⟨g,0,none⟩) n n):=Aa 0 hI.ob;have HP:=Ab hP;clear hI hP
  gi_wp2
  refine⟨by simp,.inl ⟨_,_,rfl,run_takeDeferred hK, ?_⟩⟩;refine⟨.slice (some ⟨g,0,none⟩) n n,by simp[results,Tryz.results34,go_sem],_,rfl, ?_,HP.out.bl⟩;have:=HP.out.row.is (by rw[Fa];unfold Bk;omega) HI.out;exact this
theorem O7(w:World)(v:Value)(l:Ls)(i:Int)(hl:Co w v l):Calls Tryz.prog 34 #[v,.int .i64 i] w (O5 (Bt l i) w):=by
 by_cases h1:i<1
 ·exact GN w v l i hl (LF h1) (.inl h1)
 by_cases h2:500<i
 ·exact GN w v l i hl (Kj h2) (.inr (.inl h2))
 by_cases hf:BV l=true
 ·obtain⟨n,rfl⟩:∃n:Nat,i=n:=⟨i.toNat,by omega⟩;rw[LG hf (by omega) (by omega)];exact Md w v l n hl (by omega) (by omega) hf
 ·rw[Bool.not_eq_true]at hf;exact GN w v l i hl (LH hf) (.inr (.inr hf))
end Go.Proofs.YtncjeamdkjcebaaGreatDoor
