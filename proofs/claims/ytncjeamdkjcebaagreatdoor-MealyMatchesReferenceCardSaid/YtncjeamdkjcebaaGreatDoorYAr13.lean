/- What Build's loop has made. -/
import Derived.RangeFuncWrites
import Derived.RangeFuncBox
import Derived.Test.YtncjeamdkjcebaaGreatDoorYAr7
set_option linter.all false
set_option maxRecDepth 100000
namespace Go.Proofs.YtncjeamdkjcebaaGreatDoor
open Go.RowKit Go.Shelf Go.Maps Go.WideMaps
/-! Rows of places. -/
def M3(y:UE):List Value:=[.int .i64 y.st,.int .i64 y.inn,.int .i64 y.pr]
def OT(l:List UE):List Value:=l.flatMap M3
theorem QU(l:List UE)(j k:Nat)(hj:j<l.length)(hk:k<3):(OT l)[j*3+k]? =(M3 l[j])[k]? :=by
 induction l generalizing j with
 |nil=>simp at hj
 |cons s r ih=>
  simp only[OT,List.flatMap_cons]at*
  cases j with
  |zero=>rw[List.getElem?_append_left (by simp[M3];omega)];simp
  |succ j=>
   rw[List.getElem?_append_right (by simp[M3];omega)];have:=ih j (by simpa using hj);simp only[M3,List.length_cons,List.length_nil,List.getElem_cons_succ]at this⊢;rw[<-this]
   congr 1
   omega
theorem OU(l:List UE)(y:UE):OT (l++[y])=OT l++M3 y:=by simp[OT]
def OP(w:World)(base:Nat)(v:Value)(l:List UE):Prop:=w.ownsRow base 108 3 v l.length (OT l)
theorem OP.slice{w:World}{base:Nat}{v:Value}{l:List UE}(h:OP w base v l):∃ao a,v=.slice ao l.length a:=by
 rcases h.2 with⟨hv,h0⟩|⟨g,a,b,hv,hb,hg,_⟩
 ·exact⟨none,0,by rw[hv,h0]⟩
 ·exact⟨_,a,hv⟩
theorem OP.at'{w:World}{base g n a:Nat}{l:List UE}(h:OP w base (.slice (some ⟨g,0,none⟩) n a) l)(hn:n=l.length)(j:Nat)(hj:j<l.length):
  w.cell? ⟨g,j*3,none⟩=some (.int .i64 l[j].st)/\w.cell? ⟨g,j*3+1,none⟩=some (.int .i64 l[j].inn)/\w.cell? ⟨g,j*3+2,none⟩=some (.int .i64 l[j].pr):=by
 subst hn
 have hc:∀k,k<3->w.cell? ⟨g,j*3+k,none⟩=(M3 l[j])[k]? :=fun k hk=>by
  rw[World.ownsRow.cellAt h (j*3+k) (by omega),QU l j k hj hk]
 exact⟨hc 0 (by omega),hc 1 (by omega),hc 2 (by omega)⟩
theorem MR:(Tryz.prog.info? 108).map (fun i=>(i.zero,i.size,i.bytes))=some (some (.agg #[.int .i64 0,.int .i64 0,.int .i64 0]),3,24):=by kernel_rfl
theorem K2{F:Fence}{nF:Nat}{P:Program}{ae:Array Oper}{rest:List Oper}{o:Oper}{a:Act}{Q:Exit->Act->World->Prop}{w:World}(ag:o.guard=none)(s x:Operand)(t e:TypeId)(b f:Nat)(z:Value)
  (ho:o.op=.call {callee:=.builtin .append,args:=#[s,x],argTypes:=#[t,t]})
  (ht:P.underlying t=some (.slice e)) (r:(P.info? e).map (fun i=>(i.zero,i.size,i.bytes))=some (some z,b,f)) (ai:z.cells.size=b) (ah:0<b)
  (base:Nat) (v:Value) (n:Nat) (xs:List Value) (hs:a.eval s=v) (p:w.ownsRow base e b v n xs)
  (ad:Addr) (m c:Nat) (d:List Value) (hx:a.eval x=.slice (some ad) m c) (hl:d.length=m*b) (l:∀j u,d[j]? =some u->w.cell? (ad.add j)=some u) (h1:∀u∈d,u.oneCell'=true)
  (y:n+m<=maxLen) (k:(n+m)*f<=140737488355328) (q:base<=w.heap.size)
  (h:∀v' w',w'.ownsRow base e b v' (n+m) (xs++d)->w.grownBy w' v.ownBlock->AS w v v'->wpListIn F nF P ae Q rest (a.put o.dst v') w'):
  wpListIn F nF P ae Q (o::rest) a w:=by
 refine wpListIn_plain ag fun K hK=> ?_
 obtain⟨i,hi,aa,ab,ac⟩:=info_parts r;obtain⟨v',w',hr,h2,h3,h4⟩:=run_append_own (P:=P) w base t o.type e i z b f ht hi aa ab ac ai ah v n xs p ad m c d hl l h1 y k q;have h5:=DH (P:=P) w base t o.type e i z b f ht hi aa ab ac v n xs p ad m c d hl l h1 y k v' w' hr;unfold Oper.wpIn;refine⟨by simp[Oper.about,ho,resolve,Target.leads,Sem.run_pure], ?_⟩;rw[Oper.semAt_plain F _ _ (by rw[ho];intro c af;cases af)];simp[execOp,ho,resolve,invoke,builtin,hs,hx,hr,Result.andThen];exact hK _ _ (h v' w' h2 h3 (fun g hg=>(h5 g hg).imp id (fun e=>by omega)))
theorem DL{F:Fence}{nF:Nat}{P:Program}{l:Array Oper}{rest:List Oper}{o:Oper}{a:Act}{Q:Exit->Act->World->Prop}{w:World}(r:o.guard=none)(s x:Operand)(t e:TypeId)(b c:Nat)(z:Value)(cs:Array Value)
  (ho:o.op=.call {callee:=.builtin .append,args:=#[s,x],argTypes:=#[t,t]})
  (ht:P.underlying t=some (.slice e)) (f:(P.info? e).map (fun i=>(i.zero,i.size,i.bytes))=some (some z,b,c)) (aa:z.cells.size=b) (y:0<b)
  (base:Nat) (v:Value) (n:Nat) (xs:List Value) (hs:a.eval s=v) (j:w.ownsRow base e b v n xs)
  (m:Nat) (hm:m=w.heap.size) (hx:a.eval x=.slice (some ⟨m,0,none⟩) 1 1) (hl:cs.size=b) (h1:∀u∈cs.toList,u.oneCell'=true)
  (p:n+1<=maxLen) (d:(n+1)*c<=140737488355328) (q:base<=w.heap.size)
  (h:∀v' w',w'.ownsRow base e b v' (n+1) (xs++cs.toList)->w.grownBy w' v.ownBlock->AS w v v'->wpListIn F nF P l Q rest (a.put o.dst v') w'):
  wpListIn F nF P l Q (o::rest) a (w.alloc (.cells cs e)):=by
 subst hm;refine K2 r s x t e b c z ho ht f aa y base v n xs hs (j.alloc _) ⟨w.heap.size,0,none⟩ 1 1 cs.toList hx (by simpa using hl) (World.news_of_block (cs:=cs) (t:=e) (fr:=(0,0)) (heap_alloc_new w _)) h1 p d (by simp;omega) ?_;intro v' w' h1 h2 h4;refine h v' w' h1 ⟨h2.os,h2.tape,h2.output,by have:=h2.size;simp at this;omega,fun k hk hr=> ?_⟩ (fun g hg=> ?_)
 ·rw[h2.block k (by simp;omega) hr];exact(Ao (w:=w) _).block k hk
 ·rcases h4 g hg with e|e
  ·exact .inl e
  ·refine .inr ?_;simp at e;omega
theorem Lf{F:Fence}{nF:Nat}{d:Array Oper}{rest:List Oper}{o:Oper}{a:Act}{Q:Exit->Act->World->Prop}{w:World}(e:o.guard=none)(s x:Operand)(y:UE)
  (ho:o.op=.call {callee:=.builtin .append,args:=#[s,x],argTypes:=#[66,66]})
  (base:Nat) (v:Value) (l:List UE) (c:OP w base v l) (hs:a.eval s=v) (m:Nat) (hm:m=w.heap.size) (hx:a.eval x=.slice (some ⟨m,0,none⟩) 1 1)
  (hn:l.length<5864062014000) (b:base<=w.heap.size)
  (h:∀v' w',OP w' base v' (l++[y])->w.grownBy w' v.ownBlock->AS w v v'->wpListIn F nF Tryz.prog d Q rest (a.put o.dst v') w'):
  wpListIn F nF Tryz.prog d Q (o::rest) a (w.alloc (.cells #[.int .i64 y.st,.int .i64 y.inn,.int .i64 y.pr] 108)):=by
 refine DL e s x _ _ 3 24 _ #[.int .i64 y.st,.int .i64 y.inn,.int .i64 y.pr] ho Tryz.underlying66 MR rfl (by decide) base v l.length _ hs c m hm hx rfl (by simp[Value.oneCell']) (by simp only[maxLen];omega) (by omega) b fun v' w' h1 h2 h3=>h v' w' ?_ h2 h3
 unfold OP;rw[List.length_append,OU];exact h1
theorem FI{F:Fence}{nF:Nat}{e:Array Oper}{rest:List Oper}{o:Oper}{a:Act}{Q:Exit->Act->World->Prop}{w:World}(f:o.guard=none)(s x:Operand)(b:Int)
  (ho:o.op=.call {callee:=.builtin .append,args:=#[s,x],argTypes:=#[26,26]})
  (base:Nat) (v:Value) (l:List Int) (d:OI w base v l) (hs:a.eval s=v) (m:Nat) (hm:m=w.heap.size) (hx:a.eval x=.slice (some ⟨m,0,none⟩) 1 1)
  (hn:l.length<17592186043904) (c:base<=w.heap.size)
  (h:∀v' w',OI w' base v' (l++[b])->w.grownBy w' v.ownBlock->AS w v v'->wpListIn F nF Tryz.prog e Q rest (a.put o.dst v') w'):
  wpListIn F nF Tryz.prog e Q (o::rest) a (w.alloc (.cells #[.int .i64 b] 3)):=by
 refine DL f s x _ _ 1 8 _ #[.int .i64 b] ho Tryz.underlying26 Dt rfl (by decide) base v l.length _ hs d m hm hx rfl (by simp[Value.oneCell']) (by simp only[maxLen];omega) (by omega) c fun v' w' h1 h2 h3=>h v' w' ?_ h2 h3
 unfold OI;simpa using h1
/-! Blocks. -/
theorem AF{w w':World}{base:Nat}{e:TypeId}{a n:Nat}{v:Value}{xs:List Value}(h:w.ownsRow base e a v n xs)(hb:∀k,v.ownBlock=some k->w'.heap[k]? =w.heap[k]?):w'.ownsRow base e a v n xs:=by
 refine⟨h.1, ?_⟩
 rcases h.2 with hn|⟨g,b,c,rfl,d,f,rest⟩
 ·exact .inl hn
 ·exact .inr ⟨g,b,c,rfl,d,by rw[hb g rfl];exact f,rest⟩
theorem Bj{w:World}{base:Nat}{e:TypeId}{a n:Nat}{v:Value}{xs:List Value}(h:w.ownsRow base e a v n xs){g:Nat}(hg:v.ownBlock=some g):∃o,w.heap[g]? =some o/\o.isCells=true:=by
 rcases h.2 with⟨rfl,_⟩|⟨g',c,d,rfl,f,b,rest⟩
 ·cases hg
 ·cases hg;exact⟨_,b,rfl⟩
theorem CB.blk{w w':World}{b:Nat}{l:List UE}(h:CB w b l)(hb:w'.heap[b]? =w.heap[b]?):CB w' b l:=by
 obtain⟨D,⟨es,a,h1,h2⟩,h3⟩:=h;exact⟨D,⟨es,a,by rw[hb];exact h1,h2⟩,h3⟩
theorem GB.blk{w w':World}{B z:Nat}{v0 v1 v2:Value}{vals others:List Value}{gm:Gm}(h:GB w B z v0 v1 v2 vals gm others)(hs:w.heap.size<=w'.heap.size)
  (hb:∀u∈Az z::v0::v1::v2::vals,∀k,u.ownBlock=some k->w'.heap[k]? =w.heap[k]?):GB w' B z v0 v1 v2 vals gm others:=
 {h with
  box:=by rw[hb (Az z) (by simp) z rfl];exact h.box
  o:=AF h.o (hb v0 (by simp))
  p:=AF h.p (hb v1 (by simp))
  r:=AF h.r (hb v2 (by simp))
  e:=fun j hj=>AF (h.e j hj) (hb _ (by
   have hl:j<vals.length:=by rw[h.vl];exact hj
   rw[Ae _ _ _ hl];simp))
  lt:=fun u hu g hg=>Nat.lt_of_lt_of_le (h.lt u hu g hg) hs}
theorem GB.perm{w:World}{B z:Nat}{v0 v1 v2:Value}{vals others a:List Value}{gm:Gm}(h:GB w B z v0 v1 v2 vals gm others)(hp:others.Perm a):GB w B z v0 v1 v2 vals gm a:=
 {h with
  sep:=h.sep.perm (by
   refine .cons _ (.cons _ (.cons _ (.cons _ ?_)))
   exact hp.append_left vals)
  lt:=fun u hu=>h.lt u (hp.mem_iff.2 hu)}
theorem GB.sub{w:World}{B z:Nat}{v0 v1 v2:Value}{vals others a:List Value}{gm:Gm}(h:GB w B z v0 v1 v2 vals gm others)(hp:a.Sublist others):GB w B z v0 v1 v2 vals gm a:=
 {h with
  sep:=List.Pairwise.sublist (by simp[hp]) h.sep
  lt:=fun u hu=>h.lt u (hp.subset hu)}
theorem GB.oneAt{w:World}{B z:Nat}{v0 v1 v2:Value}{vals others:List Value}{gm:Gm}(h:GB w B z v0 v1 v2 vals gm others){u:Value}(hu:u∈Az z::v0::v1::v2::vals){i:Nat}{v:Value}(hi:others[i]? =some v):AR u v:=by
 obtain⟨j,hj,rfl⟩:=List.getElem_of_mem hu
 have a:j<vals.length+4:=by simpa using hj
 refine h.sep.get (i:=j) (j:=gm.succ.length+i+4) (by have:=h.vl;omega) ?_ (h.otherAt hi);have:(Az z::v0::v1::v2::(vals++others))=(Az z::v0::v1::v2::vals)++others:=rfl;rw[this,List.getElem?_append_left hj];simp
theorem GB.twoAt{w:World}{B z:Nat}{v0 v1 v2:Value}{vals others:List Value}{gm:Gm}(h:GB w B z v0 v1 v2 vals gm others){i j:Nat}(a:i≠j){u v:Value}(hi:others[i]? =some u)(hj:others[j]? =some v):AR u v:=h.apart a hi hj
theorem GB.app{w w':World}{B z:Nat}{v0 v1 v2:Value}{vals others:List Value}{gm:Gm}(h:GB w B z v0 v1 v2 vals gm others){i j:Nat}{v v':Value}{b:Nat}(a:i≠j)(hi:others[i]? =some v)(hj:others[j]? =some (Az b))
  (hg:w.grownBy w' v.ownBlock) (hm:AS w v v') (n:∀g,v'.ownBlock=some g->g<w'.heap.size) (x:Value):
  GB (w'.setCell ⟨b,0,none⟩ x) B z v0 v1 v2 vals gm (others.set i v')/\w'.heap[b]? =w.heap[b]? /\v'.ownBlock≠some b/\
   ∀m u,m≠i->m≠j->others[m]? =some u->∀k,u.ownBlock=some k->(w'.setCell ⟨b,0,none⟩ x).heap[k]? =w.heap[k]? :=by
 have h1:=h.other hi hg hm n;have hb:b<w.heap.size:=h.lt (Az b) (List.mem_of_getElem? hj) b rfl;have o:AR v (Az b):=h.twoAt a hi hj;have f:i<others.length:=(List.getElem?_eq_some_iff.1 hi).1
 have c:(others.set i v')[j]? =some (Az b):=by rw[List.getElem?_set_ne a];exact hj
 have d:(others.set i v')[i]? =some v':=by rw[List.getElem?_set_self f]
 refine⟨h1.blk (by rw[World.size_setCell];exact Nat.le_refl _) fun u hu k hk=> ?_,hg.block b hb (fun e=>o b e.symm rfl),fun e=>h1.twoAt a d c b e rfl,fun m u hmi hmj hu k hk=> ?_⟩
 ·refine AK _ _ _ _ _ ?_;rintro rfl;exact h1.oneAt hu c k hk rfl
 ·have l:=h.lt u (List.mem_of_getElem? hu) k hk;have a1:AR u v:=h.twoAt hmi hu hi;have a2:AR u (Az b):=h.twoAt hmj hu hj;rw[AK _ _ _ _ _ (fun e=>a2 k hk (by rw[e];rfl))];exact hg.block k l (fun e=>a1 k hk e.symm)
theorem GB.othBlk{w w':World}{B z:Nat}{v0 v1 v2:Value}{vals others:List Value}{gm:Gm}(h:GB w B z v0 v1 v2 vals gm others){v:Value}(hv:v=v0\/v=v1\/v=v2)(hg:w.grownBy w' v.ownBlock)(j:Nat)(x:Value){i:Nat}{u:Value}(hu:others[i]? =some u){k:Nat}(hk:u.ownBlock=some k):
  (w'.setCell ⟨z,j,none⟩ x).heap[k]? =w.heap[k]? :=by
 have a:=h.lt u (List.mem_of_getElem? hu) k hk;have a1:AR v u:=h.oneAt (by rcases hv with rfl|rfl|rfl<;>simp) hu;have a2:AR (Az z) u:=h.oneAt (by simp) hu;rw[AK _ _ _ _ _ (fun e=>a2 z rfl (by rw[<-e];exact hk))];exact hg.block k a (fun e=>a1 k e.symm hk)
structure BO(w:World)(B z zp zm zn:Nat)(v0 v1 v2 vp:Value)(vals:List Value)(gm:Gm)(pls:List UE):Prop where
 g:GB w B z v0 v1 v2 vals gm [vp,Az zp,Az zm,Az zn]
 p:OP w B vp pls
 bp:w.heap[zp]? =some (.cells #[vp] 66 (0,0))
 m:CB w zm pls
 bn:w.heap[zn]? =some (.cells #[.map (some zm)] 109 (0,0))
 lo:B<=zp/\B<=zm
structure BI(w:World)(B z zp zm zn zS Bp Bb:Nat)(v0 v1 v2 vp vS:Value)(vals:List Value)(gm:Gm)(pls ml:List UE)(nums:List Int):Prop where
 g:GB w B z v0 v1 v2 vals gm [vS,Az zS,vp,Az zp,Az zm,Az zn,Az Bp,Az Bb]
 o:OI w B vS nums
 bs:w.heap[zS]? =some (.cells #[vS] 26 (0,0))
 p:OP w B vp pls
 bp:w.heap[zp]? =some (.cells #[vp] 66 (0,0))
 m:CB w zm ml
 bn:w.heap[zn]? =some (.cells #[.map (some zm)] 109 (0,0))
 lo:B<=zS/\B<=zp/\B<=zm
section
variable {w w':World} {B z zp zm zn zS Bp Bb:Nat} {v0 v1 v2 vp vS:Value} {vals:List Value} {gm:Gm} {pls ml:List UE} {nums:List Int}
theorem BO.below(h:BO w B z zp zm zn v0 v1 v2 vp vals gm pls)(hb:Below w.heap.size w w'):BO w' B z zp zm zn v0 v1 v2 vp vals gm pls:=
 {g:=h.g.below hb
  p:=AF h.p fun k hk=>hb.block k (h.g.lt vp (by simp) k hk)
  bp:=(hb.block _ (Array.getElem?_eq_some_iff.1 h.bp).1).trans h.bp
  m:=h.m.below hb
  bn:=(hb.block _ (Array.getElem?_eq_some_iff.1 h.bn).1).trans h.bn
  lo:=h.lo}
theorem BI.below(h:BI w B z zp zm zn zS Bp Bb v0 v1 v2 vp vS vals gm pls ml nums)(hb:Below w.heap.size w w'):BI w' B z zp zm zn zS Bp Bb v0 v1 v2 vp vS vals gm pls ml nums:=
 {g:=h.g.below hb
  o:=AF h.o fun k hk=>hb.block k (h.g.lt vS (by simp) k hk)
  bs:=(hb.block _ (Array.getElem?_eq_some_iff.1 h.bs).1).trans h.bs
  p:=AF h.p fun k hk=>hb.block k (h.g.lt vp (by simp) k hk)
  bp:=(hb.block _ (Array.getElem?_eq_some_iff.1 h.bp).1).trans h.bp
  m:=h.m.below hb
  bn:=(hb.block _ (Array.getElem?_eq_some_iff.1 h.bn).1).trans h.bn
  lo:=h.lo}
theorem BO.open(h:BO w B z zp zm zn v0 v1 v2 vp vals gm pls)(hB:B<=w.heap.size)(hb:Below w.heap.size w w')(hs:w.heap.size<=zS/\zS<w'.heap.size)(hp:w.heap.size<=Bp/\Bp<w'.heap.size)(hq:w.heap.size<=Bb/\Bb<w'.heap.size)(n1:zS≠Bp)(n2:zS≠Bb)(n3:Bp≠Bb)
  (b:w'.heap[zS]? =some (.cells #[.slice none 0 0] 26 (0,0))):BI w' B z zp zm zn zS Bp Bb v0 v1 v2 vp (.slice none 0 0) vals gm pls pls []:=by
 have h1:=h.below hb;have hl:=h.g.lts;refine {g:= ?_,o:=Br _ _,bs:=b,p:=h1.p,bp:=h1.bp,m:=h1.m,bn:=h1.bn,lo:=⟨by omega,h.lo.1,h.lo.2⟩}
 have a:Sep (.slice none 0 0::Az zS::Az Bp::Az Bb::(Az z::v0::v1::v2::(vals++[vp,Az zp,Az zm,Az zn]))):=by
  have q:∀{x:Nat},w.heap.size<=x->∀u∈Az z::v0::v1::v2::(vals++[vp,Az zp,Az zm,Az zn]),AR (Az x) u:=fun{x}hx u hu g hg hg2=>by
   cases hg
   have h3:x<w.heap.size:=hl u hu x hg2;omega
  have d:∀{x y:Nat},x≠y->AR (Az x) (Az y):=fun hxy g hg hg2=>by cases hg;cases hg2;exact hxy rfl
  refine List.pairwise_cons.2 ⟨fun x _=>Eg rfl,List.pairwise_cons.2 ⟨fun u hu=> ?_,List.pairwise_cons.2 ⟨fun u hu=> ?_,List.pairwise_cons.2 ⟨fun u hu=>q hq.1 u hu,h.g.sep⟩⟩⟩⟩
  ·rcases List.mem_cons.1 hu with rfl|hu
   ·exact d n1
   rcases List.mem_cons.1 hu with rfl|hu
   ·exact d n2
   ·exact q hs.1 u hu
  ·rcases List.mem_cons.1 hu with rfl|hu
   ·exact d n3
   ·exact q hp.1 u hu
 refine {h1.g with sep:=a.perm ?_,lt:=fun u hu g hg=> ?_}
 ·have e1:(Value.slice none 0 0::Az zS::Az Bp::Az Bb::(Az z::v0::v1::v2::(vals++[vp,Az zp,Az zm,Az zn])))=[.slice none 0 0,Az zS,Az Bp,Az Bb]++((Az z::v0::v1::v2::vals)++[vp,Az zp,Az zm,Az zn]):=rfl;have e2:(Az z::v0::v1::v2::(vals++[.slice none 0 0,Az zS,vp,Az zp,Az zm,Az zn,Az Bp,Az Bb]))=(Az z::v0::v1::v2::vals)++([.slice none 0 0,Az zS]++([vp,Az zp,Az zm,Az zn]++[Az Bp,Az Bb])):=rfl;rw[e1,e2];have e3:([.slice none 0 0,Az zS,Az Bp,Az Bb]:List Value)=[.slice none 0 0,Az zS]++[Az Bp,Az Bb]:=rfl;rw[e3,List.append_assoc];refine .trans (.append_left _ List.perm_append_comm) ?_;rw[List.append_assoc];refine .trans List.perm_append_comm ?_;rw[List.append_assoc];refine .append_left _ ?_;exact List.perm_append_comm
 ·simp only[List.mem_cons,List.not_mem_nil,or_false]at hu
  rcases hu with rfl|rfl|rfl|rfl|rfl|rfl|rfl|rfl
  ·cases hg
  ·cases hg;exact hs.2
  ·exact h1.g.lt u (by simp) g hg
  ·exact h1.g.lt (Az zp) (by simp) g hg
  ·exact h1.g.lt (Az zm) (by simp) g hg
  ·exact h1.g.lt (Az zn) (by simp) g hg
  ·cases hg;exact hp.2
  ·cases hg;exact hq.2
end
end Go.Proofs.YtncjeamdkjcebaaGreatDoor
namespace Go.Proofs.YtncjeamdkjcebaaGreatDoor
open Go.RowKit
def AV(lt:Nat->Int)(k:Nat):List Int:=(List.range k).map lt
theorem AO(lt:Nat->Int)(k:Nat):(AV lt k).length=k:=by simp[AV]
theorem DK(lt:Nat->Int)(k:Nat):AV lt (k+1)=AV lt k++[lt k]:=by simp[AV,List.range_succ]
theorem Ga{lt:Nat->Int}{m n:Nat}(h:m<=n):(AV lt n).take m=(A7 lt m n).stem:=by
 apply List.ext_getElem
 ·simp[AV,A7];omega
 ·intro i h1 h2;simp[AV,A7]
theorem F8{lt:Nat->Int}{m n:Nat}:(AV lt n).drop m=(A7 lt m n).loop:=by
 apply List.ext_getElem
 ·simp[AV,A7]
 ·intro i h1 h2;simp[AV,A7]
structure PS(w:World)(zs za:Nat)(st:Nat->Nat)(lt:Nat->Int)(N k:Nat)(v:Value)(L:List Int)(W:World):Prop where
 bl:Below w.heap.size w W
 rb:W.heap[w.heap.size]? =some (.cells #[.slice none 0 0,.slice none 0 0] 30 (0,0))
 sb:W.heap[zs]? =some (.cells #[.slice (some ⟨w.heap.size+1,0,none⟩) N N] 139 (0,0))
 ab:W.heap[za]? =some (.cells #[v] 140 (0,0))
 o:O32 W (w.heap.size+1) (.slice (some ⟨w.heap.size+1,0,none⟩) N N) L
 a:O8 W (w.heap.size+1) v (AV lt k)
 ap:∀g,v.ownBlock=some g->za+3<=g
 zz:w.heap.size+1<zs/\zs<za
 ll:L.length=N
 l1:∀i,i<k->L.getD (st i) 0=(i:Int)+1
 l0:∀s,s<N->(∀i,i<k->st i≠s)->L.getD s 0=0
theorem O8.blk{w w':World}{base:Nat}{v:Value}{l:List Int}(h:O8 w base v l)(hb:∀k,v.ownBlock=some k->w'.heap[k]? =w.heap[k]?):O8 w' base v l:=AF h hb
theorem O32.blk{w w':World}{base:Nat}{v:Value}{l:List Int}(h:O32 w base v l)(hb:∀k,v.ownBlock=some k->w'.heap[k]? =w.heap[k]?):O32 w' base v l:=AF h hb
section
variable {w W W':World} {zs za N k:Nat} {st:Nat->Nat} {lt:Nat->Int} {v:Value} {L:List Int}
theorem PS.own{B:Nat}(hB:w.heap.size<=B):OwnFrom B (fun(x:Nat×Value×List Int)W=>PS w zs za st lt N x.1 x.2.1 x.2.2 W):=by
 rintro⟨k,v,L⟩ W W' row h hg hr
 have b:∀(g:Nat)(o:Obj),W.heap[g]? =some o->o.isCells=true->W'.heap[g]? =W.heap[g]? :=fun g o hgo hc=>by
  refine hg.block g (ltE hgo) fun e=> ?_
  obtain⟨-,o',h1,h2⟩:=hr g e.symm;rw[hgo]at h1
  cases h1
  rw[hc]at h2
  cases h2
 refine⟨h.bl.grown hg h.bl.size (fun r e=>Nat.le_trans hB (hr r e).1),(b _ _ h.rb rfl).trans h.rb,(b _ _ h.sb rfl).trans h.sb,(b _ _ h.ab rfl).trans h.ab,h.o.blk fun g e=> ?_,h.a.blk fun g e=> ?_,h.ap,h.zz,h.ll,h.l1,h.l0⟩
 ·obtain⟨o,h1,h2⟩:=Bj h.o e;exact b g o h1 h2
 ·obtain⟨o,h1,h2⟩:=Bj h.a e;exact b g o h1 h2
def chS(w:World)(za:Nat)(v:Value)(q:Nat):Prop:=q=za\/q=w.heap.size+1\/v.ownBlock=some q
theorem PS.keeps(h:PS w zs za st lt N k v L W)(ho:Af (chS w za v) W W')(B:Nat):KeepsFrom B W W':=by
 refine⟨ho.size,fun i o _ hi hc=> ?_⟩;rw[ho.block i (ltE hi) ?_]
 ·exact hi
 ·rintro(rfl|rfl|e)
  ·rw[h.ab]at hi;cases hi;cases hc
  ·obtain⟨o',h1,h2⟩:=Bj h.o rfl;rw[h1]at hi;cases hi;rw[h2]at hc;cases hc
  ·obtain⟨o',h1,h2⟩:=Bj h.a e;rw[h1]at hi;cases hi;rw[h2]at hc;cases hc
theorem PS.kp(h:PS w zs za st lt N k v L W)(a:za+3<=W.heap.size)(ho:Af (chS w za v) W W'):KpL w.heap.size (za+1) W W':=by
 obtain⟨z1,z2⟩:=h.zz;refine⟨ho.below _ ?_ h.bl.size,ho.block _ (by omega) ?_,ho.block _ (by omega) ?_⟩
 ·rintro q (rfl|rfl|e)
  ·omega
  ·omega
  ·have:=h.ap q e;omega
 ·rintro(e|e|e)
  ·omega
  ·omega
  ·have:=h.ap _ e;omega
 ·rintro(e|e|e)
  ·omega
  ·omega
  ·have:=h.ap _ e;omega
theorem PS.push(h:PS w zs za st lt N k v L W){w6:World}{v':Value}(y:za+3<=W.heap.size)(hs:st k<N)(n:∀i,i<k->st i≠st k)(ho:O8 w6 (w.heap.size+1) v' (AV lt k++[lt k]))(hg:W.grownBy w6 v.ownBlock)(hm:AS W v v'):
  (w6.heap[za]? =some (.cells #[v] 140 (0,0)))/\((w6.setCell ⟨za,0,none⟩ v').heap[zs]? =some (.cells #[.slice (some ⟨w.heap.size+1,0,none⟩) N N] 139 (0,0))/\(w6.setCell ⟨za,0,none⟩ v').heap[za]? =some (.cells #[v'] 140 (0,0))/\O32 (w6.setCell ⟨za,0,none⟩ v') (w.heap.size+1) (.slice (some ⟨w.heap.size+1,0,none⟩) N N) L)/\
   PS w zs za st lt N (k+1) v' (L.set (st k) ((k:Int)+1)) ((w6.setCell ⟨za,0,none⟩ v').setCell ⟨w.heap.size+1,st k,none⟩ (.int .i32 ((k:Int)+1)))/\Af (chS w za v) W ((w6.setCell ⟨za,0,none⟩ v').setCell ⟨w.heap.size+1,st k,none⟩ (.int .i32 ((k:Int)+1))):=by
 obtain⟨z1,z2⟩:=h.zz
 have n1:v.ownBlock≠some (w.heap.size+1):=fun e=>by have:=h.ap _ e;omega
 have n2:v.ownBlock≠some zs:=fun e=>by have:=h.ap _ e;omega
 have n3:v.ownBlock≠some za:=fun e=>by have:=h.ap _ e;omega
 have r:=(Array.getElem?_eq_some_iff.1 h.ab).1;have u:=(Array.getElem?_eq_some_iff.1 h.sb).1;have l:w6.heap[za]? =some (.cells #[v] 140 (0,0)):=(hg.block za r (Ne.symm n3)).trans h.ab
 have hlt:∀g,v'.ownBlock=some g->v.ownBlock=some g\/W.heap.size<=g:=fun g e=>hm g e
 have d:∀q,q<W.heap.size->v.ownBlock≠some q->v'.ownBlock≠some q:=fun q hq hv e=>by
  rcases hlt q e with h1|h1
  ·exact hv h1
  ·omega
 have p:w.heap.size+1<W.heap.size:=by omega
 have a1:=d _ p n1;have a2:=d _ u n2;have a3:=d _ r n3
 have o1:Af (chS w za v) W w6:=(Af.of_grown hg).mono fun q _ e=>.inr (.inr e)
 have o2:Af (chS w za v) w6 (w6.setCell ⟨za,0,none⟩ v'):=Af.set za 0 v' (.inl rfl);have o3:Af (chS w za v) (w6.setCell ⟨za,0,none⟩ v') ((w6.setCell ⟨za,0,none⟩ v').setCell ⟨w.heap.size+1,st k,none⟩ (.int .i32 ((k:Int)+1))):=Af.set _ _ _ (.inr (.inl rfl));have f:=o1.trans o2
 have j:O32 (w6.setCell ⟨za,0,none⟩ v') (w.heap.size+1) (.slice (some ⟨w.heap.size+1,0,none⟩) N N) L:=by
  refine h.o.blk fun g e=> ?_
  have e:w.heap.size+1=g:=by simpa[Value.ownBlock]using e
  subst e;rw[heap_setCell_other w6 ⟨za,0,none⟩ _ v' (by intro e;have e:w.heap.size+1=za:=e;omega)];exact hg.block _ p (Ne.symm n1)
 have c:(w6.setCell ⟨za,0,none⟩ v').heap[zs]? =some (.cells #[.slice (some ⟨w.heap.size+1,0,none⟩) N N] 139 (0,0)):=by
  rw[heap_setCell_other w6 ⟨za,0,none⟩ _ v' (by intro e;have e:zs=za:=e;omega)];exact(hg.block zs u (Ne.symm n2)).trans h.sb
 have b:(w6.setCell ⟨za,0,none⟩ v').heap[za]? =some (.cells #[v'] 140 (0,0)):=KV l
 have m:∀g,v.ownBlock=some g->w.heap.size+1<=g:=fun g e=>(World.ownsRow.lt h.a g e).1
 have x:Below w.heap.size w ((w6.setCell ⟨za,0,none⟩ v').setCell ⟨w.heap.size+1,st k,none⟩ (.int .i32 ((k:Int)+1))):=by
  refine h.bl.trans ((f.trans o3).below _ ?_ h.bl.size);rintro q (rfl|rfl|e)
  ·omega
  ·omega
  ·have:=m q e;omega
 refine⟨l,⟨c,b,j⟩,⟨x, ?_, ?_, ?_,j.set h.ll.symm (st k) _, ?_,fun g e=>(hlt g e).elim (fun e=>h.ap g e) (fun e=>by omega),h.zz,by rw[List.length_set];exact h.ll,fun i hi=> ?_,fun s hs' hno=> ?_⟩,f.trans o3⟩
 ·rw[(f.trans o3).block _ (by omega) ?_]
  ·exact h.rb
  ·rintro(e|e|e)
   ·omega
   ·omega
   ·have:=m _ e;omega
 ·rw[heap_setCell_other _ ⟨w.heap.size+1,st k,none⟩ _ _ (by intro e;have e:zs=w.heap.size+1:=e;omega)];exact c
 ·rw[heap_setCell_other _ ⟨w.heap.size+1,st k,none⟩ _ _ (by intro e;have e:za=w.heap.size+1:=e;omega)];exact b
 ·rw[DK]
  refine ho.blk fun g e=> ?_
  rw[heap_setCell_other _ ⟨w.heap.size+1,st k,none⟩ _ _ (by rintro rfl;exact a1 e),heap_setCell_other _ ⟨za,0,none⟩ _ _ (by rintro rfl;exact a3 e)]
 ·rcases Nat.lt_or_ge i k with h1|h1
  ·rw[AJ _ _ _ _ _ (Ne.symm (n i h1))];exact h.l1 i h1
  ·obtain rfl:i=k:=by omega
   exact AA _ _ _ _ (by rw[h.ll];exact hs)
 ·rw[AJ _ _ _ _ _ (hno k (by omega))]
  exact h.l0 s hs' fun i hi=>hno i (by omega)
end
theorem PW{F:Fence}{nF:Nat}{e:Array Oper}{rest:List Oper}{o:Oper}{a:Act}{Q:Exit->Act->World->Prop}{w:World}(f:o.guard=none)(s x:Operand)(b:Int)
  (ho:o.op=.call {callee:=.builtin .append,args:=#[s,x],argTypes:=#[140,140]})
  (base:Nat) (v:Value) (l:List Int) (d:O8 w base v l) (hs:a.eval s=v) (m:Nat) (hm:m=w.heap.size) (hx:a.eval x=.slice (some ⟨m,0,none⟩) 1 1)
  (hn:l.length<17592186043904) (c:base<=w.heap.size)
  (h:∀v' w',O8 w' base v' (l++[b])->w.grownBy w' v.ownBlock->AS w v v'->wpListIn F nF Tryz.prog e Q rest (a.put o.dst v') w'):
  wpListIn F nF Tryz.prog e Q (o::rest) a (w.alloc (.cells #[.int .u8 b] 5)):=by
 refine DL f s x _ _ 1 1 _ #[.int .u8 b] ho Tryz.underlying140 R5 rfl (by decide) base v l.length _ hs d m hm hx rfl (by simp[Value.oneCell']) (by simp only[maxLen];omega) (by omega) c fun v' w' h1 h2 h3=>h v' w' ?_ h2 h3
 unfold O8;simpa using h1
end Go.Proofs.YtncjeamdkjcebaaGreatDoor
namespace Go.Proofs.YtncjeamdkjcebaaGreatDoor
open Go.RowKit
open Go Go.RowKit
theorem Fr.own{w wr:World}{cs:Array Value}(h:Fr w wr cs){g j:Nat}(hg:w.heap.size+2<=g)(v:Value):Fr w (wr.setCell ⟨g,j,none⟩ v) cs:=
 h.step (Ad.setCell hg v)
theorem QB(l:List Int)(k j:Nat):ivF (l.drop k) j=ivF l (k+j):=by simp[ivF,List.getD]
theorem Ah.drop{w:World}{ao:Option Addr}{c b a:Nat}{l:List Int}(h:Jw w ao c b a l.length (ivF l))(hr:∀x∈l,I64 x)(k:Nat)(hk:k<l.length):
  Ah w (.slice (some ⟨b,a+k,none⟩) (l.length-k) (c-k)) (l.drop k):=by
 have:=h.lc;have:=h.cm;have:=h.nm;refine⟨⟨_,_,b,a+k,by rw[List.length_drop],⟨by rw[List.length_drop];omega,by omega,by rw[List.length_drop];omega,(fun e=>by cases e),fun _=>rfl,fun j hj=> ?_⟩⟩,fun x hx=>hr x (List.mem_of_mem_drop hx)⟩;rw[List.length_drop]at hj;have e:=h.el (k+j) (by omega);rw[QB,Nat.add_assoc];exact e
theorem Hh(w:World):OI (w.alloc (.cells #[] 3)) w.heap.size (.slice (some ⟨w.heap.size,0,none⟩) 0 0) []:=
 World.ownsRow_made w #[] 0 leR (by simp[maxLen]) rfl
theorem TB(w:World):Sem.run Tryz.prog (binOp BinOp.eql 26 (.slice none 0 0) (.slice none 0 0)) w=.ok (.bool true) w:=by rfl
theorem Sy(w:World)(ad:Addr)(n c:Nat):Sem.run Tryz.prog (binOp BinOp.eql 26 (.slice (some ad) n c) (.slice none 0 0)) w=.ok (.bool false) w:=by rfl
def Uv(l:List Int)(w:World)(e:Ending)(w':World):Prop:=∃v,e=.returned v/\OI w' w.heap.size v l/\Below w.heap.size w w'
end Go.Proofs.YtncjeamdkjcebaaGreatDoor
namespace Go.Proofs.YtncjeamdkjcebaaGreatDoor
open Go.RowKit Go.Shelf
attribute [local go_sem] Oper.semAt_some
structure Dr(g bo:Nat)(W W':World):Prop where
 os:W'.os=W.os
 tape:W'.tape=W.tape
 output:W'.output=W.output
 size:W.heap.size<=W'.heap.size
 block:∀k,k<W.heap.size->k≠g->k≠bo->W'.heap[k]? =W.heap[k]?
theorem Dr.refl(g bo:Nat)(W:World):Dr g bo W W:=⟨rfl,rfl,rfl,Nat.le_refl _,fun _ _ _ _=>rfl⟩
theorem Dr.trans{g bo:Nat}{A B C:World}(h:Dr g bo A B)(k:Dr g bo B C):Dr g bo A C:=
 ⟨k.os.trans h.os,k.tape.trans h.tape,k.output.trans h.output,Nat.le_trans h.size k.size,fun i hi h1 h2=>(k.block i (Nat.lt_of_lt_of_le hi h.size) h1 h2).trans (h.block i hi h1 h2)⟩
theorem Dr.alloc{g bo:Nat}(W:World)(o:Obj):Dr g bo W (W.alloc o):=⟨rfl,rfl,rfl,by simp,fun _ hi _ _=>Dm W o hi⟩
theorem Dr.of_grown{g bo:Nat}{W W':World}(h:W.grownBy W' (some g)):Dr g bo W W':=⟨h.os,h.tape,h.output,h.size,fun k hk h1 _=>h.block k hk (by simpa using h1)⟩
theorem Dr.set{g bo:Nat}(W:World)(j:Nat)(u:Value):Dr g bo W (W.setCell ⟨bo,j,none⟩ u):=⟨rfl,rfl,rfl,by simp,fun k _ _ h2=>heap_setCell_other W ⟨bo,j,none⟩ k u h2⟩
theorem Dr.below{g bo n₀:Nat}{W W':World}(h:Dr g bo W W')(hn:n₀<=W.heap.size)(h1:n₀<=g)(h2:n₀<=bo):Below n₀ W W':=
 ⟨h.os,h.tape,h.output,h.size,fun k hk=>h.block k (by omega) (by omega) (by omega)⟩
structure PI(w:World)(l:Ls)(n bo g k:Nat)(W:World):Prop where
 bl:Below w.heap.size w W
 nb:W.heap[w.heap.size+1]? =some (.cells #[.int .i64 (n:Nat)] 3 (0,0))
 ob:W.heap[bo]? =some (.cells #[.slice (some ⟨g,0,none⟩) k n] 26 (0,0))
 row:OI W w.heap.size (.slice (some ⟨g,0,none⟩) k n) (N3 l k)
theorem OI.blk{w:World}{base g n a:Nat}{l:List Int}(h:OI w base (.slice (some ⟨g,0,none⟩) n a) l):∃cs,w.heap[g]? =some (.cells cs 3 (0,0)):=by
 rcases h.2 with⟨h0,_⟩|⟨g',b,c,h1,_,h2,_⟩
 ·cases h0
 ·simp only[Value.slice.injEq,Option.some.injEq,Addr.mk.injEq,and_true]at h1;obtain⟨rfl,_⟩:=h1;exact⟨_,h2⟩
theorem PI.grown{w W W':World}{l:Ls}{n bo g k:Nat}{row:Option Nat}(h:PI w l n bo g k W)(hg:W.grownBy W' row)(h0:∀r,row=some r->w.heap.size<=r/\r≠w.heap.size+1/\r≠bo/\r≠g):PI w l n bo g k W':=by
 refine⟨h.bl.grown hg h.bl.size (fun r e=>(h0 r e).1), ?_, ?_, ?_⟩
 ·exact(hg.block _ (Array.getElem?_eq_some_iff.1 h.nb).1 (fun e=>by have:=(h0 _ e.symm).2.1;exact this rfl)).trans h.nb
 ·exact(hg.block _ (Array.getElem?_eq_some_iff.1 h.ob).1 (fun e=>by have:=(h0 _ e.symm).2.2.1;exact this rfl)).trans h.ob
 ·exact h.row.grown hg (.inr (fun e=>by
   have:=(h0 g (by rw[<-e];rfl)).2.2.2;exact this rfl))
theorem PI.own{w:World}{l:Ls}{n bo g B:Nat}(hB:w.heap.size<=B):OwnFrom B (fun k W=>PI w l n bo g k W):=by
 intro k W W' row h hg hr
 refine h.grown hg fun r e=> ?_
 obtain⟨h1,o,ho,hc⟩:=hr r e;refine⟨by omega, ?_, ?_, ?_⟩
 ·rintro rfl;rw[h.nb]at ho;cases ho;cases hc
 ·rintro rfl;rw[h.ob]at ho;cases ho;cases hc
 ·rintro rfl;obtain⟨cs,h2⟩:=h.row.blk;rw[h2]at ho;cases ho;cases hc
theorem PI.push{w W W':World}{l:Ls}{n bo g k:Nat}{x:Value}(h:PI w l n bo g k W)(c:w.heap.size+1<bo)(d:w.heap.size+1<g)(a:g≠bo)(hO:OI W' w.heap.size (.slice (some ⟨g,0,none⟩) (k+1) n) (N3 l (k+1)))(hg:(W.alloc (.cells #[x] 3)).grownBy W' (some g)):
  PI w l n bo g (k+1) (W'.setCell ⟨bo,0,none⟩ (.slice (some ⟨g,0,none⟩) (k+1) n))/\Dr g bo W (W'.setCell ⟨bo,0,none⟩ (.slice (some ⟨g,0,none⟩) (k+1) n)):=by
 have o1:Dr g bo W (W'.setCell ⟨bo,0,none⟩ (.slice (some ⟨g,0,none⟩) (k+1) n)):=((Dr.alloc W _).trans (Dr.of_grown hg)).trans (Dr.set W' 0 _);have hb:=h.bl.size
 have b:W'.heap[bo]? =some (.cells #[.slice (some ⟨g,0,none⟩) k n] 26 (0,0)):=
  (hg.block bo (by have:=(Array.getElem?_eq_some_iff.1 h.ob).1;simp;omega) (by simpa using fun e=>a e.symm)).trans ((Dm W _ (Array.getElem?_eq_some_iff.1 h.ob).1).trans h.ob)
 refine⟨⟨h.bl.trans (o1.below hb (by omega) (by omega)), ?_,KV b, ?_⟩,o1⟩
 ·exact(o1.block _ (Array.getElem?_eq_some_iff.1 h.nb).1 (by omega) (by omega)).trans h.nb
 ·exact hO.grown (CK W' bo 0 _) (.inr (by simpa[Value.ownBlock]using a))
end Go.Proofs.YtncjeamdkjcebaaGreatDoor
