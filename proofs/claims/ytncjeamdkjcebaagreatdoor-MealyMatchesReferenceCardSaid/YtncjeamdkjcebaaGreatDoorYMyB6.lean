/- What the closure in mealy.Both computes. -/
import Derived.Test.YtncjeamdkjcebaaGreatDoorYMyB4
import Derived.Test.YtncjeamdkjcebaaGreatDoorYAr22
set_option linter.all false
set_option maxHeartbeats 4000000
set_option maxRecDepth 100000
namespace Go.Proofs.YtncjeamdkjcebaaGreatDoor
open Go.RowKit
def Ej{α:Type}(f:Nat->α)(d:α)(n i:Nat):List α:=(List.range i).map f++List.replicate (n-i) d
section
variable {α:Type} {f:Nat->α} {d:α} {n i:Nat}
theorem FO:Ej f d n 0=List.replicate n d:=by simp[Ej]
theorem GT:Ej f d n n=(List.range n).map f:=by simp[Ej]
theorem GU(h:i<n):(Ej f d n i).set i (f i)=Ej f d n (i+1):=by
 obtain⟨k,hk⟩:∃k,n-i=k+1:=⟨n-i-1,by omega⟩;unfold Ej;rw[hk,show n-(i+1)=k by omega,List.replicate_succ,List.range_succ,List.map_append,List.append_assoc];rw[List.set_append_right _ _ (by simp)];simp
end
structure BK(w0:World)(pr:Nat)(ci co:Int)(rows:Nat->List Int)(k:Nat)(v3:Value)(n3:List Value)(H:Nat->Prop)(W:World):Prop where
 hH:∀q,H q↔(q=pr\/v3.ownBlock=some q\/∃u∈n3,u.ownBlock=some q)
 on:Af (fun q=>w0.heap.size<=q\/q=pr) w0 W
 box:W.heap[pr]? =some (.cells #[.int .i64 ci,.int .i64 co,.int .i64 0,v3,.slice none 0 0] 25 (0,0))
 own:W.ownsRow w0.heap.size 26 1 v3 k n3
 row:∀j,j<k->OI W w0.heap.size (n3.getD j undef) (rows j)
 ap:∀u∈n3,∀q,u.ownBlock=some q->v3.ownBlock≠some q
 pz:pr<w0.heap.size
 ln:n3.length=k
def BJ(w0:World)(pr:Nat)(ci co:Int)(rows:Nat->List Int)(k:Nat)(H:Nat->Prop)(W:World):Prop:=∃v3 n3,BK w0 pr ci co rows k v3 n3 H W
section
variable {w0 W W' W2:World} {pr k:Nat} {ci co:Int} {rows:Nat->List Int} {H:Nat->Prop} {v3 v' u:Value} {n3:List Value}
theorem BK.mem_lt(h:BK w0 pr ci co rows k v3 n3 H W){x:Value}(hx:x∈n3){q:Nat}(e:x.ownBlock=some q):w0.heap.size<=q/\q<W.heap.size:=by
 obtain⟨j,hj,rfl⟩:=List.getElem_of_mem hx;have h1:=h.row j (by have:=h.ln;omega);rw[Ae _ _ _ hj]at h1;exact⟨h1.ge q e,h1.lt' q e⟩
theorem BK.lt(h:BK w0 pr ci co rows k v3 n3 H W):∀q,H q->q<W.heap.size:=fun q e=>by
 rcases(h.hH q).1 e with e|e|⟨x,hx,e⟩
 ·rw[e];exact Nat.lt_of_lt_of_le h.pz h.on.size
 ·exact(World.ownsRow.lt h.own q e).2
 ·exact(h.mem_lt hx e).2
theorem BK.keep(h:BK w0 pr ci co rows k v3 n3 H W)(ho:Af (fun q=>w0.heap.size<=q/\¬H q) W W'):BK w0 pr ci co rows k v3 n3 H W':=by
 have hn:∀q,H q->¬(w0.heap.size<=q/\¬H q):=fun q e k=>k.2 e
 refine⟨h.hH,h.on.trans (ho.mono fun q _ e=>.inl e.1),(ho.block _ (Nat.lt_of_lt_of_le h.pz h.on.size) (hn _ ((h.hH _).2 (.inl rfl)))).trans h.box,Ax h.own ho fun q e=>hn q ((h.hH q).2 (.inr (.inl e))),fun j hj=>(h.row j hj).only ho fun q e=>hn q ((h.hH q).2 (.inr (.inr ⟨_, ?_,e⟩))),h.ap,h.pz,h.ln⟩
 have a:j<n3.length:=by have:=h.ln;omega
 rw[Ae _ _ _ a];exact List.getElem_mem _
theorem BK.start(h:W.heap[pr]? =some (.cells #[.int .i64 ci,.int .i64 co,.int .i64 0,.slice none 0 0,.slice none 0 0] 25 (0,0))):BJ W pr ci co rows 0 (fun q=>q=pr) W:=
 ⟨.slice none 0 0,[],fun q=>by simp[Value.ownBlock],Af.refl _ _,h,World.ownsRow_nil _ _ _ _,fun j hj=>absurd hj (by omega),(fun u hu=>by cases hu),(ltE h),rfl⟩
theorem BK.push(h:BK w0 pr ci co rows k v3 n3 H W)(hb:Below W.heap.size W W2)(hu:OI W2 W.heap.size u (rows k))(hl:0<(rows k).length)(ho:W'.ownsRow w0.heap.size 26 1 v' (k+1) (n3++[u]))(hg:W2.grownBy W' v3.ownBlock)(hm:AS W2 v3 v'):
  (W'.heap[pr]? =some (.cells #[.int .i64 ci,.int .i64 co,.int .i64 0,v3,.slice none 0 0] 25 (0,0)))/\∃H',BJ w0 pr ci co rows (k+1) H' (W'.setCell ⟨pr,3,none⟩ v')/\Af H W (W'.setCell ⟨pr,3,none⟩ v')/\(∀q,H' q->H q\/W.heap.size<=q)/\∀q,H' q↔(q=pr\/v'.ownBlock=some q\/∃x∈n3++[u],x.ownBlock=some q):=by
 have hz:=Nat.lt_of_lt_of_le h.pz h.on.size
 have d:v3.ownBlock≠some pr:=fun e=>by have:=(World.ownsRow.lt h.own pr e).1;have:=h.pz;omega
 have h2:=h.keep (Af.of_below hb);have o1:Af (fun q=>v3.ownBlock=some q) W2 W':=Af.of_grown hg;have b:W'.heap[pr]? =some (.cells #[.int .i64 ci,.int .i64 co,.int .i64 0,v3,.slice none 0 0] 25 (0,0)):=(o1.block pr (Nat.lt_of_lt_of_le hz hb.size) d).trans h2.box;obtain⟨g,c,rfl,m,n⟩:=hu.row hl;have a:∀q,v'.ownBlock=some q->v3.ownBlock=some q\/W2.heap.size<=q:=hm;have oP:Af (fun q=>q=pr) W' (W'.setCell ⟨pr,3,none⟩ v'):=Af.set _ _ _ rfl;have o:=h.pz;have l:W.heap.size<=W2.heap.size:=hb.size
 have f:v'.ownBlock≠some pr:=fun e=>by rcases a pr e with k|k;exact d k;omega
 have o3:Af H W (W'.setCell ⟨pr,3,none⟩ v'):=((Af.of_below hb).trans (o1.mono fun q _ e=>(h.hH q).2 (.inr (.inl e)))).trans (oP.mono fun q _ e=>(h.hH q).2 (.inl e));refine⟨b,fun q=>q=pr\/v'.ownBlock=some q\/∃x∈n3++[.slice (some ⟨g,0,none⟩) (rows k).length c],x.ownBlock=some q,⟨v',n3++[.slice (some ⟨g,0,none⟩) (rows k).length c],fun _=>Iff.rfl, ?_,heap_setCell_same _ _ 3 _ _ _ b,Ax ho oP fun q e k=>f (k▸e),fun j hj=> ?_,fun x hx q e k=> ?_,h.pz,by rw[List.length_append,h.ln];rfl⟩,o3,fun q e=> ?_,fun _=>Iff.rfl⟩
 ·refine h.on.trans (o3.mono fun q _ e=> ?_)
  rcases(h.hH q).1 e with e|e|⟨x,hx,e⟩
  ·exact .inr e
  ·exact .inl (World.ownsRow.lt h.own q e).1
  ·exact .inl (h.mem_lt hx e).1
 ·by_cases e:j<k
  ·have hr:=h2.row j e;rw[show(n3++[Value.slice (some ⟨g,0,none⟩) (rows k).length c]).getD j undef=n3.getD j undef by simp[List.getD,List.getElem?_append_left (show j<n3.length by have:=h.ln;omega)]]
   have hx:n3.getD j undef∈n3:=by
    have i:j<n3.length:=by have:=h.ln;omega
    rw[Ae _ _ _ i];exact List.getElem_mem _
   refine(hr.only o1 fun q e1 e2=>h.ap _ hx q e1 e2).only oP fun q e1 e2=> ?_
   have:=(h.mem_lt hx e1).1;omega
  ·obtain rfl:j=k:=by omega
   rw[show(n3++[Value.slice (some ⟨g,0,none⟩) (rows j).length c]).getD j undef=.slice (some ⟨g,0,none⟩) (rows j).length c by rw[<-h.ln];simp[List.getD]];refine(((hu.base (by have:=h.on.size;omega):OI W2 w0.heap.size _ _).only o1 fun q e1 e2=> ?_).only oP fun q e1 e2=> ?_)
   ·have h3:=(World.ownsRow.lt h.own q e2).2;have h4:=hu.ge q e1;omega
   ·have h4:=hu.ge q e1;omega
 ·rcases List.mem_append.1 hx with hx|hx
  ·have h5:=(h.mem_lt hx e).2
   rcases a q k with k|k
   ·exact h.ap x hx q e k
   ·omega
  ·rw[List.mem_singleton.1 hx]at e;have h4:=hu.ge q e
   rcases a q k with k|k
   ·have:=(World.ownsRow.lt h.own q k).2;omega
   ·have h6:=hu.lt' q e;omega
 ·rcases e with e|e|⟨x,hx,e⟩
  ·exact .inl ((h.hH q).2 (.inl e))
  ·rcases a q e with k|k
   ·exact .inl ((h.hH q).2 (.inr (.inl k)))
   ·exact .inr (by omega)
  ·rcases List.mem_append.1 hx with hx|hx
   ·exact .inl ((h.hH q).2 (.inr (.inr ⟨x,hx,e⟩)))
   ·rw[List.mem_singleton.1 hx]at e;exact .inr (hu.ge q e)
end
structure BR(W:World)(pa pm pb:Nat)(l:List Sig)(own:List Bool)(a b:My):Prop where
 a:∃v3 v4,W.heap[pa]? =some (.cells #[.int .i64 a.ins,.int .i64 a.outs,.int .i64 a.start,v3,v4] 25 (0,0))/\Ar W v3 a.out/\Ar W v4 a.next
 m:∃v,W.heap[pm]? =some (.cells #[v] 23 (0,0))/\Ar W v (Fj l own)
 b:∃v3 v4,W.heap[pb]? =some (.cells #[.int .i64 b.ins,.int .i64 b.outs,.int .i64 b.start,v3,v4] 25 (0,0))/\Ar W v3 b.out/\Ar W v4 b.next
theorem BR.below{W W':World}{pa pm pb:Nat}{l:List Sig}{own:List Bool}{a b:My}(h:BR W pa pm pb l own a b)(hb:Below W.heap.size W W'):BR W' pa pm pb l own a b:=by
 obtain⟨v3,v4,h1,h2,h3⟩:=h.a;obtain⟨v,g1,g2⟩:=h.m;obtain⟨v5,v6,k1,k2,k3⟩:=h.b;exact⟨⟨v3,v4,B8 hb h1,h2.below hb,h3.below hb⟩,⟨v,B8 hb g1,g2.below hb⟩,⟨v5,v6,B8 hb k1,k2.below hb,k3.below hb⟩⟩
theorem SA{n m i o:Nat}{f:Nat->Nat->Int}(hi:i<n)(ho:o<m):((Gv n m f).getD i []).length=m/\((Gv n m f).getD i []).getD o 0=f i o:=by
 have e:(Gv n m f).getD i []=(List.range m).map fun o=>f i o:=by
  rw[Ae _ _ _ (by simp[Gv];exact hi)];simp[Gv]
 rw[e];exact⟨by simp,by rw[Ae _ _ _ (by simp;exact ho)];simp⟩
structure CI(W wr:World)(n g1 g2:Nat)(p:Pr)(O:List Int)(Q:List Pr):Prop where
 bl:Below W.heap.size W wr
 o:OI wr W.heap.size (.slice (some ⟨g1,0,none⟩) n n) O
 q:OQ wr W.heap.size (.slice (some ⟨g2,0,none⟩) n n) Q
 ne:g1≠g2
 b1:W.heap.size<g1
 b2:W.heap.size<g2
 bx:wr.heap[W.heap.size]? =some (.cells (prC p) 80 (0,0))
 lo:O.length=n
 lq:Q.length=n
section
variable {W wr w':World} {n g1 g2 j:Nat} {p y:Pr} {O:List Int} {Q:List Pr} {x:Int}
theorem CI.below(h:CI W wr n g1 g2 p O Q)(hb:Below wr.heap.size wr w'):CI W w' n g1 g2 p O Q:=
 ⟨h.bl.trans (hb.mono h.bl.size),h.o.below hb,h.q.only (S:=fun _=>False) (Af.of_below hb) fun _ _ e=>e,h.ne,h.b1,h.b2,(hb.block _ (Array.getElem?_eq_some_iff.1 h.bx).1).trans h.bx,h.lo,h.lq⟩
theorem CI.setO(h:CI W wr n g1 g2 p O Q):CI W (wr.setCell ⟨g1,j,none⟩ (.int .i64 x)) n g1 g2 p (O.set j x) Q:=by
 have ho:Af (fun k=>k=g1) wr (wr.setCell ⟨g1,j,none⟩ (.int .i64 x)):=Af.set _ _ _ rfl;have:=h.b1;exact⟨BS h.bl (by omega),h.o.set h.lo.symm j x,h.q.only ho fun k e1 e2=>h.ne (by rw[<-e2];exact(Option.some.inj e1).symm),h.ne,h.b1,h.b2,(ho.block _ (Array.getElem?_eq_some_iff.1 h.bx).1 (by omega)).trans h.bx,by rw[List.length_set];exact h.lo,h.lq⟩
theorem CI.setQ(h:CI W wr n g1 g2 p O Q)(hj:j<n):CI W ((wr.setCell ⟨g2,j*2,none⟩ (.int .i64 (y.1:Int))).setCell ⟨g2,j*2+1,none⟩ (.int .i64 (y.2:Int))) n g1 g2 p O (Q.set j y):=by
 have h1:Af (fun k=>k=g2) wr (wr.setCell ⟨g2,j*2,none⟩ (.int .i64 (y.1:Int))):=Af.set _ _ _ rfl;have ho:Af (fun k=>k=g2) wr ((wr.setCell ⟨g2,j*2,none⟩ (.int .i64 (y.1:Int))).setCell ⟨g2,j*2+1,none⟩ (.int .i64 (y.2:Int))):=h1.trans (Af.set _ _ _ rfl);have:=h.b2;exact⟨BS (BS h.bl (by omega)) (by omega),h.o.only ho fun k e1 e2=>h.ne (by rw[<-e2];exact Option.some.inj e1),h.q.set h.lq.symm (by rw[h.lq];exact hj) y,h.ne,h.b1,h.b2,(ho.block _ (Array.getElem?_eq_some_iff.1 h.bx).1 (by omega)).trans h.bx,h.lo,by rw[List.length_set];exact h.lq⟩
end
def RC6(n g1 i bm om lm cm pa b3 o3 na c3 B0 P1 r3 t3 l3 d3 x rm tm lx dm pb b5 o5 nb c5 P2 r5 t5 l5 d5 y:Nat)(z:Int)(ix:Nat)(u:Value)(_:World):Prop:=
 match ix with
 |0=>u=.slice (some ⟨g1,0,none⟩) n n
 |1|9|20=>u=.int .i64 (i:Int)
 |2=>u=.slice (some ⟨bm,om,none⟩) lm cm
 |3=>u=.pointer (some ⟨pa,3,none⟩)
 |4=>u=.slice (some ⟨b3,o3,none⟩) na c3
 |5=>u=.pointer (some ⟨B0,0,none⟩)
 |6=>u=.int .i64 (P1:Int)
 |7=>u=.pointer (some ⟨b3,o3+P1,none⟩)
 |8=>u=.slice (some ⟨r3,t3,none⟩) l3 d3
 |10=>u=.pointer (some ⟨r3,t3+i,none⟩)
 |11=>u=.int .i64 (x:Int)
 |12=>u=.pointer (some ⟨bm,om+x,none⟩)
 |13=>u=.slice (some ⟨rm,tm,none⟩) lx dm
 |14=>u=.pointer (some ⟨pb,3,none⟩)
 |15=>u=.slice (some ⟨b5,o5,none⟩) nb c5
 |16=>u=.pointer (some ⟨B0,1,none⟩)
 |17=>u=.int .i64 (P2:Int)
 |18=>u=.pointer (some ⟨b5,o5+P2,none⟩)
 |19=>u=.slice (some ⟨r5,t5,none⟩) l5 d5
 |21=>u=.pointer (some ⟨r5,t5+i,none⟩)
 |22=>u=.int .i64 (y:Int)
 |23=>u=.pointer (some ⟨rm,tm+y,none⟩)
 |24=>u=.int .i64 z
 |25=>u=.pointer (some ⟨g1,i,none⟩)
 | _=>True
theorem RC6.below{ix:Nat}{u:Value}{W W':World}{n g1 i bm om lm cm pa b3 o3 na c3 B0 P1 r3 t3 l3 d3 x rm tm lx dm pb b5 o5 nb c5 P2 r5 t5 l5 d5 y:Nat}{z:Int}(h:RC6 n g1 i bm om lm cm pa b3 o3 na c3 B0 P1 r3 t3 l3 d3 x rm tm lx dm pb b5 o5 nb c5 P2 r5 t5 l5 d5 y z ix u W)(_:Below W.heap.size W W'):RC6 n g1 i bm om lm cm pa b3 o3 na c3 B0 P1 r3 t3 l3 d3 x rm tm lx dm pb b5 o5 nb c5 P2 r5 t5 l5 d5 y z ix u W':=by
 unfold RC6 at*
 split at h<;>first|exact h|trivial
def RC7(n g2 i pa b4 o4 na c4 B0 P1 r4 t4 l4 d4 q1 pb b6 o6 nb c6 P2 r6 t6 l6 d6 q2:Nat)(ix:Nat)(u:Value)(_:World):Prop:=
 match ix with
 |0=>u=.slice (some ⟨g2,0,none⟩) n n
 |1|8|17=>u=.int .i64 (i:Int)
 |2=>u=.pointer (some ⟨pa,4,none⟩)
 |3=>u=.slice (some ⟨b4,o4,none⟩) na c4
 |4=>u=.pointer (some ⟨B0,0,none⟩)
 |5=>u=.int .i64 (P1:Int)
 |6=>u=.pointer (some ⟨b4,o4+P1,none⟩)
 |7=>u=.slice (some ⟨r4,t4,none⟩) l4 d4
 |9=>u=.pointer (some ⟨r4,t4+i,none⟩)
 |10=>u=.int .i64 (q1:Int)
 |11=>u=.pointer (some ⟨pb,4,none⟩)
 |12=>u=.slice (some ⟨b6,o6,none⟩) nb c6
 |13=>u=.pointer (some ⟨B0,1,none⟩)
 |14=>u=.int .i64 (P2:Int)
 |15=>u=.pointer (some ⟨b6,o6+P2,none⟩)
 |16=>u=.slice (some ⟨r6,t6,none⟩) l6 d6
 |18=>u=.pointer (some ⟨r6,t6+i,none⟩)
 |19=>u=.int .i64 (q2:Int)
 |20=>u=.agg #[.int .i64 (q1:Int),.int .i64 (q2:Int)]
 |21=>u=.pointer (some ⟨g2,i*2,none⟩)
 | _=>True
theorem RC7.below{ix:Nat}{u:Value}{W W':World}{n g2 i pa b4 o4 na c4 B0 P1 r4 t4 l4 d4 q1 pb b6 o6 nb c6 P2 r6 t6 l6 d6 q2:Nat}(h:RC7 n g2 i pa b4 o4 na c4 B0 P1 r4 t4 l4 d4 q1 pb b6 o6 nb c6 P2 r6 t6 l6 d6 q2 ix u W)(_:Below W.heap.size W W'):RC7 n g2 i pa b4 o4 na c4 B0 P1 r4 t4 l4 d4 q1 pb b6 o6 nb c6 P2 r6 t6 l6 d6 q2 ix u W':=by
 unfold RC7 at*
 split at h<;>first|exact h|trivial
theorem Ri(W w0:World)(pa pm pb pr:Nat)(l:List Sig)(own:List Bool)(a b:My)(n:Nat)(p:Pr)(k:Nat)(r:Nat->List Int)(H:Nat->Prop)(hr:BR W pa pm pb l own a b)(hj:BJ w0 pr (n:Int) a.outs r k H W)
  (ha:MyV a) (hb:MyV b) (ca:b.ins=a.ins) (hn:a.ins=(n:Int)) (cb:a.outs=Ai l) (cd:b.outs=Ai l) (hp:okP a b p) (ag:r k=Hq l own a b n p) (hk:k<4000) (co:As l=true):
  Calls Tryz.prog 49 #[prV p,.pointer (some ⟨pa,0,none⟩),.pointer (some ⟨pm,0,none⟩),.pointer (some ⟨pb,0,none⟩),.pointer (some ⟨pr,0,none⟩)] W
   (K7 ((List.range n).map (nxP a b p)) (BJ w0 pr (n:Int) a.outs r (k+1)) H W):=by
 have ci:Tryz.prog.follows .mixedOrders=true:=by kernel_rfl
 obtain⟨v3,n3,hJ⟩:=hj;obtain⟨⟨va,ej,xa,ra,rn⟩,⟨vm,xm,rm⟩,⟨vb,ek,xb,rb,ac⟩⟩:=hr;obtain⟨a3,c3,rfl⟩:=ra.shape;obtain⟨a4,c4,rfl⟩:=rn.shape;obtain⟨am,cm,rfl⟩:=rm.shape;obtain⟨a5,c5,rfl⟩:=rb.shape;obtain⟨a6,c6,rfl⟩:=ac.shape;have ds:=ha.i1;have dt:=ha.i2;have af:=ha.o1;have a0:=ha.o2
 have ch:(Fj l own).length=(Ai l).toNat:=by simp[Fj,Gv]
 have cj:=ha.nl;have cc:=hb.nl;have ck:=hp.1;have cl:=hp.2;rw[cj]at rn xa;rw[cc]at ac xb;obtain⟨b3,o3,rfl⟩:=Bx ra (by omega);obtain⟨b4,o4,rfl⟩:=Bx rn (by omega);obtain⟨bm,om,rfl⟩:=Bx rm (by omega);obtain⟨b5,o5,rfl⟩:=Bx rb (by omega);obtain⟨b6,o6,rfl⟩:=Bx ac (by omega);have dg:=Ab ra;have dj:=Ab rn;have di:=Ab rm;have dh:=Ab rb;have bu:=Ab ac;have HJ:=Ab hJ;have HA:=Ab ha;have HB:=Ab hb;have HP:=Ab hp;have HN:=Ab hn;have cr:=Ab ca;have cs:=Ab cb;have cw:=Ab cd;have bq:=Ab ch;have d1:=Ab co;have dk:=Ab ag;rw[hn]at xa ds dt;obtain⟨P1,P2⟩:=p;have s:P1<a.out.length:=ck;have u:P2<b.out.length:=cl;have c0:=Aa 0 xa;have XA:=Ab xa;have XM:=Ab xm;have XB:=Ab xb;clear ra rn rm rb ac hJ ha hb hp hn ca cb cd ch co ag xa xm xb ck cl cj cc;show Calls Tryz.prog 49 #[.agg #[.int .i64 (P1:Int),.int .i64 (P2:Int)],.pointer (some ⟨pa,0,none⟩),.pointer (some ⟨pm,0,none⟩),.pointer (some ⟨pb,0,none⟩),.pointer (some ⟨pr,0,none⟩)] W _
 go_enter Tryz.func49,Tryz.ntmps49
 go_upto_region 1 with(fail)
 obtain⟨ba,au,-⟩:=Aw (w0:=W) (B:=W.heap.size) Ad leR #[.int .i64 (P1:Int),.int .i64 (P2:Int)] 80
 have cn:(W.alloc (.cells #[.int .i64 (P1:Int),.int .i64 (P2:Int)] 80)).heap.size=W.heap.size+1:=by simp
 generalize W.alloc (.cells #[.int .i64 (P1:Int),.int .i64 (P2:Int)] 80)=w1 at*;replace c0:=Ag au c0
 have ah:W.heap.size<=w1.heap.size:=by omega
 have bv:=Ab cn;have bf:=Ab au;clear cn au
 go_upto_region 2 with(at_make;refine FA rfl _ _ _ Tryz.underlying26 rfl W.heap.size (n:Int) n rfl rfl rfl (by omega) ah ?_;intro w2 af ce)
 have z:Below w1.heap.size w1 w2:=Ad.grown ce leR (fun k hk=>by cases hk);replace c0:=Ag z c0;have dv:w1.heap.size<w2.heap.size:=(World.ownsRow.lt af _ rfl).2
 have ai:W.heap.size<=w2.heap.size:=by omega
 have w:=Ab z;clear z
 go_upto_region 3 with(at_make;refine Up rfl _ _ _ Tryz.underlying81 rfl W.heap.size (n:Int) n rfl rfl rfl (by omega) ai ?_;intro w3 a0 cf)
 have bi:Hid (CI W w3 n w1.heap.size w2.heap.size (P1,P2) (Ej (fun j=>D4 l own (Bt a P1 j) (Bt b P2 j)) 0 n 0) (Ej (nxP a b (P1,P2)) (0,0) n 0)):=by
  have aa:Below w2.heap.size w2 w3:=Ad.grown cf leR (fun k hk=>by cases hk);have:=bv.out;rw[FO,FO];exact⟨(bf.out.trans (w.out.mono (by omega))).trans (aa.mono (by omega)),af.below aa,a0,by omega,by omega,by omega,((aa.block _ (by omega)).trans (w.out.block _ (by omega))).trans ba,by simp,by simp⟩
 clear af ce a0 cf ba c0 bf w ah dv ai bv;generalize w1.heap.size=g1 at*;generalize w2.heap.size=g2 at*
 go_wp2_with fail
 go_loopg [19] n (fun gh iv wr=>∃i:Nat,gh=n-i/\iv=.int .i64 (i:Int)/\i<=n/\Hid (CI W wr n g1 g2 (P1,P2) (Ej (fun j=>D4 l own (Bt a P1 j) (Bt b P2 j)) 0 n i) (Ej (nxP a b (P1,P2)) (0,0) n i)))
 case atStart=>exact⟨0,rfl,rfl,by omega,bi⟩
 case round=>
  clear bi;obtain⟨i,cg,rfl,hi,HC⟩:=hrel;have cz:=Ab cg;clear cg
  by_cases hlt:i<n
  ·have eb:(0:Int)<=(i:Int):=by omega
   have ax:(i:Int)<(n:Int):=by omega
   have ay:(i:Int)<a.ins:=by rw[HN.out];exact ax
   have ab:(i:Int)<b.ins:=by rw[cr.out,HN.out];exact ax
   have ao:=HA.out.out' (q:=P1) s ay;have bo:=HB.out.out' (q:=P2) u ab;have an:=HA.out.nx' (q:=P1) s ay;have bn:=HB.out.nx' (q:=P2) u ab;obtain⟨x,hx⟩:∃x:Nat,Bt a P1 i=(x:Int):=⟨(Bt a P1 i).toNat,by omega⟩;obtain⟨y,hy⟩:∃y:Nat,Bt b P2 i=(y:Int):=⟨(Bt b P2 i).toNat,by omega⟩;obtain⟨q1,a2⟩:∃q1:Nat,nxI a P1 i=(q1:Int):=⟨(nxI a P1 i).toNat,by omega⟩;obtain⟨q2,a9⟩:∃q2:Nat,nxI b P2 i=(q2:Int):=⟨(nxI b P2 i).toNat,by omega⟩
   have bb:x<(Ai l).toNat:=by have:=cs.out;omega
   have bc:y<(Ai l).toNat:=by have:=cw.out;omega
   obtain⟨tl,tv⟩:=SA (f:=CU l own) bb bc;obtain⟨r3,t3,d3,A3,aj⟩:=Bm dg.out s ao.1;obtain⟨r4,t4,d4,A4,ak⟩:=Bm dj.out s an.1;obtain⟨r5,t5,d5,B5,al⟩:=Bm dh.out u bo.1;obtain⟨r6,t6,d6,B6,ap⟩:=Bm bu.out u bn.1;obtain⟨rm,tm,dm,M5,aq⟩:=Bm di.out (q:=x) (x:=y) (by rw[bq.out];exact bb) (by show y<((Gv _ _ (CU l own)).getD x []).length;rw[tl];exact bc);rw[show(a.out.getD P1 []).getD i 0=Bt a P1 i from rfl,hx]at aj;rw[show(b.out.getD P2 []).getD i 0=Bt b P2 i from rfl,hy]at al;rw[show(a.next.getD P1 []).getD i 0=nxI a P1 i from rfl,a2]at ak;rw[show(b.next.getD P2 []).getD i 0=nxI b P2 i from rfl,a9]at ap;rw[show((Fj l own).getD x []).getD y 0=CU l own x y from tv]at aq
   have cy:Hid (CU l own x y=D4 l own (Bt a P1 i) (Bt b P2 i)):=by show D4 l own (x:Int) (y:Int)=_;rw[hx,hy]
   have cx:Hid (nxP a b (P1,P2) i=(q1,q2)):=by show((nxI a P1 i).toNat,(nxI b P2 i).toNat)=_;rw[a2,a9];rfl
   have cp:=Ab A3;have bd:=Ab aj;have cq:=Ab A4;have be:=Ab ak;have ct:=Ab B5;have bg:=Ab al;have cu:=Ab B6;have bh:=Ab ap;have c2:=Ab M5;have bk:=Ab aq
   have ba:(0:Int)<=(x:Int):=by omega
   have eh:(0:Int)<=(y:Int):=by omega
   have eg:(x:Int)<((Fj l own).length:Int):=by rw[bq.out];omega
   have ei:(y:Int)<(((Fj l own).getD x []).length:Int):=by rw[show((Fj l own).getD x []).length=(Ai l).toNat from tl];omega
   have dx:(0:Int)<=(P1:Int):=by omega
   have dz:(0:Int)<=(P2:Int):=by omega
   have dy:(P1:Int)<(a.out.length:Int):=by omega
   have d0:(P2:Int)<(b.out.length:Int):=by omega
   have ec:(i:Int)<((a.out.getD P1 []).length:Int):=by have:=ao.1;omega
   have ed:(i:Int)<((a.next.getD P1 []).length:Int):=by have:=an.1;omega
   have ee:(i:Int)<((b.out.getD P2 []).length:Int):=by have:=bo.1;omega
   have ef:(i:Int)<((b.next.getD P2 []).length:Int):=by have:=bn.1;omega
   have d:Hid (∀W',Below wr.drew.heap.size wr.drew W'->CI W W' n g1 g2 (P1,P2) (Ej (fun j=>D4 l own (Bt a P1 j) (Bt b P2 j)) 0 n i) (Ej (nxP a b (P1,P2)) (0,0) n i)):=fun W' h=>HC.out.below ((Below.drew Ad).trans h)
   clear HC ao bo an bn hx hy a2 a9 bb bc tl tv A3 aj A4 ak B5 al B6 ap M5 aq ay ab;generalize hl3:(a.out.getD P1 []).length=l3 at*;generalize hl4:(a.next.getD P1 []).length=l4 at*;generalize hl5:(b.out.getD P2 []).length=l5 at*;generalize hl6:(b.next.getD P2 []).length=l6 at*;generalize hlm:((Fj l own).getD x []).length=lx at*;clear hl3 hl4 hl5 hl6 hlm;generalize hlM:(Fj l own).length=lm at*;clear hlM
   go_upto_region 6 with(fail)
   refine B9 ci (RC6 n g1 i bm om lm cm pa b3 o3 a.out.length c3 W.heap.size P1 r3 t3 l3 d3 x rm tm lx dm pb b5 o5 b.out.length c5 P2 r5 t5 l5 d5 y (CU l own x y)) (fun vs=>{tmps:=(_::_::_::_::_::_::_::_::_::_::_::_::_::_::_::_::_::_::_::_::_::_::vs 0::vs 1::vs 2::vs 3::vs 4::vs 5::vs 6::vs 7::vs 8::vs 9::vs 10::vs 11::vs 12::vs 13::vs 14::vs 15::vs 16::vs 17::vs 18::vs 19::vs 20::vs 21::vs 22::vs 23::vs 24::vs 25::_::_::_::_::_::_::_::_::_::_::_::_::_::_::_::_::_::_::_::_::_::_::_::_::_::_::_::_::_::_::[]).toArray,defers:=[]}) (fun n=>[u22,u23,u24,u25,u26,u27,u28,u29,u30,u31,u32,u33,u34,u35,u36,u37,u38,u39,u40,u41,u42,u43,u44,u45,u46,u47].getD n undef) 26 rfl (by kernel_rfl) (by kernel_rfl) (fun i v W W' h hb=>RC6.below h hb) ?step ?last
   case step=>
    intro ix oo hlt ho
    match ix,hlt,ho with
    |0,hlt,ho|1,hlt,ho|3,hlt,ho|5,hlt,ho|7,hlt,ho|9,hlt,ho|10,hlt,ho|12,hlt,ho|14,hlt,ho|16,hlt,ho|18,hlt,ho|20,hlt,ho|21,hlt,ho|23,hlt,ho|25,hlt,ho=>
     obtain rfl:=osI ho;intro vs W9 K hB hD hK;have HK:=Ab hK
     try have e0:vs 0=.slice (some ⟨g1,0,none⟩) n n:=Ac hD 0 rfl
     try have e1:vs 1=.int .i64 (i:Int):=Ac hD 1 rfl
     try have e2:vs 2=.slice (some ⟨bm,om,none⟩) lm cm:=Ac hD 2 rfl
     try have e4:vs 4=.slice (some ⟨b3,o3,none⟩) a.out.length c3:=Ac hD 4 rfl
     try have e6:vs 6=.int .i64 (P1:Int):=Ac hD 6 rfl
     try have e8:vs 8=.slice (some ⟨r3,t3,none⟩) l3 d3:=Ac hD 8 rfl
     try have e9:vs 9=.int .i64 (i:Int):=Ac hD 9 rfl
     try have bz:vs 11=.int .i64 (x:Int):=Ac hD 11 rfl
     try have b1:vs 13=.slice (some ⟨rm,tm,none⟩) lx dm:=Ac hD 13 rfl
     try have b8:vs 15=.slice (some ⟨b5,o5,none⟩) b.out.length c5:=Ac hD 15 rfl
     try have dl:vs 17=.int .i64 (P2:Int):=Ac hD 17 rfl
     try have dn:vs 19=.slice (some ⟨r5,t5,none⟩) l5 d5:=Ac hD 19 rfl
     try have d8:vs 20=.int .i64 (i:Int):=Ac hD 20 rfl
     try have d9:vs 22=.int .i64 (y:Int):=Ac hD 22 rfl
     clear hK hD ho hlt;dsimp only;go_simp;have h:=HK.out _ _ Ad rfl;simp only[upd,Nat.reduceEqDiff,reduceIte, *]at h;exact h
    |2,hlt,ho=>
     obtain rfl:=osI ho;intro vs W9 K hB hD hK;have HK:=Ab hK;have c:=Aa 0 (((d.out W9 hB).bl.block _ (Array.getElem?_eq_some_iff.1 XM.out).1).trans XM.out);clear hK hD ho hlt;dsimp only;go_simp;have h:=HK.out _ _ Ad rfl;simp only[upd,Nat.reduceEqDiff,reduceIte]at h;exact h
    |4,hlt,ho=>
     obtain rfl:=osI ho;intro vs W9 K hB hD hK;have HK:=Ab hK;have e3:vs 3=.pointer (some ⟨pa,3,none⟩):=Ac hD 3 rfl;have c:=Aa 3 (((d.out W9 hB).bl.block _ (Array.getElem?_eq_some_iff.1 XA.out).1).trans XA.out);clear hK hD ho hlt;dsimp only;go_simp;have h:=HK.out _ _ Ad rfl;simp only[upd,Nat.reduceEqDiff,reduceIte,e3]at h;exact h
    |6,hlt,ho=>
     obtain rfl:=osI ho;intro vs W9 K hB hD hK;have HK:=Ab hK;have e5:vs 5=.pointer (some ⟨W.heap.size,0,none⟩):=Ac hD 5 rfl;have c:W9.cell? ⟨W.heap.size,0,none⟩=some (.int .i64 (P1:Int)):=Aa 0 (d.out W9 hB).bx;clear hK hD ho hlt;dsimp only;go_simp;have h:=HK.out _ _ Ad rfl;simp only[upd,Nat.reduceEqDiff,reduceIte,e5]at h;exact h
    |8,hlt,ho=>
     obtain rfl:=osI ho;intro vs W9 K hB hD hK;have HK:=Ab hK;have e7:vs 7=.pointer (some ⟨b3,o3+P1,none⟩):=Ac hD 7 rfl;have c:=Ag (d.out W9 hB).bl cp.out;clear hK hD ho hlt;dsimp only;go_simp;have h:=HK.out _ _ Ad rfl;simp only[upd,Nat.reduceEqDiff,reduceIte,e7]at h;exact h
    |11,hlt,ho=>
     obtain rfl:=osI ho;intro vs W9 K hB hD hK;have HK:=Ab hK;have bw:vs 10=.pointer (some ⟨r3,t3+i,none⟩):=Ac hD 10 rfl;have c:=Ag (d.out W9 hB).bl bd.out;clear hK hD ho hlt;dsimp only;go_simp;have h:=HK.out _ _ Ad rfl;simp only[upd,Nat.reduceEqDiff,reduceIte,bw]at h;exact h
    |13,hlt,ho=>
     obtain rfl:=osI ho;intro vs W9 K hB hD hK;have HK:=Ab hK;have b0:vs 12=.pointer (some ⟨bm,om+x,none⟩):=Ac hD 12 rfl;have c:=Ag (d.out W9 hB).bl c2.out;clear hK hD ho hlt;dsimp only;go_simp;have h:=HK.out _ _ Ad rfl;simp only[upd,Nat.reduceEqDiff,reduceIte,b0]at h;exact h
    |15,hlt,ho=>
     obtain rfl:=osI ho;intro vs W9 K hB hD hK;have HK:=Ab hK;have b7:vs 14=.pointer (some ⟨pb,3,none⟩):=Ac hD 14 rfl;have c:=Aa 3 (((d.out W9 hB).bl.block _ (Array.getElem?_eq_some_iff.1 XB.out).1).trans XB.out);clear hK hD ho hlt;dsimp only;go_simp;have h:=HK.out _ _ Ad rfl;simp only[upd,Nat.reduceEqDiff,reduceIte,b7]at h;exact h
    |17,hlt,ho=>
     obtain rfl:=osI ho;intro vs W9 K hB hD hK;have HK:=Ab hK;have b9:vs 16=.pointer (some ⟨W.heap.size,1,none⟩):=Ac hD 16 rfl;have c:W9.cell? ⟨W.heap.size,1,none⟩=some (.int .i64 (P2:Int)):=Aa 1 (d.out W9 hB).bx;clear hK hD ho hlt;dsimp only;go_simp;have h:=HK.out _ _ Ad rfl;simp only[upd,Nat.reduceEqDiff,reduceIte,b9]at h;exact h
    |19,hlt,ho=>
     obtain rfl:=osI ho;intro vs W9 K hB hD hK;have HK:=Ab hK;have ar:vs 18=.pointer (some ⟨b5,o5+P2,none⟩):=Ac hD 18 rfl;have c:=Ag (d.out W9 hB).bl ct.out;clear hK hD ho hlt;dsimp only;go_simp;have h:=HK.out _ _ Ad rfl;simp only[upd,Nat.reduceEqDiff,reduceIte,ar]at h;exact h
    |22,hlt,ho=>
     obtain rfl:=osI ho;intro vs W9 K hB hD hK;have HK:=Ab hK;have dp:vs 21=.pointer (some ⟨r5,t5+i,none⟩):=Ac hD 21 rfl;have c:=Ag (d.out W9 hB).bl bg.out;clear hK hD ho hlt;dsimp only;go_simp;have h:=HK.out _ _ Ad rfl;simp only[upd,Nat.reduceEqDiff,reduceIte,dp]at h;exact h
    |24,hlt,ho=>
     obtain rfl:=osI ho;intro vs W9 K hB hD hK;have HK:=Ab hK;have dq:vs 23=.pointer (some ⟨rm,tm+y,none⟩):=Ac hD 23 rfl;have c:=Ag (d.out W9 hB).bl bk.out;clear hK hD ho hlt;dsimp only;go_simp;have h:=HK.out _ _ Ad rfl;simp only[upd,Nat.reduceEqDiff,reduceIte,dq]at h;exact h
    |q+26,hlt,_=>exact absurd hlt (by omega)
   case last=>
    intro oo ho;obtain rfl:=osI ho;intro vs w8 K hB m hK;have HK:=Ab hK;have e8:vs 24=.int .i64 (CU l own x y):=m 24 (by omega);have e9:vs 25=.pointer (some ⟨g1,i,none⟩):=m 25 (by omega);have hC:=d.out w8 hB;obtain⟨cv,c9⟩:∃cv,w8.cell? ⟨g1,i,none⟩=some (.int .i64 cv):=⟨_,hC.o.at' hC.lo.symm i (by rw[hC.lo];exact hlt)⟩;have f9:=hC.o.fz hC.lo.symm i;have p9:=hC.setO (j:=i) (x:=CU l own x y);rw[show(Ej (fun j=>D4 l own (Bt a P1 j) (Bt b P2 j)) 0 n i).set i (CU l own x y)=Ej (fun j=>D4 l own (Bt a P1 j) (Bt b P2 j)) 0 n (i+1)by rw[cy.out];exact GU (f:=fun j=>D4 l own (Bt a P1 j) (Bt b P2 j)) hlt]at p9;have dc:=Ab p9;clear hK m ho p9 hC;dsimp only;go_simp;refine HK.out _ _ ?_;clear d c9 f9 HK;generalize w8.setCell ⟨g1,i,none⟩ (.int .i64 (CU l own x y))=w9 at*
    have d:Hid (∀W',Below w9.drew.heap.size w9.drew W'->CI W W' n g1 g2 (P1,P2) (Ej (fun j=>D4 l own (Bt a P1 j) (Bt b P2 j)) 0 n (i+1)) (Ej (nxP a b (P1,P2)) (0,0) n i)):=fun W' h=>dc.out.below ((Below.drew Ad).trans h)
    go_upto_region 7 with(fail)
    refine B9 ci (RC7 n g2 i pa b4 o4 a.out.length c4 W.heap.size P1 r4 t4 l4 d4 q1 pb b6 o6 b.out.length c6 P2 r6 t6 l6 d6 q2) (fun vs=>{tmps:=(_::_::_::_::_::_::_::_::_::_::_::_::_::_::_::_::_::_::_::_::_::_::_::_::_::_::_::_::_::_::_::_::_::_::_::_::_::_::_::_::_::_::_::_::_::_::_::_::vs 0::vs 1::vs 2::vs 3::vs 4::vs 5::vs 6::vs 7::vs 8::vs 9::vs 10::vs 11::vs 12::vs 13::vs 14::vs 15::vs 16::vs 17::vs 18::vs 19::vs 20::vs 21::_::_::_::_::_::_::_::_::[]).toArray,defers:=[]}) (fun n=>[u48,u49,u50,u51,u52,u53,u54,u55,u56,u57,u58,u59,u60,u61,u62,u63,u64,u65,u66,u67,u68,u69].getD n undef) 22 rfl (by kernel_rfl) (by kernel_rfl) (fun i v W W' h hb=>RC7.below h hb) ?step ?last
    case step=>
     intro ix oo hlt ho
     match ix,hlt,ho with
     |0,hlt,ho|1,hlt,ho|2,hlt,ho|4,hlt,ho|6,hlt,ho|8,hlt,ho|9,hlt,ho|11,hlt,ho|13,hlt,ho|15,hlt,ho|17,hlt,ho|18,hlt,ho|20,hlt,ho|21,hlt,ho=>
      obtain rfl:=osI ho;intro vs W9 K hB hD hK;have HK:=Ab hK
      try have e0:vs 0=.slice (some ⟨g2,0,none⟩) n n:=Ac hD 0 rfl
      try have e1:vs 1=.int .i64 (i:Int):=Ac hD 1 rfl
      try have e3:vs 3=.slice (some ⟨b4,o4,none⟩) a.out.length c4:=Ac hD 3 rfl
      try have e5:vs 5=.int .i64 (P1:Int):=Ac hD 5 rfl
      try have e7:vs 7=.slice (some ⟨r4,t4,none⟩) l4 d4:=Ac hD 7 rfl
      try have e8:vs 8=.int .i64 (i:Int):=Ac hD 8 rfl
      try have bw:vs 10=.int .i64 (q1:Int):=Ac hD 10 rfl
      try have b0:vs 12=.slice (some ⟨b6,o6,none⟩) b.out.length c6:=Ac hD 12 rfl
      try have b7:vs 14=.int .i64 (P2:Int):=Ac hD 14 rfl
      try have b9:vs 16=.slice (some ⟨r6,t6,none⟩) l6 d6:=Ac hD 16 rfl
      try have dl:vs 17=.int .i64 (i:Int):=Ac hD 17 rfl
      try have dn:vs 19=.int .i64 (q2:Int):=Ac hD 19 rfl
      clear hK hD ho hlt;dsimp only;go_simp;have h:=HK.out _ _ Ad rfl;simp only[upd,Nat.reduceEqDiff,reduceIte, *]at h;exact h
     |3,hlt,ho=>
      obtain rfl:=osI ho;intro vs W9 K hB hD hK;have HK:=Ab hK;have e2:vs 2=.pointer (some ⟨pa,4,none⟩):=Ac hD 2 rfl;have c:=Aa 4 (((d.out W9 hB).bl.block _ (Array.getElem?_eq_some_iff.1 XA.out).1).trans XA.out);clear hK hD ho hlt;dsimp only;go_simp;have h:=HK.out _ _ Ad rfl;simp only[upd,Nat.reduceEqDiff,reduceIte,e2]at h;exact h
     |5,hlt,ho=>
      obtain rfl:=osI ho;intro vs W9 K hB hD hK;have HK:=Ab hK;have e4:vs 4=.pointer (some ⟨W.heap.size,0,none⟩):=Ac hD 4 rfl;have c:W9.cell? ⟨W.heap.size,0,none⟩=some (.int .i64 (P1:Int)):=Aa 0 (d.out W9 hB).bx;clear hK hD ho hlt;dsimp only;go_simp;have h:=HK.out _ _ Ad rfl;simp only[upd,Nat.reduceEqDiff,reduceIte,e4]at h;exact h
     |7,hlt,ho=>
      obtain rfl:=osI ho;intro vs W9 K hB hD hK;have HK:=Ab hK;have e6:vs 6=.pointer (some ⟨b4,o4+P1,none⟩):=Ac hD 6 rfl;have c:=Ag (d.out W9 hB).bl cq.out;clear hK hD ho hlt;dsimp only;go_simp;have h:=HK.out _ _ Ad rfl;simp only[upd,Nat.reduceEqDiff,reduceIte,e6]at h;exact h
     |10,hlt,ho=>
      obtain rfl:=osI ho;intro vs W9 K hB hD hK;have HK:=Ab hK;have e9:vs 9=.pointer (some ⟨r4,t4+i,none⟩):=Ac hD 9 rfl;have c:=Ag (d.out W9 hB).bl be.out;clear hK hD ho hlt;dsimp only;go_simp;have h:=HK.out _ _ Ad rfl;simp only[upd,Nat.reduceEqDiff,reduceIte,e9]at h;exact h
     |12,hlt,ho=>
      obtain rfl:=osI ho;intro vs W9 K hB hD hK;have HK:=Ab hK;have bz:vs 11=.pointer (some ⟨pb,4,none⟩):=Ac hD 11 rfl;have c:=Aa 4 (((d.out W9 hB).bl.block _ (Array.getElem?_eq_some_iff.1 XB.out).1).trans XB.out);clear hK hD ho hlt;dsimp only;go_simp;have h:=HK.out _ _ Ad rfl;simp only[upd,Nat.reduceEqDiff,reduceIte,bz]at h;exact h
     |14,hlt,ho=>
      obtain rfl:=osI ho;intro vs W9 K hB hD hK;have HK:=Ab hK;have b1:vs 13=.pointer (some ⟨W.heap.size,1,none⟩):=Ac hD 13 rfl;have c:W9.cell? ⟨W.heap.size,1,none⟩=some (.int .i64 (P2:Int)):=Aa 1 (d.out W9 hB).bx;clear hK hD ho hlt;dsimp only;go_simp;have h:=HK.out _ _ Ad rfl;simp only[upd,Nat.reduceEqDiff,reduceIte,b1]at h;exact h
     |16,hlt,ho=>
      obtain rfl:=osI ho;intro vs W9 K hB hD hK;have HK:=Ab hK;have b8:vs 15=.pointer (some ⟨b6,o6+P2,none⟩):=Ac hD 15 rfl;have c:=Ag (d.out W9 hB).bl cu.out;clear hK hD ho hlt;dsimp only;go_simp;have h:=HK.out _ _ Ad rfl;simp only[upd,Nat.reduceEqDiff,reduceIte,b8]at h;exact h
     |19,hlt,ho=>
      obtain rfl:=osI ho;intro vs W9 K hB hD hK;have HK:=Ab hK;have ar:vs 18=.pointer (some ⟨r6,t6+i,none⟩):=Ac hD 18 rfl;have c:=Ag (d.out W9 hB).bl bh.out;clear hK hD ho hlt;dsimp only;go_simp;have h:=HK.out _ _ Ad rfl;simp only[upd,Nat.reduceEqDiff,reduceIte,ar]at h;exact h
     |q+22,hlt,_=>exact absurd hlt (by omega)
    case last=>
     intro oo ho;obtain rfl:=osI ho;intro vs w8 K hB m hK;have HK:=Ab hK;have e8:vs 20=.agg #[.int .i64 (q1:Int),.int .i64 (q2:Int)]:=m 20 (by omega);have e9:vs 21=.pointer (some ⟨g2,i*2,none⟩):=m 21 (by omega);have hC:=d.out w8 hB;have av:=hC.q.at' hC.lq.symm i (by rw[hC.lq];exact hlt);obtain⟨cv,c9⟩:∃cv,w8.cell? ⟨g2,i*2,none⟩=some (.int .i64 cv):=⟨_,av.1⟩;obtain⟨d7,d2⟩:∃cv,w8.cell? ⟨g2,i*2+1,none⟩=some (.int .i64 cv):=⟨_,av.2⟩;have f9:=hC.q.fz hC.lq.symm (i*2);have ea:=hC.q.fz hC.lq.symm (i*2+1);have p9:=hC.setQ (j:=i) (y:=(q1,q2)) hlt;rw[show(Ej (nxP a b (P1,P2)) (0,0) n i).set i (q1,q2)=Ej (nxP a b (P1,P2)) (0,0) n (i+1)by rw[<-cx.out];exact GU hlt]at p9;have br:=Ab p9;clear hK m ho p9 hC av;dsimp only;go_simp;refine HK.out _ _ ?_;go_wp2
     go_roundg (n-(i+1))
     case measure=>have:=cz.out;omega
     case rel=>exact⟨i+1,rfl,by go_num,by omega,br⟩
  ·have ax:¬(i:Int)<(n:Int):=by omega
   have HE:Hid (CI W wr n g1 g2 (P1,P2) (r k) ((List.range n).map (nxP a b (P1,P2)))):=by
    have h1:=HC.out;rw[show i=n by omega,GT,GT]at h1;show CI _ _ _ _ _ _ _ _;rw[dk.out];exact h1
   clear HC;have ae:=HJ.out.keep (Af.of_below HE.out.bl);have z3:=Aa 3 ae.box;have c1:=Ab ae;have du:Hid ((r k).length=n):=HE.out.lo;have dr:w0.heap.size<=wr.heap.size:=ae.on.size;clear ae;obtain⟨a7,c7,rfl⟩:=AG HJ.out.own
   go_upto_region 10 with(at_builtin;refine EM rfl _ _ (.slice (some ⟨g1,0,none⟩) n n) rfl w0.heap.size (.slice a7 k c7) k n3 c1.out.own rfl _ (by simp) rfl rfl (by omega) dr ?_;intro v' w8 a1 aw az;obtain⟨a8,c8,dw⟩:=AG a1;subst dw;have ad:=Ab (HJ.out.push HE.out.bl HE.out.o (by rw[du.out];omega) a1 aw az);have z9:=Aa 3 ad.out.1;have f9:=At 3 ad.out.1;have bj:=Ab aw;have bp:=Ab az;clear a1 aw az)
   obtain⟨-,H',q1,q2,q3,q4⟩:=ad.out;have dd:=Ab q1;have de:=Ab q2;have df:=Ab q3;have bs:=Ab q4;clear ad q1 q2 q3 q4 z3 z9 f9
   have db:Hid (OQ (w8.setCell ⟨pr,3,none⟩ (.slice a8 (k+1) c8)) W.heap.size (.slice (some ⟨g2,0,none⟩) n n) ((List.range n).map (nxP a b (P1,P2)))):=by
    have h1:Af (fun q=>q=pr\/(Value.slice a7 k c7).ownBlock=some q) wr (w8.setCell ⟨pr,3,none⟩ (.slice a8 (k+1) c8)):=((Af.of_grown bj.out).mono fun q _ e=>.inr e).trans (Af.set _ _ _ (.inl rfl))
    refine HE.out.q.only h1 fun q e1 e2=> ?_
    have e1:g2=q:=Option.some.inj e1;have h2:=HE.out.b2
    rcases e2 with e2|e2
    ·have h3:=HJ.out.pz;have h4:=HJ.out.on.size;omega
    ·have h3:=(World.ownsRow.lt HJ.out.own q e2).2;omega
   have da:Hid (∀q,(Value.slice (some ⟨g2,0,none⟩) n n).ownBlock=some q->¬H' q):=fun q e1 e2=>by
    have e1:g2=q:=Option.some.inj e1;have h2:=HE.out.b2;have h5:=HE.out.q.lt' g2 rfl
    rcases(bs.out q).1 e2 with e|e|⟨x,hx,e⟩
    ·have h3:=HJ.out.pz;have h4:=HJ.out.on.size;omega
    ·rcases bp.out q e with e|e
     ·have h3:=(World.ownsRow.lt HJ.out.own q e).2;omega
     ·omega
    ·rcases List.mem_append.1 hx with hx|hx
     ·have h3:=(HJ.out.mem_lt hx e).2;omega
     ·rw[List.mem_singleton.1 hx]at e;have e:g1=q:=Option.some.inj e;exact HE.out.ne (by omega)
   clear bj bp HE bs;go_wp2;go_ret2;exact⟨_,H',rfl,db.out,da.out,dd.out,de.out,df.out⟩
end Go.Proofs.YtncjeamdkjcebaaGreatDoor
