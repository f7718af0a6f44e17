/- What the closure in mealy.Both computes: the outputs of a pair of states, and its successors. -/
import Derived.Test.YtncjeamdkjcebaaGreatDoorZAr22
set_option linter.all false
set_option maxHeartbeats 4000000
set_option maxRecDepth 100000
namespace Go.Proofs.YtncjeamdkjcebaaGreatDoor
open Go.RowKit
def DQ{α:Type}(f:Nat->α)(d:α)(n i:Nat):List α:=(List.range i).map f++List.replicate (n-i) d
section
variable {α:Type} {f:Nat->α} {d:α} {n i:Nat}
theorem Fo:DQ f d n 0=List.replicate n d:=by simp[DQ]
theorem Gt:DQ f d n n=(List.range n).map f:=by simp[DQ]
theorem Gu(h:i<n):(DQ f d n i).set i (f i)=DQ f d n (i+1):=by
 obtain⟨k,hk⟩:∃k,n-i=k+1:=⟨n-i-1,by omega⟩;unfold DQ;rw[hk,show n-(i+1)=k by omega,List.replicate_succ,List.range_succ,List.map_append,List.append_assoc];rw[List.set_append_right _ _ (by simp)];simp
end
structure BK(w0:World)(pr:Nat)(ci co:Int)(rows:Nat->List Int)(k:Nat)(v3:Value)(n3:List Value)(H:Nat->Prop)(W:World):Prop where
 hH:∀q,H q↔(q=pr\/v3.ownBlock=some q\/∃u∈n3,u.ownBlock=some q)
 on:Ag (fun q=>w0.heap.size<=q\/q=pr) w0 W
 box:W.heap[pr]? =some (.cells #[.int .i64 ci,.int .i64 co,.int .i64 0,v3,.slice none 0 0] 25 (0,0))
 own:W.ownsRow w0.heap.size 26 1 v3 k n3
 row:∀j,j<k->OI W w0.heap.size (n3.getD j undef) (rows j)
 ap:∀u∈n3,∀q,u.ownBlock=some q->v3.ownBlock≠some q
 pz:pr<w0.heap.size
 ln:n3.length=k
def BJ(w0:World)(pr:Nat)(ci co:Int)(rows:Nat->List Int)(k:Nat)(H:Nat->Prop)(W:World):Prop:=∃v3 n3,BK w0 pr ci co rows k v3 n3 H W
section
variable {w0 W W' W2:World} {pr k:Nat} {ci co:Int} {rows:Nat->List Int} {H:Nat->Prop} {v3 v' u:Value} {n3:List Value}
theorem BK.mem_lt(h:BK w0 pr ci co rows k v3 n3 H W){x:Value}(hx:x∈n3){q:Nat}(e:x.ownBlock=some q):w0.heap.size<=q/\q<W.heap.size:=by
 obtain⟨j,hj,rfl⟩:=List.getElem_of_mem hx;have h1:=h.row j (by have:=h.ln;omega);rw[Af _ _ _ hj]at h1;exact⟨h1.ge q e,h1.lt' q e⟩
theorem BK.lt(h:BK w0 pr ci co rows k v3 n3 H W):∀q,H q->q<W.heap.size:=fun q e=>by
 rcases(h.hH q).1 e with e|e|⟨x,hx,e⟩
 ·rw[e];exact Nat.lt_of_lt_of_le h.pz h.on.size
 ·exact(World.ownsRow.lt h.own q e).2
 ·exact(h.mem_lt hx e).2
theorem BK.keep(h:BK w0 pr ci co rows k v3 n3 H W)(ho:Ag (fun q=>w0.heap.size<=q/\¬H q) W W'):BK w0 pr ci co rows k v3 n3 H W':=by
 have hn:∀q,H q->¬(w0.heap.size<=q/\¬H q):=fun q e k=>k.2 e
 refine⟨h.hH,h.on.trans (ho.mono fun q _ e=>.inl e.1),(ho.block _ (Nat.lt_of_lt_of_le h.pz h.on.size) (hn _ ((h.hH _).2 (.inl rfl)))).trans h.box,Ax h.own ho fun q e=>hn q ((h.hH q).2 (.inr (.inl e))),fun j hj=>(h.row j hj).only ho fun q e=>hn q ((h.hH q).2 (.inr (.inr ⟨_, ?_,e⟩))),h.ap,h.pz,h.ln⟩
 have hj':j<n3.length:=by have:=h.ln;omega
 rw[Af _ _ _ hj'];exact List.getElem_mem _
theorem BK.start(h:W.heap[pr]? =some (.cells #[.int .i64 ci,.int .i64 co,.int .i64 0,.slice none 0 0,.slice none 0 0] 25 (0,0))):BJ W pr ci co rows 0 (fun q=>q=pr) W:=
 ⟨.slice none 0 0,[],fun q=>by simp[Value.ownBlock],Ag.refl _ _,h,World.ownsRow_nil _ _ _ _,fun j hj=>absurd hj (by omega),(fun u hu=>by cases hu),(ltE h),rfl⟩
theorem BK.push(h:BK w0 pr ci co rows k v3 n3 H W)(hb:Below W.heap.size W W2)(hu:OI W2 W.heap.size u (rows k))(hl:0<(rows k).length)(ho:W'.ownsRow w0.heap.size 26 1 v' (k+1) (n3++[u]))(hg:W2.grownBy W' v3.ownBlock)(hm:A7 W2 v3 v'):
  (W'.heap[pr]? =some (.cells #[.int .i64 ci,.int .i64 co,.int .i64 0,v3,.slice none 0 0] 25 (0,0)))/\∃H',BJ w0 pr ci co rows (k+1) H' (W'.setCell ⟨pr,3,none⟩ v')/\Ag H W (W'.setCell ⟨pr,3,none⟩ v')/\(∀q,H' q->H q\/W.heap.size<=q)/\∀q,H' q↔(q=pr\/v'.ownBlock=some q\/∃x∈n3++[u],x.ownBlock=some q):=by
 have hz:=Nat.lt_of_lt_of_le h.pz h.on.size
 have hp3:v3.ownBlock≠some pr:=fun e=>by have:=(World.ownsRow.lt h.own pr e).1;have:=h.pz;omega
 have h2:=h.keep (Ag.of_below hb);have o1:Ag (fun q=>v3.ownBlock=some q) W2 W':=Ag.of_grown hg;have hbox:W'.heap[pr]? =some (.cells #[.int .i64 ci,.int .i64 co,.int .i64 0,v3,.slice none 0 0] 25 (0,0)):=(o1.block pr (Nat.lt_of_lt_of_le hz hb.size) hp3).trans h2.box;obtain⟨g,c,rfl,hg1,hg2⟩:=hu.row hl;have hv':∀q,v'.ownBlock=some q->v3.ownBlock=some q\/W2.heap.size<=q:=hm;have oP:Ag (fun q=>q=pr) W' (W'.setCell ⟨pr,3,none⟩ v'):=Ag.set _ _ _ rfl;have hpz:=h.pz;have hWW:W.heap.size<=W2.heap.size:=hb.size
 have hv'p:v'.ownBlock≠some pr:=fun e=>by rcases hv' pr e with k|k;exact hp3 k;omega
 have o3:Ag H W (W'.setCell ⟨pr,3,none⟩ v'):=((Ag.of_below hb).trans (o1.mono fun q _ e=>(h.hH q).2 (.inr (.inl e)))).trans (oP.mono fun q _ e=>(h.hH q).2 (.inl e));refine⟨hbox,fun q=>q=pr\/v'.ownBlock=some q\/∃x∈n3++[.slice (some ⟨g,0,none⟩) (rows k).length c],x.ownBlock=some q,⟨v',n3++[.slice (some ⟨g,0,none⟩) (rows k).length c],fun _=>Iff.rfl, ?_,heap_setCell_same _ _ 3 _ _ _ hbox,Ax ho oP fun q e k=>hv'p (k▸e),fun j hj=> ?_,fun x hx q e k=> ?_,h.pz,by rw[List.length_append,h.ln];rfl⟩,o3,fun q e=> ?_,fun _=>Iff.rfl⟩
 ·refine h.on.trans (o3.mono fun q _ e=> ?_)
  rcases(h.hH q).1 e with e|e|⟨x,hx,e⟩
  ·exact .inr e
  ·exact .inl (World.ownsRow.lt h.own q e).1
  ·exact .inl (h.mem_lt hx e).1
 ·by_cases e:j<k
  ·have hr:=h2.row j e;rw[show(n3++[Value.slice (some ⟨g,0,none⟩) (rows k).length c]).getD j undef=n3.getD j undef by simp[List.getD,List.getElem?_append_left (show j<n3.length by have:=h.ln;omega)]]
   have hx:n3.getD j undef∈n3:=by
    have hj':j<n3.length:=by have:=h.ln;omega
    rw[Af _ _ _ hj'];exact List.getElem_mem _
   refine(hr.only o1 fun q e1 e2=>h.ap _ hx q e1 e2).only oP fun q e1 e2=> ?_
   have:=(h.mem_lt hx e1).1;omega
  ·obtain rfl:j=k:=by omega
   rw[show(n3++[Value.slice (some ⟨g,0,none⟩) (rows j).length c]).getD j undef=.slice (some ⟨g,0,none⟩) (rows j).length c by rw[<-h.ln];simp[List.getD]];refine(((hu.base (by have:=h.on.size;omega):OI W2 w0.heap.size _ _).only o1 fun q e1 e2=> ?_).only oP fun q e1 e2=> ?_)
   ·have h3:=(World.ownsRow.lt h.own q e2).2;have h4:=hu.ge q e1;omega
   ·have h4:=hu.ge q e1;omega
 ·rcases List.mem_append.1 hx with hx|hx
  ·have h5:=(h.mem_lt hx e).2
   rcases hv' q k with k|k
   ·exact h.ap x hx q e k
   ·omega
  ·rw[List.mem_singleton.1 hx]at e;have h4:=hu.ge q e
   rcases hv' q k with k|k
   ·have:=(World.ownsRow.lt h.own q k).2;omega
   ·have h6:=hu.lt' q e;omega
 ·rcases e with e|e|⟨x,hx,e⟩
  ·exact .inl ((h.hH q).2 (.inl e))
  ·rcases hv' q e with k|k
   ·exact .inl ((h.hH q).2 (.inr (.inl k)))
   ·exact .inr (by omega)
  ·rcases List.mem_append.1 hx with hx|hx
   ·exact .inl ((h.hH q).2 (.inr (.inr ⟨x,hx,e⟩)))
   ·rw[List.mem_singleton.1 hx]at e;exact .inr (hu.ge q e)
end
structure BR(W:World)(pa pm pb:Nat)(l:List Sig)(own:List Bool)(a b:My):Prop where
 a:∃v3 v4,W.heap[pa]? =some (.cells #[.int .i64 a.ins,.int .i64 a.outs,.int .i64 a.start,v3,v4] 25 (0,0))/\Ar W v3 a.out/\Ar W v4 a.next
 m:∃v,W.heap[pm]? =some (.cells #[v] 23 (0,0))/\Ar W v (ET l own)
 b:∃v3 v4,W.heap[pb]? =some (.cells #[.int .i64 b.ins,.int .i64 b.outs,.int .i64 b.start,v3,v4] 25 (0,0))/\Ar W v3 b.out/\Ar W v4 b.next
theorem BR.below{W W':World}{pa pm pb:Nat}{l:List Sig}{own:List Bool}{a b:My}(h:BR W pa pm pb l own a b)(hb:Below W.heap.size W W'):BR W' pa pm pb l own a b:=by
 obtain⟨v3,v4,h1,h2,h3⟩:=h.a;obtain⟨v,g1,g2⟩:=h.m;obtain⟨v5,v6,k1,k2,k3⟩:=h.b;exact⟨⟨v3,v4,Ae hb h1,h2.below hb,h3.below hb⟩,⟨v,Ae hb g1,g2.below hb⟩,⟨v5,v6,Ae hb k1,k2.below hb,k3.below hb⟩⟩
theorem R3{n m i o:Nat}{f:Nat->Nat->Int}(hi:i<n)(ho:o<m):((F5 n m f).getD i []).length=m/\((F5 n m f).getD i []).getD o 0=f i o:=by
 have e:(F5 n m f).getD i []=(List.range m).map fun o=>f i o:=by
  rw[Af _ _ _ (by simp[F5];exact hi)];simp[F5]
 rw[e];exact⟨by simp,by rw[Af _ _ _ (by simp;exact ho)];simp⟩
structure CI(W wr:World)(n g1 g2:Nat)(p:Pr)(O:List Int)(Q:List Pr):Prop where
 bl:Below W.heap.size W wr
 o:OI wr W.heap.size (.slice (some ⟨g1,0,none⟩) n n) O
 q:OQ wr W.heap.size (.slice (some ⟨g2,0,none⟩) n n) Q
 ne:g1≠g2
 b1:W.heap.size<g1
 b2:W.heap.size<g2
 bx:wr.heap[W.heap.size]? =some (.cells (prC p) 80 (0,0))
 lo:O.length=n
 lq:Q.length=n
section
variable {W wr w':World} {n g1 g2 j:Nat} {p y:Pr} {O:List Int} {Q:List Pr} {x:Int}
theorem CI.below(h:CI W wr n g1 g2 p O Q)(hb:Below wr.heap.size wr w'):CI W w' n g1 g2 p O Q:=
 ⟨h.bl.trans (hb.mono h.bl.size),h.o.below hb,h.q.only (S:=fun _=>False) (Ag.of_below hb) fun _ _ e=>e,h.ne,h.b1,h.b2,(hb.block _ (Array.getElem?_eq_some_iff.1 h.bx).1).trans h.bx,h.lo,h.lq⟩
theorem CI.setO(h:CI W wr n g1 g2 p O Q):CI W (wr.setCell ⟨g1,j,none⟩ (.int .i64 x)) n g1 g2 p (O.set j x) Q:=by
 have ho:Ag (fun k=>k=g1) wr (wr.setCell ⟨g1,j,none⟩ (.int .i64 x)):=Ag.set _ _ _ rfl;have:=h.b1;exact⟨BY h.bl (by omega),h.o.set h.lo.symm j x,h.q.only ho fun k e1 e2=>h.ne (by rw[<-e2];exact(Option.some.inj e1).symm),h.ne,h.b1,h.b2,(ho.block _ (Array.getElem?_eq_some_iff.1 h.bx).1 (by omega)).trans h.bx,by rw[List.length_set];exact h.lo,h.lq⟩
theorem CI.setQ(h:CI W wr n g1 g2 p O Q)(hj:j<n):CI W ((wr.setCell ⟨g2,j*2,none⟩ (.int .i64 (y.1:Int))).setCell ⟨g2,j*2+1,none⟩ (.int .i64 (y.2:Int))) n g1 g2 p O (Q.set j y):=by
 have h1:Ag (fun k=>k=g2) wr (wr.setCell ⟨g2,j*2,none⟩ (.int .i64 (y.1:Int))):=Ag.set _ _ _ rfl;have ho:Ag (fun k=>k=g2) wr ((wr.setCell ⟨g2,j*2,none⟩ (.int .i64 (y.1:Int))).setCell ⟨g2,j*2+1,none⟩ (.int .i64 (y.2:Int))):=h1.trans (Ag.set _ _ _ rfl);have:=h.b2;exact⟨BY (BY h.bl (by omega)) (by omega),h.o.only ho fun k e1 e2=>h.ne (by rw[<-e2];exact Option.some.inj e1),h.q.set h.lq.symm (by rw[h.lq];exact hj) y,h.ne,h.b1,h.b2,(ho.block _ (Array.getElem?_eq_some_iff.1 h.bx).1 (by omega)).trans h.bx,h.lo,by rw[List.length_set];exact h.lq⟩
end
def RC6(n g1 i bm om lm cm pa b3 o3 na c3 B0 P1 r3 t3 l3 d3 x rm tm lx dm pb b5 o5 nb c5 P2 r5 t5 l5 d5 y:Nat)(z:Int)(ix:Nat)(u:Value)(_:World):Prop:=
 match ix with
 |0=>u=.slice (some ⟨g1,0,none⟩) n n
 |1|9|20=>u=.int .i64 (i:Int)
 |2=>u=.slice (some ⟨bm,om,none⟩) lm cm
 |3=>u=.pointer (some ⟨pa,3,none⟩)
 |4=>u=.slice (some ⟨b3,o3,none⟩) na c3
 |5=>u=.pointer (some ⟨B0,0,none⟩)
 |6=>u=.int .i64 (P1:Int)
 |7=>u=.pointer (some ⟨b3,o3+P1,none⟩)
 |8=>u=.slice (some ⟨r3,t3,none⟩) l3 d3
 |10=>u=.pointer (some ⟨r3,t3+i,none⟩)
 |11=>u=.int .i64 (x:Int)
 |12=>u=.pointer (some ⟨bm,om+x,none⟩)
 |13=>u=.slice (some ⟨rm,tm,none⟩) lx dm
 |14=>u=.pointer (some ⟨pb,3,none⟩)
 |15=>u=.slice (some ⟨b5,o5,none⟩) nb c5
 |16=>u=.pointer (some ⟨B0,1,none⟩)
 |17=>u=.int .i64 (P2:Int)
 |18=>u=.pointer (some ⟨b5,o5+P2,none⟩)
 |19=>u=.slice (some ⟨r5,t5,none⟩) l5 d5
 |21=>u=.pointer (some ⟨r5,t5+i,none⟩)
 |22=>u=.int .i64 (y:Int)
 |23=>u=.pointer (some ⟨rm,tm+y,none⟩)
 |24=>u=.int .i64 z
 |25=>u=.pointer (some ⟨g1,i,none⟩)
 | _=>True
theorem RC6.below{ix:Nat}{u:Value}{W W':World}{n g1 i bm om lm cm pa b3 o3 na c3 B0 P1 r3 t3 l3 d3 x rm tm lx dm pb b5 o5 nb c5 P2 r5 t5 l5 d5 y:Nat}{z:Int}(h:RC6 n g1 i bm om lm cm pa b3 o3 na c3 B0 P1 r3 t3 l3 d3 x rm tm lx dm pb b5 o5 nb c5 P2 r5 t5 l5 d5 y z ix u W)(_:Below W.heap.size W W'):RC6 n g1 i bm om lm cm pa b3 o3 na c3 B0 P1 r3 t3 l3 d3 x rm tm lx dm pb b5 o5 nb c5 P2 r5 t5 l5 d5 y z ix u W':=by
 unfold RC6 at*
 split at h<;>first|exact h|trivial
def RC7(n g2 i pa b4 o4 na c4 B0 P1 r4 t4 l4 d4 q1 pb b6 o6 nb c6 P2 r6 t6 l6 d6 q2:Nat)(ix:Nat)(u:Value)(_:World):Prop:=
 match ix with
 |0=>u=.slice (some ⟨g2,0,none⟩) n n
 |1|8|17=>u=.int .i64 (i:Int)
 |2=>u=.pointer (some ⟨pa,4,none⟩)
 |3=>u=.slice (some ⟨b4,o4,none⟩) na c4
 |4=>u=.pointer (some ⟨B0,0,none⟩)
 |5=>u=.int .i64 (P1:Int)
 |6=>u=.pointer (some ⟨b4,o4+P1,none⟩)
 |7=>u=.slice (some ⟨r4,t4,none⟩) l4 d4
 |9=>u=.pointer (some ⟨r4,t4+i,none⟩)
 |10=>u=.int .i64 (q1:Int)
 |11=>u=.pointer (some ⟨pb,4,none⟩)
 |12=>u=.slice (some ⟨b6,o6,none⟩) nb c6
 |13=>u=.pointer (some ⟨B0,1,none⟩)
 |14=>u=.int .i64 (P2:Int)
 |15=>u=.pointer (some ⟨b6,o6+P2,none⟩)
 |16=>u=.slice (some ⟨r6,t6,none⟩) l6 d6
 |18=>u=.pointer (some ⟨r6,t6+i,none⟩)
 |19=>u=.int .i64 (q2:Int)
 |20=>u=.agg #[.int .i64 (q1:Int),.int .i64 (q2:Int)]
 |21=>u=.pointer (some ⟨g2,i*2,none⟩)
 | _=>True
theorem RC7.below{ix:Nat}{u:Value}{W W':World}{n g2 i pa b4 o4 na c4 B0 P1 r4 t4 l4 d4 q1 pb b6 o6 nb c6 P2 r6 t6 l6 d6 q2:Nat}(h:RC7 n g2 i pa b4 o4 na c4 B0 P1 r4 t4 l4 d4 q1 pb b6 o6 nb c6 P2 r6 t6 l6 d6 q2 ix u W)(_:Below W.heap.size W W'):RC7 n g2 i pa b4 o4 na c4 B0 P1 r4 t4 l4 d4 q1 pb b6 o6 nb c6 P2 r6 t6 l6 d6 q2 ix u W':=by
 unfold RC7 at*
 split at h<;>first|exact h|trivial
theorem QT(W w0:World)(pa pm pb pr:Nat)(l:List Sig)(own:List Bool)(a b:My)(n:Nat)(p:Pr)(k:Nat)(rows:Nat->List Int)(H:Nat->Prop)(hr:BR W pa pm pb l own a b)(hj:BJ w0 pr (n:Int) a.outs rows k H W)
  (ha:MyV a) (hb:MyV b) (hab:b.ins=a.ins) (hn:a.ins=(n:Int)) (hao:a.outs=Aj l) (hbo:b.outs=Aj l) (hp:okP a b p) (hrow:rows k=Hr l own a b n p) (hk:k<4000) (hvs:At l=true):
  Calls Tryz.prog 49 #[prV p,.pointer (some ⟨pa,0,none⟩),.pointer (some ⟨pm,0,none⟩),.pointer (some ⟨pb,0,none⟩),.pointer (some ⟨pr,0,none⟩)] W
   (KC ((List.range n).map (nxP a b p)) (BJ w0 pr (n:Int) a.outs rows (k+1)) H W):=by
 have hmx:Tryz.prog.follows .mixedOrders=true:=by kernel_rfl
 obtain⟨v3,n3,hJ⟩:=hj;obtain⟨⟨va,va4,xa,ra,rn⟩,⟨vm,xm,rm⟩,⟨vb,vb4,xb,rb,rbn⟩⟩:=hr;obtain⟨a3,c3,rfl⟩:=ra.shape;obtain⟨a4,c4,rfl⟩:=rn.shape;obtain⟨am,cm,rfl⟩:=rm.shape;obtain⟨a5,c5,rfl⟩:=rb.shape;obtain⟨a6,c6,rfl⟩:=rbn.shape;have hn1:=ha.i1;have hn2:=ha.i2;have ho1:=ha.o1;have ho2:=ha.o2
 have hml:(ET l own).length=(Aj l).toNat:=by simp[ET,F5]
 have hnl:=ha.nl;have hbl:=hb.nl;have hp1:=hp.1;have hp2:=hp.2;rw[hnl]at rn xa;rw[hbl]at rbn xb;obtain⟨b3,o3,rfl⟩:=Cf ra (by omega);obtain⟨b4,o4,rfl⟩:=Cf rn (by omega);obtain⟨bm,om,rfl⟩:=Cf rm (by omega);obtain⟨b5,o5,rfl⟩:=Cf rb (by omega);obtain⟨b6,o6,rfl⟩:=Cf rbn (by omega);have HRA:=Ab ra;have HRN:=Ab rn;have HRM:=Ab rm;have HRB:=Ab rb;have HRBN:=Ab rbn;have HJ:=Ab hJ;have HA:=Ab ha;have HB:=Ab hb;have HP:=Ab hp;have HN:=Ab hn;have HAB:=Ab hab;have HAO:=Ab hao;have HBO:=Ab hbo;have HML:=Ab hml;have HVS:=Ab hvs;have HRW:=Ab hrow;rw[hn]at xa hn1 hn2;obtain⟨P1,P2⟩:=p;have hp1':P1<a.out.length:=hp1;have hp2':P2<b.out.length:=hp2;have c0:=Aa 0 xa;have XA:=Ab xa;have XM:=Ab xm;have XB:=Ab xb;clear ra rn rm rb rbn hJ ha hb hp hn hab hao hbo hml hvs hrow xa xm xb hp1 hp2 hnl hbl;show Calls Tryz.prog 49 #[.agg #[.int .i64 (P1:Int),.int .i64 (P2:Int)],.pointer (some ⟨pa,0,none⟩),.pointer (some ⟨pm,0,none⟩),.pointer (some ⟨pb,0,none⟩),.pointer (some ⟨pr,0,none⟩)] W _
 go_enter Tryz.func49,Tryz.ntmps49
 go_upto_region 1 with(fail)
 obtain⟨hx0,hb0,-⟩:=Az (w0:=W) (B:=W.heap.size) Ad leR #[.int .i64 (P1:Int),.int .i64 (P2:Int)] 80
 have hs1:(W.alloc (.cells #[.int .i64 (P1:Int),.int .i64 (P2:Int)] 80)).heap.size=W.heap.size+1:=by simp
 generalize W.alloc (.cells #[.int .i64 (P1:Int),.int .i64 (P2:Int)] 80)=w1 at*;replace c0:=Ah hb0 c0
 have hs1':W.heap.size<=w1.heap.size:=by omega
 have HS1:=Ab hs1;have HB0:=Ab hb0;clear hs1 hb0
 go_upto_region 2 with(at_make;refine FY rfl _ _ _ Tryz.underlying26 rfl W.heap.size (n:Int) n rfl rfl rfl (by omega) hs1' ?_;intro w2 ho1 hg1)
 have hb12:Below w1.heap.size w1 w2:=Ad.grown hg1 leR (fun k hk=>by cases hk);replace c0:=Ah hb12 c0;have hs2:w1.heap.size<w2.heap.size:=(World.ownsRow.lt ho1 _ rfl).2
 have hs2':W.heap.size<=w2.heap.size:=by omega
 have HB12:=Ab hb12;clear hb12
 go_upto_region 3 with(at_make;refine TO rfl _ _ _ Tryz.underlying81 rfl W.heap.size (n:Int) n rfl rfl rfl (by omega) hs2' ?_;intro w3 ho2 hg2)
 have HC0:Hid (CI W w3 n w1.heap.size w2.heap.size (P1,P2) (DQ (fun j=>ED l own (Bg a P1 j) (Bg b P2 j)) 0 n 0) (DQ (nxP a b (P1,P2)) (0,0) n 0)):=by
  have hb23:Below w2.heap.size w2 w3:=Ad.grown hg2 leR (fun k hk=>by cases hk);have:=HS1.out;rw[Fo,Fo];exact⟨(HB0.out.trans (HB12.out.mono (by omega))).trans (hb23.mono (by omega)),ho1.below hb23,ho2,by omega,by omega,by omega,((hb23.block _ (by omega)).trans (HB12.out.block _ (by omega))).trans hx0,by simp,by simp⟩
 clear ho1 hg1 ho2 hg2 hx0 c0 HB0 HB12 hs1' hs2 hs2' HS1;generalize w1.heap.size=g1 at*;generalize w2.heap.size=g2 at*
 go_wp2_with fail
 go_loopg [19] n (fun gh iv wr=>∃i:Nat,gh=n-i/\iv=.int .i64 (i:Int)/\i<=n/\Hid (CI W wr n g1 g2 (P1,P2) (DQ (fun j=>ED l own (Bg a P1 j) (Bg b P2 j)) 0 n i) (DQ (nxP a b (P1,P2)) (0,0) n i)))
 case atStart=>exact⟨0,rfl,rfl,by omega,HC0⟩
 case round=>
  clear HC0;obtain⟨i,hgi,rfl,hi,HC⟩:=hrel;have HGI:=Ab hgi;clear hgi
  by_cases hlt:i<n
  ·have hi0:(0:Int)<=(i:Int):=by omega
   have hi1:(i:Int)<(n:Int):=by omega
   have hii:(i:Int)<a.ins:=by rw[HN.out];exact hi1
   have hii2:(i:Int)<b.ins:=by rw[HAB.out,HN.out];exact hi1
   have ao:=HA.out.out' (q:=P1) hp1' hii;have bo:=HB.out.out' (q:=P2) hp2' hii2;have an:=HA.out.nx' (q:=P1) hp1' hii;have bn:=HB.out.nx' (q:=P2) hp2' hii2;obtain⟨x,hx⟩:∃x:Nat,Bg a P1 i=(x:Int):=⟨(Bg a P1 i).toNat,by omega⟩;obtain⟨y,hy⟩:∃y:Nat,Bg b P2 i=(y:Int):=⟨(Bg b P2 i).toNat,by omega⟩;obtain⟨q1,hq1⟩:∃q1:Nat,nxI a P1 i=(q1:Int):=⟨(nxI a P1 i).toNat,by omega⟩;obtain⟨q2,hq2⟩:∃q2:Nat,nxI b P2 i=(q2:Int):=⟨(nxI b P2 i).toNat,by omega⟩
   have hxm:x<(Aj l).toNat:=by have:=HAO.out;omega
   have hym:y<(Aj l).toNat:=by have:=HBO.out;omega
   obtain⟨tl,tv⟩:=R3 (f:=CL l own) hxm hym;obtain⟨r3,t3,d3,A3,A3'⟩:=BT HRA.out hp1' ao.1;obtain⟨r4,t4,d4,A4,A4'⟩:=BT HRN.out hp1' an.1;obtain⟨r5,t5,d5,B5,B5'⟩:=BT HRB.out hp2' bo.1;obtain⟨r6,t6,d6,B6,B6'⟩:=BT HRBN.out hp2' bn.1;obtain⟨rm,tm,dm,M5,M5'⟩:=BT HRM.out (q:=x) (x:=y) (by rw[HML.out];exact hxm) (by show y<((F5 _ _ (CL l own)).getD x []).length;rw[tl];exact hym);rw[show(a.out.getD P1 []).getD i 0=Bg a P1 i from rfl,hx]at A3';rw[show(b.out.getD P2 []).getD i 0=Bg b P2 i from rfl,hy]at B5';rw[show(a.next.getD P1 []).getD i 0=nxI a P1 i from rfl,hq1]at A4';rw[show(b.next.getD P2 []).getD i 0=nxI b P2 i from rfl,hq2]at B6';rw[show((ET l own).getD x []).getD y 0=CL l own x y from tv]at M5'
   have HFX:Hid (CL l own x y=ED l own (Bg a P1 i) (Bg b P2 i)):=by show ED l own (x:Int) (y:Int)=_;rw[hx,hy]
   have HFQ:Hid (nxP a b (P1,P2) i=(q1,q2)):=by show((nxI a P1 i).toNat,(nxI b P2 i).toNat)=_;rw[hq1,hq2];rfl
   have HA3:=Ab A3;have HA3':=Ab A3';have HA4:=Ab A4;have HA4':=Ab A4';have HB5:=Ab B5;have HB5':=Ab B5';have HB6:=Ab B6;have HB6':=Ab B6';have HM5:=Ab M5;have HM5':=Ab M5'
   have hx0:(0:Int)<=(x:Int):=by omega
   have hy0:(0:Int)<=(y:Int):=by omega
   have hx1:(x:Int)<((ET l own).length:Int):=by rw[HML.out];omega
   have hy1:(y:Int)<(((ET l own).getD x []).length:Int):=by rw[show((ET l own).getD x []).length=(Aj l).toNat from tl];omega
   have hp10:(0:Int)<=(P1:Int):=by omega
   have hp20:(0:Int)<=(P2:Int):=by omega
   have hp11:(P1:Int)<(a.out.length:Int):=by omega
   have hp21:(P2:Int)<(b.out.length:Int):=by omega
   have hi3:(i:Int)<((a.out.getD P1 []).length:Int):=by have:=ao.1;omega
   have hi4:(i:Int)<((a.next.getD P1 []).length:Int):=by have:=an.1;omega
   have hi5:(i:Int)<((b.out.getD P2 []).length:Int):=by have:=bo.1;omega
   have hi6:(i:Int)<((b.next.getD P2 []).length:Int):=by have:=bn.1;omega
   have HBW:Hid (∀W',Below wr.drew.heap.size wr.drew W'->CI W W' n g1 g2 (P1,P2) (DQ (fun j=>ED l own (Bg a P1 j) (Bg b P2 j)) 0 n i) (DQ (nxP a b (P1,P2)) (0,0) n i)):=fun W' h=>HC.out.below ((Below.drew Ad).trans h)
   clear HC ao bo an bn hx hy hq1 hq2 hxm hym tl tv A3 A3' A4 A4' B5 B5' B6 B6' M5 M5' hii hii2;generalize hl3:(a.out.getD P1 []).length=l3 at*;generalize hl4:(a.next.getD P1 []).length=l4 at*;generalize hl5:(b.out.getD P2 []).length=l5 at*;generalize hl6:(b.next.getD P2 []).length=l6 at*;generalize hlm:((ET l own).getD x []).length=lx at*;clear hl3 hl4 hl5 hl6 hlm;generalize hlM:(ET l own).length=lm at*;clear hlM
   go_upto_region 6 with(fail)
   refine Ci hmx (RC6 n g1 i bm om lm cm pa b3 o3 a.out.length c3 W.heap.size P1 r3 t3 l3 d3 x rm tm lx dm pb b5 o5 b.out.length c5 P2 r5 t5 l5 d5 y (CL l own x y)) (fun vs=>{tmps:=(_::_::_::_::_::_::_::_::_::_::_::_::_::_::_::_::_::_::_::_::_::_::vs 0::vs 1::vs 2::vs 3::vs 4::vs 5::vs 6::vs 7::vs 8::vs 9::vs 10::vs 11::vs 12::vs 13::vs 14::vs 15::vs 16::vs 17::vs 18::vs 19::vs 20::vs 21::vs 22::vs 23::vs 24::vs 25::_::_::_::_::_::_::_::_::_::_::_::_::_::_::_::_::_::_::_::_::_::_::_::_::_::_::_::_::_::_::[]).toArray,defers:=[]}) (fun n=>[u22,u23,u24,u25,u26,u27,u28,u29,u30,u31,u32,u33,u34,u35,u36,u37,u38,u39,u40,u41,u42,u43,u44,u45,u46,u47].getD n undef) 26 rfl (by kernel_rfl) (by kernel_rfl) (fun i v W W' h hb=>RC6.below h hb) ?step ?last
   case step=>
    intro ix oo hlt ho
    match ix,hlt,ho with
    |0,hlt,ho|1,hlt,ho|3,hlt,ho|5,hlt,ho|7,hlt,ho|9,hlt,ho|10,hlt,ho|12,hlt,ho|14,hlt,ho|16,hlt,ho|18,hlt,ho|20,hlt,ho|21,hlt,ho|23,hlt,ho|25,hlt,ho=>
     obtain rfl:=osI ho;intro vs W9 K hB hD hK;have HK:=Ab hK
     try have e0:vs 0=.slice (some ⟨g1,0,none⟩) n n:=Ac hD 0 rfl
     try have e1:vs 1=.int .i64 (i:Int):=Ac hD 1 rfl
     try have e2:vs 2=.slice (some ⟨bm,om,none⟩) lm cm:=Ac hD 2 rfl
     try have e4:vs 4=.slice (some ⟨b3,o3,none⟩) a.out.length c3:=Ac hD 4 rfl
     try have e6:vs 6=.int .i64 (P1:Int):=Ac hD 6 rfl
     try have e8:vs 8=.slice (some ⟨r3,t3,none⟩) l3 d3:=Ac hD 8 rfl
     try have e9:vs 9=.int .i64 (i:Int):=Ac hD 9 rfl
     try have e11:vs 11=.int .i64 (x:Int):=Ac hD 11 rfl
     try have e13:vs 13=.slice (some ⟨rm,tm,none⟩) lx dm:=Ac hD 13 rfl
     try have e15:vs 15=.slice (some ⟨b5,o5,none⟩) b.out.length c5:=Ac hD 15 rfl
     try have e17:vs 17=.int .i64 (P2:Int):=Ac hD 17 rfl
     try have e19:vs 19=.slice (some ⟨r5,t5,none⟩) l5 d5:=Ac hD 19 rfl
     try have e20:vs 20=.int .i64 (i:Int):=Ac hD 20 rfl
     try have e22:vs 22=.int .i64 (y:Int):=Ac hD 22 rfl
     clear hK hD ho hlt;dsimp only;go_simp;have h:=HK.out _ _ Ad rfl;simp only[upd,Nat.reduceEqDiff,reduceIte, *]at h;exact h
    |2,hlt,ho=>
     obtain rfl:=osI ho;intro vs W9 K hB hD hK;have HK:=Ab hK;have c:=Aa 0 (((HBW.out W9 hB).bl.block _ (Array.getElem?_eq_some_iff.1 XM.out).1).trans XM.out);clear hK hD ho hlt;dsimp only;go_simp;have h:=HK.out _ _ Ad rfl;simp only[upd,Nat.reduceEqDiff,reduceIte]at h;exact h
    |4,hlt,ho=>
     obtain rfl:=osI ho;intro vs W9 K hB hD hK;have HK:=Ab hK;have e3:vs 3=.pointer (some ⟨pa,3,none⟩):=Ac hD 3 rfl;have c:=Aa 3 (((HBW.out W9 hB).bl.block _ (Array.getElem?_eq_some_iff.1 XA.out).1).trans XA.out);clear hK hD ho hlt;dsimp only;go_simp;have h:=HK.out _ _ Ad rfl;simp only[upd,Nat.reduceEqDiff,reduceIte,e3]at h;exact h
    |6,hlt,ho=>
     obtain rfl:=osI ho;intro vs W9 K hB hD hK;have HK:=Ab hK;have e5:vs 5=.pointer (some ⟨W.heap.size,0,none⟩):=Ac hD 5 rfl;have c:W9.cell? ⟨W.heap.size,0,none⟩=some (.int .i64 (P1:Int)):=Aa 0 (HBW.out W9 hB).bx;clear hK hD ho hlt;dsimp only;go_simp;have h:=HK.out _ _ Ad rfl;simp only[upd,Nat.reduceEqDiff,reduceIte,e5]at h;exact h
    |8,hlt,ho=>
     obtain rfl:=osI ho;intro vs W9 K hB hD hK;have HK:=Ab hK;have e7:vs 7=.pointer (some ⟨b3,o3+P1,none⟩):=Ac hD 7 rfl;have c:=Ah (HBW.out W9 hB).bl HA3.out;clear hK hD ho hlt;dsimp only;go_simp;have h:=HK.out _ _ Ad rfl;simp only[upd,Nat.reduceEqDiff,reduceIte,e7]at h;exact h
    |11,hlt,ho=>
     obtain rfl:=osI ho;intro vs W9 K hB hD hK;have HK:=Ab hK;have e10:vs 10=.pointer (some ⟨r3,t3+i,none⟩):=Ac hD 10 rfl;have c:=Ah (HBW.out W9 hB).bl HA3'.out;clear hK hD ho hlt;dsimp only;go_simp;have h:=HK.out _ _ Ad rfl;simp only[upd,Nat.reduceEqDiff,reduceIte,e10]at h;exact h
    |13,hlt,ho=>
     obtain rfl:=osI ho;intro vs W9 K hB hD hK;have HK:=Ab hK;have e12:vs 12=.pointer (some ⟨bm,om+x,none⟩):=Ac hD 12 rfl;have c:=Ah (HBW.out W9 hB).bl HM5.out;clear hK hD ho hlt;dsimp only;go_simp;have h:=HK.out _ _ Ad rfl;simp only[upd,Nat.reduceEqDiff,reduceIte,e12]at h;exact h
    |15,hlt,ho=>
     obtain rfl:=osI ho;intro vs W9 K hB hD hK;have HK:=Ab hK;have e14:vs 14=.pointer (some ⟨pb,3,none⟩):=Ac hD 14 rfl;have c:=Aa 3 (((HBW.out W9 hB).bl.block _ (Array.getElem?_eq_some_iff.1 XB.out).1).trans XB.out);clear hK hD ho hlt;dsimp only;go_simp;have h:=HK.out _ _ Ad rfl;simp only[upd,Nat.reduceEqDiff,reduceIte,e14]at h;exact h
    |17,hlt,ho=>
     obtain rfl:=osI ho;intro vs W9 K hB hD hK;have HK:=Ab hK;have e16:vs 16=.pointer (some ⟨W.heap.size,1,none⟩):=Ac hD 16 rfl;have c:W9.cell? ⟨W.heap.size,1,none⟩=some (.int .i64 (P2:Int)):=Aa 1 (HBW.out W9 hB).bx;clear hK hD ho hlt;dsimp only;go_simp;have h:=HK.out _ _ Ad rfl;simp only[upd,Nat.reduceEqDiff,reduceIte,e16]at h;exact h
    |19,hlt,ho=>
     obtain rfl:=osI ho;intro vs W9 K hB hD hK;have HK:=Ab hK;have e18:vs 18=.pointer (some ⟨b5,o5+P2,none⟩):=Ac hD 18 rfl;have c:=Ah (HBW.out W9 hB).bl HB5.out;clear hK hD ho hlt;dsimp only;go_simp;have h:=HK.out _ _ Ad rfl;simp only[upd,Nat.reduceEqDiff,reduceIte,e18]at h;exact h
    |22,hlt,ho=>
     obtain rfl:=osI ho;intro vs W9 K hB hD hK;have HK:=Ab hK;have e21:vs 21=.pointer (some ⟨r5,t5+i,none⟩):=Ac hD 21 rfl;have c:=Ah (HBW.out W9 hB).bl HB5'.out;clear hK hD ho hlt;dsimp only;go_simp;have h:=HK.out _ _ Ad rfl;simp only[upd,Nat.reduceEqDiff,reduceIte,e21]at h;exact h
    |24,hlt,ho=>
     obtain rfl:=osI ho;intro vs W9 K hB hD hK;have HK:=Ab hK;have e23:vs 23=.pointer (some ⟨rm,tm+y,none⟩):=Ac hD 23 rfl;have c:=Ah (HBW.out W9 hB).bl HM5'.out;clear hK hD ho hlt;dsimp only;go_simp;have h:=HK.out _ _ Ad rfl;simp only[upd,Nat.reduceEqDiff,reduceIte,e23]at h;exact h
    |q+26,hlt,_=>exact absurd hlt (by omega)
   case last=>
    intro oo ho;obtain rfl:=osI ho;intro vs w8 K hB hall hK;have HK:=Ab hK;have e8:vs 24=.int .i64 (CL l own x y):=hall 24 (by omega);have e9:vs 25=.pointer (some ⟨g1,i,none⟩):=hall 25 (by omega);have hC:=HBW.out w8 hB;obtain⟨cv,c9⟩:∃cv,w8.cell? ⟨g1,i,none⟩=some (.int .i64 cv):=⟨_,hC.o.at' hC.lo.symm i (by rw[hC.lo];exact hlt)⟩;have f9:=hC.o.fz hC.lo.symm i;have p9:=hC.setO (j:=i) (x:=CL l own x y);rw[show(DQ (fun j=>ED l own (Bg a P1 j) (Bg b P2 j)) 0 n i).set i (CL l own x y)=DQ (fun j=>ED l own (Bg a P1 j) (Bg b P2 j)) 0 n (i+1)by rw[HFX.out];exact Gu (f:=fun j=>ED l own (Bg a P1 j) (Bg b P2 j)) hlt]at p9;have HP9:=Ab p9;clear hK hall ho p9 hC;dsimp only;go_simp;refine HK.out _ _ ?_;clear HBW c9 f9 HK;generalize w8.setCell ⟨g1,i,none⟩ (.int .i64 (CL l own x y))=w9 at*
    have HBW:Hid (∀W',Below w9.drew.heap.size w9.drew W'->CI W W' n g1 g2 (P1,P2) (DQ (fun j=>ED l own (Bg a P1 j) (Bg b P2 j)) 0 n (i+1)) (DQ (nxP a b (P1,P2)) (0,0) n i)):=fun W' h=>HP9.out.below ((Below.drew Ad).trans h)
    go_upto_region 7 with(fail)
    refine Ci hmx (RC7 n g2 i pa b4 o4 a.out.length c4 W.heap.size P1 r4 t4 l4 d4 q1 pb b6 o6 b.out.length c6 P2 r6 t6 l6 d6 q2) (fun vs=>{tmps:=(_::_::_::_::_::_::_::_::_::_::_::_::_::_::_::_::_::_::_::_::_::_::_::_::_::_::_::_::_::_::_::_::_::_::_::_::_::_::_::_::_::_::_::_::_::_::_::_::vs 0::vs 1::vs 2::vs 3::vs 4::vs 5::vs 6::vs 7::vs 8::vs 9::vs 10::vs 11::vs 12::vs 13::vs 14::vs 15::vs 16::vs 17::vs 18::vs 19::vs 20::vs 21::_::_::_::_::_::_::_::_::[]).toArray,defers:=[]}) (fun n=>[u48,u49,u50,u51,u52,u53,u54,u55,u56,u57,u58,u59,u60,u61,u62,u63,u64,u65,u66,u67,u68,u69].getD n undef) 22 rfl (by kernel_rfl) (by kernel_rfl) (fun i v W W' h hb=>RC7.below h hb) ?step ?last
    case step=>
     intro ix oo hlt ho
     match ix,hlt,ho with
     |0,hlt,ho|1,hlt,ho|2,hlt,ho|4,hlt,ho|6,hlt,ho|8,hlt,ho|9,hlt,ho|11,hlt,ho|13,hlt,ho|15,hlt,ho|17,hlt,ho|18,hlt,ho|20,hlt,ho|21,hlt,ho=>
      obtain rfl:=osI ho;intro vs W9 K hB hD hK;have HK:=Ab hK
      try have e0:vs 0=.slice (some ⟨g2,0,none⟩) n n:=Ac hD 0 rfl
      try have e1:vs 1=.int .i64 (i:Int):=Ac hD 1 rfl
      try have e3:vs 3=.slice (some ⟨b4,o4,none⟩) a.out.length c4:=Ac hD 3 rfl
      try have e5:vs 5=.int .i64 (P1:Int):=Ac hD 5 rfl
      try have e7:vs 7=.slice (some ⟨r4,t4,none⟩) l4 d4:=Ac hD 7 rfl
      try have e8:vs 8=.int .i64 (i:Int):=Ac hD 8 rfl
      try have e10:vs 10=.int .i64 (q1:Int):=Ac hD 10 rfl
      try have e12:vs 12=.slice (some ⟨b6,o6,none⟩) b.out.length c6:=Ac hD 12 rfl
      try have e14:vs 14=.int .i64 (P2:Int):=Ac hD 14 rfl
      try have e16:vs 16=.slice (some ⟨r6,t6,none⟩) l6 d6:=Ac hD 16 rfl
      try have e17:vs 17=.int .i64 (i:Int):=Ac hD 17 rfl
      try have e19:vs 19=.int .i64 (q2:Int):=Ac hD 19 rfl
      clear hK hD ho hlt;dsimp only;go_simp;have h:=HK.out _ _ Ad rfl;simp only[upd,Nat.reduceEqDiff,reduceIte, *]at h;exact h
     |3,hlt,ho=>
      obtain rfl:=osI ho;intro vs W9 K hB hD hK;have HK:=Ab hK;have e2:vs 2=.pointer (some ⟨pa,4,none⟩):=Ac hD 2 rfl;have c:=Aa 4 (((HBW.out W9 hB).bl.block _ (Array.getElem?_eq_some_iff.1 XA.out).1).trans XA.out);clear hK hD ho hlt;dsimp only;go_simp;have h:=HK.out _ _ Ad rfl;simp only[upd,Nat.reduceEqDiff,reduceIte,e2]at h;exact h
     |5,hlt,ho=>
      obtain rfl:=osI ho;intro vs W9 K hB hD hK;have HK:=Ab hK;have e4:vs 4=.pointer (some ⟨W.heap.size,0,none⟩):=Ac hD 4 rfl;have c:W9.cell? ⟨W.heap.size,0,none⟩=some (.int .i64 (P1:Int)):=Aa 0 (HBW.out W9 hB).bx;clear hK hD ho hlt;dsimp only;go_simp;have h:=HK.out _ _ Ad rfl;simp only[upd,Nat.reduceEqDiff,reduceIte,e4]at h;exact h
     |7,hlt,ho=>
      obtain rfl:=osI ho;intro vs W9 K hB hD hK;have HK:=Ab hK;have e6:vs 6=.pointer (some ⟨b4,o4+P1,none⟩):=Ac hD 6 rfl;have c:=Ah (HBW.out W9 hB).bl HA4.out;clear hK hD ho hlt;dsimp only;go_simp;have h:=HK.out _ _ Ad rfl;simp only[upd,Nat.reduceEqDiff,reduceIte,e6]at h;exact h
     |10,hlt,ho=>
      obtain rfl:=osI ho;intro vs W9 K hB hD hK;have HK:=Ab hK;have e9:vs 9=.pointer (some ⟨r4,t4+i,none⟩):=Ac hD 9 rfl;have c:=Ah (HBW.out W9 hB).bl HA4'.out;clear hK hD ho hlt;dsimp only;go_simp;have h:=HK.out _ _ Ad rfl;simp only[upd,Nat.reduceEqDiff,reduceIte,e9]at h;exact h
     |12,hlt,ho=>
      obtain rfl:=osI ho;intro vs W9 K hB hD hK;have HK:=Ab hK;have e11:vs 11=.pointer (some ⟨pb,4,none⟩):=Ac hD 11 rfl;have c:=Aa 4 (((HBW.out W9 hB).bl.block _ (Array.getElem?_eq_some_iff.1 XB.out).1).trans XB.out);clear hK hD ho hlt;dsimp only;go_simp;have h:=HK.out _ _ Ad rfl;simp only[upd,Nat.reduceEqDiff,reduceIte,e11]at h;exact h
     |14,hlt,ho=>
      obtain rfl:=osI ho;intro vs W9 K hB hD hK;have HK:=Ab hK;have e13:vs 13=.pointer (some ⟨W.heap.size,1,none⟩):=Ac hD 13 rfl;have c:W9.cell? ⟨W.heap.size,1,none⟩=some (.int .i64 (P2:Int)):=Aa 1 (HBW.out W9 hB).bx;clear hK hD ho hlt;dsimp only;go_simp;have h:=HK.out _ _ Ad rfl;simp only[upd,Nat.reduceEqDiff,reduceIte,e13]at h;exact h
     |16,hlt,ho=>
      obtain rfl:=osI ho;intro vs W9 K hB hD hK;have HK:=Ab hK;have e15:vs 15=.pointer (some ⟨b6,o6+P2,none⟩):=Ac hD 15 rfl;have c:=Ah (HBW.out W9 hB).bl HB6.out;clear hK hD ho hlt;dsimp only;go_simp;have h:=HK.out _ _ Ad rfl;simp only[upd,Nat.reduceEqDiff,reduceIte,e15]at h;exact h
     |19,hlt,ho=>
      obtain rfl:=osI ho;intro vs W9 K hB hD hK;have HK:=Ab hK;have e18:vs 18=.pointer (some ⟨r6,t6+i,none⟩):=Ac hD 18 rfl;have c:=Ah (HBW.out W9 hB).bl HB6'.out;clear hK hD ho hlt;dsimp only;go_simp;have h:=HK.out _ _ Ad rfl;simp only[upd,Nat.reduceEqDiff,reduceIte,e18]at h;exact h
     |q+22,hlt,_=>exact absurd hlt (by omega)
    case last=>
     intro oo ho;obtain rfl:=osI ho;intro vs w8 K hB hall hK;have HK:=Ab hK;have e8:vs 20=.agg #[.int .i64 (q1:Int),.int .i64 (q2:Int)]:=hall 20 (by omega);have e9:vs 21=.pointer (some ⟨g2,i*2,none⟩):=hall 21 (by omega);have hC:=HBW.out w8 hB;have hcc:=hC.q.at' hC.lq.symm i (by rw[hC.lq];exact hlt);obtain⟨cv,c9⟩:∃cv,w8.cell? ⟨g2,i*2,none⟩=some (.int .i64 cv):=⟨_,hcc.1⟩;obtain⟨cv1,c91⟩:∃cv,w8.cell? ⟨g2,i*2+1,none⟩=some (.int .i64 cv):=⟨_,hcc.2⟩;have f9:=hC.q.fz hC.lq.symm (i*2);have f91:=hC.q.fz hC.lq.symm (i*2+1);have p9:=hC.setQ (j:=i) (y:=(q1,q2)) hlt;rw[show(DQ (nxP a b (P1,P2)) (0,0) n i).set i (q1,q2)=DQ (nxP a b (P1,P2)) (0,0) n (i+1)by rw[<-HFQ.out];exact Gu hlt]at p9;have HP10:=Ab p9;clear hK hall ho p9 hC hcc;dsimp only;go_simp;refine HK.out _ _ ?_;go_wp2
     go_roundg (n-(i+1))
     case measure=>have:=HGI.out;omega
     case rel=>exact⟨i+1,rfl,by go_num,by omega,HP10⟩
  ·have hi1:¬(i:Int)<(n:Int):=by omega
   have HE:Hid (CI W wr n g1 g2 (P1,P2) (rows k) ((List.range n).map (nxP a b (P1,P2)))):=by
    have h1:=HC.out;rw[show i=n by omega,Gt,Gt]at h1;show CI _ _ _ _ _ _ _ _;rw[HRW.out];exact h1
   clear HC;have hJr:=HJ.out.keep (Ag.of_below HE.out.bl);have z3:=Aa 3 hJr.box;have HJR:=Ab hJr;have hrl:Hid ((rows k).length=n):=HE.out.lo;have hBz:w0.heap.size<=wr.heap.size:=hJr.on.size;clear hJr;obtain⟨a7,c7,rfl⟩:=AU HJ.out.own
   go_upto_region 10 with(at_builtin;refine Gk rfl _ _ (.slice (some ⟨g1,0,none⟩) n n) rfl w0.heap.size (.slice a7 k c7) k n3 HJR.out.own rfl _ (by simp) rfl rfl (by omega) hBz ?_;intro v' w8 ho8 hg8 hm8;obtain⟨a8,c8,hv8⟩:=AU ho8;subst hv8;have HPU:=Ab (HJ.out.push HE.out.bl HE.out.o (by rw[hrl.out];omega) ho8 hg8 hm8);have z9:=Aa 3 HPU.out.1;have f9:=Ay 3 HPU.out.1;have HG8:=Ab hg8;have HM8:=Ab hm8;clear ho8 hg8 hm8)
   obtain⟨-,H',q1,q2,q3,q4⟩:=HPU.out;have HQ1:=Ab q1;have HQ2:=Ab q2;have HQ3:=Ab q3;have HQ4:=Ab q4;clear HPU q1 q2 q3 q4 z3 z9 f9
   have HOQ:Hid (OQ (w8.setCell ⟨pr,3,none⟩ (.slice a8 (k+1) c8)) W.heap.size (.slice (some ⟨g2,0,none⟩) n n) ((List.range n).map (nxP a b (P1,P2)))):=by
    have h1:Ag (fun q=>q=pr\/(Value.slice a7 k c7).ownBlock=some q) wr (w8.setCell ⟨pr,3,none⟩ (.slice a8 (k+1) c8)):=((Ag.of_grown HG8.out).mono fun q _ e=>.inr e).trans (Ag.set _ _ _ (.inl rfl))
    refine HE.out.q.only h1 fun q e1 e2=> ?_
    have e1:g2=q:=Option.some.inj e1;have h2:=HE.out.b2
    rcases e2 with e2|e2
    ·have h3:=HJ.out.pz;have h4:=HJ.out.on.size;omega
    ·have h3:=(World.ownsRow.lt HJ.out.own q e2).2;omega
   have HNH:Hid (∀q,(Value.slice (some ⟨g2,0,none⟩) n n).ownBlock=some q->¬H' q):=fun q e1 e2=>by
    have e1:g2=q:=Option.some.inj e1;have h2:=HE.out.b2;have h5:=HE.out.q.lt' g2 rfl
    rcases(HQ4.out q).1 e2 with e|e|⟨x,hx,e⟩
    ·have h3:=HJ.out.pz;have h4:=HJ.out.on.size;omega
    ·rcases HM8.out q e with e|e
     ·have h3:=(World.ownsRow.lt HJ.out.own q e).2;omega
     ·omega
    ·rcases List.mem_append.1 hx with hx|hx
     ·have h3:=(HJ.out.mem_lt hx e).2;omega
     ·rw[List.mem_singleton.1 hx]at e;have e:g1=q:=Option.some.inj e;exact HE.out.ne (by omega)
   clear HG8 HM8 HE HQ4;go_wp2;go_ret2;exact⟨_,H',rfl,HOQ.out,HNH.out,HQ1.out,HQ2.out,HQ3.out⟩
end Go.Proofs.YtncjeamdkjcebaaGreatDoor
