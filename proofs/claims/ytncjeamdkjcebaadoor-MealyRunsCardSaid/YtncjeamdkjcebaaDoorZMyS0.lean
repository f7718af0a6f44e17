/- Rows of pairs of states in memory. -/
import Derived.Test.YtncjeamdkjcebaaDoorZAr22
import Derived.Test.YtncjeamdkjcebaaDoorZMyAM
set_option linter.all false
namespace Go.Proofs.YtncjeamdkjcebaaDoor
open Go.RowKit
def EZ(l:List Pr):List Value:=l.flatMap fun p=>(prC p).toList
theorem Km(l:List Pr)(j k:Nat)(hj:j<l.length)(hk:k<2):(EZ l)[j*2+k]? =(prC l[j]).toList[k]? :=by
 induction l generalizing j with
 |nil=>simp at hj
 |cons s r ih=>
  simp only[EZ,List.flatMap_cons]at*
  cases j with
  |zero=>rw[List.getElem?_append_left (by simp[prC];omega)];simp
  |succ j=>
   rw[List.getElem?_append_right (by simp[prC];omega)];have:=ih j (by simpa using hj);simp only[prC,List.length_cons,List.length_nil,List.getElem_cons_succ]at this⊢;rw[<-this]
   congr 1
   omega
theorem M1(l:List Pr)(y:Pr):EZ (l++[y])=EZ l++(prC y).toList:=by simp[EZ]
theorem OO(l:List Pr):(EZ l).length=l.length*2:=by
 induction l with
 |nil=>rfl
 |cons s r ih=>simp only[EZ,List.flatMap_cons,List.length_append,List.length_cons]at*;rw[ih];simp[prC];omega
theorem OR(l:List Pr)(j:Nat)(y:Pr)(hj:j<l.length):((EZ l).set (j*2) (.int .i64 (y.1:Int))).set (j*2+1) (.int .i64 (y.2:Int))=EZ (l.set j y):=by
 induction l generalizing j with
 |nil=>simp at hj
 |cons s r ih=>
  cases j with
  |zero=>simp[EZ,prC]
  |succ j=>
   have h:=ih j (by simpa using hj);simp only[EZ,List.flatMap_cons,List.set_cons_succ]at h⊢;rw[<-h]
   have e:(j+1)*2=j*2+2:=by omega
   simp[prC,e]
def OQ(w:World)(base:Nat)(v:Value)(l:List Pr):Prop:=w.ownsRow base 104 2 v l.length (EZ l)
theorem LU:(Tryd.prog.info? 104).map (fun i=>(i.zero,i.size,i.bytes))=some (some (.agg #[.int .i64 0,.int .i64 0]),2,16):=by kernel_rfl
section
variable {w w':World} {bs bs' g n cap j:Nat} {v u:Value} {l:List Pr}
theorem OQ.slice(h:OQ w bs v l):∃ao cap,v=.slice ao l.length cap:=by
 rcases h.2 with⟨hv,h0⟩|⟨g,cap,cur,hv,hb,hg,_⟩
 ·exact⟨none,0,by rw[hv,h0]⟩
 ·exact⟨_,cap,hv⟩
theorem OQ.row(h:OQ w bs v l)(hl:0<l.length):∃g cap,v=.slice (some ⟨g,0,none⟩) l.length cap/\bs<=g/\g<w.heap.size:=by
 rcases h.2 with⟨_,h0⟩|⟨g,cap,cur,hv,hb,hg,_⟩
 ·omega
 ·exact⟨g,cap,hv,hb,(ltE hg)⟩
theorem OQ.at'(h:OQ w bs (.slice (some ⟨g,0,none⟩) n cap) l)(hn:n=l.length)(j:Nat)(hj:j<l.length):
  w.cell? ⟨g,j*2,none⟩=some (.int .i64 ((l[j].1:Nat):Int))/\w.cell? ⟨g,j*2+1,none⟩=some (.int .i64 ((l[j].2:Nat):Int)):=by
 subst hn
 have hc:∀k,k<2->w.cell? ⟨g,j*2+k,none⟩=(prC l[j]).toList[k]? :=fun k hk=>by
  rw[World.ownsRow.cellAt h (j*2+k) (by omega),Km l j k hj hk]
 exact⟨hc 0 (by omega),hc 1 (by omega)⟩
theorem OQ.fz(h:OQ w bs (.slice (some ⟨g,0,none⟩) n cap) l)(hn:n=l.length)(j:Nat):w.frozen? ⟨g,j,none⟩=false:=by
 subst hn;exact World.ownsRow.frozenAt h j
theorem OQ.only{S:Nat->Prop}(h:OQ w bs v l)(hg:Ae S w w')(hne:∀k,v.ownBlock=some k->¬S k):OQ w' bs v l:=At h hg hne
theorem OQ.base(h:OQ w bs v l)(hb:bs'<=bs):OQ w bs' v l:=by
 refine⟨h.1, ?_⟩
 rcases h.2 with h0|⟨g,cap,cur,hv,hg,r⟩
 ·exact .inl h0
 ·exact .inr ⟨g,cap,cur,hv,Nat.le_trans hb hg,r⟩
theorem OQ.lt'(h:OQ w bs v l):∀g,v.ownBlock=some g->g<w.heap.size:=fun g hg=>(World.ownsRow.lt h g hg).2
theorem OQ.ge(h:OQ w bs v l):∀g,v.ownBlock=some g->bs<=g:=fun g hg=>(World.ownsRow.lt h g hg).1
theorem OQ.setNe{k:Nat}(h:OQ w bs v l)(hne:v.ownBlock≠some g):OQ (w.setCell ⟨g,k,none⟩ u) bs v l:=BQ h hne
theorem OQ.set(h:OQ w bs (.slice (some ⟨g,0,none⟩) n cap) l)(hn:n=l.length)(hj:j<l.length)(y:Pr):OQ ((w.setCell ⟨g,j*2,none⟩ (.int .i64 (y.1:Int))).setCell ⟨g,j*2+1,none⟩ (.int .i64 (y.2:Int))) bs (.slice (some ⟨g,0,none⟩) n cap) (l.set j y):=by
 subst hn;unfold OQ;rw[List.length_set,<-OR l j y hj];have h1:=(World.ownsRow.stored h (j*2) (.int .i64 (y.1:Int))).1;exact(World.ownsRow.stored h1 (j*2+1) (.int .i64 (y.2:Int))).1
end
theorem QR(w:World)(y:Pr):OQ (w.alloc (.cells (prC y) 104)) w.heap.size (.slice (some ⟨w.heap.size,0,none⟩) 1 1) [y]:=
 (show(w.alloc (.cells (prC y) 104)).ownsRow w.heap.size 104 2 (.slice (some ⟨w.heap.size,0,none⟩) 1 1) 1 (EZ [y])from⟨by simp[EZ,prC],.inr ⟨w.heap.size,1,_,rfl,Nat.le_refl _,heap_alloc_new w _,Nat.le_refl _,by simp[maxLen],by simp[prC],by simp[EZ,prC]⟩⟩)
theorem QZ{ops:Array Oper}{rest:List Oper}{o:Oper}{a:Act}{Q:Exit->Act->World->Prop}{w:World}(hgd:o.guard=none)(s x:Operand)(y:Pr)
  (ho:o.op=.call {callee:=.builtin .append,args:=#[s,x],argTypes:=#[105,105]})
  (base:Nat) (v:Value) (l:List Pr) (hown:OQ w base v l) (hs:a.eval s=v) (m:Nat) (hm:m=w.heap.size) (hx:a.eval x=.slice (some ⟨m,0,none⟩) 1 1)
  (hn:l.length<5864062014000) (hbase:base<=w.heap.size)
  (h:∀v' w',OQ w' base v' (l++[y])->w.grownBy w' v.ownBlock->AX w v v'->wpList Tryd.prog ops Q rest (a.put o.dst v') w'):
  wpList Tryd.prog ops Q (o::rest) a (w.alloc (.cells #[.int .i64 (y.1:Int),.int .i64 (y.2:Int)] 104)):=by
 subst hm;refine Fz hgd s x _ _ 2 16 _ ho Tryd.underlying105 LU rfl (by decide) base v l.length _ hs (hown.alloc _) ⟨w.heap.size,0,none⟩ 1 1 [.int .i64 (y.1:Int),.int .i64 (y.2:Int)] hx rfl (World.news_of_block (cs:=#[.int .i64 (y.1:Int),.int .i64 (y.2:Int)]) (t:=104) (fr:=(0,0)) (heap_alloc_new w _)) (by simp[Value.oneCell']) (by simp only[maxLen];omega) (by omega) (by simp;omega) ?_;intro v' w' h1 h2 _ h4;refine h v' w' ?_ ⟨h2.os,h2.tape,h2.output,by have:=h2.size;simp at this;omega,fun k hk hr=> ?_⟩ (fun g hg=> ?_)
 ·unfold OQ;rw[List.length_append,M1];exact h1
 ·rw[h2.block k (by simp;omega) hr];exact DK w _ hk
 ·rcases h4 g hg with e|e
  ·exact .inl e
  ·refine .inr ?_;simp at e;omega
theorem Sb{ops:Array Oper}{rest:List Oper}{o:Oper}{a:Act}{Q:Exit->Act->World->Prop}{w:World}(hgd:o.guard=none)(l c:Operand)(t:TypeId)(ht:Tryd.prog.underlying t=some (.slice 104))
  (ho:o.op=Op.makeSlice t l c) (base:Nat) (L:Int) (n:Nat) (hl:a.eval l=.int .i64 L) (hc:a.eval c=.int .i64 L) (hL:L=(n:Int)) (hn:n<=1000000) (hbase:base<=w.heap.size)
  (h:∀w',OQ w' base (.slice (some ⟨w.heap.size,0,none⟩) n n) (List.replicate n (0,0))->w.grownBy w' none->wpList Tryd.prog ops Q rest (a.put o.dst (.slice (some ⟨w.heap.size,0,none⟩) n n)) w'):
  wpList Tryd.prog ops Q (o::rest) a w:=by
 obtain⟨i,hi,hz0,hz1,hz2⟩:=info_parts LU
 refine wpList_make_full w hgd l c t ho base 104 i _ 2 ht hi hz0 hz1 .i64 .i64 L L n hl hc hL hL (by rw[hz2];omega) (by simp only[maxLen];omega) hbase fun w' h1 h2=>h w' ?_ h2
 have e:(madeCells (Value.agg #[.int .i64 0,.int .i64 0]).cells (n*2)).toList=EZ (List.replicate n (0,0)):=by
  apply List.ext_getElem?
  intro j
  by_cases hj:j<n*2
  ·have h3:=Km (List.replicate n (0,0)) (j/2) (j%2) (by simp;omega) (by omega);rw[show j/2*2+j%2=j by omega]at h3;rw[h3]
   have:j%2=0\/j%2=1:=by omega
   rcases this with h4|h4<;>simp[madeCells,hj,h4,prC,Value.cells]
  ·rw[List.getElem?_eq_none (by simp[madeCells];omega),List.getElem?_eq_none (by rw[OO];simp;omega)]
 unfold OQ;rw[List.length_replicate,<-e];exact h1
section
variable {σ:Type} [BEq σ] [LawfulBEq σ]
def GA(S:List σ)(q:σ):List σ:=if q∈S then S else S++[q]
def rwG(f:Nat->σ)(S:List σ):Nat->List σ
 |0=>S
 |i+1=>GA (rwG f S i) (f i)
def Fw(f:Nat->σ)(S:List σ)(n:Nat):List Int:=(List.range n).map fun i=>(((rwG f S i).idxOf (f i):Nat):Int)
def Sx(nx:σ->Nat->σ)(s0 d:σ)(n:Nat):Nat->List σ
 |0=>[s0]
 |k+1=>rwG (nx ((Sx nx s0 d n k).getD k d)) (Sx nx s0 d n k) n
def gP(nx:σ->Nat->σ)(s0 d:σ)(n k:Nat):σ:=(Sx nx s0 d n k).getD k d
def gN(nx:σ->Nat->σ)(s0 d:σ)(n k:Nat):List (List Int):=(List.range k).map fun j=>Fw (nx (gP nx s0 d n j)) (Sx nx s0 d n j) n
def IW(nx:σ->Nat->σ)(s0 d:σ)(n K:Nat):Prop:=(Sx nx s0 d n K).length=K/\∀j,j<K->j<(Sx nx s0 d n j).length
variable {nx:σ->Nat->σ} {s0 d:σ} {n:Nat} {f:Nat->σ} {S:List σ}
theorem Oi{q:σ}:S<+:GA S q:=by
 unfold GA
 split
 ·exact List.prefix_rfl
 ·exact List.prefix_append _ _
theorem GL{i j:Nat}(h:i<=j):rwG f S i<+:rwG f S j:=by
 induction j with
 |zero=>
  obtain rfl:i=0:=by omega
  exact List.prefix_rfl
 |succ j ih=>
  rcases Nat.lt_or_ge j i with h1|h1
  ·obtain rfl:i=j+1:=by omega
   exact List.prefix_rfl
  ·exact(ih h1).trans Oi
theorem Q9{i j:Nat}(h:i<=j):Sx nx s0 d n i<+:Sx nx s0 d n j:=by
 induction j with
 |zero=>
  obtain rfl:i=0:=by omega
  exact List.prefix_rfl
 |succ j ih=>
  rcases Nat.lt_or_ge j i with h1|h1
  ·obtain rfl:i=j+1:=by omega
   exact List.prefix_rfl
  ·exact(ih h1).trans (GL (Nat.zero_le n))
theorem LO{k:Nat}:gN nx s0 d n (k+1)=gN nx s0 d n k++[Fw (nx (gP nx s0 d n k)) (Sx nx s0 d n k) n]:=by simp[gN,List.range_succ]
theorem DJ{k:Nat}:(gN nx s0 d n k).length=k:=by simp[gN]
def nwG(f:Nat->σ)(S:List σ)(n i:Nat):List Int:=(List.range i).map (fun j=>(((rwG f S j).idxOf (f j):Nat):Int))++List.replicate (n-i) 0
theorem L8{i:Nat}(h:i<=n):(nwG f S n i).length=n:=by simp[nwG];omega
theorem Kf:nwG f S n 0=List.replicate n 0:=by simp[nwG]
theorem L9{i:Nat}(h:i<n):(nwG f S n i).set i (((rwG f S i).idxOf (f i):Nat):Int)=nwG f S n (i+1):=by
 obtain⟨k,hk⟩:∃k,n-i=k+1:=⟨n-i-1,by omega⟩;unfold nwG;rw[hk,show n-(i+1)=k by omega,List.replicate_succ,List.range_succ,List.map_append,List.append_assoc];rw[List.set_append_right _ _ (by simp)];simp
theorem L7:nwG f S n n=Fw f S n:=by simp[nwG,Fw]
theorem JW{q:σ}(h:q∉S):S.idxOf q=S.length:=by
 have h1:=List.idxOf_le_length (a:=q) (l:=S);have h2:=List.idxOf_lt_length_iff (a:=q) (l:=S)
 have:¬S.idxOf q<S.length:=fun h3=>h (h2.1 h3)
 omega
theorem Qm{i j:Nat}(h:i<=j):(rwG f S i).length<=(rwG f S j).length:=(GL h).length_le
theorem FR{K k i:Nat}(h:IW nx s0 d n K)(hk:k<K)(hi:i<=n):(rwG (nx (gP nx s0 d n k)) (Sx nx s0 d n k) i).length<=K:=by
 have h1:=Qm (f:=nx (gP nx s0 d n k)) (S:=Sx nx s0 d n k) hi;have h2:=(Q9 (nx:=nx) (s0:=s0) (d:=d) (n:=n) (i:=k+1) (j:=K) hk).length_le;have h3:=h.1;have h4:(Sx nx s0 d n (k+1))=rwG (nx (gP nx s0 d n k)) (Sx nx s0 d n k) n:=rfl;rw[h4]at h2;omega
end
theorem Lp{f:Nat->Pr}{S:List Pr}:∀i,rwS f S i=rwG f S i
 |0=>rfl
 |i+1=>by show JY (rwS f S i) (f i)=GA (rwG f S i) (f i);rw[Lp i];rfl
theorem GZ{a b:My}{n:Nat}:∀k,bfS a b n k=Sx (nxP a b) (a.start.toNat,b.start.toNat) (0,0) n k
 |0=>rfl
 |k+1=>by
  show rwS (nxP a b ((bfS a b n k).getD k (0,0))) (bfS a b n k) n=rwG _ _ n;rw[GZ k,Lp]
theorem NL{a b:My}{n k:Nat}:bfP a b n k=gP (nxP a b) (a.start.toNat,b.start.toNat) (0,0) n k:=by unfold bfP gP;rw[GZ]
theorem Q1{a b:My}{n k:Nat}:bfN a b n k=gN (nxP a b) (a.start.toNat,b.start.toNat) (0,0) n k:=by
 unfold bfN gN rwN Fw;simp only[GZ,NL,Lp]
theorem Er.g{a b:My}{n K:Nat}(h:Er a b n K):IW (nxP a b) (a.start.toNat,b.start.toNat) (0,0) n K:=by
 unfold IW;simp only[<-GZ];exact h
def Jt(l:List Pr)(J:(Nat->Prop)->World->Prop)(H:Nat->Prop)(W:World)(e:Ending)(W':World):Prop:=∃v H',e=.returned (.tuple #[v,.bool true])/\OQ W' W.heap.size v l/\(∀q,v.ownBlock=some q->¬H' q)/\J H' W'/\Ae H W W'/\∀q,H' q->H q\/W.heap.size<=q
structure FE(B:Nat)(f:Nat)(lb:Array Value)(n K:Nat)(st:Nat->Pr)(nx:Pr->Nat->Pr)(J:Nat->(Nat->Prop)->World->Prop):Prop where
 lt:∀k H W,J k H W->∀q,H q->q<W.heap.size
 keep:∀k H W W',J k H W->Ae (fun q=>B<=q/\¬H q) W W'->J k H W'
 call:∀k H W,J k H W->B<=W.heap.size->k<K->Calls Tryd.prog f (#[prV (st k)]++lb) W (Jt ((List.range n).map (nx (st k))) (J (k+1)) H W)
def Bf(zm:Nat)(vS vT vR:Value)(q:Nat):Prop:=q=zm\/vS.ownBlock=some q\/vT.ownBlock=some q\/vR.ownBlock=some q
structure SQ(B zm:Nat)(J:Nat->(Nat->Prop)->World->Prop)(k:Nat)(S:List Pr)(tR:List (List Int))(R:List Int)(vS vT vR:Value)(vals:List Value)(H:Nat->Prop)(W:World):Prop where
 j:J k H W
 z:B<=zm
 o:OQ W B vS S
 m:Fe W zm S
 t:W.ownsRow B 25 1 vT tR.length vals
 r:OI W B vR R
 kr:KR (fun q=>q<B\/Bf zm vS vT vR q\/H q) W vals tR
 a1:vS.ownBlock≠some zm
 a2:vT.ownBlock≠some zm
 a3:vR.ownBlock≠some zm
 a4:AN vS vT
 a5:AN vS vR
 a6:AN vT vR
 h:∀q,H q->¬Bf zm vS vT vR q
section
variable {B zm:Nat} {f:Nat} {lb:Array Value} {n K:Nat} {st:Nat->Pr} {nx:Pr->Nat->Pr} {J:Nat->(Nat->Prop)->World->Prop} {k:Nat} {S:List Pr} {tR:List (List Int)} {R:List Int} {vS vT vR v':Value} {vals:List Value} {H H':Nat->Prop} {W W':World}
theorem SQ.hlt(h:SQ B zm J k S tR R vS vT vR vals H W):∀q,Bf zm vS vT vR q->B<=q/\q<W.heap.size:=by
 rintro q (e|e|e|e)
 ·rw[e];exact⟨h.z,h.m.lt⟩
 ·exact⟨h.o.ge q e,h.o.lt' q e⟩
 ·exact World.ownsRow.lt h.t q e
 ·exact⟨h.r.ge q e,h.r.lt' q e⟩
theorem SQ.only(hn:FE B f lb n K st nx J)(h:SQ B zm J k S tR R vS vT vR vals H W)(ho:Ae (fun q=>False) W W'):SQ B zm J k S tR R vS vT vR vals H W':=
 ⟨hn.keep _ _ _ _ h.j (ho.mono fun _ _ e=>e.elim),h.z,h.o.only ho fun _ _ e=>e,h.m.blk (ho.block _ h.m.lt fun e=>e),At h.t ho fun _ _ e=>e,h.r.only ho fun _ _ e=>e,h.kr.move (ho.mono fun _ _ e=>e.elim) fun _ _ e=>e,h.a1,h.a2,h.a3,h.a4,h.a5,h.a6,h.h⟩
theorem SQ.below(hn:FE B f lb n K st nx J)(h:SQ B zm J k S tR R vS vT vR vals H W)(hb:Below W.heap.size W W'):SQ B zm J k S tR R vS vT vR vals H W':=h.only hn (Ae.of_below hb)
theorem SQ.asked(h:SQ B zm J k S tR R vS vT vR vals H W)(hj:J (k+1) H' W')(ho:Ae H W W')(hH:∀q,H' q->H q\/W.heap.size<=q):SQ B zm J (k+1) S tR R vS vT vR vals H' W':=by
 have hne:∀q,Bf zm vS vT vR q->¬H q:=fun q e1 e2=>h.h q e2 e1
 refine⟨hj,h.z,h.o.only ho fun q e=>hne q (.inr (.inl e)),h.m.blk (ho.block _ h.m.lt (hne _ (.inl rfl))),At h.t ho fun q e=>hne q (.inr (.inr (.inl e))),h.r.only ho fun q e=>hne q (.inr (.inr (.inr e))),h.kr.move (ho.mono fun _ _ e=>.inr (.inr e)) fun q hq e=> ?_,h.a1,h.a2,h.a3,h.a4,h.a5,h.a6,fun q e1 e2=> ?_⟩
 ·rcases e with e|e|e
  ·exact .inl e
  ·exact .inr (.inl e)
  ·rcases hH q e with e|e
   ·exact .inr (.inr e)
   ·omega
 ·rcases hH q e1 with e|e
  ·exact h.h q e e2
  ·have:=(h.hlt q e2).2;omega
theorem SQ.row(hn:FE B f lb n K st nx J)(h:SQ B zm J k S tR [] vS vT (.slice none 0 0) vals H W){m:Nat}(ho:OI W' B (.slice (some ⟨W.heap.size,0,none⟩) m m) R)(hg:W.grownBy W' none):SQ B zm J k S tR R vS vT (.slice (some ⟨W.heap.size,0,none⟩) m m) vals H W':=by
 have hb:Below W.heap.size W W':=Ad.grown hg leR (fun k hk=>by cases hk);have g:=h.below hn hb
 have hv:∀q,(Value.slice (some ⟨W.heap.size,0,none⟩) m m).ownBlock=some q->q=W.heap.size:=fun q e=>by simpa[Value.ownBlock]using e.symm
 have hHl:=hn.lt _ _ _ h.j;refine⟨g.j,g.z,g.o,g.m,g.t,ho,h.kr.move (Ae.of_below hb) fun q hq e=> ?_,g.a1,g.a2,fun e=> ?_,g.a4,fun q e e2=> ?_,fun q e e2=> ?_,fun q e1 e2=> ?_⟩
 ·rcases e with e|(e|e|e|e)|e
  ·exact .inl e
  ·exact .inr (.inl (.inl e))
  ·exact .inr (.inl (.inr (.inl e)))
  ·exact .inr (.inl (.inr (.inr (.inl e))))
  ·have:=hv q e;omega
  ·exact .inr (.inr e)
 ·have:=hv _ e;have:=h.m.lt;omega
 ·have:=h.o.lt' q e;have:=hv q e2;omega
 ·have:=(World.ownsRow.lt h.t q e).2;have:=hv q e2;omega
 ·rcases e2 with e|e|e|e
  ·exact h.h q e1 (.inl e)
  ·exact h.h q e1 (.inr (.inl e))
  ·exact h.h q e1 (.inr (.inr (.inl e)))
  ·have:=hv q e;have:=hHl q e1;omega
theorem SQ.jk(hn:FE B f lb n K st nx J)(h:SQ B zm J k S tR R vS vT vR vals H W){T:Nat->Prop}(ho:Ae T W W')(hT:∀q,T q->Bf zm vS vT vR q):J k H W':=
 hn.keep _ _ _ _ h.j (ho.mono fun q _ e=>⟨(h.hlt q (hT q e)).1,fun e2=>h.h q e2 (hT q e)⟩)
theorem SQ.kk(h:SQ B zm J k S tR R vS vT vR vals H W){T:Nat->Prop}{vS' vT' vR':Value}(ho:Ae T W W')(hT:∀q,T q->Bf zm vS vT vR q)(h':∀q,q<W.heap.size->Bf zm vS' vT' vR' q->Bf zm vS vT vR q):KR (fun q=>q<B\/Bf zm vS' vT' vR' q\/H q) W' vals tR:=
 h.kr.move (ho.mono fun q _ e=>.inr (.inl (hT q e))) fun q hq e=>by
  rcases e with e|e|e
  ·exact .inl e
  ·exact .inr (.inl (h' q hq e))
  ·exact .inr (.inr e)
theorem SQ.num(hn:FE B f lb n K st nx J)(h:SQ B zm J k S tR R vS vT vR vals H W){y:Pr}{S':List Pr}(hm:Fe W' zm S')(hg:W.grownBy W' (some zm)){W2:World}(hb:Below W'.heap.size W' W2){W3:World}(ho:OQ W3 B v' (S++[y]))(hg2:W2.grownBy W3 vS.ownBlock)(hm2:AX W2 vS v')(he:S'=S++[y]):SQ B zm J k (S++[y]) tR R v' vT vR vals H W3:=by
 have o1:Ae (Bf zm vS vT vR) W W':=(Ae.of_grown hg).mono fun q _ e=>.inl (Option.some.inj e).symm
 have o2:Ae (Bf zm vS vT vR) W' W2:=Ae.of_below hb
 have o3:Ae (Bf zm vS vT vR) W2 W3:=(Ae.of_grown hg2).mono fun q _ e=>.inr (.inl e)
 have oA:=(o1.trans o2).trans o3;have hsz:W.heap.size<=W2.heap.size:=(o1.trans o2).size
 have hmv:∀q,v'.ownBlock=some q->vS.ownBlock=some q\/W.heap.size<=q:=fun q e=>(hm2 q e).imp id fun k=>Nat.le_trans hsz k
 have hin:∀q,q<W.heap.size->Bf zm v' vT vR q->Bf zm vS vT vR q:=by
  rintro q hq (e|e|e|e)
  ·exact .inl e
  ·exact(hmv q e).elim (fun k=>.inr (.inl k)) fun k=>by omega
  ·exact .inr (.inr (.inl e))
  ·exact .inr (.inr (.inr e))
 have ot:Ae (fun q=>q=zm\/vS.ownBlock=some q) W W3:=(((Ae.of_grown hg).mono fun q _ e=>.inl (Option.some.inj e).symm).trans (Ae.of_below hb)).trans ((Ae.of_grown hg2).mono fun q _ e=>.inr e);have hzm:=h.m.lt;refine⟨h.jk hn oA fun _ e=>e,h.z,ho, ?_,At h.t ot fun q e k=> ?_,h.r.only ot fun q e k=> ?_,h.kk oA (fun _ e=>e) hin,fun e=> ?_,h.a2,h.a3,fun q e e2=> ?_,fun q e e2=> ?_,h.a6,fun q e1 e2=>h.h q e1 (hin q (hn.lt _ _ _ h.j q e1) e2)⟩
 ·rw[<-he];refine hm.blk ?_;rw[hg2.block _ (Nat.lt_of_lt_of_le hm.lt hb.size) fun e=>h.a1 e.symm,hb.block _ hm.lt]
 ·rcases k with k|k
  ·exact h.a2 (k▸e)
  ·exact h.a4 q k e
 ·rcases k with k|k
  ·exact h.a3 (k▸e)
  ·exact h.a5 q k e
 ·rcases hmv _ e with k|k
  ·exact h.a1 k
  ·omega
 ·rcases hmv _ e with k|k
  ·exact h.a4 q k e2
  ·have:=(World.ownsRow.lt h.t q e2).2;omega
 ·rcases hmv _ e with k|k
  ·exact h.a5 q k e2
  ·have:=h.r.lt' q e2;omega
theorem SQ.set(hn:FE B f lb n K st nx J){g c j m:Nat}{x:Int}(h:SQ B zm J k S tR R vS vT (.slice (some ⟨g,0,none⟩) m c) vals H W)(hm:m=R.length):SQ B zm J k S tR (R.set j x) vS vT (.slice (some ⟨g,0,none⟩) m c) vals H (W.setCell ⟨g,j,none⟩ (.int .i64 x)):=by
 have o1:Ae (fun q=>q=g) W (W.setCell ⟨g,j,none⟩ (.int .i64 x)):=Ae.set g j _ rfl
 have hT:∀q,q=g->Bf zm vS vT (.slice (some ⟨g,0,none⟩) m c) q:=fun q e=>.inr (.inr (.inr (by rw[e];rfl)))
 refine⟨h.jk hn o1 hT,h.z,h.o.only o1 fun q e k=> ?_,h.m.blk (o1.block _ h.m.lt fun e=>h.a3 (by rw[e];rfl)),At h.t o1 fun q e k=> ?_,h.r.set hm j x,h.kk o1 hT fun _ _ e=>e,h.a1,h.a2,h.a3,h.a4,h.a5,h.a6,h.h⟩
 ·exact h.a5 q e (by rw[k];rfl)
 ·exact h.a6 q e (by rw[k];rfl)
theorem SQ.app(hn:FE B f lb n K st nx J)(h:SQ B zm J k S tR R vS vT vR vals H W)(hl:R.length<=100000)(hr:∀x∈R,I64 x){W2:World}(hb:Below W.heap.size W W2)(ho:W'.ownsRow B 25 1 v' (tR.length+1) (vals++[vR]))(hg:W2.grownBy W' vT.ownBlock)(hm:AX W2 vT v'):SQ B zm J k S (tR++[R]) [] vS v' (.slice none 0 0) (vals++[vR]) H W':=by
 have o1:Ae (fun q=>vT.ownBlock=some q) W W':=(Ae.of_below hb).trans (Ae.of_grown hg)
 have hmv:∀q,v'.ownBlock=some q->vT.ownBlock=some q\/W.heap.size<=q:=fun q e=>(hm q e).imp id fun k=>Nat.le_trans hb.size k
 have hT:∀q,vT.ownBlock=some q->Bf zm vS vT vR q:=fun q e=>.inr (.inr (.inl e))
 have hin:∀q,q<W.heap.size->Bf zm vS v' (.slice none 0 0) q->q=zm\/vS.ownBlock=some q\/vT.ownBlock=some q:=by
  rintro q hq (e|e|e|e)
  ·exact .inl e
  ·exact .inr (.inl e)
  ·exact(hmv q e).elim (fun k=>.inr (.inr k)) fun k=>by omega
  ·cases e
 have hin2:∀q,q<W.heap.size->Bf zm vS v' (.slice none 0 0) q->Bf zm vS vT vR q:=fun q hq e=>by
  rcases hin q hq e with k|k|k
  ·exact .inl k
  ·exact .inr (.inl k)
  ·exact .inr (.inr (.inl k))
 have hR:∀q,vR.ownBlock=some q->¬(q<B\/Bf zm vS v' (.slice none 0 0) q\/H q):=fun q e k=>by
  have hq:=h.r.lt' q e
  rcases k with k|k|k
  ·have:=h.r.ge q e;omega
  ·rcases hin q hq k with k|k|k
   ·exact h.a3 (k▸e)
   ·exact h.a5 q k e
   ·exact h.a6 q k e
  ·exact h.h q k (.inr (.inr (.inr e)))
 refine⟨h.jk hn o1 hT,h.z,h.o.only o1 fun q e k=>h.a4 q e k,h.m.blk (o1.block _ h.m.lt fun e=>h.a2 e),by rw[List.length_append];exact ho,Bl _ _,(h.kk o1 hT hin2).add fun W9 hW=> ?_,h.a1,fun e=> ?_,(fun e=>by cases e),fun q e e2=> ?_,Ci _,Ci _,fun q e1 e2=>h.h q e1 (hin2 q (hn.lt _ _ _ h.j q e1) e2)⟩
 ·have r1:OI W' B vR R:=h.r.only o1 fun q e k=>h.a6 q k e
  exact(r1.only hW fun q e k=>hR q e k).is (by unfold Bg;omega) hr
 ·rcases hmv _ e with k|k
  ·exact h.a2 k
  ·have:=h.m.lt;omega
 ·rcases hmv _ e2 with k|k
  ·exact h.a4 q e k
  ·have:=h.o.lt' q e;omega
end
end Go.Proofs.YtncjeamdkjcebaaDoor
