/- A machine that is built by 'append', row after row, in a box (out of chapter 19's text). -/
import Derived.Test.YtncjeamdkjcebaaGreatDoorZMySg
set_option linter.all false
namespace Go.Proofs.YtncjeamdkjcebaaGreatDoor
open Go.RowKit
theorem Ag.chain{S T:Nat->Prop}{a b c:World}(h:Ag S a b)(k:Ag T b c)(hs:∀q,q<a.heap.size->T q->S q):Ag S a c:=
 ⟨k.os.trans h.os,k.tape.trans h.tape,k.output.trans h.output,Nat.le_trans h.size k.size,fun i hi hn=>(k.block i (Nat.lt_of_lt_of_le hi h.size) fun e=>hn (hs i hi e)).trans (h.block i hi hn)⟩
structure KR(S:Nat->Prop)(W:World)(vals:List Value)(rows:List (List Int)):Prop where
 ln:vals.length=rows.length
 at':∀j,j<rows.length->∀W',Ag S W W'->Ai W' (vals.getD j undef) (rows.getD j [])
section
variable {S S1:Nat->Prop} {W W1:World} {vals:List Value} {rows:List (List Int)}
theorem KR.nil(S:Nat->Prop)(W:World):KR S W [] []:=⟨rfl,fun j h=>absurd h (by simp)⟩
theorem KR.move(h:KR S W vals rows)(ho:Ag S W W1)(hs:∀q,q<W.heap.size->S1 q->S q):KR S1 W1 vals rows:=
 ⟨h.ln,fun j hj W' hW=>h.at' j hj W' (ho.chain hW hs)⟩
theorem KR.add{y:Value}{row:List Int}(h:KR S W vals rows)(hy:∀W',Ag S W W'->Ai W' y row):KR S W (vals++[y]) (rows++[row]):=by
 have hl:=h.ln;refine⟨by simp[hl],fun j hj W' hW=> ?_⟩
 by_cases e:j<rows.length
 ·have h1:=h.at' j e W' hW
  rwa [show(vals++[y]).getD j undef=vals.getD j undef by simp[List.getD,List.getElem?_append_left (show j<vals.length by omega)],show(rows++[row]).getD j []=rows.getD j []by simp[List.getD,List.getElem?_append_left e]]
 ·obtain rfl:j=rows.length:=by simp at hj;omega
  rw[show(vals++[y]).getD rows.length undef=y by rw[<-hl];simp[List.getD],show(rows++[row]).getD rows.length []=row by simp[List.getD]];exact hy W' hW
theorem KR.is{B:Nat}{v:Value}(h:KR S W vals rows)(ho:W.ownsRow B 26 1 v rows.length vals)(hn:rows.length<=100000):Ar W v rows:=by
 refine⟨fun j=>vals.getD j undef,Ch ho (by unfold Bk;omega) _ fun j hj=> ?_,fun j hj=>h.at' j hj W (Ag.refl _ _)⟩
 have:j<vals.length:=by rw[h.ln];exact hj
 rw[Af _ _ _ this];simp[this]
end
def Ef(z:Nat)(vN vP:Value)(X:Nat->Prop)(q:Nat):Prop:=q=z\/vN.ownBlock=some q\/vP.ownBlock=some q\/X q
structure AM(W:World)(B z:Nat)(L O st:Int)(vN vP:Value)(nv pv:List Value)(nx pr:List (List Int))(X:Nat->Prop):Prop where
 box:W.heap[z]? =some (.cells #[.int .i64 L,.int .i64 O,.int .i64 st,vN,vP] 25 (0,0))
 zB:B<=z
 oN:W.ownsRow B 26 1 vN nx.length nv
 oP:W.ownsRow B 26 1 vP pr.length pv
 ap:(∀q,vN.ownBlock=some q->vP.ownBlock≠some q)/\vN.ownBlock≠some z/\vP.ownBlock≠some z
 xz:∀q,X q->q<W.heap.size/\q≠z/\vN.ownBlock≠some q/\vP.ownBlock≠some q
 kN:KR (Ef z vN vP X) W nv nx
 kP:KR (Ef z vN vP X) W pv pr
section
variable {W W1 w':World} {B z:Nat} {L O st:Int} {vN vP v' y:Value} {nv pv:List Value} {nx pr:List (List Int)} {X X1:Nat->Prop} {row:List Int}
theorem AM.zlt(h:AM W B z L O st vN vP nv pv nx pr X):z<W.heap.size:=(Array.getElem?_eq_some_iff.1 h.box).1
theorem AM.Nlt(h:AM W B z L O st vN vP nv pv nx pr X):∀q,vN.ownBlock=some q->B<=q/\q<W.heap.size:=fun q e=>World.ownsRow.lt h.oN q e
theorem AM.Plt(h:AM W B z L O st vN vP nv pv nx pr X):∀q,vP.ownBlock=some q->B<=q/\q<W.heap.size:=fun q e=>World.ownsRow.lt h.oP q e
theorem AM.hlt(h:AM W B z L O st vN vP nv pv nx pr X):∀q,Ef z vN vP X q->q<W.heap.size:=by
 rintro q (e|e|e|e)
 ·rw[e];exact h.zlt
 ·exact(h.Nlt q e).2
 ·exact(h.Plt q e).2
 ·exact(h.xz q e).1
theorem AM.other(h:AM W B z L O st vN vP nv pv nx pr X)(ho:Ag X W W1)(hs:∀q,q<W.heap.size->X1 q->X q)(hx:∀q,X1 q->q<W1.heap.size):AM W1 B z L O st vN vP nv pv nx pr X1:=by
 have ho2:Ag (Ef z vN vP X) W W1:=ho.mono fun q _ e=>.inr (.inr (.inr e))
 have hs2:∀q,q<W.heap.size->Ef z vN vP X1 q->Ef z vN vP X q:=by
  rintro q hq (e|e|e|e)
  ·exact .inl e
  ·exact .inr (.inl e)
  ·exact .inr (.inr (.inl e))
  ·exact .inr (.inr (.inr (hs q hq e)))
 refine⟨(ho.block z h.zlt fun e=>(h.xz z e).2.1 rfl).trans h.box,h.zB,Ax h.oN ho fun q e k=>(h.xz q k).2.2.1 e,Ax h.oP ho fun q e k=>(h.xz q k).2.2.2 e,h.ap,fun q e=>⟨hx q e, ?_⟩,h.kN.move ho2 hs2,h.kP.move ho2 hs2⟩
 by_cases hq:q<W.heap.size
 ·exact(h.xz q (hs q hq e)).2
 ·exact⟨fun k=>by have:=h.zlt;omega,fun k=>by have:=(h.Nlt q k).2;omega,fun k=>by have:=(h.Plt q k).2;omega⟩
theorem AM.below(h:AM W B z L O st vN vP nv pv nx pr X)(hb:Below W.heap.size W W1):AM W1 B z L O st vN vP nv pv nx pr X:=h.other (Ag.of_below hb) (fun _ _ e=>e) fun q e=>Nat.lt_of_lt_of_le (h.xz q e).1 hb.size
theorem AM.fresh{C:Nat}(_h:AM W B z L O st vN vP nv pv nx pr X)(ho:OI W C y row)(hC:∀q,y.ownBlock=some q->¬Ef z vN vP X q)(hn:row.length<=100000)(hr:∀x∈row,I64 x):∀W',Ag (Ef z vN vP X) W W'->Ai W' y row:=fun _ hW=>
 (ho.only hW hC).is (by unfold Bk;omega) hr
theorem AM.appP(h:AM W B z L O st vN vP nv pv nx pr X)(hy:∀W',Ag (Ef z vN vP X) W W'->Ai W' y row)
  (ho:w'.ownsRow B 26 1 v' (pr.length+1) (pv++[y])) (hg:W.grownBy w' vP.ownBlock) (hm:A7 W vP v'):
  w'.heap[z]? =some (.cells #[.int .i64 L,.int .i64 O,.int .i64 st,vN,vP] 25 (0,0))/\AM (w'.setCell ⟨z,4,none⟩ v') B z L O st vN v' nv (pv++[y]) nx (pr++[row]) X/\Ag (fun q=>q=z\/vP.ownBlock=some q) W (w'.setCell ⟨z,4,none⟩ v')/\Below B W (w'.setCell ⟨z,4,none⟩ v'):=by
 have hg1:=Ag.of_grown hg;have hbox:=(hg1.block z h.zlt h.ap.2.2).trans h.box;have hz:=h.zlt
 have hO1:Ag (Ef z vN vP X) W w':=hg1.mono fun q _ e=>.inr (.inr (.inl e))
 have hO2:Ag (Ef z vN vP X) W (w'.setCell ⟨z,4,none⟩ v'):=hO1.trans (Ag.set _ _ _ (.inl rfl))
 have hvz:v'.ownBlock≠some z:=fun e=>(hm z e).elim (fun k=>h.ap.2.2 k) fun k=>by omega
 have hS:Ag (fun q=>q=z) w' (w'.setCell ⟨z,4,none⟩ v'):=Ag.set _ _ _ rfl;have hO3:Ag (fun q=>q=z\/vP.ownBlock=some q) W (w'.setCell ⟨z,4,none⟩ v'):=(hg1.mono fun q _ e=>.inr e).trans (Ag.set _ _ _ (.inl rfl));have hBel:Below B W (w'.setCell ⟨z,4,none⟩ v'):=((hg1.mono (T:=fun q=>B<=q) fun q _ e=>(h.Plt q e).1).trans (Ag.set _ _ _ h.zB)).below B (fun _ e=>e) (by have:=h.zB;omega)
 have hs:∀q,q<W.heap.size->Ef z vN v' X q->Ef z vN vP X q:=by
  rintro q hq (e|e|e|e)
  ·exact .inl e
  ·exact .inr (.inl e)
  ·exact(hm q e).elim (fun k=>.inr (.inr (.inl k))) fun k=>by omega
  ·exact .inr (.inr (.inr e))
 refine⟨hbox,⟨?_,h.zB, ?_, ?_,⟨fun q e k=> ?_,h.ap.2.1,hvz⟩,fun q e=>⟨Nat.lt_of_lt_of_le (h.xz q e).1 hO2.size,(h.xz q e).2.1,(h.xz q e).2.2.1,fun k=> ?_⟩,h.kN.move hO2 hs,(h.kP.add hy).move hO2 hs⟩,hO3,hBel⟩
 ·exact heap_setCell_same _ _ 4 _ _ _ hbox
 ·exact Ax (Ax h.oN hg1 fun q e k=>h.ap.1 q e k) hS fun q e k=>h.ap.2.1 (by rw[e,k])
 ·rw[List.length_append,List.length_singleton]
  exact Ax ho hS fun q e k=>hvz (by rw[e,k])
 ·exact(hm q k).elim (fun k=>h.ap.1 q e k) fun k=>by have:=(h.Nlt q e).2;omega
 ·exact(hm q k).elim (fun k=>(h.xz q e).2.2.2 k) fun k=>by have:=(h.xz q e).1;omega
theorem AM.is(h:AM W B z L O st vN vP nv pv nx pr X)(hL:I64 L)(hO:I64 O)(hs:I64 st)(hn:nx.length<=100000)(hp:pr.length<=100000):BM W (.agg #[.int .i64 L,.int .i64 O,.int .i64 st,vN,vP]) ⟨L,O,st,nx,pr⟩:=
 ⟨vN,vP,rfl,⟨hL,hO,hs⟩,h.kN.is h.oN hn,h.kP.is h.oP hp⟩
theorem AM.of(h:W.heap[z]? =some (.cells #[.int .i64 L,.int .i64 O,.int .i64 st,.slice none 0 0,.slice none 0 0] 25 (0,0)))(hB:B<=z)(hx:∀q,X q->q<W.heap.size/\q≠z):AM W B z L O st (.slice none 0 0) (.slice none 0 0) [] [] [] [] X:=
 ⟨h,hB,⟨rfl,.inl ⟨rfl,rfl⟩⟩,⟨rfl,.inl ⟨rfl,rfl⟩⟩,⟨fun _ e=>(nomatch e),fun e=>(nomatch e),fun e=>(nomatch e)⟩,fun q e=>⟨(hx q e).1,(hx q e).2,fun k=>(nomatch k),fun k=>(nomatch k)⟩,KR.nil _ _,KR.nil _ _⟩
theorem AM.more(h:AM W B z L O st vN vP nv pv nx pr X)(hX:∀q,X1 q->X q\/(q<W.heap.size/\q≠z/\vN.ownBlock≠some q/\vP.ownBlock≠some q))(h0:nx=[])(h1:pr=[]):AM W B z L O st vN vP nv pv nx pr X1:=by
 subst h0 h1;have e1:nv=[]:=List.eq_nil_of_length_eq_zero h.kN.ln;have e2:pv=[]:=List.eq_nil_of_length_eq_zero h.kP.ln;subst e1 e2;exact⟨h.box,h.zB,h.oN,h.oP,h.ap,fun q e=>(hX q e).elim (fun k=>h.xz q k) id,KR.nil _ _,KR.nil _ _⟩
end
def I9(m:My)(k:Int)(w:World)(e:Ending)(w':World):Prop:=∃v,e=.returned (.tuple #[v,.int .i64 k])/\BM w' v m/\Below w.heap.size w w'
theorem Ee{wr:World}{n:Nat}{t:TypeId}{x y z u v a b c d e:Value}(h:wr.heap[n]? =some (.cells #[x,y,z,u,v] t (0,0))):(((((wr.setCell ⟨n,0,none⟩ a).setCell ⟨n,1,none⟩ b).setCell ⟨n,2,none⟩ c).setCell ⟨n,3,none⟩ d).setCell ⟨n,4,none⟩ e).heap[n]? =some (.cells #[a,b,c,d,e] t (0,0)):=
 heap_setCell_same _ n 4 _ _ e (heap_setCell_same _ n 3 _ _ d (heap_setCell_same _ n 2 _ _ c (heap_setCell_same _ n 1 _ _ b (heap_setCell_same _ n 0 _ _ a h))))
theorem Fn{wr:World}(n:Nat)(a b c d e:Value):Ag (fun q=>q=n) wr (((((wr.setCell ⟨n,0,none⟩ a).setCell ⟨n,1,none⟩ b).setCell ⟨n,2,none⟩ c).setCell ⟨n,3,none⟩ d).setCell ⟨n,4,none⟩ e):=
 let S:Nat->Prop:=fun q=>q=n
 ((((Ag.set (S:=S) n 0 a rfl).trans (Ag.set (S:=S) n 1 b rfl)).trans (Ag.set (S:=S) n 2 c rfl)).trans (Ag.set (S:=S) n 3 d rfl)).trans (Ag.set (S:=S) n 4 e rfl)
theorem GL(w:World):BM w (.agg #[.int .i64 0,.int .i64 0,.int .i64 0,.slice none 0 0,.slice none 0 0]) GK:=by
 refine⟨_,_,rfl,⟨by unfold I64;decide,by unfold I64;decide,by unfold I64;decide⟩, ?_, ?_⟩<;>
 exact⟨fun _=>undef,⟨none,0,0,0,rfl,Nat.le_refl _,Nat.zero_le _,Nat.zero_le _,(fun _=>rfl),(fun h=>absurd h (by decide)),fun j hj=>absurd hj (Nat.not_lt_zero j)⟩,fun j hj=>absurd hj (Nat.not_lt_zero j)⟩
theorem Gr{w W:World}{n:Nat}{m:My}{x0 x1 x2 x3 x4 y:Value}{k:Int}(hb:Below w.heap.size w W)(hn:w.heap.size<=n)(hy:∀W',Ag (fun q=>q=n) W W'->BM W' y m):
  I9 m k w (.returned (.tuple #[y,.int .i64 k])) (((((W.setCell ⟨n,0,none⟩ x0).setCell ⟨n,1,none⟩ x1).setCell ⟨n,2,none⟩ x2).setCell ⟨n,3,none⟩ x3).setCell ⟨n,4,none⟩ x4):=
 ⟨y,rfl,hy _ (Fn _ _ _ _ _ _),hb.trans ((Fn _ _ _ _ _ _).below w.heap.size (fun q e=>by omega) hb.size)⟩
def X3(B:Nat)(vS vO vN:Value)(q:Nat):Prop:=vS.ownBlock=some q\/vO.ownBlock=some q\/vN.ownBlock=some q\/q<B
structure IB(w5:World)(ci co:Int)(v3 v4:Value)(n3 n4:List Value)(r3 r4:List (List Int))(S O N:List Int)(vS vO vN:Value)(W:World):Prop where
 bl:Below w5.heap.size w5 W
 s:OI W w5.heap.size vS S
 o:OI W w5.heap.size vO O
 n:OI W w5.heap.size vN N
 a1:AQ vS vO
 a2:AQ vS vN
 a3:AQ vO vN
 am:AM W w5.heap.size w5.heap.size ci co 0 v3 v4 n3 n4 r3 r4 (X3 w5.heap.size vS vO vN)
theorem Cz(v:Value):AQ v (.slice none 0 0):=fun _ _ e=>by cases e
theorem GW(v:Value):AQ (.slice none 0 0) v:=fun _ e=>by cases e
section
variable {w5 W w':World} {ci co:Int} {v3 v4:Value} {n3 n4:List Value} {r3 r4:List (List Int)} {S O N L:List Int} {vS vO vN v':Value}
theorem IB.below(h:IB w5 ci co v3 v4 n3 n4 r3 r4 S O N vS vO vN W)(hb:Below W.heap.size W w'):IB w5 ci co v3 v4 n3 n4 r3 r4 S O N vS vO vN w':=
 ⟨h.bl.trans (hb.mono h.bl.size),h.s.below hb,h.o.below hb,h.n.below hb,h.a1,h.a2,h.a3,h.am.below hb⟩
theorem IB.outs(h:IB w5 ci co v3 v4 n3 n4 r3 r4 S O N vS vO vN W)(ho:OI w' w5.heap.size v' L)(hg:W.grownBy w' vO.ownBlock)(hm:A7 W vO v'):IB w5 ci co v3 v4 n3 n4 r3 r4 S L N vS v' vN w':=by
 have h1:Ag (X3 w5.heap.size vS vO vN) W w':=(Ag.of_grown hg).mono fun q _ e=>.inr (.inl e)
 refine⟨h.bl.grown hg h.bl.size h.o.ge,h.s.grownA hg h.a1,ho,h.n.grownA hg h.a3.symm,h.a1.moved hm h.s.lt',h.a2,(h.a3.symm.moved hm h.n.lt').symm,h.am.other h1 (fun q hq e=> ?_) (fun q e=> ?_)⟩
 ·rcases e with e|e|e|e
  ·exact .inl e
  ·exact(hm q e).elim (fun k=>.inr (.inl k)) (fun k=>absurd hq (by omega))
  ·exact .inr (.inr (.inl e))
  ·exact .inr (.inr (.inr e))
 ·rcases e with e|e|e|e
  ·exact(h.s.grownA hg h.a1).lt' q e
  ·exact ho.lt' q e
  ·exact(h.n.grownA hg h.a3.symm).lt' q e
  ·exact Nat.lt_of_lt_of_le e (Nat.le_trans h.bl.size h1.size)
theorem IB.make{m:Nat}(h:IB w5 ci co v3 v4 n3 n4 r3 r4 S O N vS vO (.slice none 0 0) W)(ho:OI w' w5.heap.size (.slice (some ⟨W.heap.size,0,none⟩) m m) L)(hg:W.grownBy w' none):IB w5 ci co v3 v4 n3 n4 r3 r4 S O L vS vO (.slice (some ⟨W.heap.size,0,none⟩) m m) w':=by
 have hb:Below W.heap.size W w':=Ad.grown hg leR (fun k hk=>by cases hk);have g:=h.below hb
 have hB:∀q,(Value.slice (some ⟨W.heap.size,0,none⟩) m m).ownBlock=some q->q=W.heap.size:=fun q e=>by simpa[Value.ownBlock]using e.symm
 refine⟨g.bl,g.s,g.o,ho,g.a1,fun q e k=> ?_,fun q e k=> ?_,h.am.other (Ag.of_below hb) (fun q hq e=> ?_) (fun q e=> ?_)⟩
 ·have:=h.s.lt' q e;have:=hB q k;omega
 ·have:=h.o.lt' q e;have:=hB q k;omega
 ·rcases e with e|e|e|e
  ·exact .inl e
  ·exact .inr (.inl e)
  ·have:=hB q e;omega
  ·exact .inr (.inr (.inr e))
 ·rcases e with e|e|e|e
  ·exact g.s.lt' q e
  ·exact g.o.lt' q e
  ·exact ho.lt' q e
  ·exact Nat.lt_of_lt_of_le e g.bl.size
theorem IB.set{g m c j:Nat}{x:Int}(h:IB w5 ci co v3 v4 n3 n4 r3 r4 S O N vS vO (.slice (some ⟨g,0,none⟩) m c) W)(hm:m=N.length):IB w5 ci co v3 v4 n3 n4 r3 r4 S O (N.set j x) vS vO (.slice (some ⟨g,0,none⟩) m c) (W.setCell ⟨g,j,none⟩ (.int .i64 x)):=by
 have hg:=h.n.ge g rfl;have h1:Ag (X3 w5.heap.size vS vO (.slice (some ⟨g,0,none⟩) m c)) W (W.setCell ⟨g,j,none⟩ (.int .i64 x)):=Ag.set g j _ (.inr (.inr (.inl rfl)));refine⟨BY h.bl hg,h.s.setNe (fun e=>h.a2 g e rfl),h.o.setNe (fun e=>h.a3 g e rfl),h.n.set hm j x,h.a1,h.a2,h.a3,h.am.other h1 (fun _ _ e=>e) (fun q e=>Nat.lt_of_lt_of_le (h.am.xz q e).1 h1.size)⟩
end
theorem IB.start{w5:World}{ci co:Int}{S:List Int}{vS:Value}{W:World}(h:W.heap[w5.heap.size]? =some (.cells #[.int .i64 ci,.int .i64 co,.int .i64 0,.slice none 0 0,.slice none 0 0] 25 (0,0)))(hb:Below w5.heap.size w5 W)(hs:OI W w5.heap.size vS S)(hn:vS.ownBlock≠some w5.heap.size):
  IB w5 ci co (.slice none 0 0) (.slice none 0 0) [] [] [] [] S [] [] vS (.slice none 0 0) (.slice none 0 0) W:=
 ⟨hb,hs,BC _ _,BC _ _,Cz _,Cz _,GW _,AM.of h leR fun q e=>by
  have hz:=(ltE h)
  rcases e with e|e|e|e
  ·exact⟨hs.lt' q e,fun k=>hn (by rw[<-k];exact e)⟩
  ·cases e
  ·cases e
  ·omega⟩
theorem IB.is{w5 W:World}{ci co:Int}{v3 v4:Value}{n3 n4:List Value}{r3 r4:List (List Int)}{S O N:List Int}{vS vO vN:Value}(h:IB w5 ci co v3 v4 n3 n4 r3 r4 S O N vS vO vN W)(hi:I64 ci)(ho:I64 co)(h3:r3.length<=100000)(h4:r4.length<=100000):
  ∀W',Ag (fun q=>q<w5.heap.size) W W'->BM W' (.agg #[.int .i64 ci,.int .i64 co,.int .i64 0,v3,v4]) ⟨ci,co,0,r3,r4⟩:=fun W' hW=>
 (h.am.other (hW.mono fun q _ e=>.inr (.inr (.inr e))) (fun _ _ e=>e) (fun q e=>Nat.lt_of_lt_of_le (h.am.xz q e).1 hW.size)).is hi ho (by unfold I64;decide) h3 h4
end Go.Proofs.YtncjeamdkjcebaaGreatDoor
namespace Go.Proofs.YtncjeamdkjcebaaGreatDoor
open Go Go.RowKit
section
variable {P:Program} {ops:Array Oper} {Q:Exit->Act->World->Prop}
def upS(S:Nat->Bool)(i:Nat):Nat->Bool:=fun j=>if j=i then true else S j
end
section
variable {P:Program} {ops:Array Oper} {Q:Exit->Act->World->Prop}
theorem M2{S:Nat->Bool}{i:Nat}:upS S i i=true:=if_pos rfl
theorem Fe{S:Nat->Bool}{i j:Nat}(h:j≠i):upS S i j=S j:=if_neg h
theorem QP{vs:Nat->Value}{i j:Nat}{v:Value}(h:j≠i):upd vs i v j=vs j:=if_neg h
theorem Td{vs:Nat->Value}{i:Nat}{v:Value}:upd vs i v i=v:=if_pos rfl
end
def EU(B:Nat)(row:List Int)(y:Value)(W:World):Prop:=(∃a c,y=.slice a row.length c)/\OI W B y row
theorem EU.below{B:Nat}{row:List Int}{y:Value}{W W':World}(h:EU B row y W)(hb:Below W.heap.size W W'):EU B row y W':=⟨h.1,h.2.below hb⟩
def Gd(B:Nat)(row:List Int)(v:Value)(W:World):Prop:=∃b y,v=.slice (some ⟨b,0,none⟩) 1 1/\W.heap[b]? =some (.cells #[y] 26 (0,0))/\EU B row y W
theorem Gd.below{B:Nat}{row:List Int}{v:Value}{W W':World}(h:Gd B row v W)(hb:Below W.heap.size W W'):Gd B row v W':=by
 obtain⟨b,y,h1,h2,h3⟩:=h;exact⟨b,y,h1,(hb.block b (ltE h2)).trans h2,h3.below hb⟩
theorem Gd.made{B:Nat}{row:List Int}{y:Value}{W:World}(h:EU B row y W):Gd B row (.slice (some ⟨W.heap.size,0,none⟩) 1 1) (W.alloc (.cells #[y] 26)):=
 ⟨_,y,rfl,heap_alloc_new _ _,h.below (Ao _)⟩
end Go.Proofs.YtncjeamdkjcebaaGreatDoor
namespace Go.Proofs.YtncjeamdkjcebaaGreatDoor
open Go.RowKit
def ElI(b:Int)(v:Value)(W:World):Prop:=∃u,v=.slice (some ⟨u,0,none⟩) 1 1/\W.heap[u]? =some (.cells #[.int .i64 b] 3 (0,0))
theorem ElI.below{b:Int}{v:Value}{W W':World}(h:ElI b v W)(hb:Below W.heap.size W W'):ElI b v W':=by
 obtain⟨u,h1,h2⟩:=h;exact⟨u,h1,(hb.block u (ltE h2)).trans h2⟩
theorem ElI.made(b:Int)(W:World):ElI b (.slice (some ⟨W.heap.size,0,none⟩) 1 1) (W.alloc (.cells #[.int .i64 b] 3)):=⟨_,rfl,heap_alloc_new _ _⟩
end Go.Proofs.YtncjeamdkjcebaaGreatDoor
namespace Go.Proofs.YtncjeamdkjcebaaGreatDoor
open Go Go.RowKit
structure JG(v0:Nat->Value)(P0:World->Prop)(P1 P2:Value->World->Prop)(PV:Value->Nat->Value->Prop)(p m:Nat)(x:Value)(S:Nat->Bool)(vs:Nat->Value)(W:World):Prop where
 p0:S p=false->P0 W
 p1:S p=true->S m=false->P1 x W
 p2:S m=true->P2 x W
 pv:∀i,S i=true->PV x i (vs i)
 un:∀i,S i=false->vs i=v0 i
def JX(v0:Nat->Value)(P0:World->Prop)(P1 P2:Value->World->Prop)(PV:Value->Nat->Value->Prop)(p m:Nat)(S:Nat->Bool)(vs:Nat->Value)(W:World):Prop:=∃x,JG v0 P0 P1 P2 PV p m x S vs W
section
variable {v0:Nat->Value} {P0:World->Prop} {P1 P2:Value->World->Prop} {PV:Value->Nat->Value->Prop} {p m:Nat} {x y:Value} {S:Nat->Bool} {vs:Nat->Value} {W W':World}
theorem JX.start(h:P0 W):JX v0 P0 P1 P2 PV p m (fun _=>false) v0 W:=⟨undef,fun _=>h,(fun e=>by cases e),(fun e=>by cases e),(fun _ e=>by cases e),fun _ _=>rfl⟩
theorem JG.pvs{i:Nat}{u:Value}(h:∀i,S i=true->PV x i (vs i))(hp:PV x i u):∀j,upS S i j=true->PV x j (upd vs i u j):=fun j hj=>by
 by_cases e:j=i
 ·subst e;rw[Td];exact hp
 ·rw[QP e];rw[Fe e]at hj;exact h j hj
theorem JG.uns{i:Nat}{u:Value}(h:∀i,S i=false->vs i=v0 i):∀j,upS S i j=false->upd vs i u j=v0 j:=fun j hj=>by
 by_cases e:j=i
 ·subst e;rw[M2]at hj;cases hj
 ·rw[QP e];rw[Fe e]at hj;exact h j hj
theorem JG.keep(h:JG v0 P0 P1 P2 PV p m x S vs W){i:Nat}{u:Value}(hp:i≠p)(hm:i≠m)(hv:PV x i u):JX v0 P0 P1 P2 PV p m (upS S i) (upd vs i u) W:=
 ⟨x,by rw[Fe (Ne.symm hp)];exact h.p0,by rw[Fe (Ne.symm hp),Fe (Ne.symm hm)];exact h.p1,by rw[Fe (Ne.symm hm)];exact h.p2,JG.pvs h.pv hv,JG.uns h.un⟩
theorem JG.call(h:JG v0 P0 P1 P2 PV p m x S vs W)(hpm:p≠m)(hSm:S m=false)(hf:∀i,S i=true->PV x i (vs i)->PV y i (vs i)){u:Value}(hv:PV y p u)(h1:P1 y W'):JX v0 P0 P1 P2 PV p m (upS S p) (upd vs p u) W':=
 ⟨y,(by rw[M2];exact fun e=>by cases e),fun _ _=>h1,(by rw[Fe (Ne.symm hpm),hSm];exact fun e=>by cases e),JG.pvs (fun i hi=>hf i hi (h.pv i hi)) hv,JG.uns h.un⟩
theorem JG.store(h:JG v0 P0 P1 P2 PV p m x S vs W)(hpm:p≠m)(hSp:S p=true){u:Value}(hv:PV x m u)(h2:P2 x W'):JX v0 P0 P1 P2 PV p m (upS S m) (upd vs m u) W':=
 ⟨x,(by rw[Fe hpm,hSp];exact fun e=>by cases e),(by rw[M2];exact fun _ e=>by cases e),fun _=>h2,JG.pvs h.pv hv,JG.uns h.un⟩
end
end Go.Proofs.YtncjeamdkjcebaaGreatDoor
namespace Go.Proofs.YtncjeamdkjcebaaGreatDoor
open Go.RowKit
theorem Cf{W:World}{a:Option Addr}{n c:Nat}{ll:List (List Int)}(h:Ar W (.slice a n c) ll)(hn:0<n):∃b o,a=some ⟨b,o,none⟩:=by
 obtain⟨b,o,d,-,-⟩:=h.dat2;exact⟨b,o,d hn⟩
theorem BT{W:World}{b o n c q x:Nat}{ll:List (List Int)}(h:Ar W (.slice (some ⟨b,o,none⟩) n c) ll)(hq:q<n)(hx:x<(ll.getD q []).length):
  ∃b2 o2 c2,W.cell? ⟨b,o+q,none⟩=some (.slice (some ⟨b2,o2,none⟩) (ll.getD q []).length c2)/\W.cell? ⟨b2,o2+x,none⟩=some (.int .i64 ((ll.getD q []).getD x 0)):=by
 obtain⟨b',o',d,-,f⟩:=h.dat2;have e:=d (by omega);simp only[Option.some.injEq,Addr.mk.injEq]at e;obtain⟨rfl,rfl,-⟩:=e;obtain⟨r,z,k,i⟩:=f q hq;obtain⟨u,y,yy,-,g⟩:=i.data;obtain rfl:=yy (by omega);exact⟨u,y,z,k,g x hx⟩
def Qo(l:List Sig)(own:List Bool)(a b:My)(n K:Nat):List (List Int):=(List.range K).map fun j=>Hr l own a b n (bfP a b n j)
theorem Gk{ops:Array Oper}{rest:List Oper}{o:Oper}{a:Act}{Q:Exit->Act->World->Prop}{w:World}(hgd:o.guard=none)(s x:Operand)(u:Value)
  (ho:o.op=.call {callee:=.builtin .append,args:=#[s,x],argTypes:=#[23,23]})
  (base:Nat) (v:Value) (n:Nat) (l:List Value) (hown:w.ownsRow base 26 1 v n l) (hs:a.eval s=v) (m:Nat) (hm:m=w.heap.size) (hx:a.eval x=.slice (some ⟨m,0,none⟩) 1 1) (hu:u.oneCell'=true)
  (hn:n<5864062014000) (hbase:base<=w.heap.size)
  (h:∀v' w',w'.ownsRow base 26 1 v' (n+1) (l++[u])->w.grownBy w' v.ownBlock->A7 w v v'->wpList Tryz.prog ops Q rest (a.put o.dst v') w'):
  wpList Tryz.prog ops Q (o::rest) a (w.alloc (.cells #[u] 26)):=
 Hj hgd s x _ _ 24 _ _ ho Tryz.underlying23 DF rfl base v n _ hs hown m hm hx hu (by omega) (by decide) hbase h
def Sv(zA zB b3 o3 na p1 r3 t3 l3 i b5 o5 nb p2 r5 t5 l5 ln no cO sc c3 d3 c5 d5 oc:Nat)(aO sa oa:Option Addr)(x y z:Int)(ix:Nat)(u:Value)(W:World):Prop:=
 match ix with
 |0=>u=.slice aO i cO
 |1=>u=.slice sa ln sc
 |2=>u=.pointer (some ⟨zA,3,none⟩)
 |3=>u=.slice (some ⟨b3,o3,none⟩) na c3
 |4=>u=.int .i64 (p1:Int)
 |5=>u=.pointer (some ⟨b3,o3+p1,none⟩)
 |6=>u=.slice (some ⟨r3,t3,none⟩) l3 d3
 |7|15=>u=.int .i64 (i:Int)
 |8=>u=.pointer (some ⟨r3,t3+i,none⟩)
 |9=>u=.int .i64 x
 |10=>u=.pointer (some ⟨zB,3,none⟩)
 |11=>u=.slice (some ⟨b5,o5,none⟩) nb c5
 |12=>u=.int .i64 (p2:Int)
 |13=>u=.pointer (some ⟨b5,o5+p2,none⟩)
 |14=>u=.slice (some ⟨r5,t5,none⟩) l5 d5
 |16=>u=.pointer (some ⟨r5,t5+i,none⟩)
 |17=>u=.int .i64 y
 |18=>u=.slice oa no oc
 |19=>u=.int .i64 z
 |20=>ElI z u W
 |21|22=>True
 | _=>True
theorem Sv.mono(zA zB b3 o3 na p1 r3 t3 l3 i b5 o5 nb p2 r5 t5 l5 ln no cO sc c3 d3 c5 d5 oc:Nat)(aO sa oa:Option Addr)(x y z:Int)(jx:Nat)(v:Value)(W W':World)(h:Sv zA zB b3 o3 na p1 r3 t3 l3 i b5 o5 nb p2 r5 t5 l5 ln no cO sc c3 d3 c5 d5 oc aO sa oa x y z jx v W)(hb:Below W.heap.size W W'):Sv zA zB b3 o3 na p1 r3 t3 l3 i b5 o5 nb p2 r5 t5 l5 ln no cO sc c3 d3 c5 d5 oc aO sa oa x y z jx v W':=by
 match jx,h with
 |0,h=>exact h
 |1,h=>exact h
 |2,h=>exact h
 |3,h=>exact h
 |4,h=>exact h
 |5,h=>exact h
 |6,h=>exact h
 |7,h=>exact h
 |8,h=>exact h
 |9,h=>exact h
 |10,h=>exact h
 |11,h=>exact h
 |12,h=>exact h
 |13,h=>exact h
 |14,h=>exact h
 |15,h=>exact h
 |16,h=>exact h
 |17,h=>exact h
 |18,h=>exact h
 |19,h=>exact h
 |20,h=>exact ElI.below h hb
 |21,h=>exact h
 |22,h=>exact h
 | _+23,h=>exact h
end Go.Proofs.YtncjeamdkjcebaaGreatDoor
