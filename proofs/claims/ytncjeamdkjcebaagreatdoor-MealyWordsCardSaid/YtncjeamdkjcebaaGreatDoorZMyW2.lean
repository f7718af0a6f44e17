/- The word of a controller: mealy.Word. -/
import Derived.Test.YtncjeamdkjcebaaGreatDoorZMyLs
set_option linter.all false
set_option maxHeartbeats 4000000
set_option maxRecDepth 100000
namespace Go.Proofs.YtncjeamdkjcebaaGreatDoor
open Go.RowKit
theorem Rk{w:Ls}{x:Int}(h:x∈w.stem\/x∈w.loop):∃i,atL w i=x:=by
 rcases h with h|h
 ·obtain⟨i,hi,e⟩:=List.getElem_of_mem h;refine⟨i, ?_⟩;unfold atL;rw[if_pos hi,Af _ _ _ hi,e]
 ·obtain⟨i,hi,e⟩:=List.getElem_of_mem h;refine⟨w.stem.length+i, ?_⟩;unfold atL;rw[if_neg (by omega),Nat.add_sub_cancel_left,Nat.mod_eq_of_lt hi,Af _ _ _ hi,e]
theorem Lq{s l:List Int}(h0:0<l.length)(h:∀i,CO (atL ⟨s,l⟩ i)=true):Bc s l=IN ⟨s,l⟩:=by
 obtain⟨h1,h2,h3,h4⟩:=EH (w:=⟨s,l⟩) h0
 have hm:∀x,x∈(Cw ⟨s,l⟩).stem\/x∈(Cw ⟨s,l⟩).loop->CO x=true:=fun x hx=>by
  obtain⟨i,rfl⟩:=Rk hx;rw[h2];exact h i
 have hp:1<=(Cw ⟨s,l⟩).loop.length:=h1.pos;unfold Bc IN
 by_cases hc:(Cw ⟨s,l⟩).stem.length<=60/\(Cw ⟨s,l⟩).loop.length<=40
 ·rw[if_pos hc,if_pos ((CB _).2 ⟨hc.1,hp,hc.2,fun x hx=>hm x (.inl hx),fun x hx=>hm x (.inr hx)⟩)]
 ·rw[if_neg hc,if_neg fun hf=>hc ⟨((CB _).1 hf).1,((CB _).1 hf).2.2.1⟩]
theorem Rj(lt:Nat->Int)(m n:Nat)(h:m<n)(i:Nat):∃k,atL (AW lt m n) i=lt k:=by
 unfold atL AW
 split
 ·rename_i h1;simp only[List.length_map,List.length_range]at h1;exact⟨i,It h1⟩
 ·simp only[List.length_map,List.length_range];have:(i-m)%(n-m)<n-m:=Nat.mod_lt _ (by omega);refine⟨m+(i-m)%(n-m), ?_⟩;simp[List.getD,this]
noncomputable def GI (st:Nat->Nat) (lt:Nat->Int):Ls:=
 open Classical in if h:∃p:Nat×Nat,Dm st p.1 p.2 then IN (AW lt h.choose.1 h.choose.2)else C9
theorem Ff{st:Nat->Nat}{lt:Nat->Int}{m n:Nat}(h:Dm st m n):GI st lt=IN (AW lt m n):=by
 have hx:∃p:Nat×Nat,Dm st p.1 p.2:=⟨(m,n),h⟩;unfold GI;rw[dif_pos hx];obtain⟨h1,h2⟩:=hx.choose_spec.unique h;rw[h1,h2]
theorem Hi{st:Nat->Nat}{lt:Nat->Int}{m n:Nat}(h:Dm st m n)(hlt:∀k,0<=lt k/\lt k<64):Bc (AW lt m n).stem (AW lt m n).loop=GI st lt:=by
 rw[Ff h]
 refine Lq (KX h.1) fun i=> ?_
 obtain⟨k,e⟩:=Rj lt m n h.1 i;show CO (atL (AW lt m n) i)=true;rw[e,Ek];exact hlt k
noncomputable def BL (l:List Sig) (m:My) (ins:Ls):Ls:=if Bm l m=true/\Bi m.ins ins=true then GI (stW m ins) (ltW l m ins)else C9
theorem Df{n:Int}{w:Ls}(h:Bi n w=true):InV n w:=by
 have h':=h;rw[Hb]at h';unfold Bi at h;rw[Bool.and_eq_true,Bool.and_eq_true,List.all_eq_true,List.all_eq_true]at h;obtain⟨⟨h1,h2⟩,h3⟩:=h;obtain⟨f1,f2,f3,f4,f5⟩:=(CB _).1 h1;refine⟨f2,f1,f3,fun k=> ?_⟩;unfold atL
 split
 ·rename_i hk;rw[Af _ _ _ hk];have a:=(Ek _).1 (f4 _ (List.getElem_mem hk));have b:=h2 _ (List.getElem_mem hk);simp at b;omega
 ·have hk:(k-w.stem.length)%w.loop.length<w.loop.length:=Nat.mod_lt _ f2;rw[Af _ _ _ hk];have a:=(Ek _).1 (f5 _ (List.getElem_mem hk));have b:=h3 _ (List.getElem_mem hk);simp at b;omega
theorem QH{m:My}{ins:Ls}:stW m ins 0=m.start.toNat:=by
 unfold stW qW
 have:B1 ins 0=0:=by
  unfold B1
  split
  ·rfl
  ·rename_i h
   have:ins.stem.length=0:=by omega
   rw[this];simp
 rw[this];simp
theorem Fx.zero{l:Ls}(h:l=C9){w w':World}(hb:Below w.heap.size w w'):Fx l w (.returned (.agg #[.slice none 0 0,.slice none 0 0])) w':=by
 rw[h];exact⟨_,rfl,⟨_,_,rfl,CP _,CP _⟩,hb⟩
theorem Co.mk{w:World}{l:Ls}{x y:Value}(h0:Ai w x l.stem)(h1:Ai w y l.loop):Co w (.agg #[x,y]) l:=⟨_,_,rfl,h0,h1⟩
theorem Ss(W:World)(x:Int):OI (W.alloc (.cells #[.int .i64 x] 3)).drew W.heap.size (.slice (some ⟨W.heap.size,0,none⟩) 1 1) [x]:=
 (show(W.alloc (.cells #[.int .i64 x] 3)).ownsRow W.heap.size 3 1 (.slice (some ⟨W.heap.size,0,none⟩) 1 1) 1 [.int .i64 x]from⟨by simp,.inr ⟨W.heap.size,1,_,rfl,Nat.le_refl _,heap_alloc_new W _,Nat.le_refl _,by simp[maxLen],by simp,by simp⟩⟩)
theorem BB.done'{w:Ls}{s l:List Int}(hw:0<w.loop.length)(h:BB w s l)(he:s.length=0\/s.getD (s.length-1) 0≠l.getD (l.length-1) 0):(⟨s,l⟩:Ls)=Cw w:=by
 refine Lv hw (h.done ?_) h.word
 rcases he with he|he
 ·exact .inl (List.eq_nil_of_length_eq_zero he)
 ·by_cases h0:s=[]
  ·exact .inl h0
  ·refine .inr fun e=>he ?_
   have hl:l≠[]:=by intro hl;have:=h.pos;rw[hl]at this;simp at this
   rw[BF _ h0,BF _ hl]at e;exact Option.some.inj e
theorem Mz{l:List Int}{x:Int}(h:x∉l):l.idxOf x=l.length:=by
 have h1:=List.idxOf_le_length (a:=x) (l:=l);have h2:=List.idxOf_lt_length_iff (a:=x) (l:=l)
 have:¬l.idxOf x<l.length:=fun h3=>h (h2.1 h3)
 omega
abbrev Pr:=Nat×Nat
def nxP(a b:My)(p:Pr)(i:Nat):Pr:=((nxI a p.1 i).toNat,(nxI b p.2 i).toNat)
def GV(S:List Pr)(q:Pr):List Pr:=if q∈S then S else S++[q]
def rwS(f:Nat->Pr)(S:List Pr):Nat->List Pr
 |0=>S
 |i+1=>GV (rwS f S i) (f i)
def rwN(f:Nat->Pr)(S:List Pr)(n:Nat):List Int:=(List.range n).map fun i=>(((rwS f S i).idxOf (f i):Nat):Int)
def bfS(a b:My)(n:Nat):Nat->List Pr
 |0=>[(a.start.toNat,b.start.toNat)]
 |k+1=>rwS (nxP a b ((bfS a b n k).getD k (0,0))) (bfS a b n k) n
def bfP(a b:My)(n k:Nat):Pr:=(bfS a b n k).getD k (0,0)
def bfN(a b:My)(n k:Nat):List (List Int):=(List.range k).map fun j=>rwN (nxP a b (bfP a b n j)) (bfS a b n j) n
def EN(a b:My)(n K:Nat):Prop:=(bfS a b n K).length=K/\∀j,j<K->j<(bfS a b n j).length
theorem P3{S:List Pr}{q:Pr}:S<+:GV S q:=by
 unfold GV
 split
 ·exact List.prefix_rfl
 ·exact List.prefix_append _ _
theorem Lf{S:List Pr}{q:Pr}:q∈GV S q:=by
 unfold GV
 split
 ·assumption
 ·simp
theorem Rx{S:List Pr}{q:Pr}(h:S.Nodup):(GV S q).Nodup:=by
 unfold GV
 split
 ·exact h
 ·rename_i hq;rw[List.nodup_append];exact⟨h,by simp,fun x hx y hy e=>by simp at hy;subst hy;exact hq (e▸hx)⟩
theorem P4{S:List Pr}{q:Pr}{P:Pr->Prop}(h:∀x∈S,P x)(hq:P q):∀x∈GV S q,P x:=by
 unfold GV
 split
 ·exact h
 ·intro x hx;rw[List.mem_append,List.mem_singleton]at hx
  rcases hx with hx|rfl
  ·exact h x hx
  ·exact hq
theorem NI{f:Nat->Pr}{S:List Pr}{i j:Nat}(h:i<=j):rwS f S i<+:rwS f S j:=by
 induction j with
 |zero=>
  obtain rfl:i=0:=by omega
  exact List.prefix_rfl
 |succ j ih=>
  rcases Nat.lt_or_ge j i with h1|h1
  ·obtain rfl:i=j+1:=by omega
   exact List.prefix_rfl
  ·exact(ih h1).trans P3
theorem QA{f:Nat->Pr}{S:List Pr}(h:S.Nodup):∀i,(rwS f S i).Nodup
 |0=>h
 |i+1=>Rx (QA h i)
theorem NJ{f:Nat->Pr}{S:List Pr}{P:Pr->Prop}(h:∀x∈S,P x)(n:Nat)(hf:∀i,i<n->P (f i)):∀i,i<=n->∀x∈rwS f S i,P x
 |0,_=>h
 |i+1,hi=>P4 (NJ h n hf i (by omega)) (hf i (by omega))
theorem Oe{S T:List Pr}{q:Pr}(h:S<+:T)(hq:q∈S):T.idxOf q=S.idxOf q:=by
 obtain⟨r,rfl⟩:=h;rw[List.idxOf_append,if_pos hq]
theorem Od{S:List Pr}{q:Pr}:(GV S q).idxOf q=S.idxOf q:=by
 by_cases h:q∈S
 ·rw[GV,if_pos h]
 ·rw[GV,if_neg h,List.idxOf_append,if_neg h,List.idxOf_cons_self];have h1:=List.idxOf_le_length (a:=q) (l:=S);have h2:=List.idxOf_lt_length_iff (a:=q) (l:=S)
  have:¬S.idxOf q<S.length:=fun h3=>h (h2.1 h3)
  omega
theorem RZ{f:Nat->Pr}{S T:List Pr}{i:Nat}(h:rwS f S (i+1)<+:T):(rwS f S i).idxOf (f i)=T.idxOf (f i):=by
 rw[Oe h Lf];exact Od.symm
theorem PN{S T:List Pr}(h:S<+:T){j:Nat}(hj:j<S.length):T.getD j (0,0)=S.getD j (0,0):=by
 obtain⟨r,rfl⟩:=h;rw[List.getD_eq_getElem?_getD,List.getD_eq_getElem?_getD,List.getElem?_append_left hj]
theorem Gn{a b:My}{n i j:Nat}(h:i<=j):bfS a b n i<+:bfS a b n j:=by
 induction j with
 |zero=>
  obtain rfl:i=0:=by omega
  exact List.prefix_rfl
 |succ j ih=>
  rcases Nat.lt_or_ge j i with h1|h1
  ·obtain rfl:i=j+1:=by omega
   exact List.prefix_rfl
  ·exact(ih h1).trans (NI (Nat.zero_le n))
theorem Mk{a b:My}{n:Nat}:∀k,(bfS a b n k).Nodup
 |0=>by simp[bfS]
 |k+1=>QA (Mk k) n
def okP(a b:My)(p:Pr):Prop:=p.1<a.out.length/\p.2<b.out.length
theorem S2{a b:My}(ha:MyV a)(hb:MyV b)(hab:b.ins=a.ins){p:Pr}(hp:okP a b p){i:Nat}(hi:(i:Int)<a.ins):okP a b (nxP a b p i):=by
 have h1:=ha.nx' hp.1 hi;have h2:=hb.nx' hp.2 (x:=i) (by omega);show(nxI a p.1 i).toNat<_/\(nxI b p.2 i).toNat<_;omega
theorem Ml{a b:My}(ha:MyV a)(hb:MyV b)(hab:b.ins=a.ins){n:Nat}(hn:(n:Int)<=a.ins):∀k,(∀j,j<k->j<(bfS a b n j).length)->∀x∈bfS a b n k,okP a b x
 |0,_=>by
  intro x hx;simp only[bfS,List.mem_singleton]at hx;subst hx;have h1:=ha.s0;have h2:=ha.s1;have h3:=hb.s0;have h4:=hb.s1;show a.start.toNat<_/\b.start.toNat<_;omega
 |k+1,hk=>by
  have ih:=Ml ha hb hab hn k (fun j hj=>hk j (by omega));have hkl:=hk k (by omega)
  have hp:okP a b ((bfS a b n k).getD k (0,0)):=by
   rw[Af _ _ _ hkl];exact ih _ (List.getElem_mem _)
  exact NJ ih n (fun i hi=>S2 ha hb hab hp (by omega)) n leR
theorem JA{S:List Pr}{A B:Nat}(hd:S.Nodup)(h:∀x∈S,x.1<A/\x.2<B):S.length<=A*B:=by
 have h1:(S.map fun x=>x.1*B+x.2).Nodup:=by
  rw[List.nodup_iff_pairwise_ne,List.pairwise_map];refine List.Pairwise.imp_of_mem (fun{x y}hx hy hxy e=>hxy ?_) (List.nodup_iff_pairwise_ne.1 hd);have a1:=h x hx;have a2:=h y hy;have e1:(x.1*B+x.2)/B=x.1/\(x.1*B+x.2)%B=x.2:=⟨by rw[Nat.mul_comm,Nat.mul_add_div (by omega),Nat.div_eq_of_lt a1.2,Nat.add_zero],by rw[Nat.mul_comm,Nat.mul_add_mod,Nat.mod_eq_of_lt a1.2]⟩;have e2:(y.1*B+y.2)/B=y.1/\(y.1*B+y.2)%B=y.2:=⟨by rw[Nat.mul_comm,Nat.mul_add_div (by omega),Nat.div_eq_of_lt a2.2,Nat.add_zero],by rw[Nat.mul_comm,Nat.mul_add_mod,Nat.mod_eq_of_lt a2.2]⟩;rw[e]at e1;exact Prod.ext (e1.1.symm.trans e2.1) (e1.2.symm.trans e2.2)
 have:=FZ h1 (n:=A*B) fun y hy=>by
  obtain⟨x,hx,rfl⟩:=List.mem_map.1 hy;have a1:=h x hx
  calc x.1*B+x.2<x.1*B+B:=by omega
   _=(x.1+1)*B:=by rw[Nat.add_mul,Nat.one_mul]
   _<=A*B:=Nat.mul_le_mul_right _ a1.1
 simpa using this
theorem EN.unique{a b:My}{n K L:Nat}(h:EN a b n K)(h':EN a b n L):K=L:=by
 rcases Nat.lt_trichotomy K L with h1|h1|h1
 ·have:=h'.2 K h1;have:=h.1;omega
 ·exact h1
 ·have:=h.2 L h1;have:=h'.1;omega
end Go.Proofs.YtncjeamdkjcebaaGreatDoor
namespace Go.Proofs.YtncjeamdkjcebaaGreatDoor
def mkR(l:List Sig)(vals:List Int):Int×Bool:=
 if At l&&decide (vals.length=l.length)then(match mkL l vals with|some x=>(x,true)|none=>(0,false))else(0,false)
theorem Qi{l:List Sig}{vals:List Int}{k:Nat}(h:k<l.length)(hv:k<vals.length):
  mkL (l.drop k) (vals.drop k)=if 0<=vals[k]/\vals[k]<l[k].size then(mkL (l.drop (k+1)) (vals.drop (k+1))).map (fun x=>vals[k]+l[k].size*x)else none:=by
 rw[List.drop_eq_getElem_cons h,List.drop_eq_getElem_cons hv];rfl
theorem JT.next{l:List Sig}{vals:List Int}{k:Nat}{n:Int}(h:JT l vals k n)(hk:k<l.length)(hv:k<vals.length)(h0:0<=vals[k])(h1:vals[k]<l[k].size)(hp:1<=As (l.take k)):
  JT l vals (k+1) (n+As (l.take k)*vals[k]):=by
 obtain⟨h2,h3,h4⟩:=h;have h5:=Int.mul_nonneg (show 0<=As (l.take k)by omega) h0;have h6:=Int.mul_le_mul_of_nonneg_left (show vals[k]<=l[k].size-1 by omega) (show 0<=As (l.take k)by omega);rw[Int.mul_sub,Int.mul_one]at h6;refine⟨?_,by omega,by rw[Cq hk];omega⟩;rw[h2,Qi hk hv,if_pos ⟨h0,h1⟩,Option.map_map,Cq hk]
 congr 1
 funext x
 simp only[Function.comp];rw[Int.mul_add,Int.mul_assoc,Int.add_assoc]
end Go.Proofs.YtncjeamdkjcebaaGreatDoor
namespace Go.Proofs.YtncjeamdkjcebaaGreatDoor
open Go.RowKit
def JU(r:Int×Bool)(w:World)(e:Ending)(w':World):Prop:=e=.returned (.tuple #[.int .i64 r.1,.bool r.2])/\Below w.heap.size w w'
end Go.Proofs.YtncjeamdkjcebaaGreatDoor
namespace Go.Proofs.YtncjeamdkjcebaaGreatDoor
def Ew:List Sig->Int->List Int
 |[],_=>[]
 |s::r,a=>a%s.size::Ew r (a/s.size)
theorem K0(l:List Sig):∀a,(Ew l a).length=l.length:=by
 induction l with
 |nil=>intro a;rfl
 |cons s r ih=>intro a;simp[Ew,ih]
theorem KY{l:List Sig}(hz:∀s∈l,AS s=true):∀(a:Int)(k:Nat)(h:k<l.length),(Ew l a).getD k 0=a/As (l.take k)%l[k].size:=by
 induction l with
 |nil=>intro a k h;simp at h
 |cons s r ih=>
  intro a k h
  have hzr:∀s∈r,AS s=true:=fun x hx=>hz x (List.mem_cons_of_mem _ hx)
  have hs:=Bx hz s (by simp)
  cases k with
  |zero=>simp[Ew,As]
  |succ k=>
   have:=ih hzr (a/s.size) k (by simpa using h);simp only[Ew,List.getD_cons_succ,this,List.take_succ_cons,As,List.getElem_cons_succ];rw[GT (by omega)]
/-! Making a letter, of the places that have come. -/
def mF(l:List Sig)(vals:List Int)(pre:List (Fin l.length)):Int:=pre.foldl (fun n(x:Fin l.length)=>n+As (l.take x.1)*vals.getD x.1 0) 0
theorem Ke(l:List Sig)(vals:List Int)(pre:List (Fin l.length))(x:Fin l.length):mF l vals (pre++[x])=mF l vals pre+As (l.take x)*vals.getD x 0:=by simp[mF]
def okV(l:List Sig)(vals:List Int)(x:Nat):Prop:=0<=vals.getD x 0/\vals.getD x 0<(l.getD x EL).size
theorem TN{l:List Sig}(hz:∀s∈l,AS s=true)(h6:l.length<=6)(vals:List Int)(pre:List (Fin l.length)):
  (∀x∈pre,okV l vals x)->0<=mF l vals pre/\mF l vals pre<=16384*pre.length:=by
 induction pre using Fc with
 |h0=>simp[mF]
 |h1 pre x ih=>
  intro h;obtain⟨h0,h1⟩:=ih (fun y hy=>h y (by simp[hy]));obtain⟨g0,g1⟩:=h x (by simp);have hs:=Bx hz _ (List.getElem_mem x.2);obtain⟨hp1,hp2⟩:=FH hz h6 x;rw[Af _ _ _ x.2]at g1;obtain⟨⟨hm0,hm1⟩,-⟩:=DH hp1 hp2 g0 g1 hs.2;rw[Ke,List.length_append,List.length_singleton]
  push_cast
  omega
theorem RE{l:List Sig}(hz:∀s∈l,AS s=true){vals:List Int}(hlen:vals.length=l.length)(k:Nat)(hk:k<=l.length)(h:∀x,x<k->okV l vals x):
  JT l vals k (mF l vals ((CK l.length).take k)):=by
 induction k with
 |zero=>exact JT.start l vals
 |succ k ih=>
  have h1:=ih (by omega) (fun x hx=>h x (by omega));obtain⟨g0,g1⟩:=h k (by omega);rw[Af _ _ _ (show k<l.length by omega)]at g1;rw[Af _ _ _ (show k<vals.length by omega)]at g0 g1;have:=h1.next (by omega) (show k<vals.length by omega) g0 g1 (El (fun s hs=>hz s (List.mem_of_mem_take hs)));rw[Cy (show k<l.length by omega),Ke,Af _ _ _ (show k<vals.length by omega)];exact this
theorem Nw{l:List Sig}(hz:∀s∈l,AS s=true){vals:List Int}(hlen:vals.length=l.length)(h:∀x,x∈CK l.length->okV l vals x):mkL l vals=some (mF l vals (CK l.length)):=by
 have:=RE hz hlen l.length leR (fun x hx=>h ⟨x,hx⟩ (by simp[CK]));rw[List.take_of_length_le (by rw[Cb];exact Nat.le_refl _)]at this;exact this.done hlen
theorem Qh:∀(l:List Sig)(vals:List Int)(n:Int),mkL l vals=some n->∀x,x<l.length->okV l vals x:=by
 intro l
 induction l with
 |nil=>intro vals n _ x hx;simp at hx
 |cons s r ih=>
  intro vals n h x hx
  cases vals with
  |nil=>simp[mkL]at h
  |cons v vs=>
   simp only[mkL]at h
   split at h
   ·rename_i hg
    cases hr:mkL r vs with
    |none=>rw[hr]at h;simp at h
    |some m=>
     cases x with
     |zero=>simpa[okV]using hg
     |succ x=>have:=ih vs m hr x (by simpa using hx);simpa[okV]using this
   ·simp at h
theorem RL{l:List Sig}{vals:List Int}{x:Nat}(hx:x<l.length)(h:¬okV l vals x):mkL l vals=none:=by
 cases hm:mkL l vals with
 |none=>rfl
 |some n=>exact absurd (Qh l vals n hm x hx) h
end Go.Proofs.YtncjeamdkjcebaaGreatDoor
namespace Go.Proofs.YtncjeamdkjcebaaGreatDoor
open Go.RowKit Go.Shelf
attribute [local go_sem] Oper.semAt_some
def A5(l:List Sig)(a i:Int):Int:=
 if 0<=a/\a<AC l/\0<=i/\i<l.length then a/As (l.take i.toNat)%(l.getD i.toNat EL).size else 0
theorem Pe(w:World)(vl:Value)(l:List Sig)(a i:Int)(ha:I64 a)(hi:I64 i)(hK:BN w)(hl:AH w vl l)
  (hno:¬(0<=a/\a<AC l/\0<=i/\i<l.length)):
  Calls Tryz.prog 29 #[vl,.int .i64 a,.int .i64 i] w (Av (.int .i64 0) w):=by
 have hL:Hid (∀W,Below w.heap.size w W->Calls Tryz.prog 67 #[vl] W (Av (.int .i64 (AC l)) W)):=fun W hW=>D9 W vl l (hK.below hW) (hl.below hW)
 obtain⟨ao,cap,b,off,rfl,hl⟩:=hl;have hn:=hl.nb;unfold I64 at ha hi;clear hl hK;generalize AC l=x at*
 rcases(by omega:a<0\/(0<=a/\x<=a)\/(0<=a/\a<x/\i<0)\/(0<=a/\a<x/\0<=i/\(l.length:Int)<=i))with h0|⟨h0,h1⟩|⟨h0,h1,h2⟩|⟨h0,h1,h2,h3⟩
 all_goals
  first
  |have d0:decide (a<0)=false:=decide_eq_false (by omega)
  |have d0:decide (a<0)=true:=decide_eq_true (by omega)
  |skip
  first
  |have d1:decide (x<=a)=false:=decide_eq_false (by omega)
  |have d1:decide (x<=a)=true:=decide_eq_true (by omega)
  |skip
  first
  |have d2:decide (i<0)=false:=decide_eq_false (by omega)
  |have d2:decide (i<0)=true:=decide_eq_true (by omega)
  |skip
  go_enter Tryz.func29,Tryz.ntmps29
  go_upto_region 1 with(fail)
  have hV:=EW.mk' w (.slice ao l.length cap) a i;have hB0:Below w.heap.size w ((((w.alloc (.cells #[.slice ao l.length cap] 22)).alloc (.cells #[.int .i64 a] 3)).alloc (.cells #[.int .i64 i] 3)).alloc (.cells #[.int .i64 0] 3)):=(by repeat(first|exact Ad|assumption|apply AD|apply AE));generalize((((w.alloc (.cells #[.slice ao l.length cap] 22)).alloc (.cells #[.int .i64 a] 3)).alloc (.cells #[.int .i64 i] 3)).alloc (.cells #[.int .i64 0] 3))=w4 at*
  go_cut [26] (fun v wx=>v=.bool true/\Below w4.heap.size w4 wx)
  case first=>
   have q0:=hV.b0.cell;have q1:=hV.b1.cell;have q2:=hV.b2.cell
   first
   |(have _t:0<=a:=h0
     go_region_with (go_at_call 67;refine(hL.out _ (by repeat(first|exact Ad|assumption|(refine AD ?_ _)|(refine AE ?_ _)|(refine Below.drew ?_)))).mono ?_;rintro e W3 ⟨rfl,hb3⟩;have hb4:Below w4.heap.size w4 W3:=(by first|exact hb3|exact(Below.drew Ad).trans hb3|exact(Below.drew (Below.drew Ad)).trans hb3);have p0:=(AP hb4 hV.b0).cell;have p1:=(AP hb4 hV.b1).cell;have p2:=(AP hb4 hV.b2).cell)
     all_goals go_wp2_with fail
     all_goals
      go_meet
      case rel=>exact⟨rfl,by first|assumption|exact(by assumption:Below _ _ _).trans (Below.drew Ad)⟩)
   |(go_quiet (fail)
     go_wp2_with fail
     go_meet
     case rel=>exact⟨rfl,Am _ _ _⟩)
  case rest=>
   obtain⟨rfl,hb4⟩:=hcut;have hW:=hV.below hb4;have q3:=hW.b3.cell;have f3:=hW.b3.frozen;have hB:=hB0.trans (hb4.mono hB0.size);clear hV hB0 hb4;go_wp2;have r0:=(hW.b3.set (.int .i64 0)).cell;refine bodyPost_ret (v:=.int .i64 0) (by simp[results,Tryz.results29,go_sem,r0]) rfl ?_;exact⟨rfl,hB.setCell (p:=⟨w.heap.size+1+1+1,0,none⟩) (by simp;omega) _⟩
theorem LT(w:World)(vs:Value)(a i:Int){α:Type}(f:α->Int):Own (fun(s:α)W=>EW w vs a i (f s) W):=fun s X Y row h hg hr=>
 ⟨boxed_own _ _ (fun(_:Unit)=>vs) () X Y row h.b0 hg hr,boxed_own _ _ (fun(_:Unit)=>Value.int .i64 a) () X Y row h.b1 hg hr,boxed_own _ _ (fun(_:Unit)=>Value.int .i64 i) () X Y row h.b2 hg hr,boxed_own _ _ (fun s=>Value.int .i64 (f s)) s X Y row h.b3 hg hr⟩
attribute [local go_sem] Oper.semAt_some
theorem NZ(w:World)(vl:Value)(l:List Sig)(a:Int)(j:Nat)(ha:I64 a)(hK:BN w)(hl:AH w vl l)
  (h0:0<=a) (h1:a<AC l) (hj:j<l.length):
  Calls Tryz.prog 29 #[vl,.int .i64 a,.int .i64 (j:Int)] w (Av (.int .i64 (a/As (l.take j)%l[j].size)) w):=by
 have hL:Hid (∀W,Below w.heap.size w W->Calls Tryz.prog 67 #[vl] W (Av (.int .i64 (AC l)) W)):=fun W hW=>D9 W vl l (hK.below hW) (hl.below hW)
 have hv:=Er h0 h1;obtain⟨hz,hl1,hl6,-⟩:=Ba hv;obtain⟨ao,cap,b,off,rfl,hl⟩:=hl;have hn:=hl.nb;unfold I64 at ha;have hb:b<w.heap.size:=World.block_lt_of_cell? w _ (hl.nn 0 (by omega))
 have hn6:(l.length:Int)<=6:=by omega
 have HV:=Ab hv;have HZ:=Ab hz;clear hz hv hK;generalize AC l=x at*;have d0:decide (a<0)=false:=decide_eq_false (by omega);have d1:decide (x<=a)=false:=decide_eq_false (by omega);have d2:decide ((j:Int)<0)=false:=decide_eq_false (by omega);have d3:decide (l.length<=j)=false:=decide_eq_false (by omega);have d4:decide ((l.length:Int)<=(j:Int))=false:=decide_eq_false (by omega)
 have hmx:Tryz.prog.follows .mixedOrders=true:=by kernel_rfl
 refine callsIn_wide (n:=5)|>.1 ?_;refine Bu Tryz.func29 rfl trivial ?_;simp only[Tryz.ntmps29,List.size_toArray,List.length_cons,List.length_nil,Nat.reduceAdd,Nat.reduceSub,Array.replicate_succ,Array.replicate_zero,List.push_toArray,List.append_toArray,List.nil_append,List.cons_append]
 gi_upto_region 1 with(fail)
 have hV:=EW.mk' w (.slice ao l.length cap) a (j:Int);have hB0:Below w.heap.size w ((((w.alloc (.cells #[.slice ao l.length cap] 22)).alloc (.cells #[.int .i64 a] 3)).alloc (.cells #[.int .i64 (j:Int)] 3)).alloc (.cells #[.int .i64 0] 3)):=(by repeat(first|exact Ad|assumption|apply AD|apply AE));generalize((((w.alloc (.cells #[.slice ao l.length cap] 22)).alloc (.cells #[.int .i64 a] 3)).alloc (.cells #[.int .i64 (j:Int)] 3)).alloc (.cells #[.int .i64 0] 3))=w4 at*
 gi_cut [26]from 43 (fun v wx=>v=.bool false/\Below w4.heap.size w4 wx)
 case first=>
  have q0:=hV.b0.cell;have q1:=hV.b1.cell;have q2:=hV.b2.cell;refine wpIn_wide.2 ?_
  go_region_with (go_at_call 67;refine(hL.out _ (by repeat(first|exact Ad|assumption|(refine AD ?_ _)|(refine AE ?_ _)|(refine Below.drew ?_)))).mono ?_;rintro e W3 ⟨rfl,hb3⟩;have hb4:Below w4.heap.size w4 W3:=(by first|exact hb3|exact(Below.drew Ad).trans hb3|exact(Below.drew (Below.drew Ad)).trans hb3);have p0:=(AP hb4 hV.b0).cell;have p1:=(AP hb4 hV.b1).cell;have p2:=(AP hb4 hV.b2).cell)
  all_goals go_wp2_with fail
  all_goals
   go_meet
   case rel=>exact⟨rfl,by first|assumption|exact(by assumption:Below _ _ _).trans (Below.drew Ad)⟩
 case rest=>
  obtain⟨rfl,hb4⟩:=hcut;have hW:=hV.below hb4;have hB:=hB0.trans (hb4.mono hB0.size);clear hV hB0 hb4;have q0:=hW.b0.cell
  gi_wp2_with fail
  refine⟨trivial, ?_⟩;refine(callsIn_wide.2 (Di _ _ _ _)).mono ?_;rintro e w2 ⟨rfl,hw2⟩
  gi_wp2_with fail
  rw[<-hw2]
  have hzc:w.heap.size+4<=wc.heap.size:=by
   have:=hW.b3.lt;omega
  have hB2:Below w.heap.size w w2:=by rw[hw2];exact hB.trans (((Below.refl _ wc).alloc leR _).mono hB.size)
  have hX2:EW w (.slice ao l.length cap) a (j:Int) 0 w2:=by rw[hw2];exact hW.below (Ao _)
  have hZ2:wc.heap.size+1=w2.heap.size:=by rw[hw2];simp
  have e4:w2.cell? ⟨wc.heap.size,0,none⟩=some (.slice ao l.length cap):=by rw[hw2];exact Fz _ _ _
  clear hw2 hW hB q0;generalize wc.heap.size=Bs at*
  refine wpIn_rangeFunc_ownG rfl (by omega) (gf:=108) (lb:=#[.pointer (some ⟨Bs,0,none⟩)]) rfl trivial (enters_of Tryz.func108 (by kernel_rfl) rfl)
   (Ca Fence.wide (5-1) trivial rfl (by omega) Bs w.heap.size b off cap ao l HV.out hb w2 (by omega) (by omega) e4 (hl.below hB2)) KpW.trans (KpW.put (by omega) (by omega)) Ad (fun _=>rfl)
   (fun pre W=>(EW w (.slice ao l.length cap) a (j:Int) 0 W/\(∀x∈pre,(x:Nat)≠j))/\Below w.heap.size w W)
   (fun c _ W=>(EW w (.slice ao l.length cap) a (j:Int) (a/As (l.take j)%l[j].size) W/\c=.ret)/\Below w.heap.size w W)
   (OwnFrom.and (OwnFrom.and (Own.from (LT w _ a (j:Int) (fun _=>0)) _) (ownFrom_pure _ _)) (ownFrom_below leR (by omega)))
   (fun c=>OwnFrom.and (OwnFrom.and (Own.from (LT w _ a (j:Int) (fun _=>a/As (l.take j)%l[j].size)) _) (ownFrom_pure _ _)) (ownFrom_below leR (by omega)))
   ⟨⟨hX2,by simp⟩,hB2⟩
   ?a1 ?assign ?body ?done ?stop
  case assign=>
   intro lY x W K hK;unfold IT
   gi_wp2
   exact hK
  case body=>
   rintro lY pre x W ⟨⟨hX,hp⟩,hB⟩ hpl;obtain⟨x,hx⟩:=x
   have hd:1<=5-1-1:=by omega
   have q0:=hX.b0.cell;have q1:=hX.b1.cell;have q2:=hX.b2.cell;have q3:=hX.b3.cell;have f3:=hX.b3.frozen
   by_cases hxj:x=j
   ·obtain rfl:x=j:=hxj;have hlW:=hl.below hB;have n2:=hlW.nz x hx;obtain rfl:=hl.ad (by omega);have hsz:=DT HZ.out _ (List.getElem_mem hx);obtain⟨hs1,hs2⟩:=hsz;obtain⟨hp1,hp2⟩:=D3 HZ.out hl6 x;have hq0:0<=a/As (l.take x):=Int.ediv_nonneg h0 (by omega);have hq1:a/As (l.take x)<=a:=Int.ediv_le_self _ h0;have hr0:=Int.emod_nonneg (a/As (l.take x)) (show l[x].size≠0 by omega);have hr1:=Int.emod_lt_of_pos (a/As (l.take x)) (show 0<l[x].size by omega);have ht1:a.tdiv (As (l.take x))=a/As (l.take x):=Int.tdiv_eq_ediv_of_nonneg h0;have ht2:(a/As (l.take x)).tmod l[x].size=a/As (l.take x)%l[x].size:=Int.tmod_eq_emod_of_nonneg hq0;have hw1:IntKind.i64.wrap (a/As (l.take x))=a/As (l.take x):=IntWalk.i64_in _ ⟨by omega,by omega⟩;have hw3:IntKind.i64.wrap (a/As (l.take x)%l[x].size)=a/As (l.take x)%l[x].size:=IntWalk.i64_in _ ⟨by omega,by omega⟩
    have hz0:¬As (l.take x)=0:=by omega
    have hz1:¬l[x].size=0:=by omega
    have HX:=Ab hX;clear hlW hX hp;generalize As (l.take x)=pw at*;generalize l[x].size=z at*;generalize a/pw%z=rm at*;generalize a/pw=qt at*
    gi_wp2
    refine Bf 9 hmx (by kernel_rfl) (by kernel_rfl) ?_;simp only[List.take_succ_cons,List.take_zero,List.drop_succ_cons,List.drop_zero]
    repeat still_step
    refine wpStill_nil ?_
    gi_wp2
    exact⟨((KeepsOthers.setCell _ _ _).from _).trans ((KeepsOthers.drew _).from _),⟨(HX.out.set rm).drew,rfl⟩,(hB.setCell (p:=⟨w.heap.size+1+1+1,0,none⟩) (by simp;omega) _).trans (Below.drew Ad)⟩
   ·have hne:(((x:Nat):Int)==((j:Nat):Int))=false:=by simp;omega
    gi_wp2
    exact⟨KeepsFrom.refl _ _,KpW.refl _ _ _,⟨hX,fun y hy=>(List.mem_append.1 hy).elim (hp y) (fun e=>by simp at e;subst e;exact hxj)⟩,hB⟩
  case done=>
   rintro D ys W hD rfl ⟨⟨hX,hno⟩,hB⟩ hK;exact absurd rfl (hno ⟨j,hj⟩ (by simp[CK]))
  case stop=>
   rintro D c pre W hD _ ⟨⟨hX,rfl⟩,hB⟩ hK;have hc5:=cell_kept hX.b3.cell (grownBy_putObj' _ D (.deferred none)) (fun r e=>by cases e;exact⟨_,hK,rfl⟩)
   gi_wp2
   refine⟨by simp,.inl ⟨_,_,rfl,run_takeDeferred hK, ?_⟩⟩;refine⟨_,by simp[results,Tryz.results29,go_sem,hc5],rfl,hB.trans (belowK_b (w:=w) leR W D _ _ (by omega) hK rfl rfl)⟩
attribute [local go_sem] Oper.semAt_some
theorem Hu(w:World)(vl:Value)(l:List Sig)(a i:Int)(ha:I64 a)(hi:I64 i)(hK:BN w)(hl:AH w vl l):
  Calls Tryz.prog 29 #[vl,.int .i64 a,.int .i64 i] w (Av (.int .i64 (A5 l a i)) w):=by
 by_cases h:0<=a/\a<AC l/\0<=i/\i<l.length
 ·obtain⟨h0,h1,h2,h3⟩:=h;obtain⟨j,rfl⟩:∃j:Nat,i=j:=⟨i.toNat,by omega⟩;have h4:=NZ w vl l a j ha hK hl h0 h1 (by omega);unfold A5;rw[if_pos ⟨h0,h1,h2,h3⟩,Int.toNat_natCast,Af _ _ _ (show j<l.length by omega)];exact h4
 ·have h4:=Pe w vl l a i ha hi hK hl h;unfold A5;rw[if_neg h];exact h4
theorem MkX.res{w W:World}{vs vv:Value}{B n r:Int}{b4:Nat}{q:Bool}(h:MkX w vs vv B n r b4 q W)(hb:w.heap.size+4<=b4)(m:Int):MkX w vs vv B n m b4 q (W.setCell ⟨w.heap.size+1+1,0,none⟩ (.int .i64 m)):=
 ⟨h.b0.other (by omega) _,h.b1.other (by omega) _,h.b2.set _,h.b3.other (by omega) _,h.b5.other (by omega) _⟩
theorem MkX.ok{w W:World}{vs vv:Value}{B n r:Int}{b4:Nat}{q:Bool}(h:MkX w vs vv B n r b4 q W)(hb:w.heap.size+4<=b4)(m:Bool):MkX w vs vv B n r b4 m (W.setCell ⟨w.heap.size+1+1+1,0,none⟩ (.bool m)):=
 ⟨h.b0.other (by omega) _,h.b1.other (by omega) _,h.b2.other (by omega) _,h.b3.set _,h.b5.other (by omega) _⟩
theorem RM(w:World)(vs vv:Value)(B:Int){α:Type}(f:α->Int)(r:Int)(b4:Nat)(q:Bool):Own (fun(s:α)W=>MkX w vs vv B (f s) r b4 q W):=fun s X Y row h hg hr=>
 ⟨boxed_own _ _ (fun(_:Unit)=>vs) () X Y row h.b0 hg hr,boxed_own _ _ (fun(_:Unit)=>vv) () X Y row h.b1 hg hr,boxed_own _ _ (fun(_:Unit)=>Value.int .i64 r) () X Y row h.b2 hg hr,boxed_own _ _ (fun(_:Unit)=>Value.bool q) () X Y row h.b3 hg hr,boxed_own _ _ (fun s=>Value.int .i64 (f s)) s X Y row h.b5 hg hr⟩
theorem MkY.res{w W:World}{vs vv:Value}{r:Int}{q:Bool}(h:MkY w vs vv r q W)(m:Int)(p:Bool):
  MkY w vs vv m p ((W.setCell ⟨w.heap.size+1+1,0,none⟩ (.int .i64 m)).setCell ⟨w.heap.size+1+1+1,0,none⟩ (.bool p)):=
 ⟨(h.b0.other (by omega) _).other (by omega) _,(h.b1.other (by omega) _).other (by omega) _,(h.b2.set _).other (by omega) _,(h.b3.other (by omega) _).set _⟩
theorem Q2(w:World)(vl vv:Value)(l:List Sig)(vals:List Int)(hK:BN w)(hl:AH w vl l)(hvv:Ai w vv vals)
  (hno:¬(At l=true/\vals.length=l.length)):
  Calls Tryz.prog 94 #[vl,vv] w (JU (0,false) w):=by
 have hV:Hid (∀W,Below w.heap.size w W->Calls Tryz.prog 41 #[vl] W (DL (.bool (At l)) W)):=fun W hW=>Cv W _ l (hK.below hW) (hl.below hW)
 obtain⟨ao,cap,b,off,rfl,hl⟩:=hl;obtain⟨⟨av,cv,bv,ov,rfl,hvv⟩,hvr⟩:=hvv;have hn:=hl.nb;have hnv:=hvv.nb;clear hl hvv hvr hK
 cases hv:At l
 all_goals
  first
  |(have hne:((vals.length:Int) !=l.length)=true:=by(simp;intro e;exact hno ⟨hv,by omega⟩))
  |skip
  have HV:=Ab hv;clear hv hno
  go_enter Tryz.func94,Tryz.ntmps94
  go_wp2_with fail
  refine(hV.out _ (by repeat(first|exact Ad|assumption|apply AD|apply AE))).mono ?_;rintro e w1 ⟨rfl,n1,hw1⟩;have hY:=MkY.mk' w (.slice ao l.length cap) (.slice av vals.length cv);have hB0:Below w.heap.size w ((((w.alloc (.cells #[.slice ao l.length cap] 22)).alloc (.cells #[.slice av vals.length cv] 26)).alloc (.cells #[.int .i64 0] 3)).alloc (.cells #[.bool false] 4)):=(by repeat(first|exact Ad|assumption|apply AD|apply AE));generalize((((w.alloc (.cells #[.slice ao l.length cap] 22)).alloc (.cells #[.slice av vals.length cv] 26)).alloc (.cells #[.int .i64 0] 3)).alloc (.cells #[.bool false] 4))=w4 at*
  have hY1:MkY w (.slice ao l.length cap) (.slice av vals.length cv) 0 false w1:=by rw[hw1];exact hY.below (Am _ _ _)
  have hB1:Below w.heap.size w w1:=by rw[hw1];exact AE hB0 _
  clear hw1 hY hB0;rw[HV.out];have q0:=hY1.b0.cell;have q1:=hY1.b1.cell;have q2:=hY1.b2.cell;have f2:=hY1.b2.frozen;have q3:=hY1.b3.cell;have f3:=hY1.b3.frozen;go_wp2;have hR:=hY1.res 0 false;have r2:=hR.b2.cell;have r3:=hR.b3.cell;refine bodyPost_ret (v:=.tuple #[.int .i64 0,.bool false]) (by simp[results,Tryz.results94,go_sem,r2,r3]) rfl ?_;exact⟨rfl,(hB1.setCell (p:=⟨w.heap.size+1+1,0,none⟩) (by simp;omega) _).setCell (p:=⟨w.heap.size+1+1+1,0,none⟩) (by simp;omega) _⟩
attribute [local go_sem] Oper.semAt_some
theorem O4(w:World)(vl vv:Value)(l:List Sig)(vals:List Int)(hK:BN w)(hl:AH w vl l)(hvv:Ai w vv vals)
  (hv:At l=true) (hlen:vals.length=l.length):
  Calls Tryz.prog 94 #[vl,vv] w (JU (match mkL l vals with|some x=>(x,true)|none=>(0,false)) w):=by
 have hV:Hid (∀W,Below w.heap.size w W->Calls Tryz.prog 41 #[vl] W (DL (.bool true) W)):=fun W hW=>by
  have:=Cv W _ l (hK.below hW) (hl.below hW)
  rwa [hv]at this
 obtain⟨R,HR⟩:∃R:Int×Bool,Hid ((match mkL l vals with|some x=>(x,true)|none=>(0,false))=R):=⟨_,rfl⟩;rw[HR.out];obtain⟨hz,hl1,hl6,-⟩:=Ba hv;obtain⟨ao,cap,b,off,rfl,hl⟩:=hl;obtain⟨⟨av,cv,bv,ov,rfl,hvv⟩,hvr⟩:=hvv;have hn:=hl.nb;have hnv:=hvv.nb;have hb:b<w.heap.size:=World.block_lt_of_cell? w _ (hl.nn 0 (by omega));have hbv:bv<w.heap.size:=World.block_lt_of_cell? w _ (hvv.el 0 (by omega))
 have hne:((vals.length:Int) !=l.length)=false:=by simp;omega
 have HLN:=Ab hlen;have HV:=Ab hv;have HZ:=Ab hz;have HVR:=Ab hvr;clear hz hv hK hlen hvr
 have hmx:Tryz.prog.follows .mixedOrders=true:=by kernel_rfl
 refine callsIn_wide (n:=5)|>.1 ?_;refine Bu Tryz.func94 rfl trivial ?_;simp only[Tryz.ntmps94,List.size_toArray,List.length_cons,List.length_nil,Nat.reduceAdd,Nat.reduceSub,Array.replicate_succ,Array.replicate_zero,List.push_toArray,List.append_toArray,List.nil_append,List.cons_append]
 gi_wp2_with fail
 refine⟨trivial, ?_⟩;refine(callsIn_wide.2 (hV.out _ (by repeat(first|exact Ad|assumption|apply AD|apply AE)))).mono ?_;rintro e w1 ⟨rfl,n1,hw1⟩;have hY:=MkY.mk' w (.slice ao l.length cap) (.slice av vals.length cv);have hB0:Below w.heap.size w ((((w.alloc (.cells #[.slice ao l.length cap] 22)).alloc (.cells #[.slice av vals.length cv] 26)).alloc (.cells #[.int .i64 0] 3)).alloc (.cells #[.bool false] 4)):=(by repeat(first|exact Ad|assumption|apply AD|apply AE));generalize((((w.alloc (.cells #[.slice ao l.length cap] 22)).alloc (.cells #[.slice av vals.length cv] 26)).alloc (.cells #[.int .i64 0] 3)).alloc (.cells #[.bool false] 4))=w4 at*
 have hY1:MkY w (.slice ao l.length cap) (.slice av vals.length cv) 0 false w1:=by rw[hw1];exact hY.below (Am _ _ _)
 have hB1:Below w.heap.size w w1:=by rw[hw1];exact AE hB0 _
 clear hw1 hY hB0 hV;have q0:=hY1.b0.cell;have q1:=hY1.b1.cell
 have hz1:w.heap.size+4<=w1.heap.size:=by have:=hY1.b3.lt;omega
 have hz9:w.heap.size<w1.heap.size:=by omega
 have hne1:¬w.heap.size=w1.heap.size:=by omega
 gi_wp2_with fail
 refine⟨trivial, ?_⟩;refine(callsIn_wide.2 (Di _ _ _ _)).mono ?_;rintro e w2 ⟨rfl,hw2⟩
 gi_wp2_with fail
 rw[<-hw2]
 have hB2:Below w.heap.size w w2:=by rw[hw2];exact hB1.trans ((((Below.refl _ w1).alloc leR _).alloc (by simp) _).mono hB1.size)
 have hX2:MkX w (.slice ao l.length cap) (.slice av vals.length cv) 0 0 0 w1.heap.size false w2:=by
  rw[hw2];exact⟨(hY1.b0.alloc _).alloc _,(hY1.b1.alloc _).alloc _,(hY1.b2.alloc _).alloc _,(hY1.b3.alloc _).alloc _,(Boxed.new w1 3 (.int .i64 0)).alloc _⟩
 have hZ2:w1.heap.size+1<w2.heap.size:=by rw[hw2];simp
 have e4:w2.cell? ⟨w1.heap.size+1,0,none⟩=some (.slice ao l.length cap):=by
  have:=Fz (w1.alloc (.cells #[.int .i64 0] 3)) (.slice ao l.length cap) 22;rw[World.size_alloc]at this;rw[hw2];exact this
 clear hw2 hY1 hB1 q0 q1 hz9 hne1;generalize w1.heap.size=b4 at*
 refine wpIn_rangeFunc_ownG rfl (by omega) (gf:=108) (lb:=#[.pointer (some ⟨b4+1,0,none⟩)]) rfl trivial (enters_of Tryz.func108 (by kernel_rfl) rfl)
  (Ca Fence.wide (5-1) trivial rfl (by omega) (b4+1) w.heap.size b off cap ao l HV.out hb w2 (by omega) (by omega) e4 (hl.below hB2)) KpW.trans (KpW.put (by omega) (by omega)) Ad (fun _=>rfl)
  (fun pre W=>(MkX w (.slice ao l.length cap) (.slice av vals.length cv) 0 (mF l vals pre) 0 b4 false W/\(∀x∈pre,okV l vals x))/\Below w.heap.size w W)
  (fun c _ W=>(MkY w (.slice ao l.length cap) (.slice av vals.length cv) 0 false W/\(c=.ret/\mkL l vals=none))/\Below w.heap.size w W)
  (OwnFrom.and (OwnFrom.and (Own.from (RM w _ _ 0 (fun pre=>mF l vals pre) 0 b4 false) _) (ownFrom_pure _ _)) (ownFrom_below leR (by omega)))
  (fun c=>OwnFrom.and (OwnFrom.and (Own.from (fun _ X Y row h hg hr=>⟨boxed_own _ _ (fun(_:Unit)=>_) () X Y row h.b0 hg hr,boxed_own _ _ (fun(_:Unit)=>_) () X Y row h.b1 hg hr,boxed_own _ _ (fun(_:Unit)=>Value.int .i64 0) () X Y row h.b2 hg hr,boxed_own _ _ (fun(_:Unit)=>Value.bool false) () X Y row h.b3 hg hr⟩) _) (ownFrom_pure _ _)) (ownFrom_below leR (by omega)))
  ⟨⟨hX2,by simp⟩,hB2⟩
  ?a1 ?assign ?body ?done ?stop
 case assign=>
  intro lY x W K hK;unfold IT
  gi_wp2
  exact hK
 case body=>
  rintro lY pre x W ⟨⟨hX,hp⟩,hB⟩ hpl;obtain⟨x,hx⟩:=x
  have hd:1<=5-1-1:=by omega
  have q0:=hX.b0.cell;have q1:=hX.b1.cell;have q2:=hX.b2.cell;have f2:=hX.b2.frozen;have q3:=hX.b3.cell;have f3:=hX.b3.frozen;have q5:=hX.b5.cell;have f5:=hX.b5.frozen;have hlW:=hl.below hB;have n2:=hlW.nz x hx
  have hxv:x<vals.length:=by rw[HLN.out];exact hx
  have c3:=Ah hB (hvv.el x hxv);unfold ivF at c3;rw[Af _ _ _ hxv]at c3;obtain rfl:=hl.ad (by omega);obtain rfl:=hvv.ad (by omega);obtain⟨hs1,hs2⟩:=DT HZ.out _ (List.getElem_mem hx);obtain⟨hp1,hp2⟩:=D3 HZ.out hl6 x;obtain⟨hm0,hm1⟩:=TN HZ.out hl6 vals pre hp
  have HOK:Hid (0<=vals[x]/\vals[x]<l[x].size↔okV l vals x):=by
   show _↔_;unfold okV;rw[Af _ _ _ hxv,Af _ _ _ hx]
  have HSN:Hid (mF l vals (pre++[⟨x,hx⟩])=mF l vals pre+As (l.take x)*vals[x]):=by
   show _=_;rw[Ke,Af _ _ _ hxv]
  have HPR:=Ab hp;have HX:=Ab hX
  have hpl6:(pre.length:Int)<=5:=by omega
  have HBAD:Hid (¬(0<=vals[x]/\vals[x]<l[x].size)->mkL l vals=none):=fun h=>RL hx (fun h2=>h (HOK.out.2 h2))
  have HMB:Hid (0<=vals[x]->vals[x]<l[x].size->(0<=As (l.take x)*vals[x]/\As (l.take x)*vals[x]<=16384)):=fun h0 h1=>(DH hp1 hp2 h0 h1 hs2).1
  clear hlW hX hp;generalize As (l.take x)=pw at*;generalize mF l vals pre=m at*;generalize l[x].size=z at*;generalize vals[x]=v at*
  rcases(by omega:v<0\/(0<=v/\z<=v)\/(0<=v/\v<z))with hc|⟨hc,hc2⟩|⟨hc,hc2⟩
  ·have hd0:decide (v<0)=true:=decide_eq_true hc
   gi_wp2
   refine BS hmx (by kernel_rfl) (by kernel_rfl) ?_
   ((repeat(go_big_quiet_step (fail)));refine wpQuiet_nil ?_;rintro _ ⟨nq,rfl⟩)
   gi_wp2
   have hY:MkY w (.slice (some ⟨b,off,none⟩) l.length cap) (.slice (some ⟨bv,ov,none⟩) vals.length cv) 0 false W:=⟨HX.out.b0,HX.out.b1,HX.out.b2,HX.out.b3⟩;exact⟨(Dp _ _ _).trans ((DG _ _ _ _).trans (DG _ _ _ _)),⟨(hY.drewN _).res 0 false,rfl,HBAD.out (by omega)⟩,((hB.trans (Am _ _ _)).setCell (p:=⟨w.heap.size+1+1,0,none⟩) (by simp;omega) _).setCell (p:=⟨w.heap.size+1+1+1,0,none⟩) (by simp;omega) _⟩
  ·have hd0:decide (v<0)=false:=decide_eq_false (by omega);have hd1:decide (z<=v)=true:=decide_eq_true hc2
   gi_wp2
   refine BS hmx (by kernel_rfl) (by kernel_rfl) ?_
   ((repeat(go_big_quiet_step (fail)));refine wpQuiet_nil ?_;rintro _ ⟨nq,rfl⟩)
   gi_wp2
   have hY:MkY w (.slice (some ⟨b,off,none⟩) l.length cap) (.slice (some ⟨bv,ov,none⟩) vals.length cv) 0 false W:=⟨HX.out.b0,HX.out.b1,HX.out.b2,HX.out.b3⟩;exact⟨(Dp _ _ _).trans ((DG _ _ _ _).trans (DG _ _ _ _)),⟨(hY.drewN _).res 0 false,rfl,HBAD.out (by omega)⟩,((hB.trans (Am _ _ _)).setCell (p:=⟨w.heap.size+1+1,0,none⟩) (by simp;omega) _).setCell (p:=⟨w.heap.size+1+1+1,0,none⟩) (by simp;omega) _⟩
  ·have hd0:decide (v<0)=false:=decide_eq_false (by omega);have hd1:decide (z<=v)=false:=decide_eq_false (by omega);obtain⟨hm2,hm3⟩:=HMB.out hc hc2
   have hw1:IntKind.i64.wrap (v*pw)=pw*v:=by rw[Int.mul_comm v pw];exact IntWalk.i64_in _ ⟨by omega,by omega⟩
   have hw2:IntKind.i64.wrap (m+pw*v)=m+pw*v:=IntWalk.i64_in _ ⟨by omega,by omega⟩
   have HP2:Hid (∀y:Fin l.length,y∈pre++[⟨x,hx⟩]->okV l vals y):=fun y hy=>(List.mem_append.1 hy).elim (HPR.out y) (fun e=>by simp at e;subst e;exact HOK.out.1 ⟨hc,hc2⟩)
   generalize pw*v=pv at*
   gi_wp2
   refine BS hmx (by kernel_rfl) (by kernel_rfl) ?_
   ((repeat(go_big_quiet_step (fail)));refine wpQuiet_nil ?_;rintro _ ⟨nq,rfl⟩)
   gi_wp2
   refine Bf 8 hmx (by kernel_rfl) (by kernel_rfl) ?_;simp only[List.take_succ_cons,List.take_zero,List.drop_succ_cons,List.drop_zero]
   repeat still_step
   refine wpStill_nil ?_
   gi_wp2
   have hb2:Below w.heap.size W (((W.drewN nq).drew).setCell ⟨b4,0,none⟩ (.int .i64 (m+pv))):=((Am _ _ _).trans (Below.drew Ad)).setCell (p:=⟨b4,0,none⟩) (by simp;omega) _
   exact⟨(Dp _ _ _).trans (((KeepsOthers.drew _).from _).trans (DG _ _ _ _)),⟨hb2,by
    show(((W.drewN nq).drew).setCell ⟨b4,0,none⟩ (.int .i64 (m+pv))).heap[b4+1]? =_
    rw[heap_setCell_other _ ⟨b4,0,none⟩ (b4+1) _ (by simp)];rfl⟩,⟨by rw[HSN.out];exact((HX.out.drewN nq).drew).letter hz1 _,HP2.out⟩,hB.trans hb2⟩
 case done=>
  rintro D ys W hD rfl ⟨⟨hX,hp⟩,hB⟩ hK;have hm:=Nw HZ.out HLN.out hp;have hr:=HR.out;rw[hm]at hr;subst hr;have q5:=hX.b5.cell;have q2:=hX.b2.cell;have f2:=hX.b2.frozen;have q3:=hX.b3.cell;have f3:=hX.b3.frozen;have HX:=Ab hX;clear hX hm hp HR;generalize mF l vals (CK l.length)=m at*
  gi_wp2
  have hY:MkY w (.slice ao l.length cap) (.slice av vals.length cv) 0 false W:=⟨HX.out.b0,HX.out.b1,HX.out.b2,HX.out.b3⟩;have hR:=hY.res m true;have hK':=(KeepsOthers.setCell (W.setCell ⟨w.heap.size+1+1,0,none⟩ (.int .i64 m)) ⟨w.heap.size+1+1+1,0,none⟩ (.bool true)).same D _ ((KeepsOthers.setCell W ⟨w.heap.size+1+1,0,none⟩ (.int .i64 m)).same D _ hK rfl) rfl;have r2:=cell_kept hR.b2.cell (grownBy_putObj' _ D (.deferred none)) (fun r e=>by cases e;exact⟨_,hK',rfl⟩);have r3:=cell_kept hR.b3.cell (grownBy_putObj' _ D (.deferred none)) (fun r e=>by cases e;exact⟨_,hK',rfl⟩);have hB3:Below w.heap.size w ((W.setCell ⟨w.heap.size+1+1,0,none⟩ (.int .i64 m)).setCell ⟨w.heap.size+1+1+1,0,none⟩ (.bool true)):=(hB.setCell (p:=⟨w.heap.size+1+1,0,none⟩) (by simp;omega) _).setCell (p:=⟨w.heap.size+1+1+1,0,none⟩) (by simp;omega) _;refine⟨by simp,.inl ⟨_,_,rfl,run_takeDeferred hK', ?_⟩⟩;refine⟨.tuple #[.int .i64 m,.bool true],by simp[results,Tryz.results94,go_sem,r2,r3],rfl,hB3.trans (belowK_b (w:=w) leR _ D _ _ (by omega) hK' rfl rfl)⟩
 case stop=>
  rintro D c pre W hD _ ⟨⟨hY,rfl,hm⟩,hB⟩ hK;have hr:=HR.out;rw[hm]at hr;subst hr;have r2:=cell_kept hY.b2.cell (grownBy_putObj' _ D (.deferred none)) (fun r e=>by cases e;exact⟨_,hK,rfl⟩);have r3:=cell_kept hY.b3.cell (grownBy_putObj' _ D (.deferred none)) (fun r e=>by cases e;exact⟨_,hK,rfl⟩)
  gi_wp2
  refine⟨by simp,.inl ⟨_,_,rfl,run_takeDeferred hK, ?_⟩⟩;refine⟨.tuple #[.int .i64 0,.bool false],by simp[results,Tryz.results94,go_sem,r2,r3],rfl,hB.trans (belowK_b (w:=w) leR W D _ _ (by omega) hK rfl rfl)⟩
theorem Sp(w:World)(vl vv:Value)(l:List Sig)(vals:List Int)(hK:BN w)(hl:AH w vl l)(hvv:Ai w vv vals):
  Calls Tryz.prog 94 #[vl,vv] w (JU (mkR l vals) w):=by
 by_cases h:At l=true/\vals.length=l.length
 ·have:=O4 w vl vv l vals hK hl hvv h.1 h.2;unfold mkR;rw[h.1,decide_eq_true h.2];exact this
 ·have:=Q2 w vl vv l vals hK hl hvv h;unfold mkR;rw[if_neg (by simp only[Bool.and_eq_true,decide_eq_true_eq];exact h)];exact this
end Go.Proofs.YtncjeamdkjcebaaGreatDoor
