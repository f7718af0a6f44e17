/- What the reference's index and formed comput. -/
import Derived.Test.YtncjeamdkjcebaaGreatDoorYMyW0
set_option linter.all false
set_option maxHeartbeats 4000000
set_option maxRecDepth 100000
namespace Go.Proofs.YtncjeamdkjcebaaGreatDoor
open Go.RowKit
theorem Ly{l:List Int}{x:Int}{k:Nat}(hk:k<l.length)(h:l.getD k 0=x)(hn:x∉l.take k):l.idxOf x=k:=by
 rw[Ae _ _ _ hk]at h
 have e:l=l.take k++x::l.drop (k+1):=by
  rw[<-h,List.getElem_cons_drop hk,List.take_append_drop]
 conv=>lhs;rw[e]
 rw[List.idxOf_append,if_neg hn,List.idxOf_cons_self,List.length_take];omega
theorem Gl{l:List Int}{x:Int}(h:x∉l):l.idxOf x=l.length:=by
 have h1:=List.idxOf_le_length (a:=x) (l:=l);have h2:=List.idxOf_lt_length_iff (a:=x) (l:=l)
 have:¬l.idxOf x<l.length:=fun h3=>h (h2.1 h3)
 omega
def KD(l:List Int)(x:Int):List Int:=if x∈l then l else l++[x]
theorem II(w:World)(B:Nat)(v:Value)(l:List Int)(x:Int)(hl:OI w B v l)(hB:B<=w.heap.size)(hn:l.length<=10000000):
  Calls Tryz.prog 52 #[v,.int .i64 x] w (fun e w'=>∃v',e=.returned (.tuple #[v',.int .i64 ((l.idxOf x:Nat):Int)])/\OI w' B v' (KD l x)/\w.grownBy w' v.ownBlock/\AS w v v'):=by
 have HO:=Ab hl;obtain⟨a,c,hv⟩:=hl.slice
 have d:0<l.length->∃g,a=some ⟨g,0,none⟩:=fun h=>by
  obtain⟨g,z,e,-,-⟩:=hl.row h;rw[hv]at e
  injection e with e1
  exact⟨g,e1⟩
 have HR:=Ab d;have u:Hid (x∉l->l.idxOf x=l.length):=Gl
 have n:Hid (∀k,k<l.length->l.getD k 0=x->x∉l.take k->l.idxOf x=k):=fun k=>Ly
 have p:Hid (x∈l->KD l x=l):=fun h=>if_pos h
 have q:Hid (x∉l->KD l x=l++[x]):=fun h=>if_neg h
 clear hl d;subst hv;generalize l.idxOf x=ix at*;generalize KD l x=li at*
 go_enter Tryz.func52,Tryz.ntmps52
 go_wp2
 go_loopg [6] l.length (fun gh i wr=>∃k:Nat,gh=l.length-k/\i=.int .i64 (k:Int)/\k<=l.length/\w=wr/\Hid (x∉l.take k))
 case atStart=>exact⟨0,rfl,rfl,by omega,rfl,by show _∉_;simp⟩
 case round=>
  obtain⟨k,j,rfl,hk,rfl,HN⟩:=hrel;have o:=Ab j;clear j
  by_cases hlt:k<l.length
  ·obtain⟨g,rfl⟩:=HR.out (by omega)
   have i1:(k:Int)<(l.length:Int):=by omega
   have aa:(0:Int)<=(k:Int):=by omega
   have c1:=HO.out.at' rfl k hlt
   have HT:Hid (l.take (k+1)=l.take k++[l[k]]):=by
    show _=_;rw[List.take_succ_eq_append_getElem hlt]
   have HM:Hid (l[k]∈l):=by
    show _∈_;exact List.getElem_mem _
   have HK:Hid (l[k]=x->ix=k):=fun e=>n.out k hlt (by rw[Ae _ _ _ hlt];exact e) HN.out
   generalize l[k]=y at*
   by_cases hy:y=x
   ·subst hy;have e1:=HK.out rfl;have e2:=p.out HM.out;subst e1 e2;clear HM HT HN;go_wp2;go_ret2;exact⟨_,rfl,HO.out,E5 _ _,AS.refl _ _⟩
   ·have t1:(y==x)=false:=by simpa using hy
    have s:Hid (x∉l.take (k+1)):=by
     show _∉_;rw[HT.out,List.mem_append,List.mem_singleton];rintro(h|h)
     ·exact HN.out h
     ·exact hy h.symm
    clear HM HT HN HK hy;go_wp2
    go_roundg (l.length-(k+1))
    case measure=>have:=o.out;omega
    case rel=>exact⟨k+1,rfl,by go_num,by omega,rfl,s⟩
  ·have i1:¬(k:Int)<(l.length:Int):=by omega
   have f:x∉l:=by have:=HN.out;rwa [List.take_of_length_le (by omega)]at this
   have e1:=u.out f;have e2:=q.out f;subst e1 e2;clear f HN
   go_wp2_with (at_builtin;refine C8 rfl _ _ x rfl B _ _ HO.out rfl _ (by simp) rfl (by omega) hB ?_;intro v' w' b hg m;have HQ:=Ab b;have HG:=Ab hg;have r:=Ab m;clear b hg m)
   go_ret2;exact⟨_,rfl,HQ.out,HG.out,r.out⟩
abbrev Pr:=Nat×Nat
def nxP(a b:My)(p:Pr)(i:Nat):Pr:=((nxI a p.1 i).toNat,(nxI b p.2 i).toNat)
def Im(S:List Pr)(q:Pr):List Pr:=if q∈S then S else S++[q]
def rwS(f:Nat->Pr)(S:List Pr):Nat->List Pr
 |0=>S
 |i+1=>Im (rwS f S i) (f i)
def rwN(f:Nat->Pr)(S:List Pr)(n:Nat):List Int:=(List.range n).map fun i=>(((rwS f S i).idxOf (f i):Nat):Int)
def bfS(a b:My)(n:Nat):Nat->List Pr
 |0=>[(a.start.toNat,b.start.toNat)]
 |k+1=>rwS (nxP a b ((bfS a b n k).getD k (0,0))) (bfS a b n k) n
def bfP(a b:My)(n k:Nat):Pr:=(bfS a b n k).getD k (0,0)
def bfN(a b:My)(n k:Nat):List (List Int):=(List.range k).map fun j=>rwN (nxP a b (bfP a b n j)) (bfS a b n j) n
def EF(a b:My)(n K:Nat):Prop:=(bfS a b n K).length=K/\∀j,j<K->j<(bfS a b n j).length
theorem Qy{S:List Pr}{q:Pr}:S<+:Im S q:=by
 unfold Im
 split
 ·exact List.prefix_rfl
 ·exact List.prefix_append _ _
theorem Qx{S:List Pr}{q:Pr}:q∈Im S q:=by
 unfold Im
 split
 ·assumption
 ·simp
theorem R6{S:List Pr}{q:Pr}(h:S.Nodup):(Im S q).Nodup:=by
 unfold Im
 split
 ·exact h
 ·rename_i hq;rw[List.nodup_append];exact⟨h,by simp,fun x hx y hy e=>by simp at hy;subst hy;exact hq (e▸hx)⟩
theorem Qz{S:List Pr}{q:Pr}{P:Pr->Prop}(h:∀x∈S,P x)(hq:P q):∀x∈Im S q,P x:=by
 unfold Im
 split
 ·exact h
 ·intro x hx;rw[List.mem_append,List.mem_singleton]at hx
  rcases hx with hx|rfl
  ·exact h x hx
  ·exact hq
theorem IC{f:Nat->Pr}{S:List Pr}{i j:Nat}(h:i<=j):rwS f S i<+:rwS f S j:=by
 induction j with
 |zero=>
  obtain rfl:i=0:=by omega
  exact List.prefix_rfl
 |succ j ih=>
  rcases Nat.lt_or_ge j i with h1|h1
  ·obtain rfl:i=j+1:=by omega
   exact List.prefix_rfl
  ·exact(ih h1).trans Qy
theorem Q2{f:Nat->Pr}{S:List Pr}(h:S.Nodup):∀i,(rwS f S i).Nodup
 |0=>h
 |i+1=>R6 (Q2 h i)
theorem KU{f:Nat->Pr}{S:List Pr}{P:Pr->Prop}(h:∀x∈S,P x)(n:Nat)(hf:∀i,i<n->P (f i)):∀i,i<=n->∀x∈rwS f S i,P x
 |0,_=>h
 |i+1,hi=>Qz (KU h n hf i (by omega)) (hf i (by omega))
theorem Sx{f:Nat->Pr}{S:List Pr}{i j:Nat}(h:i<j):f i∈rwS f S j:=(IC (f:=f) (S:=S) (i:=i+1) (j:=j) h).subset Qx
theorem Nw{a b:My}{n i j:Nat}(h:i<=j):bfS a b n i<+:bfS a b n j:=by
 induction j with
 |zero=>
  obtain rfl:i=0:=by omega
  exact List.prefix_rfl
 |succ j ih=>
  rcases Nat.lt_or_ge j i with h1|h1
  ·obtain rfl:i=j+1:=by omega
   exact List.prefix_rfl
  ·exact(ih h1).trans (IC (Nat.zero_le n))
theorem MA{a b:My}{n:Nat}:∀k,(bfS a b n k).Nodup
 |0=>by simp[bfS]
 |k+1=>Q2 (MA k) n
def okP(a b:My)(p:Pr):Prop:=p.1<a.out.length/\p.2<b.out.length
theorem TC{a b:My}(ha:MyV a)(hb:MyV b)(c:b.ins=a.ins){p:Pr}(hp:okP a b p){i:Nat}(hi:(i:Int)<a.ins):okP a b (nxP a b p i):=by
 have h1:=ha.nx' hp.1 hi;have h2:=hb.nx' hp.2 (x:=i) (by omega);show(nxI a p.1 i).toNat<_/\(nxI b p.2 i).toNat<_;omega
theorem MC{a b:My}(ha:MyV a)(hb:MyV b)(c:b.ins=a.ins){n:Nat}(hn:(n:Int)<=a.ins):∀k,(∀j,j<k->j<(bfS a b n j).length)->∀x∈bfS a b n k,okP a b x
 |0,_=>by
  intro x hx;simp only[bfS,List.mem_singleton]at hx;subst hx;have h1:=ha.s0;have h2:=ha.s1;have h3:=hb.s0;have h4:=hb.s1;show a.start.toNat<_/\b.start.toNat<_;omega
 |k+1,hk=>by
  have ih:=MC ha hb c hn k (fun j hj=>hk j (by omega));have d:=hk k (by omega)
  have hp:okP a b ((bfS a b n k).getD k (0,0)):=by
   rw[Ae _ _ _ d];exact ih _ (List.getElem_mem _)
  exact KU ih n (fun i hi=>TC ha hb c hp (by omega)) n leR
theorem JZ{S:List Pr}{A B:Nat}(hd:S.Nodup)(h:∀x∈S,x.1<A/\x.2<B):S.length<=A*B:=by
 have h1:(S.map fun x=>x.1*B+x.2).Nodup:=by
  rw[List.nodup_iff_pairwise_ne,List.pairwise_map];refine List.Pairwise.imp_of_mem (fun{x y}hx hy hxy e=>hxy ?_) (List.nodup_iff_pairwise_ne.1 hd);have a1:=h x hx;have a2:=h y hy;have e1:(x.1*B+x.2)/B=x.1/\(x.1*B+x.2)%B=x.2:=⟨by rw[Nat.mul_comm,Nat.mul_add_div (by omega),Nat.div_eq_of_lt a1.2,Nat.add_zero],by rw[Nat.mul_comm,Nat.mul_add_mod,Nat.mod_eq_of_lt a1.2]⟩;have e2:(y.1*B+y.2)/B=y.1/\(y.1*B+y.2)%B=y.2:=⟨by rw[Nat.mul_comm,Nat.mul_add_div (by omega),Nat.div_eq_of_lt a2.2,Nat.add_zero],by rw[Nat.mul_comm,Nat.mul_add_mod,Nat.mod_eq_of_lt a2.2]⟩;rw[e]at e1;exact Prod.ext (e1.1.symm.trans e2.1) (e1.2.symm.trans e2.2)
 have:=Gq h1 (n:=A*B) fun y hy=>by
  obtain⟨x,hx,rfl⟩:=List.mem_map.1 hy;have a1:=h x hx
  calc x.1*B+x.2<x.1*B+B:=by omega
   _=(x.1+1)*B:=by rw[Nat.add_mul,Nat.one_mul]
   _<=A*B:=Nat.mul_le_mul_right _ a1.1
 simpa using this
theorem EF.unique{a b:My}{n K L:Nat}(h:EF a b n K)(h':EF a b n L):K=L:=by
 rcases Nat.lt_trichotomy K L with h1|h1|h1
 ·have:=h'.2 K h1;have:=h.1;omega
 ·exact h1
 ·have:=h.2 L h1;have:=h'.1;omega
end Go.Proofs.YtncjeamdkjcebaaGreatDoor
namespace Go.Proofs.YtncjeamdkjcebaaGreatDoor
def mkR(l:List Sig)(vals:List Int):Int×Bool:=
 if As l&&decide (vals.length=l.length)then(match mkL l vals with|some x=>(x,true)|none=>(0,false))else(0,false)
theorem LJ{l:List Sig}{vals:List Int}{k:Nat}(h:k<l.length)(hv:k<vals.length):
  mkL (l.drop k) (vals.drop k)=if 0<=vals[k]/\vals[k]<l[k].size then(mkL (l.drop (k+1)) (vals.drop (k+1))).map (fun x=>vals[k]+l[k].size*x)else none:=by
 rw[List.drop_eq_getElem_cons h,List.drop_eq_getElem_cons hv];rfl
theorem Fl.next{l:List Sig}{vals:List Int}{k:Nat}{n:Int}(h:Fl l vals k n)(hk:k<l.length)(hv:k<vals.length)(h0:0<=vals[k])(h1:vals[k]<l[k].size)(hp:1<=An (l.take k)):
  Fl l vals (k+1) (n+An (l.take k)*vals[k]):=by
 obtain⟨h2,h3,h4⟩:=h;have h5:=Int.mul_nonneg (show 0<=An (l.take k)by omega) h0;have h6:=Int.mul_le_mul_of_nonneg_left (show vals[k]<=l[k].size-1 by omega) (show 0<=An (l.take k)by omega);rw[Int.mul_sub,Int.mul_one]at h6;refine⟨?_,by omega,by rw[BF hk];omega⟩;rw[h2,LJ hk hv,if_pos ⟨h0,h1⟩,Option.map_map,BF hk]
 congr 1
 funext x
 simp only[Function.comp];rw[Int.mul_add,Int.mul_assoc,Int.add_assoc]
theorem Fl.fails{l:List Sig}{vals:List Int}{k:Nat}{n:Int}(h:Fl l vals k n)(hk:k<l.length)(hv:k<vals.length)(hn:¬(0<=vals[k]/\vals[k]<l[k].size)):mkL l vals=none:=by
 rw[h.1,LJ hk hv,if_neg hn];rfl
end Go.Proofs.YtncjeamdkjcebaaGreatDoor
namespace Go.Proofs.YtncjeamdkjcebaaGreatDoor
open Go.RowKit
def Hg(r:Int×Bool)(w:World)(e:Ending)(w':World):Prop:=e=.returned (.tuple #[.int .i64 r.1,.bool r.2])/\Below w.heap.size w w'
theorem Ry(w:World)(vl vv:Value)(l:List Sig)(vals:List Int)(hl:AD w vl l)(c:Ah w vv vals):
  Calls Tryz.prog 96 #[vl,vv] w (Hg (mkR l vals) w):=by
 have hlx:=hl;obtain⟨ao,ab,b,ap,rfl,hl⟩:=hl;obtain⟨⟨av,cv,bv,ov,rfl,c⟩,an⟩:=c;have hn:=hl.nb;have al:=c.nb
 cases hv:As l
 ·have HR:Hid (mkR l vals=(0,false)):=by show _=_;simp[mkR,hv]
  go_enter Tryz.func96,Tryz.ntmps96
  go_wp2_with fail
  refine(DB _ _ l hlx).mono ?_;rintro e w1 ⟨rfl,hb⟩;rw[hv];go_wp2;go_ret2;exact⟨by rw[HR.out];rfl,hb⟩
 by_cases hlen:vals.length=l.length
 case neg=>
  have HR:Hid (mkR l vals=(0,false)):=by show _=_;simp[mkR,hlen]
  have z:((vals.length:Int) !=l.length)=true:=by simp;omega
  go_enter Tryz.func96,Tryz.ntmps96
  go_wp2_with fail
  refine(DB _ _ l hlx).mono ?_;rintro e w1 ⟨rfl,hb⟩;rw[hv];go_wp2;go_ret2;exact⟨by rw[HR.out];rfl,hb⟩
 have z:((vals.length:Int) !=l.length)=false:=by simp;omega
 have HR:Hid (mkR l vals=(match mkL l vals with|some x=>(x,true)|none=>(0,false))):=by
  show _=_;unfold mkR;rw[hv,decide_eq_true hlen];rfl
 obtain⟨hz,ae,af,-⟩:=AN hv;have HZ:=Ab hz;have HV:=Ab hv;have j:=Ab hlen;clear hz hv hlen
 go_enter Tryz.func96,Tryz.ntmps96
 go_wp2_with fail
 refine(DB _ _ l hlx).mono ?_;rintro e w1 ⟨rfl,hb⟩;rw[HV.out];go_wp2
 go_loopw [4,5,6,7,8] (fun r s n p i wr=>∃(k m:Nat)(nn:Int),i=.int .i64 k/\r=.int .i64 0/\s=.bool false/\n=.int .i64 nn/\p=.int .i64 (An (l.take k))/\k<=l.length/\Hid (Fl l vals k nn)/\wr=w1.drewN m)
  (fun _ _ _ _ i _=>l.length-(intOf i).toNat)
 case atStart=>exact⟨0,0,0,rfl,rfl,rfl,rfl,rfl,by omega,Fl.start l vals,rfl⟩
 case round=>
  obtain⟨k,m,nn,rfl,rfl,rfl,rfl,rfl,hk,HM,rfl⟩:=hrel
  by_cases hlt:k<l.length
  ·have a:k<vals.length:=by rw[j.out];exact hlt
   obtain rfl:=hl.ad (by omega);obtain rfl:=c.ad (by omega);have c2:=Ag hb (hl.nz k hlt);have c3:=Ag hb (c.el k a);unfold ivF at c3;rw[Ae _ _ _ a]at c3;have v:=HZ.out _ (List.getElem_mem hlt);simp only[AP,Bool.and_eq_true,decide_eq_true_eq]at v;obtain⟨aa,u⟩:=v;obtain⟨f,o⟩:=En (l.take k) (fun s hs=>HZ.out s (List.mem_of_mem_take hs));have q:An (l.take k)<=4096:=Int.le_trans o (Jd (by rw[List.length_take];omega))
   have HF:Hid (¬(0<=vals[k]/\vals[k]<l[k].size)->mkR l vals=(0,false)):=fun h=>by rw[HR.out,Fl.fails HM.out hlt a h]
   have HN:Hid (0<=vals[k]->vals[k]<l[k].size->Fl l vals (k+1) (nn+An (l.take k)*vals[k])):=fun h0 h1=>Fl.next HM.out hlt a h0 h1 f
   have y:=Ab (BF hlt);have aj:0<=nn:=HM.out.2.1;have ak:nn<An (l.take k):=HM.out.2.2;clear o;generalize An (l.take k)=pp at*
   rcases(by omega:vals[k]<0\/(0<=vals[k]/\l[k].size<=vals[k])\/(0<=vals[k]/\vals[k]<l[k].size))with hc|⟨hc,hc2⟩|⟨hc,hc2⟩
   ·go_wp2
    go_quiet (fail)
    go_wp2;go_ret2;exact⟨by rw[HF.out (by omega)];rfl,by first|exact AB hb _|exact AB (AB hb _) _⟩
   ·have hd:decide (vals[k]<0)=false:=decide_eq_false (by omega);go_wp2
    go_quiet (fail)
    go_wp2;go_ret2;exact⟨by rw[HF.out (by omega)];rfl,by first|exact AB hb _|exact AB (AB hb _) _⟩
   ·have hd:decide (vals[k]<0)=false:=decide_eq_false (by omega);have ac:decide (l[k].size<=vals[k])=false:=decide_eq_false (by omega);obtain⟨⟨ag,ah⟩,ai⟩:=CL f q hc hc2 u;have am:=Eo f q aa u;have d:=Ab (HN.out hc hc2);go_wp2
    go_quiet (fail)
    go_wp2
    go_roundw
    case rel=>exact⟨k+1,_,_,by go_num,rfl,rfl,rfl,by rw[y.out],by omega,d.out,rfl⟩
    case measure=>simp[intOf];omega
  ·obtain rfl:k=l.length:=by omega
   have hM:=Fl.done HM.out j.out;have d:=Ab hM;clear hM;go_wp2;go_ret2;exact⟨by rw[HR.out,d.out];rfl,AB hb _⟩
end Go.Proofs.YtncjeamdkjcebaaGreatDoor
namespace Go.Proofs.YtncjeamdkjcebaaGreatDoor
def Eu:List Sig->Int->List Int
 |[],_=>[]
 |s::r,a=>a%s.size::Eu r (a/s.size)
theorem Ei(l:List Sig):∀a,(Eu l a).length=l.length:=by
 induction l with
 |nil=>intro a;rfl
 |cons s r ih=>intro a;simp[Eu,ih]
theorem Fu{l:List Sig}(hz:∀s∈l,AP s=true):∀(a:Int)(k:Nat)(h:k<l.length),(Eu l a).getD k 0=a/An (l.take k)%l[k].size:=by
 induction l with
 |nil=>intro a k h;simp at h
 |cons s r ih=>
  intro a k h
  have b:∀s∈r,AP s=true:=fun x hx=>hz x (List.mem_cons_of_mem _ hx)
  have hs:=BU hz s (by simp)
  cases k with
  |zero=>simp[Eu,An]
  |succ k=>
   have:=ih b (a/s.size) k (by simpa using h);simp only[Eu,List.getD_cons_succ,this,List.take_succ_cons,An,List.getElem_cons_succ];rw[FL (by omega)]
/-! Making a letter, of the places that have come. -/
def mF(l:List Sig)(vals:List Int)(pre:List (Fin l.length)):Int:=pre.foldl (fun n(x:Fin l.length)=>n+An (l.take x.1)*vals.getD x.1 0) 0
theorem KJ(l:List Sig)(vals:List Int)(pre:List (Fin l.length))(x:Fin l.length):mF l vals (pre++[x])=mF l vals pre+An (l.take x)*vals.getD x 0:=by simp[mF]
def okV(l:List Sig)(vals:List Int)(x:Nat):Prop:=0<=vals.getD x 0/\vals.getD x 0<(l.getD x Ir).size
theorem Uo{l:List Sig}(hz:∀s∈l,AP s=true)(h6:l.length<=6)(vals:List Int)(pre:List (Fin l.length)):
  (∀x∈pre,okV l vals x)->0<=mF l vals pre/\mF l vals pre<=16384*pre.length:=by
 induction pre using FC with
 |h0=>simp[mF]
 |h1 pre x ih=>
  intro h;obtain⟨h0,h1⟩:=ih (fun y hy=>h y (by simp[hy]));obtain⟨g0,g1⟩:=h x (by simp);have hs:=BU hz _ (List.getElem_mem x.2);obtain⟨a,b⟩:=Gc hz h6 x;rw[Ae _ _ _ x.2]at g1;obtain⟨⟨c,d⟩,-⟩:=CL a b g0 g1 hs.2;rw[KJ,List.length_append,List.length_singleton]
  push_cast
  omega
theorem Se{l:List Sig}(hz:∀s∈l,AP s=true){vals:List Int}(a:vals.length=l.length)(k:Nat)(hk:k<=l.length)(h:∀x,x<k->okV l vals x):
  Fl l vals k (mF l vals ((CT l.length).take k)):=by
 induction k with
 |zero=>exact Fl.start l vals
 |succ k ih=>
  have h1:=ih (by omega) (fun x hx=>h x (by omega));obtain⟨g0,g1⟩:=h k (by omega);rw[Ae _ _ _ (show k<l.length by omega)]at g1;rw[Ae _ _ _ (show k<vals.length by omega)]at g0 g1;have:=h1.next (by omega) (show k<vals.length by omega) g0 g1 (ET (fun s hs=>hz s (List.mem_of_mem_take hs)));rw[CG (show k<l.length by omega),KJ,Ae _ _ _ (show k<vals.length by omega)];exact this
theorem NV{l:List Sig}(hz:∀s∈l,AP s=true){vals:List Int}(a:vals.length=l.length)(h:∀x,x∈CT l.length->okV l vals x):mkL l vals=some (mF l vals (CT l.length)):=by
 have:=Se hz a l.length leR (fun x hx=>h ⟨x,hx⟩ (by simp[CT]));rw[List.take_of_length_le (by rw[Co];exact Nat.le_refl _)]at this;exact this.done a
theorem QL:∀(l:List Sig)(vals:List Int)(n:Int),mkL l vals=some n->∀x,x<l.length->okV l vals x:=by
 intro l
 induction l with
 |nil=>intro vals n _ x hx;simp at hx
 |cons s r ih=>
  intro vals n h x hx
  cases vals with
  |nil=>simp[mkL]at h
  |cons v vs=>
   simp only[mkL]at h
   split at h
   ·rename_i hg
    cases hr:mkL r vs with
    |none=>rw[hr]at h;simp at h
    |some m=>
     cases x with
     |zero=>simpa[okV]using hg
     |succ x=>have:=ih vs m hr x (by simpa using hx);simpa[okV]using this
   ·simp at h
theorem Si{l:List Sig}{vals:List Int}{x:Nat}(hx:x<l.length)(h:¬okV l vals x):mkL l vals=none:=by
 cases hm:mkL l vals with
 |none=>rfl
 |some n=>exact absurd (QL l vals n hm x hx) h
end Go.Proofs.YtncjeamdkjcebaaGreatDoor
namespace Go.Proofs.YtncjeamdkjcebaaGreatDoor
open Go.RowKit Go.Shelf
attribute [local go_sem] Oper.semAt_some
def BY(l:List Sig)(a i:Int):Int:=
 if 0<=a/\a<Ay l/\0<=i/\i<l.length then a/An (l.take i.toNat)%(l.getD i.toNat Ir).size else 0
theorem PH(w:World)(vl:Value)(l:List Sig)(a i:Int)(ha:I64 a)(hi:I64 i)(hK:B7 w)(hl:AD w vl l)
  (k:¬(0<=a/\a<Ay l/\0<=i/\i<l.length)):
  Calls Tryz.prog 29 #[vl,.int .i64 a,.int .i64 i] w (Av (.int .i64 0) w):=by
 have hL:Hid (∀W,Below w.heap.size w W->Calls Tryz.prog 67 #[vl] W (Av (.int .i64 (Ay l)) W)):=fun W hW=>EH W vl l (hK.below hW) (hl.below hW)
 obtain⟨ao,d,b,m,rfl,hl⟩:=hl;have hn:=hl.nb;unfold I64 at ha hi;clear hl hK;generalize Ay l=x at*
 rcases(by omega:a<0\/(0<=a/\x<=a)\/(0<=a/\a<x/\i<0)\/(0<=a/\a<x/\0<=i/\(l.length:Int)<=i))with h0|⟨h0,h1⟩|⟨h0,h1,h2⟩|⟨h0,h1,h2,h3⟩
 all_goals
  first
  |have d0:decide (a<0)=false:=decide_eq_false (by omega)
  |have d0:decide (a<0)=true:=decide_eq_true (by omega)
  |skip
  first
  |have d1:decide (x<=a)=false:=decide_eq_false (by omega)
  |have d1:decide (x<=a)=true:=decide_eq_true (by omega)
  |skip
  first
  |have d2:decide (i<0)=false:=decide_eq_false (by omega)
  |have d2:decide (i<0)=true:=decide_eq_true (by omega)
  |skip
  go_enter Tryz.func29,Tryz.ntmps29
  go_upto_region 1 with(fail)
  have hV:=Fm.mk' w (.slice ao l.length d) a i;have f:Below w.heap.size w ((((w.alloc (.cells #[.slice ao l.length d] 22)).alloc (.cells #[.int .i64 a] 3)).alloc (.cells #[.int .i64 i] 3)).alloc (.cells #[.int .i64 0] 3)):=(by repeat(first|exact Ad|assumption|apply AE|apply AB));generalize((((w.alloc (.cells #[.slice ao l.length d] 22)).alloc (.cells #[.int .i64 a] 3)).alloc (.cells #[.int .i64 i] 3)).alloc (.cells #[.int .i64 0] 3))=w4 at*
  go_cut [26] (fun v wx=>v=.bool true/\Below w4.heap.size w4 wx)
  case first=>
   have q0:=hV.b0.cell;have q1:=hV.b1.cell;have q2:=hV.b2.cell
   first
   |(have _t:0<=a:=h0
     go_region_with (go_at_call 67;refine(hL.out _ (by repeat(first|exact Ad|assumption|(refine AE ?_ _)|(refine AB ?_ _)|(refine Below.drew ?_)))).mono ?_;rintro e W3 ⟨rfl,j⟩;have c:Below w4.heap.size w4 W3:=(by first|exact j|exact(Below.drew Ad).trans j|exact(Below.drew (Below.drew Ad)).trans j);have p0:=(AQ c hV.b0).cell;have p1:=(AQ c hV.b1).cell;have p2:=(AQ c hV.b2).cell)
     all_goals go_wp2_with fail
     all_goals
      go_meet
      case rel=>exact⟨rfl,by first|assumption|exact(by assumption:Below _ _ _).trans (Below.drew Ad)⟩)
   |(go_quiet (fail)
     go_wp2_with fail
     go_meet
     case rel=>exact⟨rfl,Aj _ _ _⟩)
  case rest=>
   obtain⟨rfl,c⟩:=hcut;have hW:=hV.below c;have q3:=hW.b3.cell;have f3:=hW.b3.frozen;have hB:=f.trans (c.mono f.size);clear hV f c;go_wp2;have r0:=(hW.b3.set (.int .i64 0)).cell;refine bodyPost_ret (v:=.int .i64 0) (by simp[results,Tryz.results29,go_sem,r0]) rfl ?_;exact⟨rfl,hB.setCell (p:=⟨w.heap.size+1+1+1,0,none⟩) (by simp;omega) _⟩
theorem Mc(w:World)(vs:Value)(a i:Int){α:Type}(f:α->Int):Own (fun(s:α)W=>Fm w vs a i (f s) W):=fun s X Y row h hg hr=>
 ⟨boxed_own _ _ (fun(_:Unit)=>vs) () X Y row h.b0 hg hr,boxed_own _ _ (fun(_:Unit)=>Value.int .i64 a) () X Y row h.b1 hg hr,boxed_own _ _ (fun(_:Unit)=>Value.int .i64 i) () X Y row h.b2 hg hr,boxed_own _ _ (fun s=>Value.int .i64 (f s)) s X Y row h.b3 hg hr⟩
attribute [local go_sem] Oper.semAt_some
theorem Ol(w:World)(vl:Value)(l:List Sig)(a:Int)(j:Nat)(ha:I64 a)(hK:B7 w)(hl:AD w vl l)
  (h0:0<=a) (h1:a<Ay l) (hj:j<l.length):
  Calls Tryz.prog 29 #[vl,.int .i64 a,.int .i64 (j:Int)] w (Av (.int .i64 (a/An (l.take j)%l[j].size)) w):=by
 have hL:Hid (∀W,Below w.heap.size w W->Calls Tryz.prog 67 #[vl] W (Av (.int .i64 (Ay l)) W)):=fun W hW=>EH W vl l (hK.below hW) (hl.below hW)
 have hv:=EW h0 h1;obtain⟨hz,af,s,-⟩:=AN hv;obtain⟨ao,cap,b,off,rfl,hl⟩:=hl;have hn:=hl.nb;unfold I64 at ha;have hb:b<w.heap.size:=World.block_lt_of_cell? w _ (hl.nn 0 (by omega))
 have ag:(l.length:Int)<=6:=by omega
 have HV:=Ab hv;have HZ:=Ab hz;clear hz hv hK;generalize Ay l=x at*;have d0:decide (a<0)=false:=decide_eq_false (by omega);have d1:decide (x<=a)=false:=decide_eq_false (by omega);have d2:decide ((j:Int)<0)=false:=decide_eq_false (by omega);have d3:decide (l.length<=j)=false:=decide_eq_false (by omega);have d4:decide ((l.length:Int)<=(j:Int))=false:=decide_eq_false (by omega)
 have u:Tryz.prog.follows .mixedOrders=true:=by kernel_rfl
 refine callsIn_wide (n:=5)|>.1 ?_;refine Bz Tryz.func29 rfl trivial ?_;simp only[Tryz.ntmps29,List.size_toArray,List.length_cons,List.length_nil,Nat.reduceAdd,Nat.reduceSub,Array.replicate_succ,Array.replicate_zero,List.push_toArray,List.append_toArray,List.nil_append,List.cons_append]
 gi_upto_region 1 with(fail)
 have hV:=Fm.mk' w (.slice ao l.length cap) a (j:Int);have i:Below w.heap.size w ((((w.alloc (.cells #[.slice ao l.length cap] 22)).alloc (.cells #[.int .i64 a] 3)).alloc (.cells #[.int .i64 (j:Int)] 3)).alloc (.cells #[.int .i64 0] 3)):=(by repeat(first|exact Ad|assumption|apply AE|apply AB));generalize((((w.alloc (.cells #[.slice ao l.length cap] 22)).alloc (.cells #[.int .i64 a] 3)).alloc (.cells #[.int .i64 (j:Int)] 3)).alloc (.cells #[.int .i64 0] 3))=w4 at*
 gi_cut [26]from 43 (fun v wx=>v=.bool false/\Below w4.heap.size w4 wx)
 case first=>
  have q0:=hV.b0.cell;have q1:=hV.b1.cell;have q2:=hV.b2.cell;refine wpIn_wide.2 ?_
  go_region_with (go_at_call 67;refine(hL.out _ (by repeat(first|exact Ad|assumption|(refine AE ?_ _)|(refine AB ?_ _)|(refine Below.drew ?_)))).mono ?_;rintro e W3 ⟨rfl,k⟩;have d:Below w4.heap.size w4 W3:=(by first|exact k|exact(Below.drew Ad).trans k|exact(Below.drew (Below.drew Ad)).trans k);have p0:=(AQ d hV.b0).cell;have p1:=(AQ d hV.b1).cell;have p2:=(AQ d hV.b2).cell)
  all_goals go_wp2_with fail
  all_goals
   go_meet
   case rel=>exact⟨rfl,by first|assumption|exact(by assumption:Below _ _ _).trans (Below.drew Ad)⟩
 case rest=>
  obtain⟨rfl,d⟩:=hcut;have hW:=hV.below d;have hB:=i.trans (d.mono i.size);clear hV i d;have q0:=hW.b0.cell
  gi_wp2_with fail
  refine⟨trivial, ?_⟩;refine(callsIn_wide.2 (DJ _ _ _ _)).mono ?_;rintro e w2 ⟨rfl,f⟩
  gi_wp2_with fail
  rw[<-f]
  have az:w.heap.size+4<=wc.heap.size:=by
   have:=hW.b3.lt;omega
  have hB2:Below w.heap.size w w2:=by rw[f];exact hB.trans (((Below.refl _ wc).alloc leR _).mono hB.size)
  have o:Fm w (.slice ao l.length cap) a (j:Int) 0 w2:=by rw[f];exact hW.below (Ao _)
  have ae:wc.heap.size+1=w2.heap.size:=by rw[f];simp
  have e4:w2.cell? ⟨wc.heap.size,0,none⟩=some (.slice ao l.length cap):=by rw[f];exact FY _ _ _
  clear f hW hB q0;generalize wc.heap.size=Bs at*
  refine wpIn_rangeFunc_ownG rfl (by omega) (gf:=108) (lb:=#[.pointer (some ⟨Bs,0,none⟩)]) rfl trivial (enters_of Tryz.func108 (by kernel_rfl) rfl)
   (Ci Fence.wide (5-1) trivial rfl (by omega) Bs w.heap.size b off cap ao l HV.out hb w2 (by omega) (by omega) e4 (hl.below hB2)) KpW.trans (KpW.put (by omega) (by omega)) Ad (fun _=>rfl)
   (fun pre W=>(Fm w (.slice ao l.length cap) a (j:Int) 0 W/\(∀x∈pre,(x:Nat)≠j))/\Below w.heap.size w W)
   (fun c _ W=>(Fm w (.slice ao l.length cap) a (j:Int) (a/An (l.take j)%l[j].size) W/\c=.ret)/\Below w.heap.size w W)
   (OwnFrom.and (OwnFrom.and (Own.from (Mc w _ a (j:Int) (fun _=>0)) _) (ownFrom_pure _ _)) (ownFrom_below leR (by omega)))
   (fun c=>OwnFrom.and (OwnFrom.and (Own.from (Mc w _ a (j:Int) (fun _=>a/An (l.take j)%l[j].size)) _) (ownFrom_pure _ _)) (ownFrom_below leR (by omega)))
   ⟨⟨o,by simp⟩,hB2⟩
   ?a1 ?assign ?body ?done ?stop
  case assign=>
   intro lY x W K hK;unfold Jp
   gi_wp2
   exact hK
  case body=>
   rintro lY pre x W ⟨⟨hX,hp⟩,hB⟩ ak;obtain⟨x,hx⟩:=x
   have hd:1<=5-1-1:=by omega
   have q0:=hX.b0.cell;have q1:=hX.b1.cell;have q2:=hX.b2.cell;have q3:=hX.b3.cell;have f3:=hX.b3.frozen
   by_cases hxj:x=j
   ·obtain rfl:x=j:=hxj;have m:=hl.below hB;have n2:=m.nz x hx;obtain rfl:=hl.ad (by omega);have ac:=CX HZ.out _ (List.getElem_mem hx);obtain⟨ap,aq⟩:=ac;obtain⟨ai,aj⟩:=DR HZ.out s x;have ab:0<=a/An (l.take x):=Int.ediv_nonneg h0 (by omega);have al:a/An (l.take x)<=a:=Int.ediv_le_self _ h0;have am:=Int.emod_nonneg (a/An (l.take x)) (show l[x].size≠0 by omega);have an:=Int.emod_lt_of_pos (a/An (l.take x)) (show 0<l[x].size by omega);have ar:a.tdiv (An (l.take x))=a/An (l.take x):=Int.tdiv_eq_ediv_of_nonneg h0;have au:(a/An (l.take x)).tmod l[x].size=a/An (l.take x)%l[x].size:=Int.tmod_eq_emod_of_nonneg ab;have av:IntKind.i64.wrap (a/An (l.take x))=a/An (l.take x):=IntWalk.i64_in _ ⟨by omega,by omega⟩;have aw:IntKind.i64.wrap (a/An (l.take x)%l[x].size)=a/An (l.take x)%l[x].size:=IntWalk.i64_in _ ⟨by omega,by omega⟩
    have ax:¬An (l.take x)=0:=by omega
    have ay:¬l[x].size=0:=by omega
    have HX:=Ab hX;clear m hX hp;generalize An (l.take x)=pw at*;generalize l[x].size=z at*;generalize a/pw%z=rm at*;generalize a/pw=qt at*
    gi_wp2
    refine Bi 9 u (by kernel_rfl) (by kernel_rfl) ?_;simp only[List.take_succ_cons,List.take_zero,List.drop_succ_cons,List.drop_zero]
    repeat still_step
    refine wpStill_nil ?_
    gi_wp2
    exact⟨((KeepsOthers.setCell _ _ _).from _).trans ((KeepsOthers.drew _).from _),⟨(HX.out.set rm).drew,rfl⟩,(hB.setCell (p:=⟨w.heap.size+1+1+1,0,none⟩) (by simp;omega) _).trans (Below.drew Ad)⟩
   ·have ah:(((x:Nat):Int)==((j:Nat):Int))=false:=by simp;omega
    gi_wp2
    exact⟨KeepsFrom.refl _ _,KpW.refl _ _ _,⟨hX,fun y hy=>(List.mem_append.1 hy).elim (hp y) (fun e=>by simp at e;subst e;exact hxj)⟩,hB⟩
  case done=>
   rintro D ys W hD rfl ⟨⟨hX,aa⟩,hB⟩ hK;exact absurd rfl (aa ⟨j,hj⟩ (by simp[CT]))
  case stop=>
   rintro D c pre W hD _ ⟨⟨hX,rfl⟩,hB⟩ hK;have q:=cell_kept hX.b3.cell (grownBy_putObj' _ D (.deferred none)) (fun r e=>by cases e;exact⟨_,hK,rfl⟩)
   gi_wp2
   refine⟨by simp,.inl ⟨_,_,rfl,run_takeDeferred hK, ?_⟩⟩;refine⟨_,by simp[results,Tryz.results29,go_sem,q],rfl,hB.trans (belowK_b (w:=w) leR W D _ _ (by omega) hK rfl rfl)⟩
attribute [local go_sem] Oper.semAt_some
theorem RD(w:World)(vl:Value)(l:List Sig)(a i:Int)(ha:I64 a)(hi:I64 i)(hK:B7 w)(hl:AD w vl l):
  Calls Tryz.prog 29 #[vl,.int .i64 a,.int .i64 i] w (Av (.int .i64 (BY l a i)) w):=by
 by_cases h:0<=a/\a<Ay l/\0<=i/\i<l.length
 ·obtain⟨h0,h1,h2,h3⟩:=h;obtain⟨j,rfl⟩:∃j:Nat,i=j:=⟨i.toNat,by omega⟩;have h4:=Ol w vl l a j ha hK hl h0 h1 (by omega);unfold BY;rw[if_pos ⟨h0,h1,h2,h3⟩,Int.toNat_natCast,Ae _ _ _ (show j<l.length by omega)];exact h4
 ·have h4:=PH w vl l a i ha hi hK hl h;unfold BY;rw[if_neg h];exact h4
theorem MkX.res{w W:World}{vs vv:Value}{B n r:Int}{b4:Nat}{q:Bool}(h:MkX w vs vv B n r b4 q W)(hb:w.heap.size+4<=b4)(m:Int):MkX w vs vv B n m b4 q (W.setCell ⟨w.heap.size+1+1,0,none⟩ (.int .i64 m)):=
 ⟨h.b0.other (by omega) _,h.b1.other (by omega) _,h.b2.set _,h.b3.other (by omega) _,h.b5.other (by omega) _⟩
theorem MkX.ok{w W:World}{vs vv:Value}{B n r:Int}{b4:Nat}{q:Bool}(h:MkX w vs vv B n r b4 q W)(hb:w.heap.size+4<=b4)(m:Bool):MkX w vs vv B n r b4 m (W.setCell ⟨w.heap.size+1+1+1,0,none⟩ (.bool m)):=
 ⟨h.b0.other (by omega) _,h.b1.other (by omega) _,h.b2.other (by omega) _,h.b3.set _,h.b5.other (by omega) _⟩
theorem Sj(w:World)(vs vv:Value)(B:Int){α:Type}(f:α->Int)(r:Int)(b4:Nat)(q:Bool):Own (fun(s:α)W=>MkX w vs vv B (f s) r b4 q W):=fun s X Y row h hg hr=>
 ⟨boxed_own _ _ (fun(_:Unit)=>vs) () X Y row h.b0 hg hr,boxed_own _ _ (fun(_:Unit)=>vv) () X Y row h.b1 hg hr,boxed_own _ _ (fun(_:Unit)=>Value.int .i64 r) () X Y row h.b2 hg hr,boxed_own _ _ (fun(_:Unit)=>Value.bool q) () X Y row h.b3 hg hr,boxed_own _ _ (fun s=>Value.int .i64 (f s)) s X Y row h.b5 hg hr⟩
theorem MkY.res{w W:World}{vs vv:Value}{r:Int}{q:Bool}(h:MkY w vs vv r q W)(m:Int)(p:Bool):
  MkY w vs vv m p ((W.setCell ⟨w.heap.size+1+1,0,none⟩ (.int .i64 m)).setCell ⟨w.heap.size+1+1+1,0,none⟩ (.bool p)):=
 ⟨(h.b0.other (by omega) _).other (by omega) _,(h.b1.other (by omega) _).other (by omega) _,(h.b2.set _).other (by omega) _,(h.b3.other (by omega) _).set _⟩
theorem Rr(w:World)(vl vv:Value)(l:List Sig)(vals:List Int)(hK:B7 w)(hl:AD w vl l)(d:Ah w vv vals)
  (j:¬(As l=true/\vals.length=l.length)):
  Calls Tryz.prog 94 #[vl,vv] w (Hg (0,false) w):=by
 have hV:Hid (∀W,Below w.heap.size w W->Calls Tryz.prog 41 #[vl] W (DZ (.bool (As l)) W)):=fun W hW=>CC W _ l (hK.below hW) (hl.below hW)
 obtain⟨ao,c,b,q,rfl,hl⟩:=hl;obtain⟨⟨av,cv,bv,ov,rfl,d⟩,m⟩:=d;have hn:=hl.nb;have o:=d.nb;clear hl d m hK
 cases hv:As l
 all_goals
  first
  |(have n:((vals.length:Int) !=l.length)=true:=by(simp;intro e;exact j ⟨hv,by omega⟩))
  |skip
  have HV:=Ab hv;clear hv j
  go_enter Tryz.func94,Tryz.ntmps94
  go_wp2_with fail
  refine(hV.out _ (by repeat(first|exact Ad|assumption|apply AE|apply AB))).mono ?_;rintro e w1 ⟨rfl,n1,f⟩;have hY:=MkY.mk' w (.slice ao l.length c) (.slice av vals.length cv);have i:Below w.heap.size w ((((w.alloc (.cells #[.slice ao l.length c] 22)).alloc (.cells #[.slice av vals.length cv] 26)).alloc (.cells #[.int .i64 0] 3)).alloc (.cells #[.bool false] 4)):=(by repeat(first|exact Ad|assumption|apply AE|apply AB));generalize((((w.alloc (.cells #[.slice ao l.length c] 22)).alloc (.cells #[.slice av vals.length cv] 26)).alloc (.cells #[.int .i64 0] 3)).alloc (.cells #[.bool false] 4))=w4 at*
  have a:MkY w (.slice ao l.length c) (.slice av vals.length cv) 0 false w1:=by rw[f];exact hY.below (Aj _ _ _)
  have k:Below w.heap.size w w1:=by rw[f];exact AB i _
  clear f hY i;rw[HV.out];have q0:=a.b0.cell;have q1:=a.b1.cell;have q2:=a.b2.cell;have f2:=a.b2.frozen;have q3:=a.b3.cell;have f3:=a.b3.frozen;go_wp2;have hR:=a.res 0 false;have r2:=hR.b2.cell;have r3:=hR.b3.cell;refine bodyPost_ret (v:=.tuple #[.int .i64 0,.bool false]) (by simp[results,Tryz.results94,go_sem,r2,r3]) rfl ?_;exact⟨rfl,(k.setCell (p:=⟨w.heap.size+1+1,0,none⟩) (by simp;omega) _).setCell (p:=⟨w.heap.size+1+1+1,0,none⟩) (by simp;omega) _⟩
attribute [local go_sem] Oper.semAt_some
theorem Px(w:World)(vl vv:Value)(l:List Sig)(vals:List Int)(hK:B7 w)(hl:AD w vl l)(f:Ah w vv vals)
  (hv:As l=true) (s:vals.length=l.length):
  Calls Tryz.prog 94 #[vl,vv] w (Hg (match mkL l vals with|some x=>(x,true)|none=>(0,false)) w):=by
 have hV:Hid (∀W,Below w.heap.size w W->Calls Tryz.prog 41 #[vl] W (DZ (.bool true) W)):=fun W hW=>by
  have:=CC W _ l (hK.below hW) (hl.below hW)
  rwa [hv]at this
 obtain⟨R,HR⟩:∃R:Int×Bool,Hid ((match mkL l vals with|some x=>(x,true)|none=>(0,false))=R):=⟨_,rfl⟩;rw[HR.out];obtain⟨hz,a5,ag,-⟩:=AN hv;obtain⟨ao,cap,b,off,rfl,hl⟩:=hl;obtain⟨⟨av,cv,bv,ov,rfl,f⟩,aj⟩:=f;have hn:=hl.nb;have bb:=f.nb;have hb:b<w.heap.size:=World.block_lt_of_cell? w _ (hl.nn 0 (by omega));have a4:bv<w.heap.size:=World.block_lt_of_cell? w _ (f.el 0 (by omega))
 have ba:((vals.length:Int) !=l.length)=false:=by simp;omega
 have aa:=Ab s;have HV:=Ab hv;have HZ:=Ab hz;have a2:=Ab aj;clear hz hv hK s aj
 have j:Tryz.prog.follows .mixedOrders=true:=by kernel_rfl
 refine callsIn_wide (n:=5)|>.1 ?_;refine Bz Tryz.func94 rfl trivial ?_;simp only[Tryz.ntmps94,List.size_toArray,List.length_cons,List.length_nil,Nat.reduceAdd,Nat.reduceSub,Array.replicate_succ,Array.replicate_zero,List.push_toArray,List.append_toArray,List.nil_append,List.cons_append]
 gi_wp2_with fail
 refine⟨trivial, ?_⟩;refine(callsIn_wide.2 (hV.out _ (by repeat(first|exact Ad|assumption|apply AE|apply AB)))).mono ?_;rintro e w1 ⟨rfl,n1,k⟩;have hY:=MkY.mk' w (.slice ao l.length cap) (.slice av vals.length cv);have ac:Below w.heap.size w ((((w.alloc (.cells #[.slice ao l.length cap] 22)).alloc (.cells #[.slice av vals.length cv] 26)).alloc (.cells #[.int .i64 0] 3)).alloc (.cells #[.bool false] 4)):=(by repeat(first|exact Ad|assumption|apply AE|apply AB));generalize((((w.alloc (.cells #[.slice ao l.length cap] 22)).alloc (.cells #[.slice av vals.length cv] 26)).alloc (.cells #[.int .i64 0] 3)).alloc (.cells #[.bool false] 4))=w4 at*
 have a:MkY w (.slice ao l.length cap) (.slice av vals.length cv) 0 false w1:=by rw[k];exact hY.below (Aj _ _ _)
 have u:Below w.heap.size w w1:=by rw[k];exact AB ac _
 clear k hY ac hV;have q0:=a.b0.cell;have q1:=a.b1.cell
 have ay:w.heap.size+4<=w1.heap.size:=by have:=a.b3.lt;omega
 have az:w.heap.size<w1.heap.size:=by omega
 have ai:¬w.heap.size=w1.heap.size:=by omega
 gi_wp2_with fail
 refine⟨trivial, ?_⟩;refine(callsIn_wide.2 (DJ _ _ _ _)).mono ?_;rintro e w2 ⟨rfl,d⟩
 gi_wp2_with fail
 rw[<-d]
 have hB2:Below w.heap.size w w2:=by rw[d];exact u.trans ((((Below.refl _ w1).alloc leR _).alloc (by simp) _).mono u.size)
 have aq:MkX w (.slice ao l.length cap) (.slice av vals.length cv) 0 0 0 w1.heap.size false w2:=by
  rw[d];exact⟨(a.b0.alloc _).alloc _,(a.b1.alloc _).alloc _,(a.b2.alloc _).alloc _,(a.b3.alloc _).alloc _,(Boxed.new w1 3 (.int .i64 0)).alloc _⟩
 have a3:w1.heap.size+1<w2.heap.size:=by rw[d];simp
 have e4:w2.cell? ⟨w1.heap.size+1,0,none⟩=some (.slice ao l.length cap):=by
  have:=FY (w1.alloc (.cells #[.int .i64 0] 3)) (.slice ao l.length cap) 22;rw[World.size_alloc]at this;rw[d];exact this
 clear d a u q0 q1 az ai;generalize w1.heap.size=b4 at*
 refine wpIn_rangeFunc_ownG rfl (by omega) (gf:=108) (lb:=#[.pointer (some ⟨b4+1,0,none⟩)]) rfl trivial (enters_of Tryz.func108 (by kernel_rfl) rfl)
  (Ci Fence.wide (5-1) trivial rfl (by omega) (b4+1) w.heap.size b off cap ao l HV.out hb w2 (by omega) (by omega) e4 (hl.below hB2)) KpW.trans (KpW.put (by omega) (by omega)) Ad (fun _=>rfl)
  (fun pre W=>(MkX w (.slice ao l.length cap) (.slice av vals.length cv) 0 (mF l vals pre) 0 b4 false W/\(∀x∈pre,okV l vals x))/\Below w.heap.size w W)
  (fun c _ W=>(MkY w (.slice ao l.length cap) (.slice av vals.length cv) 0 false W/\(c=.ret/\mkL l vals=none))/\Below w.heap.size w W)
  (OwnFrom.and (OwnFrom.and (Own.from (Sj w _ _ 0 (fun pre=>mF l vals pre) 0 b4 false) _) (ownFrom_pure _ _)) (ownFrom_below leR (by omega)))
  (fun c=>OwnFrom.and (OwnFrom.and (Own.from (fun _ X Y row h hg hr=>⟨boxed_own _ _ (fun(_:Unit)=>_) () X Y row h.b0 hg hr,boxed_own _ _ (fun(_:Unit)=>_) () X Y row h.b1 hg hr,boxed_own _ _ (fun(_:Unit)=>Value.int .i64 0) () X Y row h.b2 hg hr,boxed_own _ _ (fun(_:Unit)=>Value.bool false) () X Y row h.b3 hg hr⟩) _) (ownFrom_pure _ _)) (ownFrom_below leR (by omega)))
  ⟨⟨aq,by simp⟩,hB2⟩
  ?a1 ?assign ?body ?done ?stop
 case assign=>
  intro lY x W K hK;unfold Jp
  gi_wp2
  exact hK
 case body=>
  rintro lY pre x W ⟨⟨hX,hp⟩,hB⟩ bc;obtain⟨x,hx⟩:=x
  have hd:1<=5-1-1:=by omega
  have q0:=hX.b0.cell;have q1:=hX.b1.cell;have q2:=hX.b2.cell;have f2:=hX.b2.frozen;have q3:=hX.b3.cell;have f3:=hX.b3.frozen;have q5:=hX.b5.cell;have f5:=hX.b5.frozen;have ah:=hl.below hB;have n2:=ah.nz x hx
  have o:x<vals.length:=by rw[aa.out];exact hx
  have c3:=Ag hB (f.el x o);unfold ivF at c3;rw[Ae _ _ _ o]at c3;obtain rfl:=hl.ad (by omega);obtain rfl:=f.ad (by omega);obtain⟨bd,ax⟩:=CX HZ.out _ (List.getElem_mem hx);obtain⟨au,aw⟩:=DR HZ.out ag x;obtain⟨a6,a7⟩:=Uo HZ.out ag vals pre hp
  have ab:Hid (0<=vals[x]/\vals[x]<l[x].size↔okV l vals x):=by
   show _↔_;unfold okV;rw[Ae _ _ _ o,Ae _ _ _ hx]
  have an:Hid (mF l vals (pre++[⟨x,hx⟩])=mF l vals pre+An (l.take x)*vals[x]):=by
   show _=_;rw[KJ,Ae _ _ _ o]
  have am:=Ab hp;have HX:=Ab hX
  have a0:(pre.length:Int)<=5:=by omega
  have q:Hid (¬(0<=vals[x]/\vals[x]<l[x].size)->mkL l vals=none):=fun h=>Si hx (fun h2=>h (ab.out.2 h2))
  have ak:Hid (0<=vals[x]->vals[x]<l[x].size->(0<=An (l.take x)*vals[x]/\An (l.take x)*vals[x]<=16384)):=fun h0 h1=>(CL au aw h0 h1 ax).1
  clear ah hX hp;generalize An (l.take x)=pw at*;generalize mF l vals pre=m at*;generalize l[x].size=z at*;generalize vals[x]=v at*
  rcases(by omega:v<0\/(0<=v/\z<=v)\/(0<=v/\v<z))with hc|⟨hc,hc2⟩|⟨hc,hc2⟩
  ·have af:decide (v<0)=true:=decide_eq_true hc
   gi_wp2
   refine BX j (by kernel_rfl) (by kernel_rfl) ?_
   ((repeat(go_big_quiet_step (fail)));refine wpQuiet_nil ?_;rintro _ ⟨nq,rfl⟩)
   gi_wp2
   have hY:MkY w (.slice (some ⟨b,off,none⟩) l.length cap) (.slice (some ⟨bv,ov,none⟩) vals.length cv) 0 false W:=⟨HX.out.b0,HX.out.b1,HX.out.b2,HX.out.b3⟩;exact⟨(DQ _ _ _).trans ((Ea _ _ _ _).trans (Ea _ _ _ _)),⟨(hY.drewN _).res 0 false,rfl,q.out (by omega)⟩,((hB.trans (Aj _ _ _)).setCell (p:=⟨w.heap.size+1+1,0,none⟩) (by simp;omega) _).setCell (p:=⟨w.heap.size+1+1+1,0,none⟩) (by simp;omega) _⟩
  ·have af:decide (v<0)=false:=decide_eq_false (by omega);have ar:decide (z<=v)=true:=decide_eq_true hc2
   gi_wp2
   refine BX j (by kernel_rfl) (by kernel_rfl) ?_
   ((repeat(go_big_quiet_step (fail)));refine wpQuiet_nil ?_;rintro _ ⟨nq,rfl⟩)
   gi_wp2
   have hY:MkY w (.slice (some ⟨b,off,none⟩) l.length cap) (.slice (some ⟨bv,ov,none⟩) vals.length cv) 0 false W:=⟨HX.out.b0,HX.out.b1,HX.out.b2,HX.out.b3⟩;exact⟨(DQ _ _ _).trans ((Ea _ _ _ _).trans (Ea _ _ _ _)),⟨(hY.drewN _).res 0 false,rfl,q.out (by omega)⟩,((hB.trans (Aj _ _ _)).setCell (p:=⟨w.heap.size+1+1,0,none⟩) (by simp;omega) _).setCell (p:=⟨w.heap.size+1+1+1,0,none⟩) (by simp;omega) _⟩
  ·have af:decide (v<0)=false:=decide_eq_false (by omega);have ar:decide (z<=v)=false:=decide_eq_false (by omega);obtain⟨a8,a9⟩:=ak.out hc hc2
   have k:IntKind.i64.wrap (v*pw)=pw*v:=by rw[Int.mul_comm v pw];exact IntWalk.i64_in _ ⟨by omega,by omega⟩
   have d:IntKind.i64.wrap (m+pw*v)=m+pw*v:=IntWalk.i64_in _ ⟨by omega,by omega⟩
   have al:Hid (∀y:Fin l.length,y∈pre++[⟨x,hx⟩]->okV l vals y):=fun y hy=>(List.mem_append.1 hy).elim (am.out y) (fun e=>by simp at e;subst e;exact ab.out.1 ⟨hc,hc2⟩)
   generalize pw*v=pv at*
   gi_wp2
   refine BX j (by kernel_rfl) (by kernel_rfl) ?_
   ((repeat(go_big_quiet_step (fail)));refine wpQuiet_nil ?_;rintro _ ⟨nq,rfl⟩)
   gi_wp2
   refine Bi 8 j (by kernel_rfl) (by kernel_rfl) ?_;simp only[List.take_succ_cons,List.take_zero,List.drop_succ_cons,List.drop_zero]
   repeat still_step
   refine wpStill_nil ?_
   gi_wp2
   have ae:Below w.heap.size W (((W.drewN nq).drew).setCell ⟨b4,0,none⟩ (.int .i64 (m+pv))):=((Aj _ _ _).trans (Below.drew Ad)).setCell (p:=⟨b4,0,none⟩) (by simp;omega) _
   exact⟨(DQ _ _ _).trans (((KeepsOthers.drew _).from _).trans (Ea _ _ _ _)),⟨ae,by
    show(((W.drewN nq).drew).setCell ⟨b4,0,none⟩ (.int .i64 (m+pv))).heap[b4+1]? =_
    rw[heap_setCell_other _ ⟨b4,0,none⟩ (b4+1) _ (by simp)];rfl⟩,⟨by rw[an.out];exact((HX.out.drewN nq).drew).letter ay _,al.out⟩,hB.trans ae⟩
 case done=>
  rintro D ys W hD rfl ⟨⟨hX,hp⟩,hB⟩ hK;have hm:=NV HZ.out aa.out hp;have hr:=HR.out;rw[hm]at hr;subst hr;have q5:=hX.b5.cell;have q2:=hX.b2.cell;have f2:=hX.b2.frozen;have q3:=hX.b3.cell;have f3:=hX.b3.frozen;have HX:=Ab hX;clear hX hm hp HR;generalize mF l vals (CT l.length)=m at*
  gi_wp2
  have hY:MkY w (.slice ao l.length cap) (.slice av vals.length cv) 0 false W:=⟨HX.out.b0,HX.out.b1,HX.out.b2,HX.out.b3⟩;have hR:=hY.res m true;have i:=(KeepsOthers.setCell (W.setCell ⟨w.heap.size+1+1,0,none⟩ (.int .i64 m)) ⟨w.heap.size+1+1+1,0,none⟩ (.bool true)).same D _ ((KeepsOthers.setCell W ⟨w.heap.size+1+1,0,none⟩ (.int .i64 m)).same D _ hK rfl) rfl;have r2:=cell_kept hR.b2.cell (grownBy_putObj' _ D (.deferred none)) (fun r e=>by cases e;exact⟨_,i,rfl⟩);have r3:=cell_kept hR.b3.cell (grownBy_putObj' _ D (.deferred none)) (fun r e=>by cases e;exact⟨_,i,rfl⟩);have ap:Below w.heap.size w ((W.setCell ⟨w.heap.size+1+1,0,none⟩ (.int .i64 m)).setCell ⟨w.heap.size+1+1+1,0,none⟩ (.bool true)):=(hB.setCell (p:=⟨w.heap.size+1+1,0,none⟩) (by simp;omega) _).setCell (p:=⟨w.heap.size+1+1+1,0,none⟩) (by simp;omega) _;refine⟨by simp,.inl ⟨_,_,rfl,run_takeDeferred i, ?_⟩⟩;refine⟨.tuple #[.int .i64 m,.bool true],by simp[results,Tryz.results94,go_sem,r2,r3],rfl,ap.trans (belowK_b (w:=w) leR _ D _ _ (by omega) i rfl rfl)⟩
 case stop=>
  rintro D c pre W hD _ ⟨⟨hY,rfl,hm⟩,hB⟩ hK;have hr:=HR.out;rw[hm]at hr;subst hr;have r2:=cell_kept hY.b2.cell (grownBy_putObj' _ D (.deferred none)) (fun r e=>by cases e;exact⟨_,hK,rfl⟩);have r3:=cell_kept hY.b3.cell (grownBy_putObj' _ D (.deferred none)) (fun r e=>by cases e;exact⟨_,hK,rfl⟩)
  gi_wp2
  refine⟨by simp,.inl ⟨_,_,rfl,run_takeDeferred hK, ?_⟩⟩;refine⟨.tuple #[.int .i64 0,.bool false],by simp[results,Tryz.results94,go_sem,r2,r3],rfl,hB.trans (belowK_b (w:=w) leR W D _ _ (by omega) hK rfl rfl)⟩
theorem S5(w:World)(vl vv:Value)(l:List Sig)(vals:List Int)(hK:B7 w)(hl:AD w vl l)(a:Ah w vv vals):
  Calls Tryz.prog 94 #[vl,vv] w (Hg (mkR l vals) w):=by
 by_cases h:As l=true/\vals.length=l.length
 ·have:=Px w vl vv l vals hK hl a h.1 h.2;unfold mkR;rw[h.1,decide_eq_true h.2];exact this
 ·have:=Rr w vl vv l vals hK hl a h;unfold mkR;rw[if_neg (by simp only[Bool.and_eq_true,decide_eq_true_eq];exact h)];exact this
end Go.Proofs.YtncjeamdkjcebaaGreatDoor
