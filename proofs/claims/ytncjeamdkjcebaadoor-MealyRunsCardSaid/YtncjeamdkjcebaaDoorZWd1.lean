/- Words that repeat, in plain lists: periods, normal lassos, and that they are told by the words. -/
import Derived.Sort.LoopGhostIn
import Derived.Test.YtncjeamdkjcebaaDoorZMyJ
set_option linter.all false
namespace Go.Proofs.YtncjeamdkjcebaaDoor
theorem Per.mul{u:Nat->Int}{m p:Nat}(h:Per u m p)(k:Nat):Per u m (k*p):=by
 induction k with
 |zero=>intro i _;simp
 |succ k ih=>
  intro i hi;rw[Nat.succ_mul,<-Nat.add_assoc,h _ (by omega),ih i hi]
theorem Per.sub{u:Nat->Int}{m p q:Nat}(hp:Per u m p)(hq:Per u m q)(hle:p<=q):Per u m (q-p):=by
 intro i hi;have h1:=hp (i+(q-p)) (by omega);rw[show i+(q-p)+p=i+q by omega,hq i hi]at h1;exact h1.symm
theorem Per.mod{u:Nat->Int}{m p:Nat}(hp:Per u m p)(h0:0<p):∀q,Per u m q->Per u m (q%p):=by
 intro q
 induction q using Nat.strongRecOn with
 | _ q ih=>
  intro hq
  rcases Nat.lt_or_ge q p with h|h
  ·rwa [Nat.mod_eq_of_lt h]
  ·rw[Nat.mod_eq_sub_mod h];exact ih (q-p) (by omega) (hp.sub hq h)
theorem Per.back{u:Nat->Int}{s m n p:Nat}(hn:Per u s n)(h0:0<n)(hp:Per u m p)(_hsm:s<=m):Per u s p:=by
 intro i hi;have hk:=hn.mul m;have h1:=hp (i+m*n) (by have:=Nat.le_mul_of_pos_right m h0;omega);rw[show i+m*n+p=(i+p)+m*n by omega,hk (i+p) (by omega),hk i hi]at h1;exact h1
theorem Per.least{u:Nat->Int}{m q:Nat}(hq:Per u m q)(h0:0<q):∃p,0<p/\p<=q/\Per u m p/\q%p=0/\∀r,0<r->r<p->¬Per u m r:=by
 have key:∀n,(∃p,0<p/\p<=n/\Per u m p/\∀r,0<r->r<p->¬Per u m r)\/∀r,0<r->r<=n->¬Per u m r:=by
  intro n
  induction n with
  |zero=>exact .inr fun r h1 h2=>by omega
  |succ n ih=>
   rcases ih with⟨p,h1,h2,h3,h4⟩|h
   ·exact .inl ⟨p,h1,by omega,h3,h4⟩
   ·by_cases hp:Per u m (n+1)
    ·exact .inl ⟨n+1,by omega,by omega,hp,fun r h1 h2=>h r h1 (by omega)⟩
    ·refine .inr fun r h1 h2=> ?_
     rcases Nat.lt_or_ge r (n+1)with h3|h3
     ·exact h r h1 (by omega)
     ·obtain rfl:r=n+1:=by omega
      exact hp
 rcases key q with⟨p,h1,h2,h3,h4⟩|h
 ·refine⟨p,h1,h2,h3, ?_,h4⟩;have h5:=h3.mod h1 q hq
  rcases Nat.eq_zero_or_pos (q%p)with h6|h6
  ·exact h6
  ·exact absurd h5 (h4 _ h6 (Nat.mod_lt _ h1))
 ·exact absurd hq (h q h0 leR)
theorem I3(w:Ls):Per (atL w) w.stem.length w.loop.length:=by
 intro i hi;unfold atL;rw[if_neg (by omega),if_neg (by omega),show i+w.loop.length-w.stem.length=(i-w.stem.length)+w.loop.length by omega,Nat.add_mod_right]
structure DB(w:Ls):Prop where
 pos:0<w.loop.length
 min:∀p,0<p->p<w.loop.length->¬Per (atL w) w.stem.length p
 ends:w.stem=[]\/w.stem.getLast? ≠w.loop.getLast?
theorem Bn(l:List Int)(h:l≠[]):l.getLast? =some (l.getD (l.length-1) 0):=by
 have hp:0<l.length:=List.length_pos_iff.2 h;rw[List.getLast?_eq_getElem?,List.getElem?_eq_getElem (by omega)];simp[List.getD,show l.length-1<l.length by omega]
theorem Ee{a b:List Int}(hl:a.length=b.length)(h:∀i,i<a.length->a.getD i 0=b.getD i 0):a=b:=by
 apply List.ext_getElem hl
 intro i h1 h2;have:=h i h1;simpa[List.getD,h1,h2]using this
theorem Ev{w:Ls}{i:Nat}(h:i<w.loop.length):atL w (w.stem.length+i)=w.loop.getD i 0:=by
 unfold atL;rw[if_neg (by omega),Nat.add_sub_cancel_left,Nat.mod_eq_of_lt h]
theorem H5{x y:Ls}(hx:DB x)(hy:DB y)(h:∀i,atL x i=atL y i):x=y:=by
 have key:∀{x y:Ls},DB x->DB y->(∀i,atL x i=atL y i)->x.stem.length<=y.stem.length->x=y:=by
  intro x y hx hy h hle;have hu:atL x=atL y:=funext h;have px:=I3 x;have py:=I3 y;have minx:=hx.min;have miny:=hy.min;rw[hu]at px minx
  have h1:x.loop.length=y.loop.length:=by
   rcases Nat.lt_trichotomy x.loop.length y.loop.length with h2|h2|h2
   ·exact absurd (px.mono hle) (miny _ hx.pos h2)
   ·exact h2
   ·exact absurd (px.back hx.pos py hle) (minx _ hy.pos h2)
  have h2:x.stem.length=y.stem.length:=by
   rcases Nat.lt_or_ge x.stem.length y.stem.length with h3|h3
   ·exfalso
    have hne:y.stem≠[]:=by intro e;rw[e]at h3;simp at h3
    rcases hy.ends with he|he
    ·exact hne he
    ·refine he ?_
     have hln:y.loop≠[]:=by have:=hy.pos;intro e;rw[e]at this;simp at this
     rw[Bn _ hne,Bn _ hln]
     congr 1
     rw[<-GY (w:=y) (by omega),<-Ev (w:=y) (by have:=hy.pos;omega)];have:=px (y.stem.length-1) (by omega);rw[h1]at this;rw[<-this]
     congr 1
     have:=hy.pos;omega
   ·omega
  have hs:x.stem=y.stem:=Ee h2 fun i hi=>by
   rw[<-GY (w:=x) hi,<-GY (w:=y) (by omega),h]
  have hl:x.loop=y.loop:=Ee h1 fun i hi=>by
   rw[<-Ev (w:=x) hi,<-Ev (w:=y) (by omega),h,h2]
  cases x;cases y
  simp only at hs hl;rw[hs,hl]
 rcases Nat.le_total x.stem.length y.stem.length with h1|h1
 ·exact key hx hy h h1
 ·exact(key hy hx (fun i=>(h i).symm) h1).symm
/-! Making a lasso normal. -/
def CR(l:List Int)(n:Nat):Bool:=decide (l.length%n=0)&&(List.range (l.length-n)).all fun i=>l.getD (n+i) 0==l.getD i 0
theorem CX{l:List Int}{n:Nat}:CR l n=true↔l.length%n=0/\∀i,n+i<l.length->l.getD (n+i) 0=l.getD i 0:=by
 simp only[CR,Bool.and_eq_true,decide_eq_true_eq,List.all_eq_true,List.mem_range,beq_iff_eq];exact⟨fun h=>⟨h.1,fun i hi=>h.2 i (by omega)⟩,fun h=>⟨h.1,fun i hi=>h.2 i (by omega)⟩⟩
theorem FZ{l:List Int}{n:Nat}(h:CR l n=true)(hn:0<n):∀i,i<l.length->l.getD i 0=l.getD (i%n) 0:=by
 intro i
 induction i using Nat.strongRecOn with
 | _ i ih=>
  intro hi
  rcases Nat.lt_or_ge i n with h1|h1
  ·rw[Nat.mod_eq_of_lt h1]
  ·rw[Nat.mod_eq_sub_mod h1,<-ih (i-n) (by omega) (by omega),<-(CX.1 h).2 (i-n) (by omega)]
   congr 1
   omega
theorem Kr{w:Ls}{p:Nat}(h:Per (atL w) w.stem.length p)(hd:w.loop.length%p=0):CR w.loop p=true:=by
 refine CX.2 ⟨hd,fun i hi=> ?_⟩;rw[<-Ev hi,<-Ev (w:=w) (i:=i) (by omega)];have:=h (w.stem.length+i) (by omega);rw[<-this]
 congr 1
 omega
theorem Nf{w:Ls}{n:Nat}(h:CR w.loop n=true)(hn:0<n)(hl:0<w.loop.length)(hle:n<=w.loop.length):∀i,atL ⟨w.stem,w.loop.take n⟩ i=atL w i:=by
 intro i;unfold atL;simp only[List.length_take];rw[Nat.min_eq_left hle]
 split
 ·rfl
 ·have h1:=Nat.mod_lt (i-w.stem.length) hl;have h2:=Nat.mod_lt (i-w.stem.length) hn;have hm:=(CX.1 h).1;rw[FZ h hn _ h1,Nat.mod_mod_of_dvd _ (Nat.dvd_of_mod_eq_zero hm)];simp[List.getD,h2]
theorem IQ{s l:List Int}(hl:0<l.length)(x:Int)(hx:l.getD (l.length-1) 0=x):∀i,atL ⟨s,x::l.dropLast⟩ i=atL ⟨s++[x],l⟩ i:=by
 intro i
 have hlen:(x::l.dropLast).length=l.length:=by simp;omega
 unfold atL;simp only[hlen,List.length_append,List.length_singleton]
 rcases Nat.lt_trichotomy i s.length with h|h|h
 ·rw[if_pos h,if_pos (by omega)];simp[List.getD,List.getElem?_append_left h]
 ·subst h;rw[if_neg (by omega),if_pos (by omega),Nat.sub_self,Nat.zero_mod];simp[List.getD]
 ·rw[if_neg (by omega),if_neg (by omega)];obtain⟨j,rfl⟩:∃j,i=s.length+(j+1):=⟨i-s.length-1,by omega⟩;rw[show s.length+(j+1)-s.length=j+1 by omega,show s.length+(j+1)-(s.length+1)=j by omega];have h1:=Nat.mod_lt j hl
  by_cases h2:j%l.length=l.length-1
  ·rw[show(j+1)%l.length=0 by
    rw[Nat.add_mod,h2]
    rcases Nat.lt_or_ge 1 l.length with h3|h3
    ·rw[Nat.mod_eq_of_lt h3,show l.length-1+1=l.length by omega,Nat.mod_self]
    ·rw[show l.length=1 by omega,Nat.mod_one],h2,hx]
   rfl
  ·rw[show(j+1)%l.length=j%l.length+1 by
    rw[Nat.add_mod,Nat.mod_eq_of_lt (show 1<l.length by omega),Nat.mod_eq_of_lt (by omega)]]
   simp only[List.getD_cons_succ];simp[List.getD,show j%l.length<l.length-1 by omega,h1]
theorem Pa{s l:List Int}(hl:0<l.length)(x:Int)(hx:l.getD (l.length-1) 0=x)(hmin:∀p,0<p->p<l.length->¬Per (atL ⟨s++[x],l⟩) (s++[x]).length p):
  ∀p,0<p->p<(x::l.dropLast).length->¬Per (atL ⟨s,x::l.dropLast⟩) s.length p:=by
 intro p h0 h1 h2;have hu:atL ⟨s,x::l.dropLast⟩=atL ⟨s++[x],l⟩:=funext (IQ hl x hx);rw[hu]at h2;refine hmin p h0 (by simp at h1;omega) (h2.mono (by simp))
def Kj(l:List Int):Nat->Nat->Nat
 |0,n=>n
 |f+1,n=>if CR l n=true then n else Kj l f (n+1)
def AU(l:List Int):Nat:=Kj l l.length 1
theorem IF{l:List Int}:CR l l.length=true:=CX.2 ⟨Nat.mod_self _,fun i hi=>by omega⟩
theorem MR{l:List Int}:∀(f n:Nat),0<n->n+f=l.length+1->(∀r,0<r->r<n->CR l r=false)->0<l.length->
  0<Kj l f n/\Kj l f n<=max l.length n/\(n<=l.length->CR l (Kj l f n)=true/\Kj l f n<=l.length)/\∀r,0<r->r<Kj l f n->CR l r=false:=by
 intro f
 induction f with
 |zero=>intro n h0 h1 h2 _;exact⟨h0,Nat.le_max_right _ _,fun h=>by omega,h2⟩
 |succ f ih=>
  intro n h0 h1 h2 hl;unfold Kj
  by_cases hr:CR l n=true
  ·rw[if_pos hr];exact⟨h0,Nat.le_max_right _ _,fun h=>⟨hr,h⟩,h2⟩
  ·rw[if_neg hr]
   have h3:∀r,0<r->r<n+1->CR l r=false:=fun r hr0 hr1=>by
    rcases Nat.lt_or_ge r n with h|h
    ·exact h2 r hr0 h
    ·obtain rfl:r=n:=by omega
     simpa using hr
   have hne:n≠l.length:=fun e=>hr (by rw[e];exact IF)
   obtain⟨i1,i2,i3,i4⟩:=ih (n+1) (by omega) (by omega) h3 hl;exact⟨i1,by omega,fun h=>i3 (by omega),i4⟩
theorem Gh{l:List Int}(hl:0<l.length):0<AU l/\AU l<=l.length/\CR l (AU l)=true/\∀r,0<r->r<AU l->CR l r=false:=by
 obtain⟨h1,_,h3,h4⟩:=MR (l:=l) l.length 1 (by omega) (by omega) (fun r h0 h1=>by omega) hl;obtain⟨h5,h6⟩:=h3 (by omega);exact⟨h1,h6,h5,h4⟩
structure Bk(w:Ls)(s l:List Int):Prop where
 word:∀i,atL ⟨s,l⟩ i=atL w i
 pos:0<l.length
 min:∀p,0<p->p<l.length->¬Per (atL ⟨s,l⟩) s.length p
theorem Bk.start{w:Ls}(hl:0<w.loop.length):Bk w w.stem (w.loop.take (AU w.loop)):=by
 obtain⟨h1,h2,h3,h4⟩:=Gh hl;have hw:=Nf h3 h1 hl h2
 have hlen:(w.loop.take (AU w.loop)).length=AU w.loop:=by rw[List.length_take];omega
 refine⟨hw,by omega,fun p h5 h6 h7=> ?_⟩;rw[hlen]at h6;rw[show atL ⟨w.stem,w.loop.take (AU w.loop)⟩=atL w from funext hw]at h7;obtain⟨q,hq0,hq1,hq2,hq3,hq4⟩:=Per.least (I3 w) hl
 have hqp:q<=p:=by
  rcases Nat.lt_or_ge p q with h|h
  ·exact absurd h7 (hq4 p h5 h)
  ·exact h
 have:=Kr hq2 hq3;rw[h4 q hq0 (by omega)]at this
 cases this
theorem Bk.turn{w:Ls}{s l:List Int}{x:Int}(h:Bk w (s++[x]) l)(hx:l.getD (l.length-1) 0=x):Bk w s (x::l.dropLast):=
 ⟨fun i=>(IQ h.pos x hx i).trans (h.word i),by simp,Pa h.pos x hx h.min⟩
theorem Bk.done{w:Ls}{s l:List Int}(h:Bk w s l)(he:s=[]\/s.getLast? ≠l.getLast?):DB ⟨s,l⟩:=⟨h.pos,h.min,he⟩
def Dh:Nat->List Int->List Int->Ls
 |0,s,l=>⟨s,l⟩
 |k+1,s,l=>if s≠[]/\s.getLast? =l.getLast? then Dh k s.dropLast (l.getD (l.length-1) 0::l.dropLast)else⟨s,l⟩
def Cn(w:Ls):Ls:=Dh w.stem.length w.stem (w.loop.take (AU w.loop))
theorem Jn{w:Ls}:∀(k:Nat)(s l:List Int),s.length<=k->Bk w s l->DB (Dh k s l)/\(∀i,atL (Dh k s l) i=atL w i)/\(Dh k s l).stem.length<=s.length/\(Dh k s l).loop.length=l.length:=by
 intro k
 induction k with
 |zero=>
  intro s l hk h;have:s=[]:=List.eq_nil_of_length_eq_zero (by omega);subst this;exact⟨h.done (.inl rfl),h.word,by simp[Dh],rfl⟩
 |succ k ih=>
  intro s l hk h;unfold Dh
  split
  ·rename_i hc;obtain⟨hne,he⟩:=hc
   have hln:l≠[]:=by have:=h.pos;intro e;rw[e]at this;simp at this
   have hpos:=List.length_pos_iff.2 hne
   have hsplit:s=s.dropLast++[l.getD (l.length-1) 0]:=by
    rw[Bn s hne,Bn l hln]at he
    have e2:s.getLast hne=l.getD (l.length-1) 0:=by
     have:=List.getLast?_eq_some_getLast hne;rw[Bn s hne]at this;rw[<-Option.some.inj he];exact(Option.some.inj this).symm
    conv=>lhs;rw[<-List.dropLast_concat_getLast hne,e2]
   have h2:Bk w s.dropLast (l.getD (l.length-1) 0::l.dropLast):=by
    rw[hsplit]at h;exact h.turn rfl
   obtain⟨i1,i2,i3,i4⟩:=ih _ _ (by rw[List.length_dropLast];omega) h2;refine⟨i1,i2,by rw[List.length_dropLast]at i3;omega, ?_⟩;rw[i4];have:=h.pos;simp;omega
  ·rename_i hc;refine⟨h.done ?_,h.word,Nat.le_refl _,rfl⟩
   by_cases hs:s=[]
   ·exact .inl hs
   ·exact .inr fun e=>hc ⟨hs,e⟩
theorem Fu{w:Ls}(hl:0<w.loop.length):DB (Cn w)/\(∀i,atL (Cn w) i=atL w i)/\(Cn w).stem.length<=w.stem.length/\(Cn w).loop.length<=w.loop.length:=by
 obtain⟨h1,h2,h3,h4⟩:=Jn w.stem.length w.stem _ leR (Bk.start hl);refine⟨h1,h2,h3, ?_⟩;show(Dh _ _ _).loop.length<=_;rw[h4,List.length_take];omega
theorem Ke{w x:Ls}(hl:0<w.loop.length)(hx:DB x)(h:∀i,atL x i=atL w i):x=Cn w:=
 H5 hx (Fu hl).1 fun i=>(h i).trans ((Fu hl).2.1 i).symm
def De:Ls:=⟨[],[]⟩
def Jm(w:Ls):Ls:=if Ek (Cn w)=true then Cn w else De
/-! Suffixes, prefixes. -/
def BD(l:List Int)(k:Nat):List Int:=l.drop k++l.take k
theorem BV(l:List Int)(k:Nat):(BD l k).length=l.length:=by simp[BD];omega
theorem EU{l:List Int}{k:Nat}(hk:k<=l.length)(i:Nat)(hi:i<l.length):(BD l k).getD i 0=l.getD ((k+i)%l.length) 0:=by
 unfold BD
 rcases Nat.lt_or_ge i (l.length-k)with h|h
 ·rw[Nat.mod_eq_of_lt (by omega)];simp[List.getD,List.getElem?_append_left,h,show k+i<l.length by omega]
 ·rw[Nat.mod_eq_sub_mod (by omega),Nat.mod_eq_of_lt (by omega)];simp only[List.getD];rw[List.getElem?_append_right (by simp;omega),List.length_drop,List.getElem?_take,if_pos (by omega)]
  congr 2
  omega
def Me(w:Ls)(n:Nat):List Int:=(List.range n).map (atL w)
/-! A list turned back step by step. -/
theorem IP{l:List Int}{b:Nat}(hb:b<l.length):(BD l ((l.length-b)%l.length)).getD (l.length-1) 0=l.getD (l.length-1-b) 0:=by
 rw[EU (Nat.le_of_lt (Nat.mod_lt _ (by omega))) _ (by omega)]
 congr 1
 rcases Nat.eq_zero_or_pos b with rfl|h
 ·rw[Nat.sub_zero,Nat.mod_self,Nat.zero_add,Nat.mod_eq_of_lt (by omega)];omega
 ·rw[Nat.mod_eq_of_lt (show l.length-b<l.length by omega),Nat.mod_eq_sub_mod (by omega),Nat.mod_eq_of_lt (by omega)];omega
theorem Nh{l:List Int}{b:Nat}(hb:b<l.length):BD l ((l.length-(b+1)%l.length)%l.length)=l.getD (l.length-1-b) 0::(BD l ((l.length-b)%l.length)).dropLast:=by
 have hn:0<l.length:=by omega
 have hlen:(l.getD (l.length-1-b) 0::(BD l ((l.length-b)%l.length)).dropLast).length=l.length:=by simp[BV];omega
 refine Ee (by rw[hlen,BV]) fun i hi=> ?_
 rw[BV]at hi;rw[EU (Nat.le_of_lt (Nat.mod_lt _ hn)) _ hi]
 have e1:∀c,c<l.length->(l.length-c)%l.length=if c=0 then 0 else l.length-c:=fun c hc=>by
  split
  ·subst c;simp
  ·exact Nat.mod_eq_of_lt (by omega)
 have hb1:(l.length-(b+1)%l.length)%l.length=l.length-1-b:=by
  rw[e1 _ (Nat.mod_lt _ hn)]
  by_cases h:b+1=l.length
  ·rw[h,Nat.mod_self,if_pos rfl];omega
  ·rw[Nat.mod_eq_of_lt (show b+1<l.length by omega),if_neg (by omega)];omega
 rw[hb1]
 cases i with
 |zero=>rw[Nat.add_zero,Nat.mod_eq_of_lt (by omega)];rfl
 |succ i=>
  have e2:(l.getD (l.length-1-b) 0::(BD l ((l.length-b)%l.length)).dropLast).getD (i+1) 0=(BD l ((l.length-b)%l.length)).getD i 0:=by
   simp only[List.getD,List.getElem?_cons_succ,List.getElem?_dropLast,BV];rw[if_pos (by omega)]
  rw[e2,EU (Nat.le_of_lt (Nat.mod_lt _ hn)) _ (by omega)]
  congr 1
  rw[e1 b hb]
  split
  ·subst b;rw[Nat.zero_add,Nat.mod_eq_of_lt (show i<l.length by omega),Nat.mod_eq_sub_mod (by omega),Nat.mod_eq_of_lt (by omega)];omega
  ·congr 1;omega
theorem Bk.step{w:Ls}{s l:List Int}{k b:Nat}(h:Bk w (s.take (k+1)) (BD l ((l.length-b)%l.length)))(hk:k<s.length)(hb:b<l.length)(he:s.getD k 0=l.getD (l.length-1-b) 0):
  Bk w (s.take k) (BD l ((l.length-(b+1)%l.length)%l.length)):=by
 have e:s.take (k+1)=s.take k++[s.getD k 0]:=by rw[List.take_succ_eq_append_getElem hk];simp[List.getD,hk]
 rw[e]at h;rw[Nh hb,<-he];refine h.turn ?_;rw[BV,IP hb,he]
theorem Bk.stop{w:Ls}{s l:List Int}{k b:Nat}(hw:0<w.loop.length)(h:Bk w (s.take k) (BD l ((l.length-b)%l.length)))(hk:k<=s.length)(hb:b<l.length)(he:k=0\/s.getD (k-1) 0≠l.getD (l.length-1-b) 0):
  (⟨s.take k,BD l ((l.length-b)%l.length)⟩:Ls)=Cn w:=by
 refine Ke hw (h.done ?_) h.word
 rcases he with rfl|he
 ·exact .inl (by simp)
 ·by_cases h0:k=0
  ·subst h0;exact .inl (by simp)
  ·refine .inr fun e=>he ?_
   have h1:s.take k≠[]:=by intro e;have:=congrArg List.length e;rw[List.length_take,List.length_nil]at this;omega
   have h2:BD l ((l.length-b)%l.length)≠[]:=by intro e;have:=congrArg List.length e;rw[BV,List.length_nil]at this;omega
   rw[Bn _ h1,Bn _ h2,BV,IP hb]at e;have h3:=Option.some.inj e;rw[<-h3,List.length_take,Nat.min_eq_left hk];simp[List.getD,show k-1<k by omega]
theorem Bk.start'{w:Ls}(hl:0<w.loop.length):Bk w (w.stem.take w.stem.length) (BD (w.loop.take (AU w.loop)) (((w.loop.take (AU w.loop)).length-0)%(w.loop.take (AU w.loop)).length)):=by
 rw[List.take_length,Nat.sub_zero,Nat.mod_self];simpa[BD]using Bk.start hl
/-! The length of the shortest piece. -/
theorem Mb{l:List Int}(hl:0<l.length){n:Nat}(h0:0<n)(h:CR l n=true)(hm:∀r,0<r->r<n->CR l r=false):AU l=n:=by
 obtain⟨h1,_,h3,h4⟩:=Gh hl
 rcases Nat.lt_trichotomy (AU l) n with c|c|c
 ·rw[hm _ h1 c]at h3;cases h3
 ·exact c
 ·rw[h4 _ h0 c]at h;cases h
/-! Cyclic reading. -/
def Eo(w:Ls)(i:Nat):Nat:=if i<w.stem.length then i else w.stem.length+(i-w.stem.length)%w.loop.length
theorem Mc{w:Ls}(hl:0<w.loop.length)(i:Nat):Eo w i<w.stem.length+w.loop.length:=by
 unfold Eo;have:=Nat.mod_lt (i-w.stem.length) hl
 split<;>omega
theorem MY{w:Ls}(hl:0<w.loop.length)(i:Nat):Eo w (i+1)=if Eo w i+1=w.stem.length+w.loop.length then w.stem.length else Eo w i+1:=by
 unfold Eo
 by_cases h1:i+1<w.stem.length
 ·rw[if_pos h1,if_pos (show i<w.stem.length by omega),if_neg (by omega)]
 ·rw[if_neg h1]
  by_cases h2:i<w.stem.length
  ·rw[if_pos h2]
   have e:i+1-w.stem.length=0:=by omega
   rw[e,Nat.zero_mod]
   split<;>omega
  ·rw[if_neg h2];have hm:=Nat.mod_lt (i-w.stem.length) hl
   have e:i+1-w.stem.length=(i-w.stem.length)+1:=by omega
   rw[e,Nat.add_mod]
   by_cases h3:(i-w.stem.length)%w.loop.length+1=w.loop.length
   ·rw[if_pos (by omega)]
    by_cases h4:w.loop.length=1
    ·rw[h4];simp[Nat.mod_one]
    ·rw[Nat.mod_eq_of_lt (show 1<w.loop.length by omega),h3,Nat.mod_self];omega
   ·rw[if_neg (by omega),Nat.mod_eq_of_lt (show 1<w.loop.length by omega),Nat.mod_eq_of_lt (by omega)];omega
end Go.Proofs.YtncjeamdkjcebaaDoor
namespace Go.Proofs.YtncjeamdkjcebaaDoor
open Go.RowKit
theorem Co{wr:World}{n:Nat}{t:TypeId}{x y a b:Value}(h:wr.heap[n]? =some (.cells #[x,y] t (0,0))):((wr.setCell ⟨n,0,none⟩ a).setCell ⟨n,1,none⟩ b).heap[n]? =some (.cells #[a,b] t (0,0)):=
 heap_setCell_same _ n 1 _ _ b (heap_setCell_same _ n 0 _ _ a h)
theorem Ga{w wr:World}{n:Nat}{a b:Value}(h:Below w.heap.size w wr)(hn:w.heap.size<=n):Below w.heap.size w ((wr.setCell ⟨n,0,none⟩ a).setCell ⟨n,1,none⟩ b):=
 (h.setCell hn _).setCell hn _
theorem Af.setOther{w:World}{v u x:Value}{l:List Int}{a:Addr}(h:Af w v l)(hx:w.cell? a=some x)(hne:∀k n,x≠.int k n):Af (w.setCell a u) v l:=by
 obtain⟨⟨ao,cap,b,off,rfl,g⟩,r⟩:=h;refine⟨⟨ao,cap,b,off,rfl,⟨g.lc,g.cm,g.nm,g.nc,g.ad,fun j hj=> ?_⟩⟩,r⟩;have e:=g.el j hj;rw[World.cell?_setCell_other _ _ _ _ (fun he=> ?_)]
 ·exact e
 ·rw[<-he,hx]at e;exact hne _ _ (Option.some.inj e)
theorem Af.setTwo{w:World}{v p q:Value}{l:List Int}{n:Nat}{t:TypeId}{ao bo:Option Addr}{m1 m2 c1 c2:Nat}(h:Af w v l)(hx:w.heap[n]? =some (.cells #[.slice ao m1 c1,.slice bo m2 c2] t (0,0))):Af ((w.setCell ⟨n,0,none⟩ p).setCell ⟨n,1,none⟩ q) v l:=by
 have h0:=h.setOther (u:=p) (cell_of_row w n 0 _ _ _ hx) (fun _ _ e=>by cases e);exact h0.setOther (cell_of_row _ n 1 _ _ _ (heap_setCell_same _ n 0 _ _ p hx)) (fun _ _ e=>by cases e)
theorem RU{w:World}{n m1 m2 c1 c2:Nat}{t:TypeId}{ao bo:Option Addr}(h:w.heap[n]? =some (.cells #[.slice ao m1 c1,.slice bo m2 c2] t (0,0))):
  w.cell? ⟨n,0,none⟩=some (.slice ao m1 c1)/\w.cell? ⟨n,1,none⟩=some (.slice bo m2 c2)/\w.frozen? ⟨n,0,none⟩=false/\w.frozen? ⟨n,1,none⟩=false:=
 ⟨Aa 0 h,Aa 1 h,Aw 0 h,Aw 1 h⟩
theorem L4{w wr:World}{n m1 m2 c1 c2:Nat}{t:TypeId}{ao bo:Option Addr}{x y:Value}{l:Ls}(hr:wr.heap[n]? =some (.cells #[.slice ao m1 c1,.slice bo m2 c2] t (0,0)))(h1:Af wr x l.stem)(h2:Af wr y l.loop)(hb:Below w.heap.size w wr)(hn:w.heap.size<=n):
  EW l w (.returned (.agg #[x,y])) ((wr.setCell ⟨n,0,none⟩ x).setCell ⟨n,1,none⟩ y):=
 ⟨_,rfl,⟨_,_,rfl,h1.setTwo hr,h2.setTwo hr⟩,Ga hb hn⟩
structure RdX(w0 w:World)(gb gp:Nat)(a0 a1:Option Addr)(c0 c1:Nat)(l:Ls)(x:Int):Prop where
 ls:Df w0 (.agg #[.slice a0 l.stem.length c0,.slice a1 l.loop.length c1]) l
 bl:Below w0.heap.size w0 w
 ge:w0.heap.size<=gp
 ne:gb≠gp
 box:w.heap[gb]? =some (.cells #[.slice a0 l.stem.length c0,.slice a1 l.loop.length c1] 40 (0,0))
 ptr:w.heap[gp]? =some (.cells #[.int .i64 x] 3 (0,0))
theorem RdX.below{w0 w w':World}{gb gp:Nat}{a0 a1:Option Addr}{c0 c1:Nat}{l:Ls}{x:Int}(h:RdX w0 w gb gp a0 a1 c0 c1 l x)(hb:Below w.heap.size w w'):RdX w0 w' gb gp a0 a1 c0 c1 l x:=
 ⟨h.ls,h.bl.trans (hb.mono h.bl.size),h.ge,h.ne,(hb.block _ (Array.getElem?_eq_some_iff.1 h.box).1).trans h.box,(hb.block _ (Array.getElem?_eq_some_iff.1 h.ptr).1).trans h.ptr⟩
theorem RdX.keep{w0 w w':World}{gb gp:Nat}{a0 a1:Option Addr}{c0 c1:Nat}{l:Ls}{x:Int}(h:RdX w0 w gb gp a0 a1 c0 c1 l x)(hb:Below w0.heap.size w w')(h1:w'.heap[gb]? =w.heap[gb]?)(h2:w'.heap[gp]? =w.heap[gp]?):RdX w0 w' gb gp a0 a1 c0 c1 l x:=
 ⟨h.ls,h.bl.trans hb,h.ge,h.ne,h1.trans h.box,h2.trans h.ptr⟩
theorem Jl{wr:World}{n:Nat}{t:TypeId}{x a:Value}(h:wr.heap[n]? =some (.cells #[x] t (0,0))):(wr.setCell ⟨n,0,none⟩ a).heap[n]? =some (.cells #[a] t (0,0)):=heap_setCell_same _ n 0 _ _ a h
theorem RdX.set{w0 w wr:World}{gb gp:Nat}{a0 a1:Option Addr}{c0 c1:Nat}{l:Ls}{x:Int}(h:RdX w0 wr gb gp a0 a1 c0 c1 l x)(hg:w.grownBy wr (some gp))(y:Int):
  w.grownBy (wr.setCell ⟨gp,0,none⟩ (.int .i64 y)) (some gp)/\RdX w0 (wr.setCell ⟨gp,0,none⟩ (.int .i64 y)) gb gp a0 a1 c0 c1 l y:=by
 refine⟨⟨hg.os,hg.tape,hg.output, ?_, ?_⟩,⟨h.ls,h.bl.setCell h.ge _,h.ge,h.ne, ?_,Jl h.ptr⟩⟩
 ·rw[World.size_setCell];exact hg.size
 ·intro k hk hne';rw[heap_setCell_other _ _ _ _ (by intro e;exact hne' (by simp at e;rw[e]))];exact hg.block k hk hne'
 ·rw[heap_setCell_other _ _ _ _ (by exact h.ne)];exact h.box
end Go.Proofs.YtncjeamdkjcebaaDoor
namespace Go.Proofs.YtncjeamdkjcebaaDoor
open Go.RowKit Go.Shelf
attribute [local go_sem] Oper.semAt_some
def KpL(n₀ z:Nat)(A B:World):Prop:=Below n₀ A B/\B.heap[z]? =A.heap[z]? /\B.heap[z+1]? =A.heap[z+1]?
theorem KpL.trans{n₀ z:Nat}{A B C:World}(h:KpL n₀ z A B)(k:KpL n₀ z B C):KpL n₀ z A C:=⟨h.1.trans k.1,k.2.1.trans h.2.1,k.2.2.trans h.2.2⟩
theorem KpL.refl(n₀ z:Nat)(A:World):KpL n₀ z A A:=⟨Ad,rfl,rfl⟩
theorem KpL.put{n₀:Nat}{w:World}(hn:n₀<=w.heap.size)(W:World)(l:Nat)(o o':Obj)(hl:w.heap.size<=l)(hl2:l<w.heap.size+2)(h:W.heap[l]? =some o)(h1:o.isCells=false)(h2:o.isWalk=false):KpL n₀ (w.heap.size+2) W (W.putObj l o'):=
 ⟨belowK_b hn W l o o' hl h h1 h2,World.putObj_heap_other (by omega),World.putObj_heap_other (by omega)⟩
end Go.Proofs.YtncjeamdkjcebaaDoor
