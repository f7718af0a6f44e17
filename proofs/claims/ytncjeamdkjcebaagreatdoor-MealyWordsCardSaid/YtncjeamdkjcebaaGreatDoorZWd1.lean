/- Words that repeat, in plain lists: periods, normal lassos, and that they are told by the words. -/
import Derived.Test.YtncjeamdkjcebaaGreatDoorZAr4
set_option linter.all false
set_option maxHeartbeats 2000000
namespace Go.Proofs.YtncjeamdkjcebaaGreatDoor
theorem Per.mul{u:Nat->Int}{m p:Nat}(h:Per u m p)(k:Nat):Per u m (k*p):=by
 induction k with
 |zero=>intro i _;simp
 |succ k ih=>
  intro i hi;rw[Nat.succ_mul,<-Nat.add_assoc,h _ (by omega),ih i hi]
theorem Per.sub{u:Nat->Int}{m p q:Nat}(hp:Per u m p)(hq:Per u m q)(hle:p<=q):Per u m (q-p):=by
 intro i hi;have h1:=hp (i+(q-p)) (by omega);rw[show i+(q-p)+p=i+q by omega,hq i hi]at h1;exact h1.symm
theorem Per.mod{u:Nat->Int}{m p:Nat}(hp:Per u m p)(h0:0<p):∀q,Per u m q->Per u m (q%p):=by
 intro q
 induction q using Nat.strongRecOn with
 | _ q ih=>
  intro hq
  rcases Nat.lt_or_ge q p with h|h
  ·rwa [Nat.mod_eq_of_lt h]
  ·rw[Nat.mod_eq_sub_mod h];exact ih (q-p) (by omega) (hp.sub hq h)
theorem Per.back{u:Nat->Int}{s m n p:Nat}(hn:Per u s n)(h0:0<n)(hp:Per u m p)(_hsm:s<=m):Per u s p:=by
 intro i hi;have hk:=hn.mul m;have h1:=hp (i+m*n) (by have:=Nat.le_mul_of_pos_right m h0;omega);rw[show i+m*n+p=(i+p)+m*n by omega,hk (i+p) (by omega),hk i hi]at h1;exact h1
theorem Per.least{u:Nat->Int}{m q:Nat}(hq:Per u m q)(h0:0<q):∃p,0<p/\p<=q/\Per u m p/\q%p=0/\∀r,0<r->r<p->¬Per u m r:=by
 have key:∀n,(∃p,0<p/\p<=n/\Per u m p/\∀r,0<r->r<p->¬Per u m r)\/∀r,0<r->r<=n->¬Per u m r:=by
  intro n
  induction n with
  |zero=>exact .inr fun r h1 h2=>by omega
  |succ n ih=>
   rcases ih with⟨p,h1,h2,h3,h4⟩|h
   ·exact .inl ⟨p,h1,by omega,h3,h4⟩
   ·by_cases hp:Per u m (n+1)
    ·exact .inl ⟨n+1,by omega,by omega,hp,fun r h1 h2=>h r h1 (by omega)⟩
    ·refine .inr fun r h1 h2=> ?_
     rcases Nat.lt_or_ge r (n+1)with h3|h3
     ·exact h r h1 (by omega)
     ·obtain rfl:r=n+1:=by omega
      exact hp
 rcases key q with⟨p,h1,h2,h3,h4⟩|h
 ·refine⟨p,h1,h2,h3, ?_,h4⟩;have h5:=h3.mod h1 q hq
  rcases Nat.eq_zero_or_pos (q%p)with h6|h6
  ·exact h6
  ·exact absurd h5 (h4 _ h6 (Nat.mod_lt _ h1))
 ·exact absurd hq (h q h0 leR)
theorem J2(w:Ls):Per (atL w) w.stem.length w.loop.length:=by
 intro i hi;unfold atL;rw[if_neg (by omega),if_neg (by omega),show i+w.loop.length-w.stem.length=(i-w.stem.length)+w.loop.length by omega,Nat.add_mod_right]
structure DX(w:Ls):Prop where
 pos:0<w.loop.length
 min:∀p,0<p->p<w.loop.length->¬Per (atL w) w.stem.length p
 ends:w.stem=[]\/w.stem.getLast? ≠w.loop.getLast?
theorem BF(l:List Int)(h:l≠[]):l.getLast? =some (l.getD (l.length-1) 0):=by
 have hp:0<l.length:=List.length_pos_iff.2 h;rw[List.getLast?_eq_getElem?,List.getElem?_eq_getElem (by omega)];simp[List.getD,show l.length-1<l.length by omega]
theorem EA{a b:List Int}(hl:a.length=b.length)(h:∀i,i<a.length->a.getD i 0=b.getD i 0):a=b:=by
 apply List.ext_getElem hl
 intro i h1 h2;have:=h i h1;simpa[List.getD,h1,h2]using this
theorem Ec{w:Ls}{i:Nat}(h:i<w.loop.length):atL w (w.stem.length+i)=w.loop.getD i 0:=by
 unfold atL;rw[if_neg (by omega),Nat.add_sub_cancel_left,Nat.mod_eq_of_lt h]
theorem I5{x y:Ls}(hx:DX x)(hy:DX y)(h:∀i,atL x i=atL y i):x=y:=by
 have key:∀{x y:Ls},DX x->DX y->(∀i,atL x i=atL y i)->x.stem.length<=y.stem.length->x=y:=by
  intro x y hx hy h hle;have hu:atL x=atL y:=funext h;have px:=J2 x;have py:=J2 y;have minx:=hx.min;have miny:=hy.min;rw[hu]at px minx
  have h1:x.loop.length=y.loop.length:=by
   rcases Nat.lt_trichotomy x.loop.length y.loop.length with h2|h2|h2
   ·exact absurd (px.mono hle) (miny _ hx.pos h2)
   ·exact h2
   ·exact absurd (px.back hx.pos py hle) (minx _ hy.pos h2)
  have h2:x.stem.length=y.stem.length:=by
   rcases Nat.lt_or_ge x.stem.length y.stem.length with h3|h3
   ·exfalso
    have hne:y.stem≠[]:=by intro e;rw[e]at h3;simp at h3
    rcases hy.ends with he|he
    ·exact hne he
    ·refine he ?_
     have hln:y.loop≠[]:=by have:=hy.pos;intro e;rw[e]at this;simp at this
     rw[BF _ hne,BF _ hln]
     congr 1
     rw[<-Ed (w:=y) (by omega),<-Ec (w:=y) (by have:=hy.pos;omega)];have:=px (y.stem.length-1) (by omega);rw[h1]at this;rw[<-this]
     congr 1
     have:=hy.pos;omega
   ·omega
  have hs:x.stem=y.stem:=EA h2 fun i hi=>by
   rw[<-Ed (w:=x) hi,<-Ed (w:=y) (by omega),h]
  have hl:x.loop=y.loop:=EA h1 fun i hi=>by
   rw[<-Ec (w:=x) hi,<-Ec (w:=y) (by omega),h,h2]
  cases x;cases y
  simp only at hs hl;rw[hs,hl]
 rcases Nat.le_total x.stem.length y.stem.length with h1|h1
 ·exact key hx hy h h1
 ·exact(key hy hx (fun i=>(h i).symm) h1).symm
/-! Making a lasso normal. -/
def C8(l:List Int)(n:Nat):Bool:=decide (l.length%n=0)&&(List.range (l.length-n)).all fun i=>l.getD (n+i) 0==l.getD i 0
theorem De{l:List Int}{n:Nat}:C8 l n=true↔l.length%n=0/\∀i,n+i<l.length->l.getD (n+i) 0=l.getD i 0:=by
 simp only[C8,Bool.and_eq_true,decide_eq_true_eq,List.all_eq_true,List.mem_range,beq_iff_eq];exact⟨fun h=>⟨h.1,fun i hi=>h.2 i (by omega)⟩,fun h=>⟨h.1,fun i hi=>h.2 i (by omega)⟩⟩
theorem GD{l:List Int}{n:Nat}(h:C8 l n=true)(hn:0<n):∀i,i<l.length->l.getD i 0=l.getD (i%n) 0:=by
 intro i
 induction i using Nat.strongRecOn with
 | _ i ih=>
  intro hi
  rcases Nat.lt_or_ge i n with h1|h1
  ·rw[Nat.mod_eq_of_lt h1]
  ·rw[Nat.mod_eq_sub_mod h1,<-ih (i-n) (by omega) (by omega),<-(De.1 h).2 (i-n) (by omega)]
   congr 1
   omega
theorem LL{w:Ls}{p:Nat}(h:Per (atL w) w.stem.length p)(hd:w.loop.length%p=0):C8 w.loop p=true:=by
 refine De.2 ⟨hd,fun i hi=> ?_⟩;rw[<-Ec hi,<-Ec (w:=w) (i:=i) (by omega)];have:=h (w.stem.length+i) (by omega);rw[<-this]
 congr 1
 omega
theorem ON{w:Ls}{n:Nat}(h:C8 w.loop n=true)(hn:0<n)(hl:0<w.loop.length)(hle:n<=w.loop.length):∀i,atL ⟨w.stem,w.loop.take n⟩ i=atL w i:=by
 intro i;unfold atL;simp only[List.length_take];rw[Nat.min_eq_left hle]
 split
 ·rfl
 ·have h1:=Nat.mod_lt (i-w.stem.length) hl;have h2:=Nat.mod_lt (i-w.stem.length) hn;have hm:=(De.1 h).1;rw[GD h hn _ h1,Nat.mod_mod_of_dvd _ (Nat.dvd_of_mod_eq_zero hm)];simp[List.getD,h2]
theorem JL{s l:List Int}(hl:0<l.length)(x:Int)(hx:l.getD (l.length-1) 0=x):∀i,atL ⟨s,x::l.dropLast⟩ i=atL ⟨s++[x],l⟩ i:=by
 intro i
 have hlen:(x::l.dropLast).length=l.length:=by simp;omega
 unfold atL;simp only[hlen,List.length_append,List.length_singleton]
 rcases Nat.lt_trichotomy i s.length with h|h|h
 ·rw[if_pos h,if_pos (by omega)];simp[List.getD,List.getElem?_append_left h]
 ·subst h;rw[if_neg (by omega),if_pos (by omega),Nat.sub_self,Nat.zero_mod];simp[List.getD]
 ·rw[if_neg (by omega),if_neg (by omega)];obtain⟨j,rfl⟩:∃j,i=s.length+(j+1):=⟨i-s.length-1,by omega⟩;rw[show s.length+(j+1)-s.length=j+1 by omega,show s.length+(j+1)-(s.length+1)=j by omega];have h1:=Nat.mod_lt j hl
  by_cases h2:j%l.length=l.length-1
  ·rw[show(j+1)%l.length=0 by
    rw[Nat.add_mod,h2]
    rcases Nat.lt_or_ge 1 l.length with h3|h3
    ·rw[Nat.mod_eq_of_lt h3,show l.length-1+1=l.length by omega,Nat.mod_self]
    ·rw[show l.length=1 by omega,Nat.mod_one],h2,hx]
   rfl
  ·rw[show(j+1)%l.length=j%l.length+1 by
    rw[Nat.add_mod,Nat.mod_eq_of_lt (show 1<l.length by omega),Nat.mod_eq_of_lt (by omega)]]
   simp only[List.getD_cons_succ];simp[List.getD,show j%l.length<l.length-1 by omega,h1]
theorem QO{s l:List Int}(hl:0<l.length)(x:Int)(hx:l.getD (l.length-1) 0=x)(hmin:∀p,0<p->p<l.length->¬Per (atL ⟨s++[x],l⟩) (s++[x]).length p):
  ∀p,0<p->p<(x::l.dropLast).length->¬Per (atL ⟨s,x::l.dropLast⟩) s.length p:=by
 intro p h0 h1 h2;have hu:atL ⟨s,x::l.dropLast⟩=atL ⟨s++[x],l⟩:=funext (JL hl x hx);rw[hu]at h2;refine hmin p h0 (by simp at h1;omega) (h2.mono (by simp))
def LA(l:List Int):Nat->Nat->Nat
 |0,n=>n
 |f+1,n=>if C8 l n=true then n else LA l f (n+1)
def AY(l:List Int):Nat:=LA l l.length 1
theorem JC{l:List Int}:C8 l l.length=true:=De.2 ⟨Nat.mod_self _,fun i hi=>by omega⟩
theorem On{l:List Int}:∀(f n:Nat),0<n->n+f=l.length+1->(∀r,0<r->r<n->C8 l r=false)->0<l.length->
  0<LA l f n/\LA l f n<=max l.length n/\(n<=l.length->C8 l (LA l f n)=true/\LA l f n<=l.length)/\∀r,0<r->r<LA l f n->C8 l r=false:=by
 intro f
 induction f with
 |zero=>intro n h0 h1 h2 _;exact⟨h0,Nat.le_max_right _ _,fun h=>by omega,h2⟩
 |succ f ih=>
  intro n h0 h1 h2 hl;unfold LA
  by_cases hr:C8 l n=true
  ·rw[if_pos hr];exact⟨h0,Nat.le_max_right _ _,fun h=>⟨hr,h⟩,h2⟩
  ·rw[if_neg hr]
   have h3:∀r,0<r->r<n+1->C8 l r=false:=fun r hr0 hr1=>by
    rcases Nat.lt_or_ge r n with h|h
    ·exact h2 r hr0 h
    ·obtain rfl:r=n:=by omega
     simpa using hr
   have hne:n≠l.length:=fun e=>hr (by rw[e];exact JC)
   obtain⟨i1,i2,i3,i4⟩:=ih (n+1) (by omega) (by omega) h3 hl;exact⟨i1,by omega,fun h=>i3 (by omega),i4⟩
theorem GY{l:List Int}(hl:0<l.length):0<AY l/\AY l<=l.length/\C8 l (AY l)=true/\∀r,0<r->r<AY l->C8 l r=false:=by
 obtain⟨h1,_,h3,h4⟩:=On (l:=l) l.length 1 (by omega) (by omega) (fun r h0 h1=>by omega) hl;obtain⟨h5,h6⟩:=h3 (by omega);exact⟨h1,h6,h5,h4⟩
structure BB(w:Ls)(s l:List Int):Prop where
 word:∀i,atL ⟨s,l⟩ i=atL w i
 pos:0<l.length
 min:∀p,0<p->p<l.length->¬Per (atL ⟨s,l⟩) s.length p
theorem BB.start{w:Ls}(hl:0<w.loop.length):BB w w.stem (w.loop.take (AY w.loop)):=by
 obtain⟨h1,h2,h3,h4⟩:=GY hl;have hw:=ON h3 h1 hl h2
 have hlen:(w.loop.take (AY w.loop)).length=AY w.loop:=by rw[List.length_take];omega
 refine⟨hw,by omega,fun p h5 h6 h7=> ?_⟩;rw[hlen]at h6;rw[show atL ⟨w.stem,w.loop.take (AY w.loop)⟩=atL w from funext hw]at h7;obtain⟨q,hq0,hq1,hq2,hq3,hq4⟩:=Per.least (J2 w) hl
 have hqp:q<=p:=by
  rcases Nat.lt_or_ge p q with h|h
  ·exact absurd h7 (hq4 p h5 h)
  ·exact h
 have:=LL hq2 hq3;rw[h4 q hq0 (by omega)]at this
 cases this
theorem BB.turn{w:Ls}{s l:List Int}{x:Int}(h:BB w (s++[x]) l)(hx:l.getD (l.length-1) 0=x):BB w s (x::l.dropLast):=
 ⟨fun i=>(JL h.pos x hx i).trans (h.word i),by simp,QO h.pos x hx h.min⟩
theorem BB.done{w:Ls}{s l:List Int}(h:BB w s l)(he:s=[]\/s.getLast? ≠l.getLast?):DX ⟨s,l⟩:=⟨h.pos,h.min,he⟩
def Dz:Nat->List Int->List Int->Ls
 |0,s,l=>⟨s,l⟩
 |k+1,s,l=>if s≠[]/\s.getLast? =l.getLast? then Dz k s.dropLast (l.getD (l.length-1) 0::l.dropLast)else⟨s,l⟩
def Cw(w:Ls):Ls:=Dz w.stem.length w.stem (w.loop.take (AY w.loop))
theorem Ks{w:Ls}:∀(k:Nat)(s l:List Int),s.length<=k->BB w s l->DX (Dz k s l)/\(∀i,atL (Dz k s l) i=atL w i)/\(Dz k s l).stem.length<=s.length/\(Dz k s l).loop.length=l.length:=by
 intro k
 induction k with
 |zero=>
  intro s l hk h;have:s=[]:=List.eq_nil_of_length_eq_zero (by omega);subst this;exact⟨h.done (.inl rfl),h.word,by simp[Dz],rfl⟩
 |succ k ih=>
  intro s l hk h;unfold Dz
  split
  ·rename_i hc;obtain⟨hne,he⟩:=hc
   have hln:l≠[]:=by have:=h.pos;intro e;rw[e]at this;simp at this
   have hpos:=List.length_pos_iff.2 hne
   have hsplit:s=s.dropLast++[l.getD (l.length-1) 0]:=by
    rw[BF s hne,BF l hln]at he
    have e2:s.getLast hne=l.getD (l.length-1) 0:=by
     have:=List.getLast?_eq_some_getLast hne;rw[BF s hne]at this;rw[<-Option.some.inj he];exact(Option.some.inj this).symm
    conv=>lhs;rw[<-List.dropLast_concat_getLast hne,e2]
   have h2:BB w s.dropLast (l.getD (l.length-1) 0::l.dropLast):=by
    rw[hsplit]at h;exact h.turn rfl
   obtain⟨i1,i2,i3,i4⟩:=ih _ _ (by rw[List.length_dropLast];omega) h2;refine⟨i1,i2,by rw[List.length_dropLast]at i3;omega, ?_⟩;rw[i4];have:=h.pos;simp;omega
  ·rename_i hc;refine⟨h.done ?_,h.word,Nat.le_refl _,rfl⟩
   by_cases hs:s=[]
   ·exact .inl hs
   ·exact .inr fun e=>hc ⟨hs,e⟩
theorem EH{w:Ls}(hl:0<w.loop.length):DX (Cw w)/\(∀i,atL (Cw w) i=atL w i)/\(Cw w).stem.length<=w.stem.length/\(Cw w).loop.length<=w.loop.length:=by
 obtain⟨h1,h2,h3,h4⟩:=Ks w.stem.length w.stem _ leR (BB.start hl);refine⟨h1,h2,h3, ?_⟩;show(Dz _ _ _).loop.length<=_;rw[h4,List.length_take];omega
theorem Lv{w x:Ls}(hl:0<w.loop.length)(hx:DX x)(h:∀i,atL x i=atL w i):x=Cw w:=
 I5 hx (EH hl).1 fun i=>(h i).trans ((EH hl).2.1 i).symm
theorem Lm{w:Ls}(hl:0<w.loop.length):((∀x∈w.stem,CO x=true)/\∀x∈w.loop,CO x=true)↔∀i,CO (atL w i)=true:=by
 constructor
 ·rintro⟨h1,h2⟩ i;unfold atL
  split
  ·rename_i h;refine h1 _ ?_;simp[List.getD,h]
  ·have:=Nat.mod_lt (i-w.stem.length) hl;refine h2 _ ?_;simp[List.getD,this]
 ·intro h;refine⟨fun x hx=> ?_,fun x hx=> ?_⟩
  ·obtain⟨i,hi,rfl⟩:=List.getElem_of_mem hx;have:=h i;rw[Ed hi]at this;simpa[List.getD,hi]using this
  ·obtain⟨i,hi,rfl⟩:=List.getElem_of_mem hx;have:=h (w.stem.length+i);rw[Ec hi]at this;simpa[List.getD,hi]using this
def C9:Ls:=⟨[],[]⟩
def IN(w:Ls):Ls:=if BV (Cw w)=true then Cw w else C9
/-! Suffixes, prefixes. -/
def B4(l:List Int)(k:Nat):List Int:=l.drop k++l.take k
theorem Cg(l:List Int)(k:Nat):(B4 l k).length=l.length:=by simp[B4];omega
theorem Fv{l:List Int}{k:Nat}(hk:k<=l.length)(i:Nat)(hi:i<l.length):(B4 l k).getD i 0=l.getD ((k+i)%l.length) 0:=by
 unfold B4
 rcases Nat.lt_or_ge i (l.length-k)with h|h
 ·rw[Nat.mod_eq_of_lt (by omega)];simp[List.getD,List.getElem?_append_left,h,show k+i<l.length by omega]
 ·rw[Nat.mod_eq_sub_mod (by omega),Nat.mod_eq_of_lt (by omega)];simp only[List.getD];rw[List.getElem?_append_right (by simp;omega),List.length_drop,List.getElem?_take,if_pos (by omega)]
  congr 2
  omega
def CF(w:Ls)(n:Nat):List Int:=(List.range n).map (atL w)
def Bt(w:Ls)(n:Int):List Int:=if 1<=n/\n<=500/\BV w=true then CF w n.toNat else[]
/-! A list turned back step by step. -/
theorem JK{l:List Int}{b:Nat}(hb:b<l.length):(B4 l ((l.length-b)%l.length)).getD (l.length-1) 0=l.getD (l.length-1-b) 0:=by
 rw[Fv (Nat.le_of_lt (Nat.mod_lt _ (by omega))) _ (by omega)]
 congr 1
 rcases Nat.eq_zero_or_pos b with rfl|h
 ·rw[Nat.sub_zero,Nat.mod_self,Nat.zero_add,Nat.mod_eq_of_lt (by omega)];omega
 ·rw[Nat.mod_eq_of_lt (show l.length-b<l.length by omega),Nat.mod_eq_sub_mod (by omega),Nat.mod_eq_of_lt (by omega)];omega
theorem OR{l:List Int}{b:Nat}(hb:b<l.length):B4 l ((l.length-(b+1)%l.length)%l.length)=l.getD (l.length-1-b) 0::(B4 l ((l.length-b)%l.length)).dropLast:=by
 have hn:0<l.length:=by omega
 have hlen:(l.getD (l.length-1-b) 0::(B4 l ((l.length-b)%l.length)).dropLast).length=l.length:=by simp[Cg];omega
 refine EA (by rw[hlen,Cg]) fun i hi=> ?_
 rw[Cg]at hi;rw[Fv (Nat.le_of_lt (Nat.mod_lt _ hn)) _ hi]
 have e1:∀c,c<l.length->(l.length-c)%l.length=if c=0 then 0 else l.length-c:=fun c hc=>by
  split
  ·subst c;simp
  ·exact Nat.mod_eq_of_lt (by omega)
 have hb1:(l.length-(b+1)%l.length)%l.length=l.length-1-b:=by
  rw[e1 _ (Nat.mod_lt _ hn)]
  by_cases h:b+1=l.length
  ·rw[h,Nat.mod_self,if_pos rfl];omega
  ·rw[Nat.mod_eq_of_lt (show b+1<l.length by omega),if_neg (by omega)];omega
 rw[hb1]
 cases i with
 |zero=>rw[Nat.add_zero,Nat.mod_eq_of_lt (by omega)];rfl
 |succ i=>
  have e2:(l.getD (l.length-1-b) 0::(B4 l ((l.length-b)%l.length)).dropLast).getD (i+1) 0=(B4 l ((l.length-b)%l.length)).getD i 0:=by
   simp only[List.getD,List.getElem?_cons_succ,List.getElem?_dropLast,Cg];rw[if_pos (by omega)]
  rw[e2,Fv (Nat.le_of_lt (Nat.mod_lt _ hn)) _ (by omega)]
  congr 1
  rw[e1 b hb]
  split
  ·subst b;rw[Nat.zero_add,Nat.mod_eq_of_lt (show i<l.length by omega),Nat.mod_eq_sub_mod (by omega),Nat.mod_eq_of_lt (by omega)];omega
  ·congr 1;omega
theorem BB.step{w:Ls}{s l:List Int}{k b:Nat}(h:BB w (s.take (k+1)) (B4 l ((l.length-b)%l.length)))(hk:k<s.length)(hb:b<l.length)(he:s.getD k 0=l.getD (l.length-1-b) 0):
  BB w (s.take k) (B4 l ((l.length-(b+1)%l.length)%l.length)):=by
 have e:s.take (k+1)=s.take k++[s.getD k 0]:=by rw[List.take_succ_eq_append_getElem hk];simp[List.getD,hk]
 rw[e]at h;rw[OR hb,<-he];refine h.turn ?_;rw[Cg,JK hb,he]
theorem BB.stop{w:Ls}{s l:List Int}{k b:Nat}(hw:0<w.loop.length)(h:BB w (s.take k) (B4 l ((l.length-b)%l.length)))(hk:k<=s.length)(hb:b<l.length)(he:k=0\/s.getD (k-1) 0≠l.getD (l.length-1-b) 0):
  (⟨s.take k,B4 l ((l.length-b)%l.length)⟩:Ls)=Cw w:=by
 refine Lv hw (h.done ?_) h.word
 rcases he with rfl|he
 ·exact .inl (by simp)
 ·by_cases h0:k=0
  ·subst h0;exact .inl (by simp)
  ·refine .inr fun e=>he ?_
   have h1:s.take k≠[]:=by intro e;have:=congrArg List.length e;rw[List.length_take,List.length_nil]at this;omega
   have h2:B4 l ((l.length-b)%l.length)≠[]:=by intro e;have:=congrArg List.length e;rw[Cg,List.length_nil]at this;omega
   rw[BF _ h1,BF _ h2,Cg,JK hb]at e;have h3:=Option.some.inj e;rw[<-h3,List.length_take,Nat.min_eq_left hk];simp[List.getD,show k-1<k by omega]
theorem BB.start'{w:Ls}(hl:0<w.loop.length):BB w (w.stem.take w.stem.length) (B4 (w.loop.take (AY w.loop)) (((w.loop.take (AY w.loop)).length-0)%(w.loop.take (AY w.loop)).length)):=by
 rw[List.take_length,Nat.sub_zero,Nat.mod_self];simpa[B4]using BB.start hl
/-! The length of the shortest piece. -/
theorem NC{l:List Int}(hl:0<l.length){n:Nat}(h0:0<n)(h:C8 l n=true)(hm:∀r,0<r->r<n->C8 l r=false):AY l=n:=by
 obtain⟨h1,_,h3,h4⟩:=GY hl
 rcases Nat.lt_trichotomy (AY l) n with c|c|c
 ·rw[hm _ h1 c]at h3;cases h3
 ·exact c
 ·rw[h4 _ h0 c]at h;cases h
/-! Cyclic reading. -/
def B1(w:Ls)(i:Nat):Nat:=if i<w.stem.length then i else w.stem.length+(i-w.stem.length)%w.loop.length
theorem Ki{w:Ls}(hl:0<w.loop.length)(i:Nat):B1 w i<w.stem.length+w.loop.length:=by
 unfold B1;have:=Nat.mod_lt (i-w.stem.length) hl
 split<;>omega
theorem RS{w:Ls}(hl:0<w.loop.length)(i:Nat):atL w (B1 w i)=atL w i:=by
 unfold B1
 split
 ·rfl
 ·rename_i h;have:=Nat.mod_lt (i-w.stem.length) hl;unfold atL;rw[if_neg (by omega),if_neg h,Nat.add_sub_cancel_left,Nat.mod_mod]
theorem GZ{w:Ls}(hl:0<w.loop.length)(i:Nat):B1 w (i+1)=if B1 w i+1=w.stem.length+w.loop.length then w.stem.length else B1 w i+1:=by
 unfold B1
 by_cases h1:i+1<w.stem.length
 ·rw[if_pos h1,if_pos (show i<w.stem.length by omega),if_neg (by omega)]
 ·rw[if_neg h1]
  by_cases h2:i<w.stem.length
  ·rw[if_pos h2]
   have e:i+1-w.stem.length=0:=by omega
   rw[e,Nat.zero_mod]
   split<;>omega
  ·rw[if_neg h2];have hm:=Nat.mod_lt (i-w.stem.length) hl
   have e:i+1-w.stem.length=(i-w.stem.length)+1:=by omega
   rw[e,Nat.add_mod]
   by_cases h3:(i-w.stem.length)%w.loop.length+1=w.loop.length
   ·rw[if_pos (by omega)]
    by_cases h4:w.loop.length=1
    ·rw[h4];simp[Nat.mod_one]
    ·rw[Nat.mod_eq_of_lt (show 1<w.loop.length by omega),h3,Nat.mod_self];omega
   ·rw[if_neg (by omega),Nat.mod_eq_of_lt (show 1<w.loop.length by omega),Nat.mod_eq_of_lt (by omega)];omega
end Go.Proofs.YtncjeamdkjcebaaGreatDoor
namespace Go.Proofs.YtncjeamdkjcebaaGreatDoor
open Go.RowKit
theorem CG{wr:World}{n:Nat}{t:TypeId}{x y a b:Value}(h:wr.heap[n]? =some (.cells #[x,y] t (0,0))):((wr.setCell ⟨n,0,none⟩ a).setCell ⟨n,1,none⟩ b).heap[n]? =some (.cells #[a,b] t (0,0)):=
 heap_setCell_same _ n 1 _ _ b (heap_setCell_same _ n 0 _ _ a h)
theorem GO{w wr:World}{n:Nat}{a b:Value}(h:Below w.heap.size w wr)(hn:w.heap.size<=n):Below w.heap.size w ((wr.setCell ⟨n,0,none⟩ a).setCell ⟨n,1,none⟩ b):=
 (h.setCell hn _).setCell hn _
theorem Ai.setOther{w:World}{v u x:Value}{l:List Int}{a:Addr}(h:Ai w v l)(hx:w.cell? a=some x)(hne:∀k n,x≠.int k n):Ai (w.setCell a u) v l:=by
 obtain⟨⟨ao,cap,b,off,rfl,g⟩,r⟩:=h;refine⟨⟨ao,cap,b,off,rfl,⟨g.lc,g.cm,g.nm,g.nc,g.ad,fun j hj=> ?_⟩⟩,r⟩;have e:=g.el j hj;rw[World.cell?_setCell_other _ _ _ _ (fun he=> ?_)]
 ·exact e
 ·rw[<-he,hx]at e;exact hne _ _ (Option.some.inj e)
theorem Ai.setTwo{w:World}{v p q:Value}{l:List Int}{n:Nat}{t:TypeId}{ao bo:Option Addr}{m1 m2 c1 c2:Nat}(h:Ai w v l)(hx:w.heap[n]? =some (.cells #[.slice ao m1 c1,.slice bo m2 c2] t (0,0))):Ai ((w.setCell ⟨n,0,none⟩ p).setCell ⟨n,1,none⟩ q) v l:=by
 have h0:=h.setOther (u:=p) (cell_of_row w n 0 _ _ _ hx) (fun _ _ e=>by cases e);exact h0.setOther (cell_of_row _ n 1 _ _ _ (heap_setCell_same _ n 0 _ _ p hx)) (fun _ _ e=>by cases e)
theorem SF{w:World}{n m1 m2 c1 c2:Nat}{t:TypeId}{ao bo:Option Addr}(h:w.heap[n]? =some (.cells #[.slice ao m1 c1,.slice bo m2 c2] t (0,0))):
  w.cell? ⟨n,0,none⟩=some (.slice ao m1 c1)/\w.cell? ⟨n,1,none⟩=some (.slice bo m2 c2)/\w.frozen? ⟨n,0,none⟩=false/\w.frozen? ⟨n,1,none⟩=false:=
 ⟨Aa 0 h,Aa 1 h,Ay 0 h,Ay 1 h⟩
theorem Nv{w wr:World}{n m1 m2 c1 c2:Nat}{t:TypeId}{ao bo:Option Addr}{x y:Value}{l:Ls}(hr:wr.heap[n]? =some (.cells #[.slice ao m1 c1,.slice bo m2 c2] t (0,0)))(h1:Ai wr x l.stem)(h2:Ai wr y l.loop)(hb:Below w.heap.size w wr)(hn:w.heap.size<=n):
  Fx l w (.returned (.agg #[x,y])) ((wr.setCell ⟨n,0,none⟩ x).setCell ⟨n,1,none⟩ y):=
 ⟨_,rfl,⟨_,_,rfl,h1.setTwo hr,h2.setTwo hr⟩,GO hb hn⟩
structure RdX(w0 w:World)(gb gp:Nat)(a0 a1:Option Addr)(c0 c1:Nat)(l:Ls)(x:Int):Prop where
 ls:Co w0 (.agg #[.slice a0 l.stem.length c0,.slice a1 l.loop.length c1]) l
 bl:Below w0.heap.size w0 w
 ge:w0.heap.size<=gp
 ne:gb≠gp
 box:w.heap[gb]? =some (.cells #[.slice a0 l.stem.length c0,.slice a1 l.loop.length c1] 30 (0,0))
 ptr:w.heap[gp]? =some (.cells #[.int .i64 x] 3 (0,0))
theorem RdX.below{w0 w w':World}{gb gp:Nat}{a0 a1:Option Addr}{c0 c1:Nat}{l:Ls}{x:Int}(h:RdX w0 w gb gp a0 a1 c0 c1 l x)(hb:Below w.heap.size w w'):RdX w0 w' gb gp a0 a1 c0 c1 l x:=
 ⟨h.ls,h.bl.trans (hb.mono h.bl.size),h.ge,h.ne,(hb.block _ (Array.getElem?_eq_some_iff.1 h.box).1).trans h.box,(hb.block _ (Array.getElem?_eq_some_iff.1 h.ptr).1).trans h.ptr⟩
theorem RdX.keep{w0 w w':World}{gb gp:Nat}{a0 a1:Option Addr}{c0 c1:Nat}{l:Ls}{x:Int}(h:RdX w0 w gb gp a0 a1 c0 c1 l x)(hb:Below w0.heap.size w w')(h1:w'.heap[gb]? =w.heap[gb]?)(h2:w'.heap[gp]? =w.heap[gp]?):RdX w0 w' gb gp a0 a1 c0 c1 l x:=
 ⟨h.ls,h.bl.trans hb,h.ge,h.ne,h1.trans h.box,h2.trans h.ptr⟩
theorem Kr{wr:World}{n:Nat}{t:TypeId}{x a:Value}(h:wr.heap[n]? =some (.cells #[x] t (0,0))):(wr.setCell ⟨n,0,none⟩ a).heap[n]? =some (.cells #[a] t (0,0)):=heap_setCell_same _ n 0 _ _ a h
theorem RdX.set{w0 w wr:World}{gb gp:Nat}{a0 a1:Option Addr}{c0 c1:Nat}{l:Ls}{x:Int}(h:RdX w0 wr gb gp a0 a1 c0 c1 l x)(hg:w.grownBy wr (some gp))(y:Int):
  w.grownBy (wr.setCell ⟨gp,0,none⟩ (.int .i64 y)) (some gp)/\RdX w0 (wr.setCell ⟨gp,0,none⟩ (.int .i64 y)) gb gp a0 a1 c0 c1 l y:=by
 refine⟨⟨hg.os,hg.tape,hg.output, ?_, ?_⟩,⟨h.ls,h.bl.setCell h.ge _,h.ge,h.ne, ?_,Kr h.ptr⟩⟩
 ·rw[World.size_setCell];exact hg.size
 ·intro k hk hne';rw[heap_setCell_other _ _ _ _ (by intro e;exact hne' (by simp at e;rw[e]))];exact hg.block k hk hne'
 ·rw[heap_setCell_other _ _ _ _ (by exact h.ne)];exact h.box
def Sw(w0:World)(gb gp:Nat)(a0 a1:Option Addr)(c0 c1:Nat)(l:Ls)(i:Nat)(w:World)(e:Ending)(w':World):Prop:=
 e=.returned (.int .i64 (atL l i))/\w.grownBy w' (some gp)/\RdX w0 w' gb gp a0 a1 c0 c1 l (B1 l (i+1):Nat)
theorem Qy(w:World)(v0 v1:Value):
  Calls Tryz.prog 111 #[.agg #[v0,v1]] w (fun e w'=>e=.returned (.func (.func 127) #[] #[.pointer (some ⟨w.heap.size,0,none⟩),.pointer (some ⟨w.heap.size+1,0,none⟩)])/\w'=(w.alloc (.cells #[v0,v1] 30)).alloc (.cells #[.int .i64 0] 3)):=by
 go_enter Tryz.func111,Tryz.ntmps111
 go_wp2;go_ret;exact⟨rfl,rfl⟩
theorem OC(w0 w:World)(gb gp:Nat)(a0 a1:Option Addr)(c0 c1:Nat)(l:Ls)(i:Nat)(h:RdX w0 w gb gp a0 a1 c0 c1 l (B1 l i:Nat))(hp:0<l.loop.length)(hs:l.stem.length<=1000)(hl:l.loop.length<=1000):
  Calls Tryz.prog 127 #[.pointer (some ⟨gb,0,none⟩),.pointer (some ⟨gp,0,none⟩)] w (Sw w0 gb gp a0 a1 c0 c1 l i w):=by
 have hlt:=Ki hp i
 have HPick:Hid (∀W,Below w0.heap.size w0 W->Calls Tryz.prog 70 #[.agg #[.slice a0 l.stem.length c0,.slice a1 l.loop.length c1],.int .i64 (B1 l i:Nat)] W (Av (.int .i64 (atL l i)) W)):=fun W hW=>by
  have:=Qp W _ l (B1 l i) (h.ls.below hW) hp (by unfold I64;omega)
  rwa [RS hp]at this
 have HNext:=Ab (GZ hp i);have H:=Ab h;have k0:w.cell? ⟨gb,0,none⟩=some (.slice a0 l.stem.length c0):=Aa 0 h.box;have k1:w.cell? ⟨gb,1,none⟩=some (.slice a1 l.loop.length c1):=Aa 1 h.box;have k2:w.cell? ⟨gp,0,none⟩=some (.int .i64 (B1 l i:Nat)):=Aa 0 h.ptr;clear h
 go_enter Tryz.func127,Tryz.ntmps127
 go_wp2_with fail
 refine(HPick.out _ H.out.bl).mono ?_;rintro e w2 ⟨rfl,hb⟩;have e0:=Ah hb k0;have e1:=Ah hb k1;have e2:=Ah hb k2;have h2:=H.out.below hb;have ef:w2.frozen? ⟨gp,0,none⟩=false:=Ay 0 h2.ptr;have hne:gb≠gp:=H.out.ne;have hg2:w.grownBy w2 (some gp):=⟨hb.os,hb.tape,hb.output,hb.size,fun k hk _=>hb.block k hk⟩;have HG:=Ab (h2.set hg2 ((B1 l i:Nat)+1:Int));have HG2:=Ab (HG.out.2.set HG.out.1 (l.stem.length:Nat));have s0:(w2.setCell ⟨gp,0,none⟩ (.int .i64 ((B1 l i:Nat)+1:Int))).cell? ⟨gb,0,none⟩=some (.slice a0 l.stem.length c0):=(World.cell?_of_block (a:=⟨gb,0,none⟩) (heap_setCell_other _ _ _ _ (by exact hne))).trans e0;have s1:(w2.setCell ⟨gp,0,none⟩ (.int .i64 ((B1 l i:Nat)+1:Int))).cell? ⟨gb,1,none⟩=some (.slice a1 l.loop.length c1):=(World.cell?_of_block (a:=⟨gb,1,none⟩) (heap_setCell_other _ _ _ _ (by exact hne))).trans e1;clear k0 k1 k2 hb hne hg2 h2
 by_cases hq:B1 l i+1=l.stem.length+l.loop.length
 ·have hq2:(((B1 l i:Nat):Int)+1==(l.stem.length:Int)+l.loop.length)=true:=by simp;omega
  have HN:Hid (B1 l (i+1)=l.stem.length):=by show _=_;rw[HNext.out,if_pos hq]
  have HR:Hid (∀W,RdX w0 W gb gp a0 a1 c0 c1 l (l.stem.length:Nat)->RdX w0 W gb gp a0 a1 c0 c1 l (B1 l (i+1):Nat)):=fun W h=>by rw[HN.out];exact h
  clear hq HNext;generalize B1 l i=p at*;go_wp2;go_ret;exact⟨rfl,HG2.out.1,HR.out _ HG2.out.2⟩
 ·have hq2:(((B1 l i:Nat):Int)+1==(l.stem.length:Int)+l.loop.length)=false:=by simp;omega
  have HN:Hid (B1 l (i+1)=B1 l i+1):=by show _=_;rw[HNext.out,if_neg hq]
  have HR:Hid (∀W,RdX w0 W gb gp a0 a1 c0 c1 l ((B1 l i:Nat)+1:Int)->RdX w0 W gb gp a0 a1 c0 c1 l (B1 l (i+1):Nat)):=fun W h=>by rw[HN.out];exact h
  clear hq HNext HG2;generalize B1 l i=p at*;go_wp2;go_ret;exact⟨rfl,HG.out.1,HR.out _ HG.out.2⟩
end Go.Proofs.YtncjeamdkjcebaaGreatDoor
