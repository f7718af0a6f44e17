/- Which plays of a strategy are lost: cycles through priorities at least that of a bad position, and the components that hold them, in plain terms. -/
import Derived.Maps.OwnSet
import Derived.Maps.OwnIn
import Derived.DeepKeys4
import Derived.Test.YtncjeamdkjcebaaDoorZMyN
set_option linter.all false
set_option maxRecDepth 100000
namespace Go.Proofs.YtncjeamdkjcebaaDoor
inductive Cyc(E:Nat->Nat->Prop)(A:Nat->Prop):Nat->Nat->Prop
 |one {a b:Nat}:A a->A b->E a b->Cyc E A a b
 |step {a b c:Nat}:Cyc E A a b->A c->E b c->Cyc E A a c
theorem Cyc.left{E:Nat->Nat->Prop}{A:Nat->Prop}{a b:Nat}(h:Cyc E A a b):A a:=by
 induction h with
 |one h _ _=>exact h
 |step _ _ _ ih=>exact ih
theorem Cyc.right{E:Nat->Nat->Prop}{A:Nat->Prop}{a b:Nat}(h:Cyc E A a b):A b:=by
 cases h with
 |one _ h _=>exact h
 |step _ h _=>exact h
theorem Cyc.trans{E:Nat->Nat->Prop}{A:Nat->Prop}{a b c:Nat}(h1:Cyc E A a b)(h2:Cyc E A b c):Cyc E A a c:=by
 induction h2 with
 |one _ hc e=>exact h1.step hc e
 |step _ hc e ih=>exact ih.step hc e
theorem Cyc.mono{E:Nat->Nat->Prop}{A B:Nat->Prop}(hAB:∀x,A x->B x){a b:Nat}(h:Cyc E A a b):Cyc E B a b:=by
 induction h with
 |one ha hb e=>exact .one (hAB _ ha) (hAB _ hb) e
 |step _ hc e ih=>exact ih.step (hAB _ hc) e
def In(E:Nat->Nat->Prop)(A:Nat->Prop)(x y:Nat):Prop:=A x/\A y/\E x y
theorem Cyc.rch{E:Nat->Nat->Prop}{A:Nat->Prop}{a b:Nat}(h:Cyc E A a b):Rch (In E A) a b:=by
 induction h with
 |one ha hb e=>exact Rch.one ⟨ha,hb,e⟩
 |step h hc e ih=>exact ih.step ⟨h.right,hc,e⟩
theorem Mf{E:Nat->Nat->Prop}{A:Nat->Prop}{a b:Nat}(h:Rch (In E A) a b)(hne:a≠b):Cyc E A a b:=by
 induction h with
 |refl=>exact absurd rfl hne
 |step h e ih=>
  rename_i x y
  by_cases hx:a=x
  ·subst hx;exact .one e.1 e.2.1 e.2.2
  ·exact(ih hx).step e.2.1 e.2.2
theorem Cyc.comp{E:Nat->Nat->Prop}{A C:Nat->Prop}{a b:Nat}(h:Cyc E A a b)(hba:b=a\/Cyc E A b a)(hC:∀x,Rch (In E A) a x->Rch (In E A) x a->C x):Cyc E C a b:=by
 induction h with
 |one ha hb e=>
  refine .one (hC _ (Rch.refl _) (Rch.refl _)) (hC _ (Rch.one ⟨ha,hb,e⟩) ?_) e
  rcases hba with rfl|h
  ·exact Rch.refl _
  ·exact h.rch
 |step h hc e ih=>
  rename_i x y
  have hca:Rch (In E A) y a:=by
   rcases hba with rfl|k
   ·exact Rch.refl _
   ·exact k.rch
  have hxa:Cyc E A x a:=by
   rcases hba with rfl|k
   ·exact .one h.right hc e
   ·exact(Cyc.one h.right hc e).trans k
  exact(ih (.inr hxa)).step (hC _ (h.rch.step ⟨h.right,hc,e⟩) hca) e
section
variable (E:Nat->Nat->Prop) (pr:Nat->Int) (bad:Nat->Prop)
def EV(A:Nat->Prop):Prop:=∀i,A i->bad i->¬Cyc E (fun x=>A x/\pr i<=pr x) i i
end
section
variable (E:Nat->Nat->Prop) (pr:Nat->Int) (bad:Nat->Prop)
variable {E pr bad}
theorem EV.sub{A B:Nat->Prop}(h:EV E pr bad A)(hBA:∀x,B x->A x):EV E pr bad B:=fun i hi hb k=>h i (hBA i hi) hb (k.mono fun x hx=>⟨hBA x hx.1,hx.2⟩)
theorem EV.comps{A:Nat->Prop}(h:∀C:Nat->Prop,(∀x,C x->A x)->(∀x y,C x->A y->(C y↔Rch (In E A) x y/\Rch (In E A) y x))->(∃x,C x)->EV E pr bad C):EV E pr bad A:=fun i hi hb k=>by
 have hC:=h (fun x=>A x/\Rch (In E A) i x/\Rch (In E A) x i) (fun x hx=>hx.1) (fun x y hx hy=>⟨fun h=>⟨hx.2.2.trans h.2.1,h.2.2.trans hx.2.1⟩,fun h=>⟨hy,hx.2.1.trans h.1,h.2.trans hx.2.2⟩⟩) ⟨i,hi,Rch.refl _,Rch.refl _⟩;refine hC i ⟨hi,Rch.refl _,Rch.refl _⟩ hb ?_
 have k2:Cyc E (fun x=>(A x/\Rch (In E A) i x/\Rch (In E A) x i)/\pr i<=pr x) i i:=by
  refine k.comp (.inl rfl) fun x h1 h2=> ?_
  have hm:∀a b,Rch (In E fun x=>A x/\pr i<=pr x) a b->Rch (In E A) a b:=fun a b hab=>by
   induction hab with
   |refl=>exact Rch.refl _
   |step _ e ih=>exact ih.step ⟨e.1.1,e.2.1.1,e.2.2⟩
  have hx:A x/\pr i<=pr x:=Rch.closed (A:=fun x=>A x/\pr i<=pr x) (fun _ _ _ e=>e.2.1) h1 ⟨hi,Int.le_refl _⟩;exact⟨⟨hx.1,hm _ _ h1,hm _ _ h2⟩,hx.2⟩
 exact k2
theorem EV.rest{C:Nat->Prop}{m:Int}(hm:∀i,C i->bad i->m<=pr i):EV E pr bad C↔EV E pr bad (fun x=>C x/\m<=pr x):=by
 refine⟨fun h=>h.sub fun x hx=>hx.1,fun h i hi hb k=>h i ⟨hi,hm i hi hb⟩ hb (k.mono fun x hx=> ?_)⟩;have:=hm i hi hb;exact⟨⟨hx.1,by omega⟩,hx.2⟩
theorem EV.none{C:Nat->Prop}{i:Nat}(hi:C i)(hb:bad i)(hm:∀x,C x->pr i<=pr x)(hc:∀x y,C x->C y->Rch (In E C) x y):EV E pr bad C↔¬∃x y,C x/\C y/\E x y:=by
 refine⟨fun h=> ?_,fun h j hj hbj k=> ?_⟩
 ·rintro⟨x,y,hx,hy,e⟩;refine h i hi hb ?_
  have e1:Cyc E C i i:=by
   have c1:Cyc E C x y:=.one hx hy e
   have c2:Cyc E C x i:=by
    by_cases hyi:y=i
    ·subst hyi;exact c1
    ·exact c1.trans (Mf (hc y i hy hi) hyi)
   by_cases hix:i=x
   ·subst hix;exact c2
   ·exact(Mf (hc i x hi hx) hix).trans c2
  exact e1.mono fun x hx=>⟨hx,hm x hx⟩
 ·apply h
  cases k with
  |one h1 h2 e=>exact⟨_,_,h1.1,h2.1,e⟩
  |step k h2 e=>exact⟨_,_,k.right.1,h2.1,e⟩
end
theorem Ft{n:Nat}{l:List Nat}(hn:l.Nodup)(h:∀v∈l,v<n):l.length<=n:=by
 have:=List.Nodup.length_le_of_subset hn (l₂:=List.range n) fun v hv=>List.mem_range.2 (h v hv)
 simpa using this
structure Rep(n:Nat)(part:Nat->Prop)(t:Tj)(ord stk:List Nat)(opn:List Bool)(comps:List (List Nat)):Prop where
 num:∀v,t.num v=if v∈ord then ord.idxOf v+1 else 0
 cnt:t.cnt=ord.length
 sk:t.stk=stk
 nd:ord.Nodup
 op:∀v∈ord,part v
 on:opn.length=n
 oi:∀v,v<n->(opn.getD v false=true↔part v/\t.prt v=0)
 cw:∀c∈comps,c≠[]/\c.Nodup/\∃r,r≠0/\∀v,v∈c↔t.prt v=r
 cc:∀v,t.prt v≠0->∃c∈comps,v∈c
section
variable {n:Nat} {part:Nat->Prop} {t:Tj} {ord stk:List Nat} {opn:List Bool} {comps:List (List Nat)} {E:Nat->Nat->Prop} {G:List Nat} {s:Nat}
theorem Rep.in_ord(h:Rep n part t ord stk opn comps){v:Nat}:t.num v≠0↔v∈ord:=by
 rw[h.num v]
 by_cases k:v∈ord
 ·rw[if_pos k];exact⟨fun _=>k,fun _=>by omega⟩
 ·rw[if_neg k];exact⟨fun e=>absurd rfl e,fun e=>absurd e k⟩
theorem Rep.at(h:Rep n part t ord stk opn comps){v:Nat}(k:v∈ord):t.num v=ord.idxOf v+1:=by rw[h.num v,if_pos k]
theorem Rep.len(h:Rep n part t ord stk opn comps)(hp:∀v,part v->v<n):ord.length<=n:=Ft h.nd fun v hv=>hp v (h.op v hv)
theorem Rep.room(h:Rep n part t ord stk opn comps)(hp:∀v,part v->v<n)(hs:s∉ord)(hps:part s):ord.length<n:=by
 have:=Ft (n:=n) (l:=s::ord) (List.nodup_cons.2 ⟨hs,h.nd⟩) fun v hv=>by
  rcases List.mem_cons.1 hv with rfl|hv
  ·exact hp _ hps
  ·exact hp v (h.op v hv)
 rw[List.length_cons]at this;omega
theorem Of{l e:List Nat}{y:Nat}(h:y∈l):(l++e).idxOf y=l.idxOf y:=by
 rw[List.idxOf_append,if_pos h]
theorem Oe{l:List Nat}{y:Nat}(h:y∉l):(l++[y]).idxOf y=l.length:=by
 rw[List.idxOf_append,if_neg h];simp
theorem Rep.openV(h:Rep n part t ord stk opn comps)(hs:s∉ord)(hps:part s):Rep n part (t.openV s) (ord++[s]) (stk++[s]) opn comps:=by
 refine⟨fun v=> ?_,by show t.cnt+1=_;rw[h.cnt];simp,by show t.stk++[s]=_;rw[h.sk], ?_,fun v hv=> ?_,h.on,h.oi,h.cw,h.cc⟩
 ·by_cases hv:v=s
  ·subst hv;rw[if_pos (by simp),Oe hs,<-h.cnt];exact Cg _ _ _
  ·have e:(t.openV s).num v=t.num v:=Dz _ _ _ _ hv;rw[e,h.num v]
   by_cases hm:v∈ord
   ·rw[if_pos hm,if_pos (List.mem_append_left _ hm),Of hm]
   ·rw[if_neg hm,if_neg (by simp[hm,hv])]
 ·rw[List.nodup_append];exact⟨h.nd,by simp,fun a ha b hb=>by rw[List.mem_singleton.1 hb];rintro rfl;exact hs ha⟩
 ·rcases List.mem_append.1 hv with k|k
  ·exact h.op v k
  ·rw[List.mem_singleton.1 k];exact hps
theorem Rep.setLow(h:Rep n part t ord stk opn comps)(f:Nat->Nat):Rep n part {t with low:=f} ord stk opn comps:=⟨h.num,h.cnt,h.sk,h.nd,h.op,h.on,h.oi,h.cw,h.cc⟩
theorem Rep.pop{t0:Tj}{stk0 r:List Nat}{opn':List Bool}(h:Rep n part t ord (stk0++s::r) opn comps)(hi:DP E t G)(h0:t0.stk=stk0)(hl:opn'.length=n)
  (ho:∀v,v<n->(opn'.getD v false=true↔opn.getD v false=true/\v∉s::r)):Rep n part (t.pop t0 s) ord stk0 opn' (comps++[s::r]):=by
 have hst:t.stk=stk0++s::r:=h.sk;have hnd:=hi.nd;rw[hst,List.nodup_append]at hnd
 have hss:s∈t.stk:=by rw[hst];simp
 have hns:=(hi.st s).1 hss
 have hin:∀v,(v∈t.stk/\v∉t0.stk)↔v∈s::r:=fun v=>by
  rw[hst,h0,List.mem_append];refine⟨fun k=>k.1.resolve_left k.2,fun k=>⟨.inr k,fun k2=>hnd.2.2 v k2 v k rfl⟩⟩
 have hp:∀v,(t.pop t0 s).prt v=if v∈s::r then t.num s else t.prt v:=fun v=>by
  show(if v∈t.stk/\v∉t0.stk then t.num s else t.prt v)=_
  by_cases k:v∈s::r
  ·rw[if_pos ((hin v).2 k),if_pos k]
  ·rw[if_neg (fun e=>k ((hin v).1 e)),if_neg k]
 have hz:∀v∈s::r,t.prt v=0:=fun v hv=>((hi.st v).1 ((hin v).2 hv).1).2
 have hne:∀v,t.prt v≠t.num s:=fun v e=>by
  have hv:t.prt v≠0:=by rw[e];exact hns.1
  obtain⟨-,r',k1,k2⟩:=hi.pn v hv;have:r'=s:=hi.inj r' s (by rw[k2];exact hv) (by rw[k2,e]);subst this;rw[k1]at hns;exact hv hns.2
 refine⟨h.num,h.cnt,h0,h.nd,h.op,hl,fun v hv=> ?_,fun c hc=> ?_,fun v hv=> ?_⟩
 ·rw[ho v hv,h.oi v hv,hp v]
  by_cases k:v∈s::r
  ·rw[if_pos k];exact⟨fun e=>absurd k e.2,fun e=>absurd e.2 hns.1⟩
  ·rw[if_neg k];exact⟨fun e=>e.1,fun e=>⟨e,k⟩⟩
 ·rcases List.mem_append.1 hc with hc|hc
  ·obtain⟨k1,k2,q,k3,k4⟩:=h.cw c hc;refine⟨k1,k2,q,k3,fun v=> ?_⟩;rw[k4 v,hp v]
   by_cases k:v∈s::r
   ·rw[if_pos k,hz v k];refine⟨fun e=>absurd e.symm k3,fun e=> ?_⟩
    exfalso
    obtain⟨x,hx⟩:=List.exists_mem_of_ne_nil c k1;have:=(k4 x).1 hx;exact hne x (by rw[this,e])
   ·rw[if_neg k]
  ·rw[List.mem_singleton.1 hc];refine⟨by simp,hnd.2.1,t.num s,hns.1,fun v=> ?_⟩;rw[hp v]
   by_cases k:v∈s::r
   ·rw[if_pos k];exact⟨fun _=>rfl,fun _=>k⟩
   ·rw[if_neg k];exact⟨fun e=>absurd e k,fun e=>absurd e (hne v)⟩
 ·rw[hp v]at hv
  by_cases k:v∈s::r
  ·exact⟨_,by simp,k⟩
  ·rw[if_neg k]at hv;obtain⟨c,k1,k2⟩:=h.cc v hv;exact⟨c,List.mem_append_left _ k1,k2⟩
def Tj.lowerN(t:Tj)(s u:Nat):Tj:={t with low:=upN t.low s (min (t.low s) (t.num u))}
theorem DP.lowerN{u:Nat}(h:DP E t G)(hs:s∈t.stk)(hu:u∈t.stk)(he:Rch E s u):DP E (t.lowerN s u) G:=
 {h with
  lw:=fun v hv=>by
   by_cases hvs:v=s
   ·subst hvs;have e:(t.lowerN v u).low v=min (t.low v) (t.num u):=Cg _ _ _;rw[e];obtain⟨h1,z,hz,h2,h3⟩:=h.lw v hs;refine⟨by show _<=t.num v;omega, ?_⟩
    by_cases hc:t.low v<=t.num u
    ·exact⟨z,hz,by show t.num z=_;omega,h3⟩
    ·exact⟨u,hu,by show t.num u=_;omega,he⟩
   ·have e:(t.lowerN s u).low v=t.low v:=Dz _ _ _ _ hvs;rw[e]
    exact h.lw v hv}
theorem Cp.lowN{t0:Tj}{u:Nat}{done:Nat->Prop}(h:Cp E t0 t s G done)(hu:u∈t.stk)(he:E s u):Cp E t0 (t.lowerN s u) s G (fun x=>done x\/x=u):=by
 have e:(t.lowerN s u).low s=min (t.low s) (t.num u):=Cg _ _ _;refine⟨h.inv.lowerN h.smem hu (Rch.one he),h.nu,h.pr,h.sk,fun v hv=> ?_,h.z0,h.gr,fun y hy h1 h2 x hx hE=> ?_,fun x hx=> ?_⟩
 ·have:(t.lowerN s u).low v=t.low v:=Dz _ _ _ _ fun k=>h.z0 (k▸hv)
  rw[this];exact h.lo v hv
 ·rw[e];have:=h.cr y hy h1 h2 x hx hE;show _<=t.num x;omega
 ·rw[e]
  rcases hx with hx|rfl
  ·obtain⟨k1,k2⟩:=h.dn x hx;exact⟨k1,fun hm=>by have:=k2 hm;show _<=t.num x;omega⟩
  ·refine⟨((h.inv.st x).1 hu).1,fun _=> ?_⟩;show _<=t.num x;omega
structure Gr(E:Nat->Nat->Prop)(t t':Tj)(s:Nat)(G:List Nat):Prop where
 po:Jv E t t' s G
 nw:t'.num s=t.cnt+1
 lo:t'.prt s≠0->t'.low s=t'.num s
 cn:t.cnt<t'.cnt
structure CO(E:Nat->Nat->Prop)(t0 t:Tj)(s:Nat)(G:List Nat)(done:Nat->Prop):Prop where
 mi:Cp E t0 t s G done
 nw:t.num s=t0.cnt+1
 cn:t0.cnt<t.cnt
end
section
variable {n:Nat} {part:Nat->Prop} {t:Tj} {ord stk:List Nat} {opn:List Bool} {comps:List (List Nat)} {E:Nat->Nat->Prop} {G:List Nat} {s:Nat}
variable {t0 t':Tj} {u:Nat} {done:Nat->Prop}
theorem CO.start(h:DP E t0 G)(hs:t0.num s=0)(hg:∀g∈G,Rch E g s):CO E t0 (t0.openV s) s G (fun _=>False):=
 ⟨Cp.start h hs hg,Cg _ _ _,Nat.lt_succ_self _⟩
theorem CO.more(h:CO E t0 t s G done){done':Nat->Prop}(hd:∀u,done' u->done u):CO E t0 t s G done':=⟨h.mi.more fun u hu=>.inl (hd u hu),h.nw,h.cn⟩
theorem CO.skip(h:CO E t0 t s G done)(hu:t.prt u≠0):CO E t0 t s G (fun x=>done x\/x=u):=⟨h.mi.skip hu,h.nw,h.cn⟩
theorem CO.lowN(h:CO E t0 t s G done)(hu:u∈t.stk)(he:E s u):CO E t0 (t.lowerN s u) s G (fun x=>done x\/x=u):=⟨h.mi.lowN hu he,h.nw,h.cn⟩
theorem CO.low_le(h:CO E t0 t s G done):t.low s<=t.num s:=(h.mi.inv.lw s h.mi.smem).1
theorem CO.sn(h:CO E t0 t s G done):t.num s≠0:=by rw[h.nw];omega
theorem CO.visit(h:CO E t0 t s G done)(he:E s u)(hp:Gr E t t' u (G++[s])):∃t2,CO E t0 t2 s G (fun x=>done x\/x=u)/\(∃f,t2={t' with low:=f})/\t2.low s=min (t.low s) (t'.low u):=by
 have hsl:t'.low s=t.low s:=hp.po.ext.lo s h.mi.smem
 have hns:t'.num s=t0.cnt+1:=by rw[hp.po.ext.nu s h.sn];exact h.nw
 have hcn:t0.cnt<t'.cnt:=Nat.lt_trans h.cn hp.cn
 by_cases hpu:t'.prt u=0
 ·exact⟨t'.lower s u,⟨h.mi.visitLow he hp.po hpu,hns,hcn⟩,⟨_,rfl⟩,by rw[<-hsl];exact Cg _ _ _⟩
 ·refine⟨t',⟨h.mi.visitIn hp.po hpu,hns,hcn⟩,⟨t'.low,rfl⟩, ?_⟩;rw[hsl,hp.lo hpu,hp.nw];have:=h.low_le;have:=h.nw;have:=h.cn;omega
theorem CO.leave(h:CO E t0 t s G done)(hall:∀u,E s u->done u)(hlt:t.low s≠t.num s):Gr E t0 t s G:=by
 have:=h.low_le;have hs0:=(h.mi.inv.st s).1 h.mi.smem;exact⟨h.mi.leave hall (by omega),h.nw,fun k=>absurd hs0.2 k,h.cn⟩
theorem CO.close(h:CO E t0 t s G done)(hall:∀u,E s u->done u)(heq:t.low s=t.num s):Gr E t0 (t.pop t0 s) s G:=
 ⟨h.mi.close hall heq,h.nw,fun _=>heq,h.cn⟩
end
end Go.Proofs.YtncjeamdkjcebaaDoor
namespace Go.Proofs.YtncjeamdkjcebaaDoor
open Go.RowKit
def Ds(st:Nat->Nat)(m n:Nat):Prop:=m<n/\st m=st n/\∀i j,i<j->j<n->st i≠st j
theorem Ds.unique{st:Nat->Nat}{m n m' n':Nat}(h:Ds st m n)(h':Ds st m' n'):m=m'/\n=n':=by
 obtain⟨h1,h2,h3⟩:=h;obtain⟨h1',h2',h3'⟩:=h'
 have hn:n=n':=by
  rcases Nat.lt_trichotomy n n' with h|h|h
  ·exact absurd h2 (h3' m n h1 h)
  ·exact h
  ·exact absurd h2' (h3 m' n' h1' h)
 subst hn
 rcases Nat.lt_trichotomy m m' with h|h|h
 ·exact absurd (h2.trans h2'.symm) (h3 m m' h h1')
 ·exact⟨h,rfl⟩
 ·exact absurd (h2'.trans h2.symm) (h3 m' m h h1)
theorem Oh{st:Nat->Nat}{N n:Nat}(hN:∀i,i<n->st i<N)(hi:∀i j,i<j->j<n->st i≠st j):n<=N:=by
 have h1:((List.range n).map st).Nodup:=by
  rw[List.nodup_iff_pairwise_ne,List.pairwise_map];refine List.Pairwise.imp_of_mem (fun{a b}ha hb hab=> ?_) List.pairwise_lt_range;exact hi a b hab (List.mem_range.1 hb)
 have:=Ft h1 (n:=N) fun x hx=>by
  obtain⟨i,hi,rfl⟩:=List.mem_map.1 hx;exact hN i (List.mem_range.1 hi)
 simpa using this
theorem OT{st:Nat->Nat}{N:Nat}(hN:∀i,st i<N):∃m n,Ds st m n/\n<=N:=by
 have hex:∃n,∃m,m<n/\st m=st n:=by
  refine Classical.byContradiction fun hno=> ?_
  have:=Oh (st:=st) (N:=N) (n:=N+1) (fun i _=>hN i) fun i j hij _ he=>hno ⟨j,i,hij,he⟩
  omega
 obtain⟨n,⟨m,hm,he⟩,hmin⟩:∃n,(∃m,m<n/\st m=st n)/\∀k,k<n->¬∃m,m<k/\st m=st k:=by
  obtain⟨n,hn⟩:=hex
  induction n using Nat.strongRecOn with
  |ind n ih=>
   by_cases h:∃k,k<n/\∃m,m<k/\st m=st k
   ·obtain⟨k,hk,hm⟩:=h;exact ih k hk hm
   ·exact⟨n,hn,fun k hk hm=>h ⟨k,hk,hm⟩⟩
 have hi:∀i j,i<j->j<n->st i≠st j:=fun i j hij hj he=>hmin j hj ⟨i,hij,he⟩
 exact⟨m,n,⟨hm,he,hi⟩,Oh (fun i _=>hN i) hi⟩
def AZ(lt:Nat->Int)(m n:Nat):Ls:=⟨(List.range m).map lt,(List.range (n-m)).map fun i=>lt (m+i)⟩
theorem NW{lt:Nat->Int}{m n:Nat}(h:m<n):0<(AZ lt m n).loop.length:=by simp[AZ];omega
theorem Ov{lt:Nat->Int}{n i:Nat}(h:i<n):((List.range n).map lt).getD i 0=lt i:=by simp[List.getD,h]
end Go.Proofs.YtncjeamdkjcebaaDoor
namespace Go.Proofs.YtncjeamdkjcebaaDoor
structure Pl where
 st:Int
 inn:Int
 pr:Int
deriving DecidableEq
def EX(l:List Pl)(y:Pl):List Pl:=if y∈l then l else l++[y]
def Bm(l:List Pl)(ys:List Pl):List Pl:=ys.foldl EX l
theorem NC(l:List Pl)(y:Pl):∃e,EX l y=l++e:=by
 unfold EX;split
 ·exact⟨[],by simp⟩
 ·exact⟨[y],rfl⟩
theorem DQ(l ys:List Pl):∃e,Bm l ys=l++e:=by
 induction ys generalizing l with
 |nil=>exact⟨[],by simp[Bm]⟩
 |cons y ys ih=>
  obtain⟨e,he⟩:=NC l y;obtain⟨e',he'⟩:=ih (EX l y);exact⟨e++e',by rw[Bm,List.foldl_cons,<-Bm,he',he,List.append_assoc]⟩
theorem Mx(l ys:List Pl)(y:Pl):Bm l (ys++[y])=EX (Bm l ys) y:=by simp[Bm]
theorem NA(l:List Pl)(y:Pl):y∈EX l y:=by
 unfold EX;split
 ·assumption
 ·simp
theorem Jy(l ys:List Pl):∀y∈ys,y∈Bm l ys:=by
 induction ys generalizing l with
 |nil=>intro y hy;cases hy
 |cons z ys ih=>
  intro y hy;rw[Bm,List.foldl_cons,<-Bm]
  rcases List.mem_cons.1 hy with rfl|hy
  ·obtain⟨e,he⟩:=DQ (EX l y) ys;rw[he];exact List.mem_append_left _ (NA l y)
  ·exact ih _ y hy
theorem KQ{l:List Pl}(h:l.Nodup)(y:Pl):(EX l y).Nodup:=by
 unfold EX;split
 ·exact h
 ·rename_i hn;rw[List.nodup_append];exact⟨h,by simp,fun a ha b hb=>by rw[List.mem_singleton.1 hb];rintro rfl;exact hn ha⟩
theorem KP{l:List Pl}(h:l.Nodup)(ys:List Pl):(Bm l ys).Nodup:=by
 induction ys generalizing l with
 |nil=>exact h
 |cons y ys ih=>rw[Bm,List.foldl_cons,<-Bm];exact ih (KQ h y)
theorem LT{l e:List Pl}{y:Pl}(h:y∈l):(l++e).idxOf y=l.idxOf y:=by
 induction l with
 |nil=>cases h
 |cons z l ih=>
  rw[List.cons_append,List.idxOf_cons,List.idxOf_cons]
  by_cases e:z=y
  ·subst e;simp
  ·have hb:(z==y)=false:=by simpa using e
   rw[hb,ih ((List.mem_cons.1 h).resolve_left fun x=>e x.symm)]
theorem LS{l:List Pl}{y:Pl}(h:y∉l):(l++[y]).idxOf y=l.length:=by
 induction l with
 |nil=>simp
 |cons z l ih=>
  have e:¬z=y:=fun x=>h (by rw[x];exact List.mem_cons_self)
  have hb:(z==y)=false:=by simpa using e
  rw[List.cons_append,List.idxOf_cons,hb,ih (fun x=>h (List.mem_cons_of_mem _ x))];simp
def CL(l ys:List Pl):List Int:=ys.map fun y=>(l.idxOf y:Int)
theorem Iz{l e ys:List Pl}(h:∀y∈ys,y∈l):CL (l++e) ys=CL l ys:=by
 unfold CL
 exact List.map_congr_left fun y hy=>by rw[LT (h y hy)]
theorem Ha(l ys:List Pl)(y:Pl):CL l (ys++[y])=CL l ys++[(l.idxOf y:Int)]:=by simp[CL]
section
variable (S:Pl->List Pl)
def I4(most:Nat):Nat->Nat->List Pl->Option (List Pl)
 |0,_,_=>none
 |f+1,k,l=>if _h:k<l.length then(if(Bm l (S l[k])).length<=most then I4 most f (k+1) (Bm l (S l[k]))else none)else some l
structure AtP(most:Nat)(x0:Pl)(k:Nat)(l:List Pl):Prop where
 eq:I4 S most (most+1) 0 [x0]=I4 S most (most+1-k) k l
 le:l.length<=most
 nd:l.Nodup
 kl:k<=l.length
 cl:∀j,j<k->∀(h2:j<l.length),∀y∈S l[j],y∈l
 hd:l[0]? =some x0
end
section
variable (S:Pl->List Pl)
variable {S}
theorem AtP.start{most:Nat}(h:1<=most)(x0:Pl):AtP S most x0 0 [x0]:=⟨rfl,h,by simp,by simp,fun j h=>absurd h (by omega),rfl⟩
theorem AtP.next{most:Nat}{x0:Pl}{k:Nat}{l:List Pl}(h:AtP S most x0 k l)(hk:k<l.length)(hm:(Bm l (S l[k])).length<=most):AtP S most x0 (k+1) (Bm l (S l[k])):=by
 have hle:=h.le;obtain⟨e,he⟩:=DQ l (S l[k]);refine⟨?_,hm,KP h.nd _,by rw[he];simp;omega,fun j hj h2 y hy=> ?_,by rw[he,List.getElem?_append_left (by omega)];exact h.hd⟩
 ·rw[h.eq,show most+1-k=(most+1-(k+1))+1 by omega,I4,dif_pos hk,if_pos hm]
 ·have hjl:j<l.length:=by omega
  have e1:(Bm l (S l[k]))[j]=l[j]:=by simp only[he];rw[List.getElem_append_left hjl]
  rw[e1]at hy
  rcases(by omega:j<k\/j=k)with h3|rfl
  ·rw[he];exact List.mem_append_left _ (h.cl j h3 hjl y hy)
  ·exact Jy _ _ y hy
theorem AtP.fail{most:Nat}{x0:Pl}{k:Nat}{l:List Pl}(h:AtP S most x0 k l)(hk:k<l.length)(hm:most<(Bm l (S l[k])).length):I4 S most (most+1) 0 [x0]=none:=by
 have hle:=h.le;rw[h.eq,show most+1-k=(most+1-(k+1))+1 by omega,I4,dif_pos hk,if_neg (by omega)]
theorem AtP.done{most:Nat}{x0:Pl}{l:List Pl}(h:AtP S most x0 l.length l):I4 S most (most+1) 0 [x0]=some l:=by
 have hle:=h.le;rw[h.eq,show most+1-l.length=(most-l.length)+1 by omega,I4,dif_neg (by omega)]
end
def DE(x:Pl):Int:=if x.inn<0 then 1 else 0
def DF(top:Int)(x:Pl):Int:=if x.inn<0 then x.pr else top
def Cx(S:Pl->List Pl)(top:Int)(l:List Pl)(k:Nat):Gm:=⟨(l.take k).map DE,(l.take k).map (DF top),(l.take k).map fun x=>CL l (S x)⟩
end Go.Proofs.YtncjeamdkjcebaaDoor
namespace Go.Proofs.YtncjeamdkjcebaaDoor
open Go.RowKit Go.Maps Go.WideMaps
def plV(y:Pl):Value:=.agg #[.int .i64 y.st,.int .i64 y.inn,.int .i64 y.pr]
def WfP(y:Pl):Prop:=I64 y.st/\I64 y.inn/\I64 y.pr
noncomputable def klP (y:Pl):Lit:=(keyOf Tryd.prog 79 (plV y)).getD (.bool false)
theorem FX:laidOutB Tryd.prog=true:=by kernel_rfl
theorem Kk:79<Tryd.prog.types.size:=of_decide_eq_true (by kernel_rfl)
theorem MU:(match Tryd.prog.underlying 79 with|some (.array _ _)|some (.struct _)=>true| _=>false)=true:=by kernel_rfl
theorem Qh:Tryd.prog.keyTypeAt 2 79=true:=by kernel_rfl
theorem CW:Keyed Tryd.prog 79:=Keyed.of_law (deep_law_laid FX (m:=2) (by omega) Kk Qh MU)
theorem OK:Tryd.prog.keyType 79=true:=by kernel_rfl
theorem Hc:Tryd.prog.cellsOf 79=3:=by kernel_rfl
theorem JZ:Tryd.prog.cellsOf 3=1:=by kernel_rfl
theorem DL{a:Int}(h:I64 a):(Lit.int .i64 a).wf=true:=WalkArith.wf_i64 h
theorem Hb(y:Pl)(h:WfP y):keyOf Tryd.prog 79 (plV y)=some (klP y):=by
 have hs:(keyOf Tryd.prog 79 (plV y)).isSome=true:=by
  obtain⟨a,b,c⟩:=y;obtain⟨ha,hb,hc⟩:=h;have wa:=DL ha;have wb:=DL hb;have wc:=DL hc
  have hf:(plV ⟨a,b,c⟩).formed Tryd.prog 79=true:=by simp[plV,Value.formed,Tryd.underlying79,Hc]
  obtain⟨m,hm⟩:∃m,Tryd.prog.types.size=m+1:=⟨Tryd.prog.types.size-1,by have:=Kk;omega⟩;unfold keyOf;rw[OK,hf,hm];simp only[Tryd.underlying79,Bool.and_self,if_true,Option.isSome_map];simp[Program.keyLits,Tryd.underlying79,Tryd.underlying3,Hc,JZ,plV,Value.cells,wa,wb,wc]
 obtain⟨k,hk⟩:=Option.isSome_iff_exists.1 hs;unfold klP;rw[hk];rfl
theorem Qg{y z:Pl}(h:plV y=plV z):y=z:=by
 obtain⟨a,b,c⟩:=y;obtain⟨a',b',c'⟩:=z;simp only[plV,Value.agg.injEq,Array.mk.injEq,List.cons.injEq,Value.int.injEq,true_and,and_true]at h;obtain⟨rfl,rfl,rfl⟩:=h;rfl
theorem LW{y z:Pl}(hy:WfP y)(hz:WfP z)(h:klP y=klP z):y=z:=by
 have h1:=Hb y hy;have h2:=Hb z hz;rw[<-h]at h2;generalize klP y=k at*;exact Qg (Keyed.inj CW h1 h2)
theorem LY{y:Pl}(hy:WfP y):∃k,klP y=k/\Go.WideAt.IsKeyLit k:=by
 have h1:=Hb y hy;generalize klP y=k at*;exact⟨k,rfl,Keyed.key CW h1⟩
def Ce(w:World)(b:Nat)(l:List Pl):Prop:=∃D:DataW Unit,w.ownsMap Tryd.prog 79 (plainElem Tryd.prog 3) b l.length D/\IsMap D/\
 (∀y,WfP y->Maps.has D (klP y)=decide (y∈l))/\∀y,WfP y->y∈l->D.atKey (klP y) (.lit (.int .i64 0))=.lit (.int .i64 (l.idxOf y))
theorem Ce.kept{w w':World}{b:Nat}{l:List Pl}{row:Option Nat}(h:Ce w b l)(hg:w.grownBy w' row)(hne:some b≠row):Ce w' b l:=by
 obtain⟨D,h1,h2⟩:=h;exact⟨D,h1.kept hg hne,h2⟩
theorem Ce.lt{w:World}{b:Nat}{l:List Pl}(h:Ce w b l):b<w.heap.size:=by
 obtain⟨D,h1,-⟩:=h;exact h1.lt
theorem Ce.below{w w':World}{b:Nat}{l:List Pl}(h:Ce w b l)(hb:Below w.heap.size w w'):Ce w' b l:=h.kept (AS hb) (by simp)
theorem Ce.put{w':World}{b:Nat}{l:List Pl}{y:Pl}{D:DataW Unit}(hm:IsMap D)(hy:WfP y)(hn:y∉l)
  (h1:∀z,WfP z->Maps.has D (klP z)=decide (z∈l)) (h2:∀z,WfP z->z∈l->D.atKey (klP z) (.lit (.int .i64 0))=.lit (.int .i64 (l.idxOf z)))
  (h:w'.ownsMap Tryd.prog 79 (plainElem Tryd.prog 3) b (l.length+1) (D.put (klP y) (.lit (.int .i64 l.length)))):Ce w' b (l++[y]):=by
 refine⟨_,by rw[List.length_append,List.length_singleton];exact h,hm.put _ _,fun z hz=> ?_,fun z hz hzl=> ?_⟩
 ·by_cases e:z=y
  ·subst e;obtain⟨k,e,hk⟩:=LY hz;rw[e];rw[has_put_same hm hk];simp
  ·rw[has_put_other (fun k=>e (LW hz hy k)),h1 z hz];simp[e]
 ·by_cases e:z=y
  ·subst e;obtain⟨k,e,hk⟩:=LY hz;rw[LS hn,e];rw[atKey_put_same hm hk]
  ·have hzl':z∈l:=by
    rcases List.mem_append.1 hzl with h|h
    ·exact h
    ·exact absurd (List.mem_singleton.1 h) e
   rw[atKey_put_other (fun k=>e (LW hz hy k)),h2 z hz hzl',LT hzl']
end Go.Proofs.YtncjeamdkjcebaaDoor
