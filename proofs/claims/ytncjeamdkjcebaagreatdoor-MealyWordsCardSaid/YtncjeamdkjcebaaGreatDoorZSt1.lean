/- Which plays of a strategy are lost: cycles through priorities at least that of a bad position, and the components that hold them, in plain terms. -/
import Derived.Maps.OwnSet
import Derived.Maps.OwnIn
import Derived.DeepKeys4
import Derived.Test.YtncjeamdkjcebaaGreatDoorZMyN
set_option linter.all false
set_option maxHeartbeats 8000000
set_option maxRecDepth 100000
namespace Go.Proofs.YtncjeamdkjcebaaGreatDoor
inductive Cyc(E:Nat->Nat->Prop)(A:Nat->Prop):Nat->Nat->Prop
 |one {a b:Nat}:A a->A b->E a b->Cyc E A a b
 |step {a b c:Nat}:Cyc E A a b->A c->E b c->Cyc E A a c
theorem Cyc.left{E:Nat->Nat->Prop}{A:Nat->Prop}{a b:Nat}(h:Cyc E A a b):A a:=by
 induction h with
 |one h _ _=>exact h
 |step _ _ _ ih=>exact ih
theorem Cyc.right{E:Nat->Nat->Prop}{A:Nat->Prop}{a b:Nat}(h:Cyc E A a b):A b:=by
 cases h with
 |one _ h _=>exact h
 |step _ h _=>exact h
theorem Cyc.trans{E:Nat->Nat->Prop}{A:Nat->Prop}{a b c:Nat}(h1:Cyc E A a b)(h2:Cyc E A b c):Cyc E A a c:=by
 induction h2 with
 |one _ hc e=>exact h1.step hc e
 |step _ hc e ih=>exact ih.step hc e
theorem Cyc.mono{E:Nat->Nat->Prop}{A B:Nat->Prop}(hAB:∀x,A x->B x){a b:Nat}(h:Cyc E A a b):Cyc E B a b:=by
 induction h with
 |one ha hb e=>exact .one (hAB _ ha) (hAB _ hb) e
 |step _ hc e ih=>exact ih.step (hAB _ hc) e
def In(E:Nat->Nat->Prop)(A:Nat->Prop)(x y:Nat):Prop:=A x/\A y/\E x y
theorem Cyc.rch{E:Nat->Nat->Prop}{A:Nat->Prop}{a b:Nat}(h:Cyc E A a b):Rch (In E A) a b:=by
 induction h with
 |one ha hb e=>exact Rch.one ⟨ha,hb,e⟩
 |step h hc e ih=>exact ih.step ⟨h.right,hc,e⟩
theorem NF{E:Nat->Nat->Prop}{A:Nat->Prop}{a b:Nat}(h:Rch (In E A) a b)(hne:a≠b):Cyc E A a b:=by
 induction h with
 |refl=>exact absurd rfl hne
 |step h e ih=>
  rename_i x y
  by_cases hx:a=x
  ·subst hx;exact .one e.1 e.2.1 e.2.2
  ·exact(ih hx).step e.2.1 e.2.2
theorem Cyc.comp{E:Nat->Nat->Prop}{A C:Nat->Prop}{a b:Nat}(h:Cyc E A a b)(hba:b=a\/Cyc E A b a)(hC:∀x,Rch (In E A) a x->Rch (In E A) x a->C x):Cyc E C a b:=by
 induction h with
 |one ha hb e=>
  refine .one (hC _ (Rch.refl _) (Rch.refl _)) (hC _ (Rch.one ⟨ha,hb,e⟩) ?_) e
  rcases hba with rfl|h
  ·exact Rch.refl _
  ·exact h.rch
 |step h hc e ih=>
  rename_i x y
  have hca:Rch (In E A) y a:=by
   rcases hba with rfl|k
   ·exact Rch.refl _
   ·exact k.rch
  have hxa:Cyc E A x a:=by
   rcases hba with rfl|k
   ·exact .one h.right hc e
   ·exact(Cyc.one h.right hc e).trans k
  exact(ih (.inr hxa)).step (hC _ (h.rch.step ⟨h.right,hc,e⟩) hca) e
section
variable (E:Nat->Nat->Prop) (pr:Nat->Int) (bad:Nat->Prop)
def Fw(A:Nat->Prop):Prop:=∀i,A i->bad i->¬Cyc E (fun x=>A x/\pr i<=pr x) i i
end
section
variable (E:Nat->Nat->Prop) (pr:Nat->Int) (bad:Nat->Prop)
variable {E pr bad}
theorem Fw.sub{A B:Nat->Prop}(h:Fw E pr bad A)(hBA:∀x,B x->A x):Fw E pr bad B:=fun i hi hb k=>h i (hBA i hi) hb (k.mono fun x hx=>⟨hBA x hx.1,hx.2⟩)
theorem Fw.comps{A:Nat->Prop}(h:∀C:Nat->Prop,(∀x,C x->A x)->(∀x y,C x->A y->(C y↔Rch (In E A) x y/\Rch (In E A) y x))->(∃x,C x)->Fw E pr bad C):Fw E pr bad A:=fun i hi hb k=>by
 have hC:=h (fun x=>A x/\Rch (In E A) i x/\Rch (In E A) x i) (fun x hx=>hx.1) (fun x y hx hy=>⟨fun h=>⟨hx.2.2.trans h.2.1,h.2.2.trans hx.2.1⟩,fun h=>⟨hy,hx.2.1.trans h.1,h.2.trans hx.2.2⟩⟩) ⟨i,hi,Rch.refl _,Rch.refl _⟩;refine hC i ⟨hi,Rch.refl _,Rch.refl _⟩ hb ?_
 have k2:Cyc E (fun x=>(A x/\Rch (In E A) i x/\Rch (In E A) x i)/\pr i<=pr x) i i:=by
  refine k.comp (.inl rfl) fun x h1 h2=> ?_
  have hm:∀a b,Rch (In E fun x=>A x/\pr i<=pr x) a b->Rch (In E A) a b:=fun a b hab=>by
   induction hab with
   |refl=>exact Rch.refl _
   |step _ e ih=>exact ih.step ⟨e.1.1,e.2.1.1,e.2.2⟩
  have hx:A x/\pr i<=pr x:=Rch.closed (A:=fun x=>A x/\pr i<=pr x) (fun _ _ _ e=>e.2.1) h1 ⟨hi,Int.le_refl _⟩;exact⟨⟨hx.1,hm _ _ h1,hm _ _ h2⟩,hx.2⟩
 exact k2
theorem Fw.rest{C:Nat->Prop}{m:Int}(hm:∀i,C i->bad i->m<=pr i):Fw E pr bad C↔Fw E pr bad (fun x=>C x/\m<=pr x):=by
 refine⟨fun h=>h.sub fun x hx=>hx.1,fun h i hi hb k=>h i ⟨hi,hm i hi hb⟩ hb (k.mono fun x hx=> ?_)⟩;have:=hm i hi hb;exact⟨⟨hx.1,by omega⟩,hx.2⟩
theorem Fw.none{C:Nat->Prop}{i:Nat}(hi:C i)(hb:bad i)(hm:∀x,C x->pr i<=pr x)(hc:∀x y,C x->C y->Rch (In E C) x y):Fw E pr bad C↔¬∃x y,C x/\C y/\E x y:=by
 refine⟨fun h=> ?_,fun h j hj hbj k=> ?_⟩
 ·rintro⟨x,y,hx,hy,e⟩;refine h i hi hb ?_
  have e1:Cyc E C i i:=by
   have c1:Cyc E C x y:=.one hx hy e
   have c2:Cyc E C x i:=by
    by_cases hyi:y=i
    ·subst hyi;exact c1
    ·exact c1.trans (NF (hc y i hy hi) hyi)
   by_cases hix:i=x
   ·subst hix;exact c2
   ·exact(NF (hc i x hi hx) hix).trans c2
  exact e1.mono fun x hx=>⟨hx,hm x hx⟩
 ·apply h
  cases k with
  |one h1 h2 e=>exact⟨_,_,h1.1,h2.1,e⟩
  |step k h2 e=>exact⟨_,_,k.right.1,h2.1,e⟩
end
theorem FZ{n:Nat}{l:List Nat}(hn:l.Nodup)(h:∀v∈l,v<n):l.length<=n:=by
 have:=List.Nodup.length_le_of_subset hn (l₂:=List.range n) fun v hv=>List.mem_range.2 (h v hv)
 simpa using this
structure Rep(n:Nat)(part:Nat->Prop)(t:Tj)(ord stk:List Nat)(opn:List Bool)(comps:List (List Nat)):Prop where
 num:∀v,t.num v=if v∈ord then ord.idxOf v+1 else 0
 cnt:t.cnt=ord.length
 sk:t.stk=stk
 nd:ord.Nodup
 op:∀v∈ord,part v
 on:opn.length=n
 oi:∀v,v<n->(opn.getD v false=true↔part v/\t.prt v=0)
 cw:∀c∈comps,c≠[]/\c.Nodup/\∃r,r≠0/\∀v,v∈c↔t.prt v=r
 cc:∀v,t.prt v≠0->∃c∈comps,v∈c
section
variable {n:Nat} {part:Nat->Prop} {t:Tj} {ord stk:List Nat} {opn:List Bool} {comps:List (List Nat)} {E:Nat->Nat->Prop} {G:List Nat} {s:Nat}
theorem Rep.in_ord(h:Rep n part t ord stk opn comps){v:Nat}:t.num v≠0↔v∈ord:=by
 rw[h.num v]
 by_cases k:v∈ord
 ·rw[if_pos k];exact⟨fun _=>k,fun _=>by omega⟩
 ·rw[if_neg k];exact⟨fun e=>absurd rfl e,fun e=>absurd e k⟩
theorem Rep.at(h:Rep n part t ord stk opn comps){v:Nat}(k:v∈ord):t.num v=ord.idxOf v+1:=by rw[h.num v,if_pos k]
theorem Rep.len(h:Rep n part t ord stk opn comps)(hp:∀v,part v->v<n):ord.length<=n:=FZ h.nd fun v hv=>hp v (h.op v hv)
theorem Rep.room(h:Rep n part t ord stk opn comps)(hp:∀v,part v->v<n)(hs:s∉ord)(hps:part s):ord.length<n:=by
 have:=FZ (n:=n) (l:=s::ord) (List.nodup_cons.2 ⟨hs,h.nd⟩) fun v hv=>by
  rcases List.mem_cons.1 hv with rfl|hv
  ·exact hp _ hps
  ·exact hp v (h.op v hv)
 rw[List.length_cons]at this;omega
theorem PW{l e:List Nat}{y:Nat}(h:y∈l):(l++e).idxOf y=l.idxOf y:=by
 rw[List.idxOf_append,if_pos h]
theorem PU{l:List Nat}{y:Nat}(h:y∉l):(l++[y]).idxOf y=l.length:=by
 rw[List.idxOf_append,if_neg h];simp
theorem Rep.openV(h:Rep n part t ord stk opn comps)(hs:s∉ord)(hps:part s):Rep n part (t.openV s) (ord++[s]) (stk++[s]) opn comps:=by
 refine⟨fun v=> ?_,by show t.cnt+1=_;rw[h.cnt];simp,by show t.stk++[s]=_;rw[h.sk], ?_,fun v hv=> ?_,h.on,h.oi,h.cw,h.cc⟩
 ·by_cases hv:v=s
  ·subst hv;rw[if_pos (by simp),PU hs,<-h.cnt];exact Cx _ _ _
  ·have e:(t.openV s).num v=t.num v:=DU _ _ _ _ hv;rw[e,h.num v]
   by_cases hm:v∈ord
   ·rw[if_pos hm,if_pos (List.mem_append_left _ hm),PW hm]
   ·rw[if_neg hm,if_neg (by simp[hm,hv])]
 ·rw[List.nodup_append];exact⟨h.nd,by simp,fun a ha b hb=>by rw[List.mem_singleton.1 hb];rintro rfl;exact hs ha⟩
 ·rcases List.mem_append.1 hv with k|k
  ·exact h.op v k
  ·rw[List.mem_singleton.1 k];exact hps
theorem Rep.setLow(h:Rep n part t ord stk opn comps)(f:Nat->Nat):Rep n part {t with low:=f} ord stk opn comps:=⟨h.num,h.cnt,h.sk,h.nd,h.op,h.on,h.oi,h.cw,h.cc⟩
theorem Rep.pop{t0:Tj}{stk0 r:List Nat}{opn':List Bool}(h:Rep n part t ord (stk0++s::r) opn comps)(hi:Ea E t G)(h0:t0.stk=stk0)(hl:opn'.length=n)
  (ho:∀v,v<n->(opn'.getD v false=true↔opn.getD v false=true/\v∉s::r)):Rep n part (t.pop t0 s) ord stk0 opn' (comps++[s::r]):=by
 have hst:t.stk=stk0++s::r:=h.sk;have hnd:=hi.nd;rw[hst,List.nodup_append]at hnd
 have hss:s∈t.stk:=by rw[hst];simp
 have hns:=(hi.st s).1 hss
 have hin:∀v,(v∈t.stk/\v∉t0.stk)↔v∈s::r:=fun v=>by
  rw[hst,h0,List.mem_append];refine⟨fun k=>k.1.resolve_left k.2,fun k=>⟨.inr k,fun k2=>hnd.2.2 v k2 v k rfl⟩⟩
 have hp:∀v,(t.pop t0 s).prt v=if v∈s::r then t.num s else t.prt v:=fun v=>by
  show(if v∈t.stk/\v∉t0.stk then t.num s else t.prt v)=_
  by_cases k:v∈s::r
  ·rw[if_pos ((hin v).2 k),if_pos k]
  ·rw[if_neg (fun e=>k ((hin v).1 e)),if_neg k]
 have hz:∀v∈s::r,t.prt v=0:=fun v hv=>((hi.st v).1 ((hin v).2 hv).1).2
 have hne:∀v,t.prt v≠t.num s:=fun v e=>by
  have hv:t.prt v≠0:=by rw[e];exact hns.1
  obtain⟨-,r',k1,k2⟩:=hi.pn v hv;have:r'=s:=hi.inj r' s (by rw[k2];exact hv) (by rw[k2,e]);subst this;rw[k1]at hns;exact hv hns.2
 refine⟨h.num,h.cnt,h0,h.nd,h.op,hl,fun v hv=> ?_,fun c hc=> ?_,fun v hv=> ?_⟩
 ·rw[ho v hv,h.oi v hv,hp v]
  by_cases k:v∈s::r
  ·rw[if_pos k];exact⟨fun e=>absurd k e.2,fun e=>absurd e.2 hns.1⟩
  ·rw[if_neg k];exact⟨fun e=>e.1,fun e=>⟨e,k⟩⟩
 ·rcases List.mem_append.1 hc with hc|hc
  ·obtain⟨k1,k2,q,k3,k4⟩:=h.cw c hc;refine⟨k1,k2,q,k3,fun v=> ?_⟩;rw[k4 v,hp v]
   by_cases k:v∈s::r
   ·rw[if_pos k,hz v k];refine⟨fun e=>absurd e.symm k3,fun e=> ?_⟩
    exfalso
    obtain⟨x,hx⟩:=List.exists_mem_of_ne_nil c k1;have:=(k4 x).1 hx;exact hne x (by rw[this,e])
   ·rw[if_neg k]
  ·rw[List.mem_singleton.1 hc];refine⟨by simp,hnd.2.1,t.num s,hns.1,fun v=> ?_⟩;rw[hp v]
   by_cases k:v∈s::r
   ·rw[if_pos k];exact⟨fun _=>rfl,fun _=>k⟩
   ·rw[if_neg k];exact⟨fun e=>absurd e k,fun e=>absurd e (hne v)⟩
 ·rw[hp v]at hv
  by_cases k:v∈s::r
  ·exact⟨_,by simp,k⟩
  ·rw[if_neg k]at hv;obtain⟨c,k1,k2⟩:=h.cc v hv;exact⟨c,List.mem_append_left _ k1,k2⟩
def Tj.lowerN(t:Tj)(s u:Nat):Tj:={t with low:=upN t.low s (min (t.low s) (t.num u))}
theorem Ea.lowerN{u:Nat}(h:Ea E t G)(hs:s∈t.stk)(hu:u∈t.stk)(he:Rch E s u):Ea E (t.lowerN s u) G:=
 {h with
  lw:=fun v hv=>by
   by_cases hvs:v=s
   ·subst hvs;have e:(t.lowerN v u).low v=min (t.low v) (t.num u):=Cx _ _ _;rw[e];obtain⟨h1,z,hz,h2,h3⟩:=h.lw v hs;refine⟨by show _<=t.num v;omega, ?_⟩
    by_cases hc:t.low v<=t.num u
    ·exact⟨z,hz,by show t.num z=_;omega,h3⟩
    ·exact⟨u,hu,by show t.num u=_;omega,he⟩
   ·have e:(t.lowerN s u).low v=t.low v:=DU _ _ _ _ hvs;rw[e]
    exact h.lw v hv}
theorem CH.lowN{t0:Tj}{u:Nat}{done:Nat->Prop}(h:CH E t0 t s G done)(hu:u∈t.stk)(he:E s u):CH E t0 (t.lowerN s u) s G (fun x=>done x\/x=u):=by
 have e:(t.lowerN s u).low s=min (t.low s) (t.num u):=Cx _ _ _;refine⟨h.inv.lowerN h.smem hu (Rch.one he),h.nu,h.pr,h.sk,fun v hv=> ?_,h.z0,h.gr,fun y hy h1 h2 x hx hE=> ?_,fun x hx=> ?_⟩
 ·have:(t.lowerN s u).low v=t.low v:=DU _ _ _ _ fun k=>h.z0 (k▸hv)
  rw[this];exact h.lo v hv
 ·rw[e];have:=h.cr y hy h1 h2 x hx hE;show _<=t.num x;omega
 ·rw[e]
  rcases hx with hx|rfl
  ·obtain⟨k1,k2⟩:=h.dn x hx;exact⟨k1,fun hm=>by have:=k2 hm;show _<=t.num x;omega⟩
  ·refine⟨((h.inv.st x).1 hu).1,fun _=> ?_⟩;show _<=t.num x;omega
structure Hc(E:Nat->Nat->Prop)(t t':Tj)(s:Nat)(G:List Nat):Prop where
 po:KH E t t' s G
 nw:t'.num s=t.cnt+1
 lo:t'.prt s≠0->t'.low s=t'.num s
 cn:t.cnt<t'.cnt
structure C4(E:Nat->Nat->Prop)(t0 t:Tj)(s:Nat)(G:List Nat)(done:Nat->Prop):Prop where
 mi:CH E t0 t s G done
 nw:t.num s=t0.cnt+1
 cn:t0.cnt<t.cnt
end
section
variable {n:Nat} {part:Nat->Prop} {t:Tj} {ord stk:List Nat} {opn:List Bool} {comps:List (List Nat)} {E:Nat->Nat->Prop} {G:List Nat} {s:Nat}
variable {t0 t':Tj} {u:Nat} {done:Nat->Prop}
theorem C4.start(h:Ea E t0 G)(hs:t0.num s=0)(hg:∀g∈G,Rch E g s):C4 E t0 (t0.openV s) s G (fun _=>False):=
 ⟨CH.start h hs hg,Cx _ _ _,Nat.lt_succ_self _⟩
theorem C4.more(h:C4 E t0 t s G done){done':Nat->Prop}(hd:∀u,done' u->done u):C4 E t0 t s G done':=⟨h.mi.more fun u hu=>.inl (hd u hu),h.nw,h.cn⟩
theorem C4.skip(h:C4 E t0 t s G done)(hu:t.prt u≠0):C4 E t0 t s G (fun x=>done x\/x=u):=⟨h.mi.skip hu,h.nw,h.cn⟩
theorem C4.lowN(h:C4 E t0 t s G done)(hu:u∈t.stk)(he:E s u):C4 E t0 (t.lowerN s u) s G (fun x=>done x\/x=u):=⟨h.mi.lowN hu he,h.nw,h.cn⟩
theorem C4.low_le(h:C4 E t0 t s G done):t.low s<=t.num s:=(h.mi.inv.lw s h.mi.smem).1
theorem C4.sn(h:C4 E t0 t s G done):t.num s≠0:=by rw[h.nw];omega
theorem C4.visit(h:C4 E t0 t s G done)(he:E s u)(hp:Hc E t t' u (G++[s])):∃t2,C4 E t0 t2 s G (fun x=>done x\/x=u)/\(∃f,t2={t' with low:=f})/\t2.low s=min (t.low s) (t'.low u):=by
 have hsl:t'.low s=t.low s:=hp.po.ext.lo s h.mi.smem
 have hns:t'.num s=t0.cnt+1:=by rw[hp.po.ext.nu s h.sn];exact h.nw
 have hcn:t0.cnt<t'.cnt:=Nat.lt_trans h.cn hp.cn
 by_cases hpu:t'.prt u=0
 ·exact⟨t'.lower s u,⟨h.mi.visitLow he hp.po hpu,hns,hcn⟩,⟨_,rfl⟩,by rw[<-hsl];exact Cx _ _ _⟩
 ·refine⟨t',⟨h.mi.visitIn hp.po hpu,hns,hcn⟩,⟨t'.low,rfl⟩, ?_⟩;rw[hsl,hp.lo hpu,hp.nw];have:=h.low_le;have:=h.nw;have:=h.cn;omega
theorem C4.leave(h:C4 E t0 t s G done)(hall:∀u,E s u->done u)(hlt:t.low s≠t.num s):Hc E t0 t s G:=by
 have:=h.low_le;have hs0:=(h.mi.inv.st s).1 h.mi.smem;exact⟨h.mi.leave hall (by omega),h.nw,fun k=>absurd hs0.2 k,h.cn⟩
theorem C4.close(h:C4 E t0 t s G done)(hall:∀u,E s u->done u)(heq:t.low s=t.num s):Hc E t0 (t.pop t0 s) s G:=
 ⟨h.mi.close hall heq,h.nw,fun _=>heq,h.cn⟩
end
end Go.Proofs.YtncjeamdkjcebaaGreatDoor
namespace Go.Proofs.YtncjeamdkjcebaaGreatDoor
open Go.RowKit
def Dm(st:Nat->Nat)(m n:Nat):Prop:=m<n/\st m=st n/\∀i j,i<j->j<n->st i≠st j
theorem Dm.unique{st:Nat->Nat}{m n m' n':Nat}(h:Dm st m n)(h':Dm st m' n'):m=m'/\n=n':=by
 obtain⟨h1,h2,h3⟩:=h;obtain⟨h1',h2',h3'⟩:=h'
 have hn:n=n':=by
  rcases Nat.lt_trichotomy n n' with h|h|h
  ·exact absurd h2 (h3' m n h1 h)
  ·exact h
  ·exact absurd h2' (h3 m' n' h1' h)
 subst hn
 rcases Nat.lt_trichotomy m m' with h|h|h
 ·exact absurd (h2.trans h2'.symm) (h3 m m' h h1')
 ·exact⟨h,rfl⟩
 ·exact absurd (h2'.trans h2.symm) (h3 m' m h h1)
theorem PY{st:Nat->Nat}{N n:Nat}(hN:∀i,i<n->st i<N)(hi:∀i j,i<j->j<n->st i≠st j):n<=N:=by
 have h1:((List.range n).map st).Nodup:=by
  rw[List.nodup_iff_pairwise_ne,List.pairwise_map];refine List.Pairwise.imp_of_mem (fun{a b}ha hb hab=> ?_) List.pairwise_lt_range;exact hi a b hab (List.mem_range.1 hb)
 have:=FZ h1 (n:=N) fun x hx=>by
  obtain⟨i,hi,rfl⟩:=List.mem_map.1 hx;exact hN i (List.mem_range.1 hi)
 simpa using this
theorem MT{st:Nat->Nat}{N:Nat}(hN:∀i,st i<N):∃m n,Dm st m n/\n<=N:=by
 have hex:∃n,∃m,m<n/\st m=st n:=by
  refine Classical.byContradiction fun hno=> ?_
  have:=PY (st:=st) (N:=N) (n:=N+1) (fun i _=>hN i) fun i j hij _ he=>hno ⟨j,i,hij,he⟩
  omega
 obtain⟨n,⟨m,hm,he⟩,hmin⟩:∃n,(∃m,m<n/\st m=st n)/\∀k,k<n->¬∃m,m<k/\st m=st k:=by
  obtain⟨n,hn⟩:=hex
  induction n using Nat.strongRecOn with
  |ind n ih=>
   by_cases h:∃k,k<n/\∃m,m<k/\st m=st k
   ·obtain⟨k,hk,hm⟩:=h;exact ih k hk hm
   ·exact⟨n,hn,fun k hk hm=>h ⟨k,hk,hm⟩⟩
 have hi:∀i j,i<j->j<n->st i≠st j:=fun i j hij hj he=>hmin j hj ⟨i,hij,he⟩
 exact⟨m,n,⟨hm,he,hi⟩,PY (fun i _=>hN i) hi⟩
def AW(lt:Nat->Int)(m n:Nat):Ls:=⟨(List.range m).map lt,(List.range (n-m)).map fun i=>lt (m+i)⟩
theorem KX{lt:Nat->Int}{m n:Nat}(h:m<n):0<(AW lt m n).loop.length:=by simp[AW];omega
theorem It{lt:Nat->Int}{n i:Nat}(h:i<n):((List.range n).map lt).getD i 0=lt i:=by simp[List.getD,h]
theorem RV{st:Nat->Nat}{nx:Nat->Nat}{m n:Nat}(h:Dm st m n)(hs:∀i,st (i+1)=nx (st i)):∀i,m<=i->st (i+(n-m))=st i:=by
 intro i hi;obtain⟨k,rfl⟩:∃k,i=m+k:=⟨i-m,by omega⟩;clear hi
 induction k with
 |zero=>
  have:=h.1;rw[Nat.add_zero,show m+(n-m)=n by omega];exact h.2.1.symm
 |succ k ih=>
  rw[show m+(k+1)+(n-m)=m+k+(n-m)+1 by omega,hs,ih,<-hs];rfl
theorem PD{st:Nat->Nat}{nx:Nat->Nat}{le:Nat->Int}{m n:Nat}(h:Dm st m n)(hs:∀i,st (i+1)=nx (st i))(i:Nat):atL (AW (fun i=>le (st i)) m n) i=le (st i):=by
 have h1:=h.1
 by_cases hi:i<m
 ·rw[Ed (by simpa[AW]using hi)];exact It hi
 ·have hp:=RV h hs
  have hmul:∀q r,st (m+r+q*(n-m))=st (m+r):=fun q r=>by
   induction q with
   |zero=>simp
   |succ q ih=>rw[show m+r+(q+1)*(n-m)=m+r+q*(n-m)+(n-m)by rw[Nat.add_mul];omega,hp _ (by omega),ih]
  have hm:0<n-m:=by omega
  unfold atL;rw[if_neg (by simpa[AW]using hi)]
  have e1:(AW (fun i=>le (st i)) m n).stem.length=m:=by simp[AW]
  have e2:(AW (fun i=>le (st i)) m n).loop.length=n-m:=by simp[AW]
  rw[e1,e2];have hr:=Nat.mod_lt (i-m) hm;show((List.range (n-m)).map fun i=>le (st (m+i))).getD _ 0=_;rw[It (lt:=fun i=>le (st (m+i))) hr];show le (st (m+(i-m)%(n-m)))=_;have:=hmul ((i-m)/(n-m)) ((i-m)%(n-m));rw[<-this]
  congr 2
  have:=Nat.div_add_mod (i-m) (n-m);rw[Nat.mul_comm]at this;omega
end Go.Proofs.YtncjeamdkjcebaaGreatDoor
namespace Go.Proofs.YtncjeamdkjcebaaGreatDoor
structure T4 where
 st:Int
 inn:Int
 pr:Int
deriving DecidableEq
def Fy(l:List T4)(y:T4):List T4:=if y∈l then l else l++[y]
def BD(l:List T4)(ys:List T4):List T4:=ys.foldl Fy l
theorem Pk(l:List T4)(y:T4):∃e,Fy l y=l++e:=by
 unfold Fy;split
 ·exact⟨[],by simp⟩
 ·exact⟨[y],rfl⟩
theorem Eb(l ys:List T4):∃e,BD l ys=l++e:=by
 induction ys generalizing l with
 |nil=>exact⟨[],by simp[BD]⟩
 |cons y ys ih=>
  obtain⟨e,he⟩:=Pk l y;obtain⟨e',he'⟩:=ih (Fy l y);exact⟨e++e',by rw[BD,List.foldl_cons,<-BD,he',he,List.append_assoc]⟩
theorem N0(l ys:List T4)(y:T4):BD l (ys++[y])=Fy (BD l ys) y:=by simp[BD]
theorem Pj(l:List T4)(y:T4):y∈Fy l y:=by
 unfold Fy;split
 ·assumption
 ·simp
theorem KL(l ys:List T4):∀y∈ys,y∈BD l ys:=by
 induction ys generalizing l with
 |nil=>intro y hy;cases hy
 |cons z ys ih=>
  intro y hy;rw[BD,List.foldl_cons,<-BD]
  rcases List.mem_cons.1 hy with rfl|hy
  ·obtain⟨e,he⟩:=Eb (Fy l y) ys;rw[he];exact List.mem_append_left _ (Pj l y)
  ·exact ih _ y hy
theorem Mi{l:List T4}(h:l.Nodup)(y:T4):(Fy l y).Nodup:=by
 unfold Fy;split
 ·exact h
 ·rename_i hn;rw[List.nodup_append];exact⟨h,by simp,fun a ha b hb=>by rw[List.mem_singleton.1 hb];rintro rfl;exact hn ha⟩
theorem Mh{l:List T4}(h:l.Nodup)(ys:List T4):(BD l ys).Nodup:=by
 induction ys generalizing l with
 |nil=>exact h
 |cons y ys ih=>rw[BD,List.foldl_cons,<-BD];exact ih (Mi h y)
theorem Nn{l e:List T4}{y:T4}(h:y∈l):(l++e).idxOf y=l.idxOf y:=by
 induction l with
 |nil=>cases h
 |cons z l ih=>
  rw[List.cons_append,List.idxOf_cons,List.idxOf_cons]
  by_cases e:z=y
  ·subst e;simp
  ·have hb:(z==y)=false:=by simpa using e
   rw[hb,ih ((List.mem_cons.1 h).resolve_left fun x=>e x.symm)]
theorem Nm{l:List T4}{y:T4}(h:y∉l):(l++[y]).idxOf y=l.length:=by
 induction l with
 |nil=>simp
 |cons z l ih=>
  have e:¬z=y:=fun x=>h (by rw[x];exact List.mem_cons_self)
  have hb:(z==y)=false:=by simpa using e
  rw[List.cons_append,List.idxOf_cons,hb,ih (fun x=>h (List.mem_cons_of_mem _ x))];simp
def C1(l ys:List T4):List Int:=ys.map fun y=>(l.idxOf y:Int)
theorem Jy{l e ys:List T4}(h:∀y∈ys,y∈l):C1 (l++e) ys=C1 l ys:=by
 unfold C1
 exact List.map_congr_left fun y hy=>by rw[Nn (h y hy)]
theorem Iz(l ys:List T4)(y:T4):C1 l (ys++[y])=C1 l ys++[(l.idxOf y:Int)]:=by simp[C1]
section
variable (S:T4->List T4)
def J4(most:Nat):Nat->Nat->List T4->Option (List T4)
 |0,_,_=>none
 |f+1,k,l=>if _h:k<l.length then(if(BD l (S l[k])).length<=most then J4 most f (k+1) (BD l (S l[k]))else none)else some l
structure AtP(most:Nat)(x0:T4)(k:Nat)(l:List T4):Prop where
 eq:J4 S most (most+1) 0 [x0]=J4 S most (most+1-k) k l
 le:l.length<=most
 nd:l.Nodup
 kl:k<=l.length
 cl:∀j,j<k->∀(h2:j<l.length),∀y∈S l[j],y∈l
 hd:l[0]? =some x0
end
section
variable (S:T4->List T4)
variable {S}
theorem AtP.start{most:Nat}(h:1<=most)(x0:T4):AtP S most x0 0 [x0]:=⟨rfl,h,by simp,by simp,fun j h=>absurd h (by omega),rfl⟩
theorem AtP.next{most:Nat}{x0:T4}{k:Nat}{l:List T4}(h:AtP S most x0 k l)(hk:k<l.length)(hm:(BD l (S l[k])).length<=most):AtP S most x0 (k+1) (BD l (S l[k])):=by
 have hle:=h.le;obtain⟨e,he⟩:=Eb l (S l[k]);refine⟨?_,hm,Mh h.nd _,by rw[he];simp;omega,fun j hj h2 y hy=> ?_,by rw[he,List.getElem?_append_left (by omega)];exact h.hd⟩
 ·rw[h.eq,show most+1-k=(most+1-(k+1))+1 by omega,J4,dif_pos hk,if_pos hm]
 ·have hjl:j<l.length:=by omega
  have e1:(BD l (S l[k]))[j]=l[j]:=by simp only[he];rw[List.getElem_append_left hjl]
  rw[e1]at hy
  rcases(by omega:j<k\/j=k)with h3|rfl
  ·rw[he];exact List.mem_append_left _ (h.cl j h3 hjl y hy)
  ·exact KL _ _ y hy
theorem AtP.fail{most:Nat}{x0:T4}{k:Nat}{l:List T4}(h:AtP S most x0 k l)(hk:k<l.length)(hm:most<(BD l (S l[k])).length):J4 S most (most+1) 0 [x0]=none:=by
 have hle:=h.le;rw[h.eq,show most+1-k=(most+1-(k+1))+1 by omega,J4,dif_pos hk,if_neg (by omega)]
theorem AtP.done{most:Nat}{x0:T4}{l:List T4}(h:AtP S most x0 l.length l):J4 S most (most+1) 0 [x0]=some l:=by
 have hle:=h.le;rw[h.eq,show most+1-l.length=(most-l.length)+1 by omega,J4,dif_neg (by omega)]
end
def D1(x:T4):Int:=if x.inn<0 then 1 else 0
def D2(top:Int)(x:T4):Int:=if x.inn<0 then x.pr else top
def CQ(S:T4->List T4)(top:Int)(l:List T4)(k:Nat):Gm:=⟨(l.take k).map D1,(l.take k).map (D2 top),(l.take k).map fun x=>C1 l (S x)⟩
end Go.Proofs.YtncjeamdkjcebaaGreatDoor
namespace Go.Proofs.YtncjeamdkjcebaaGreatDoor
open Go.RowKit Go.Maps Go.WideMaps
def plV(y:T4):Value:=.agg #[.int .i64 y.st,.int .i64 y.inn,.int .i64 y.pr]
def WfP(y:T4):Prop:=I64 y.st/\I64 y.inn/\I64 y.pr
noncomputable def klP (y:T4):Lit:=(keyOf Tryz.prog 108 (plV y)).getD (.bool false)
theorem GA:laidOutB Tryz.prog=true:=by kernel_rfl
theorem LC:108<Tryz.prog.types.size:=of_decide_eq_true (by kernel_rfl)
theorem Ot:(match Tryz.prog.underlying 108 with|some (.array _ _)|some (.struct _)=>true| _=>false)=true:=by kernel_rfl
theorem RR:Tryz.prog.keyTypeAt 2 108=true:=by kernel_rfl
theorem Dd:Keyed Tryz.prog 108:=Keyed.of_law (deep_law_laid GA (m:=2) (by omega) LC RR Ot)
theorem Qr:Tryz.prog.keyType 108=true:=by kernel_rfl
theorem IC:Tryz.prog.cellsOf 108=3:=by kernel_rfl
theorem Lg:Tryz.prog.cellsOf 3=1:=by kernel_rfl
theorem D5{a:Int}(h:I64 a):(Lit.int .i64 a).wf=true:=WalkArith.wf_i64 h
theorem IA(y:T4)(h:WfP y):keyOf Tryz.prog 108 (plV y)=some (klP y):=by
 have hs:(keyOf Tryz.prog 108 (plV y)).isSome=true:=by
  obtain⟨a,b,c⟩:=y;obtain⟨ha,hb,hc⟩:=h;have wa:=D5 ha;have wb:=D5 hb;have wc:=D5 hc
  have hf:(plV ⟨a,b,c⟩).formed Tryz.prog 108=true:=by simp[plV,Value.formed,Tryz.underlying108,IC]
  obtain⟨m,hm⟩:∃m,Tryz.prog.types.size=m+1:=⟨Tryz.prog.types.size-1,by have:=LC;omega⟩;unfold keyOf;rw[Qr,hf,hm];simp only[Tryz.underlying108,Bool.and_self,if_true,Option.isSome_map];simp[Program.keyLits,Tryz.underlying108,Tryz.underlying3,IC,Lg,plV,Value.cells,wa,wb,wc]
 obtain⟨k,hk⟩:=Option.isSome_iff_exists.1 hs;unfold klP;rw[hk];rfl
theorem RQ{y z:T4}(h:plV y=plV z):y=z:=by
 obtain⟨a,b,c⟩:=y;obtain⟨a',b',c'⟩:=z;simp only[plV,Value.agg.injEq,Array.mk.injEq,List.cons.injEq,Value.int.injEq,true_and,and_true]at h;obtain⟨rfl,rfl,rfl⟩:=h;rfl
theorem Nq{y z:T4}(hy:WfP y)(hz:WfP z)(h:klP y=klP z):y=z:=by
 have h1:=IA y hy;have h2:=IA z hz;rw[<-h]at h2;generalize klP y=k at*;exact RQ (Keyed.inj Dd h1 h2)
theorem Nr{y:T4}(hy:WfP y):∃k,klP y=k/\Go.WideAt.IsKeyLit k:=by
 have h1:=IA y hy;generalize klP y=k at*;exact⟨k,rfl,Keyed.key Dd h1⟩
def Cu(w:World)(b:Nat)(l:List T4):Prop:=∃D:DataW Unit,w.ownsMap Tryz.prog 108 (plainElem Tryz.prog 3) b l.length D/\IsMap D/\
 (∀y,WfP y->Maps.has D (klP y)=decide (y∈l))/\∀y,WfP y->y∈l->D.atKey (klP y) (.lit (.int .i64 0))=.lit (.int .i64 (l.idxOf y))
theorem Cu.kept{w w':World}{b:Nat}{l:List T4}{row:Option Nat}(h:Cu w b l)(hg:w.grownBy w' row)(hne:some b≠row):Cu w' b l:=by
 obtain⟨D,h1,h2⟩:=h;exact⟨D,h1.kept hg hne,h2⟩
theorem Cu.lt{w:World}{b:Nat}{l:List T4}(h:Cu w b l):b<w.heap.size:=by
 obtain⟨D,h1,-⟩:=h;exact h1.lt
theorem Cu.below{w w':World}{b:Nat}{l:List T4}(h:Cu w b l)(hb:Below w.heap.size w w'):Cu w' b l:=h.kept (AV hb) (by simp)
theorem Cu.put{w':World}{b:Nat}{l:List T4}{y:T4}{D:DataW Unit}(hm:IsMap D)(hy:WfP y)(hn:y∉l)
  (h1:∀z,WfP z->Maps.has D (klP z)=decide (z∈l)) (h2:∀z,WfP z->z∈l->D.atKey (klP z) (.lit (.int .i64 0))=.lit (.int .i64 (l.idxOf z)))
  (h:w'.ownsMap Tryz.prog 108 (plainElem Tryz.prog 3) b (l.length+1) (D.put (klP y) (.lit (.int .i64 l.length)))):Cu w' b (l++[y]):=by
 refine⟨_,by rw[List.length_append,List.length_singleton];exact h,hm.put _ _,fun z hz=> ?_,fun z hz hzl=> ?_⟩
 ·by_cases e:z=y
  ·subst e;obtain⟨k,e,hk⟩:=Nr hz;rw[e];rw[has_put_same hm hk];simp
  ·rw[has_put_other (fun k=>e (Nq hz hy k)),h1 z hz];simp[e]
 ·by_cases e:z=y
  ·subst e;obtain⟨k,e,hk⟩:=Nr hz;rw[Nm hn,e];rw[atKey_put_same hm hk]
  ·have hzl':z∈l:=by
    rcases List.mem_append.1 hzl with h|h
    ·exact h
    ·exact absurd (List.mem_singleton.1 h) e
   rw[atKey_put_other (fun k=>e (Nq hz hy k)),h2 z hz hzl',Nn hzl']
end Go.Proofs.YtncjeamdkjcebaaGreatDoor
namespace Go.Proofs.YtncjeamdkjcebaaGreatDoor
open Go.RowKit
def R1b(vl v2:Value)(ao3:Option Addr)(L St:Int)(n n3 cap3 B:Nat)(ix:Nat)(v:Value)(W:World):Prop:=
 match ix with
 |0=>v=(.agg #[.int .i64 L,.int .i64 St,v2,.slice ao3 n3 cap3])
 |1=>v=vl
 |2=>v=.int .i64 (n:Int)
 |3=>∃ob,v=.slice (some ⟨ob,0,none⟩) n n/\B<=ob/\W.heap[ob]? =some (.cells (madeCells #[.slice none 0 0] n) 26 (0,0))
 |4=>∃ob,v=.agg #[.int .i64 L,.int .i64 St,v2,.slice ao3 n3 cap3,.int .i64 0,.slice (some ⟨ob,0,none⟩) n n]/\B<=ob/\W.heap[ob]? =some (.cells (madeCells #[.slice none 0 0] n) 26 (0,0))
 |5=>∃z,v=.pointer (some ⟨z,0,none⟩)/\B<=z/\W.heap[z]? =some (.cells #[.int .i64 0,.int .i64 0,.slice none 0 0,.slice none 0 0,.int .i64 0,.slice none 0 0] 105 (0,0))
 | _=>True
theorem R1b.mono(vl v2:Value)(ao3:Option Addr)(L St:Int)(n n3 cap3 B:Nat)(ix:Nat)(v:Value)(W W':World)(h:R1b vl v2 ao3 L St n n3 cap3 B ix v W)(hb:Below W.heap.size W W'):R1b vl v2 ao3 L St n n3 cap3 B ix v W':=by
 unfold R1b at*
 split at h<;>first|exact h|(obtain⟨o,h1,h2,h3⟩:=h;exact⟨o,h1,h2,(hb.block o (ltE h3)).trans h3⟩)
def R14(vl:Value)(z ob n u m B B2:Nat)(ix:Nat)(v:Value)(W:World):Prop:=
 match ix with
 |0=>v=.pointer (some ⟨z,5,none⟩)
 |1=>v=.slice (some ⟨ob,0,none⟩) n n
 |2=>v=.int .i64 (u:Int)
 |3=>v=vl
 |4=>v=.int .i64 (m:Int)
 |5=>∃g,v=.slice (some ⟨g,0,none⟩) m m/\B2<=g/\OI W B v (List.replicate m 0)
 |6=>v=.pointer (some ⟨ob,u,none⟩)
 | _=>True
theorem R14.mono(vl:Value)(z ob n u m B B2:Nat)(ix:Nat)(v:Value)(W W':World)(h:R14 vl z ob n u m B B2 ix v W)(hb:Below W.heap.size W W'):R14 vl z ob n u m B B2 ix v W':=by
 unfold R14 at*
 split at h<;>first|exact h|(obtain⟨o,h1,h2,h3⟩:=h;exact⟨o,h1,h2,h3.below hb⟩)
def R18(vl:Value)(z ob n u m g o:Nat)(x:Int)(ix:Nat)(v:Value)(_:World):Prop:=
 match ix with
 |0=>v=.pointer (some ⟨z,5,none⟩)
 |1=>v=.slice (some ⟨ob,0,none⟩) n n
 |2|7=>v=.int .i64 (u:Int)
 |3=>v=.pointer (some ⟨ob,u,none⟩)
 |4=>v=.slice (some ⟨g,0,none⟩) m m
 |5|8=>v=.int .i64 (o:Int)
 |6=>v=vl
 |9=>v=.int .i64 x
 |10=>v=.pointer (some ⟨g,o,none⟩)
 | _=>True
theorem R18.mono(vl:Value)(z ob n u m g o:Nat)(x:Int)(ix:Nat)(v:Value)(W W':World)(h:R18 vl z ob n u m g o x ix v W)(_:Below W.heap.size W W'):R18 vl z ob n u m g o x ix v W':=by
 unfold R18 at*;exact h
theorem NL{w:World}{z:Nat}{t:TypeId}{c0 c1 c2 c3 c4 c5 d0 d1 d2 d3 d4 d5:Value}(h:w.heap[z]? =some (.cells #[c0,c1,c2,c3,c4,c5] t (0,0))):
  ((((((w.setCell ⟨z,0,none⟩ d0).setCell ⟨z,1,none⟩ d1).setCell ⟨z,2,none⟩ d2).setCell ⟨z,3,none⟩ d3).setCell ⟨z,4,none⟩ d4).setCell ⟨z,5,none⟩ d5).heap[z]? =some (.cells #[d0,d1,d2,d3,d4,d5] t (0,0)):=
 heap_setCell_same _ z 5 _ _ d5 (heap_setCell_same _ z 4 _ _ d4 (heap_setCell_same _ z 3 _ _ d3 (heap_setCell_same _ z 2 _ _ d2 (heap_setCell_same _ z 1 _ _ d1 (heap_setCell_same _ z 0 _ _ d0 h)))))
theorem LP(w:World)(z:Nat)(d0 d1 d2 d3 d4 d5:Value):
  Ag (fun k=>k=z) w ((((((w.setCell ⟨z,0,none⟩ d0).setCell ⟨z,1,none⟩ d1).setCell ⟨z,2,none⟩ d2).setCell ⟨z,3,none⟩ d3).setCell ⟨z,4,none⟩ d4).setCell ⟨z,5,none⟩ d5):=
 (((((Ag.set (S:=fun k=>k=z) z 0 d0 rfl).trans (Ag.set z 1 d1 rfl)).trans (Ag.set z 2 d2 rfl)).trans (Ag.set z 3 d3 rfl)).trans (Ag.set z 4 d4 rfl)).trans (Ag.set z 5 d5 rfl)
def Gb(va:Value)(a:Au)(l:List Sig)(w:World)(e:Ending)(w':World):Prop:=∃v2 v3 vt,va=.agg #[.int .i64 a.letters,.int .i64 a.start,v2,v3]/\e=.returned (.agg #[.int .i64 a.letters,.int .i64 a.start,v2,v3,.int .i64 (AT a),vt])/\Ar w' vt (Aq l)/\Below w.heap.size w w'
theorem MG(w:World)(vl va:Value)(l:List Sig)(a:Au)(hK:BN w)(hl:AH w vl l)(ha:Cm w va a)(hv:At l=true):
  Calls Tryz.prog 74 #[vl,va] w (Gb va a l w):=by
 obtain⟨⟨hi0,hi1⟩,⟨ho0,ho1⟩⟩:=C7 hv
 have HIn:Hid (∀W,Below w.heap.size w W->Calls Tryz.prog 78 #[vl] W (Av (.int .i64 (Ap l)) W)):=fun W h=>DJ W vl l (hK.below h) (hl.below h)
 have HOu:Hid (∀W,Below w.heap.size w W->Calls Tryz.prog 79 #[vl] W (Av (.int .i64 (Aj l)) W)):=fun W h=>CY W vl l (hK.below h) (hl.below h)
 have HJn:Hid (∀W(i o:Nat),i<=64->o<=64->Below w.heap.size w W->Calls Tryz.prog 93 #[vl,.int .i64 (i:Int),.int .i64 (o:Int)] W (Av (.int .i64 (AO l i o)) W)):=fun W i o h1 h2 h=>Ma W vl l i o (by unfold I64;omega) (by unfold I64;omega) (hK.below h) (hl.below h)
 obtain⟨n,hn⟩:∃n:Nat,Ap l=(n:Int):=⟨(Ap l).toNat,by omega⟩;obtain⟨m,hm⟩:∃m:Nat,Aj l=(m:Int):=⟨(Aj l).toNat,by omega⟩;rw[hn]at hi0 hi1 HIn;rw[hm]at ho0 ho1 HOu
 have HNN:Hid ((Ap l).toNat=n):=by show _=_;rw[hn];rfl
 have HMM:Hid ((Aj l).toNat=m):=by show _=_;rw[hm];rfl
 obtain⟨ao,cap,b,off,rfl,-⟩:=hl;obtain⟨vv2,vv3,rfl,-,⟨V2,⟨ao2,cap2,b2,off2,rfl,-⟩,-⟩,⟨V3,⟨ao3,cap3,b3,off3,rfl,g3⟩,hr3⟩⟩:=ha;obtain⟨n2,hn2⟩:∃n2,n2=a.next.length:=⟨_,rfl⟩;obtain⟨L,hL⟩:∃L,L=a.letters:=⟨_,rfl⟩;obtain⟨St,hSt⟩:∃St,St=a.start:=⟨_,rfl⟩;obtain⟨n3,hn3⟩:∃n3,n3=a.prio.length:=⟨_,rfl⟩;obtain⟨vl,hvl⟩:∃vl,vl=Value.slice ao l.length cap:=⟨_,rfl⟩;rw[<-hn3]at g3 hr3;rw[<-hn2,<-hL,<-hSt,<-hn3,<-hvl];rw[<-hvl]at HIn HOu HJn;have HG3:=Ab g3;have HR3:=Ab hr3;have HN3:=Ab hn3;have hnb3:=g3.nb;have HVS:Hid (At l=true):=hv;have HLS:Hid (L=a.letters/\St=a.start):=⟨hL,hSt⟩;clear g3 hr3 hv hn hm hK hn2 hL hSt hn3 hvl
 have hmx:Tryz.prog.follows .mixedOrders=true:=by kernel_rfl
 have mki:=fun wx=>run_make_row' (P:=Tryz.prog) 26 3 (.int .i64 0) 8 Tryz.underlying26 C5 rfl .i64 .i64 m (by omega) (by omega) wx
 have mkr:=fun wx=>run_make_row' (P:=Tryz.prog) 23 26 (.slice none 0 0) 24 Tryz.underlying23 DF rfl .i64 .i64 n (by omega) (by omega) wx
 go_enter Tryz.func74,Tryz.ntmps74
 go_upto_region 1 with(fail)
 have hbx:Below w.heap.size w ((w.alloc (.cells #[.int .i64 L,.int .i64 St,(Value.slice ao2 n2 cap2),.slice ao3 n3 cap3] 63)).alloc (.cells #[.int .i64 0,.int .i64 0,.slice none 0 0,.slice none 0 0,.int .i64 0,.slice none 0 0] 105)):=(by repeat(first|exact Ad|assumption|apply AD|apply AE));have hpb:((w.alloc (.cells #[.int .i64 L,.int .i64 St,(Value.slice ao2 n2 cap2),.slice ao3 n3 cap3] 63)).alloc (.cells #[.int .i64 0,.int .i64 0,.slice none 0 0,.slice none 0 0,.int .i64 0,.slice none 0 0] 105)).heap[w.heap.size]? =some (.cells #[.int .i64 L,.int .i64 St,(Value.slice ao2 n2 cap2),.slice ao3 n3 cap3] 63 (0,0)):=(by(repeat(rw[Al];first|rw[if_pos (by first|simp;done|simp;omega)]|rw[if_neg (by first|simp;done|simp;omega)]));(try rfl));have hrc:((w.alloc (.cells #[.int .i64 L,.int .i64 St,(Value.slice ao2 n2 cap2),.slice ao3 n3 cap3] 63)).alloc (.cells #[.int .i64 0,.int .i64 0,.slice none 0 0,.slice none 0 0,.int .i64 0,.slice none 0 0] 105)).heap[w.heap.size+1]? =some (.cells #[.int .i64 0,.int .i64 0,.slice none 0 0,.slice none 0 0,.int .i64 0,.slice none 0 0] 105 (0,0)):=(by(repeat(rw[Al];first|rw[if_pos (by first|simp;done|simp;omega)]|rw[if_neg (by first|simp;done|simp;omega)]));(try rfl));generalize((w.alloc (.cells #[.int .i64 L,.int .i64 St,(Value.slice ao2 n2 cap2),.slice ao3 n3 cap3] 63)).alloc (.cells #[.int .i64 0,.int .i64 0,.slice none 0 0,.slice none 0 0,.int .i64 0,.slice none 0 0] 105))=w1 at*;have hsz:=(ltE hrc)
 have HSZ:Hid (w.heap.size+2<=w1.drew.heap.size):=by show _<=w1.heap.size;omega
 have HB1:Hid (∀W,Below w1.drew.heap.size w1.drew W->Below w.heap.size w W):=fun W h=>hbx.trans (((Below.drew Ad).trans h).mono hbx.size)
 have HPX:Hid (∀W,Below w1.drew.heap.size w1.drew W->W.heap[w.heap.size]? =some (.cells #[.int .i64 L,.int .i64 St,(Value.slice ao2 n2 cap2),.slice ao3 n3 cap3] 63 (0,0))/\W.heap[w.heap.size+1]? =some (.cells #[.int .i64 0,.int .i64 0,.slice none 0 0,.slice none 0 0,.int .i64 0,.slice none 0 0] 105 (0,0))):=fun W h=>⟨(((Below.drew (B:=w1.heap.size) Ad).trans h).block _ (by omega)).trans hpb,(((Below.drew (B:=w1.heap.size) Ad).trans h).block _ (by omega)).trans hrc⟩
 have HPB:Hid (∀W,Below w1.drew.heap.size w1.drew W->W.cell? ⟨w.heap.size,0,none⟩=some (.int .i64 L)/\W.cell? ⟨w.heap.size,1,none⟩=some (.int .i64 St)/\W.cell? ⟨w.heap.size,2,none⟩=some (Value.slice ao2 n2 cap2)/\W.cell? ⟨w.heap.size,3,none⟩=some (.slice ao3 n3 cap3)):=fun W h=>by
  have k:=(HPX.out W h).1;exact⟨Aa 0 k,Aa 1 k,Aa 2 k,Aa 3 k⟩
 clear hbx hpb hrc
 go_cut [5] (fun s5 wx=>∃(z ob:Nat)(wz:World),s5=.pointer (some ⟨z,0,none⟩)/\wz=wx/\NB w wz z ob n L St (Value.slice ao2 n2 cap2) (.slice ao3 n3 cap3) 0 (List.replicate n (.slice none 0 0)) (List.replicate n []))
 case first J' K' hJR hMK=>
  have HMK:=Ab hMK;have HJR:=Ab hJR;clear hMK hJR;refine Ci hmx (R1b vl (Value.slice ao2 n2 cap2) ao3 L St n n3 cap3 (w.heap.size+2)) (fun vs=>{tmps:=(_::_::_::_::_::vs 5::_::_::_::_::_::_::vs 0::vs 1::vs 2::vs 3::vs 4::_::_::_::_::_::_::_::_::_::_::_::_::_::_::_::_::_::_::_::_::_::_::_::_::_::_::_::_::_::_::_::_::_::_::_::_::_::_::_::_::_::_::_::_::_::_::_::_::_::_::_::_::_::_::_::_::[]).toArray,defers:=[]}) (fun _=>undef) 6 rfl (by kernel_rfl) (by kernel_rfl) (R1b.mono vl (Value.slice ao2 n2 cap2) ao3 L St n n3 cap3 (w.heap.size+2)) ?step ?last
  case step=>
   intro ix o hlt ho
   match ix,hlt,ho with
   |0,hlt,ho=>
    obtain rfl:=osI ho;intro vs W K hB hD hK;have HK:=Ab hK;obtain⟨d0,d1,d2,d3⟩:=HPB.out W hB;clear hK hD ho hlt;dsimp only;go_simp;have h:=HK.out _ _ Ad rfl;simp only[upd,Nat.reduceEqDiff,reduceIte]at h;exact h
   |1,hlt,ho=>
    obtain rfl:=osI ho;intro vs W K hB hD hK;have HK:=Ab hK;clear hK hD ho hlt;dsimp only;go_simp;have h:=HK.out _ _ Ad rfl;simp only[upd,Nat.reduceEqDiff,reduceIte]at h;exact h
   |2,hlt,ho=>
    obtain rfl:=osI ho;intro vs W K hB hD hK;have HK:=Ab hK;have e1:vs 1=vl:=Ac hD 1 rfl;clear hK hD ho hlt;dsimp only;go_simp;refine(HIn.out W (HB1.out W hB)).mono ?_;rintro e W' ⟨rfl,hb⟩;have h:=HK.out _ _ hb rfl;simp only[upd,Nat.reduceEqDiff,reduceIte,e1]at h;exact h
   |3,hlt,ho|5,hlt,ho=>
    obtain rfl:=osI ho;intro vs W K hB hD hK;have HK:=Ab hK
    try have e2:vs 2=.int .i64 (n:Int):=Ac hD 2 rfl
    clear hK hD ho hlt;dsimp only;go_simp;have h:=HK.out _ _ (Ao _) ⟨_,rfl,Nat.le_trans HSZ.out hB.size,heap_alloc_new _ _⟩;simp only[upd,Nat.reduceEqDiff,reduceIte, *]at h;exact h
   |4,hlt,ho=>
    obtain rfl:=osI ho;intro vs W K hB hD hK;have HK:=Ab hK;have e0:vs 0=(.agg #[.int .i64 L,.int .i64 St,(Value.slice ao2 n2 cap2),.slice ao3 n3 cap3]):=Ac hD 0 rfl;obtain⟨ob,e3,hob,hobh⟩:∃ob,vs 3=.slice (some ⟨ob,0,none⟩) n n/\w.heap.size+2<=ob/\W.heap[ob]? =some (.cells (madeCells #[.slice none 0 0] n) 26 (0,0)):=Ac hD 3 (by rfl);clear hK hD ho hlt;dsimp only;go_simp;have h:=HK.out _ _ Ad ⟨ob,rfl,hob,hobh⟩;simp only[upd,Nat.reduceEqDiff,reduceIte,e0,e3]at h;exact h
   |q+6,hlt,ho=>omega
  case last=>
   intro o ho;obtain rfl:=osI ho;intro vs W K hB hall hK;have HK:=Ab hK;obtain⟨ob,e4,hob,hobh⟩:∃ob,vs 4=.agg #[.int .i64 L,.int .i64 St,(Value.slice ao2 n2 cap2),.slice ao3 n3 cap3,.int .i64 0,.slice (some ⟨ob,0,none⟩) n n]/\w.heap.size+2<=ob/\W.heap[ob]? =some (.cells (madeCells #[.slice none 0 0] n) 26 (0,0)):=hall 4 (by omega);obtain⟨z,e5,hz,hzh⟩:∃z,vs 5=.pointer (some ⟨z,0,none⟩)/\w.heap.size+2<=z/\W.heap[z]? =some (.cells #[.int .i64 0,.int .i64 0,.slice none 0 0,.slice none 0 0,.int .i64 0,.slice none 0 0] 105 (0,0)):=hall 5 (by omega)
   have hoz:ob≠z:=fun e=>by
    rw[e,hzh]at hobh;simp at hobh
   have c0:=Aa 0 hzh;have c1:=Aa 1 hzh;have c2:=Aa 2 hzh;have c3:=Aa 3 hzh;have c4:=Aa 4 hzh;have c5:=Aa 5 hzh;have f0:=Ay 0 hzh;have f1:=Ay 1 hzh;have f2:=Ay 2 hzh;have f3:=Ay 3 hzh;have f4:=Ay 4 hzh;have f5:=Ay 5 hzh;have HZ6:=Ab (NL (d0:=.int .i64 L) (d1:=.int .i64 St) (d2:=(Value.slice ao2 n2 cap2)) (d3:=.slice ao3 n3 cap3) (d4:=.int .i64 0) (d5:=.slice (some ⟨ob,0,none⟩) n n) hzh);have HO6:=Ab (LP W z (.int .i64 L) (.int .i64 St) (Value.slice ao2 n2 cap2) (.slice ao3 n3 cap3) (.int .i64 0) (.slice (some ⟨ob,0,none⟩) n n));have HOB:=Ab hobh;have HBW:=Ab (HB1.out W hB);have HPW:=Ab (HPX.out W hB);have hWs:w.heap.size+2<=W.heap.size:=Nat.le_trans HSZ.out hB.size;clear hK hall ho hobh hzh;dsimp only;go_simp;refine HK.out _ _ ?_;show K' _ _;refine HMK.out _ _ (Met.intro (HJR.out _ _ ?_))
   (repeat apply Exists.intro)
   refine⟨?rel,rfl⟩
   case rel=>
    refine⟨z,ob,_,rfl,rfl, ?_⟩
    exact {
     bx:=(((((HBW.out.setCell (p:=⟨z,0,none⟩) (by show w.heap.size<=z;omega) _).setCell (p:=⟨z,1,none⟩) (by show w.heap.size<=z;omega) _).setCell (p:=⟨z,2,none⟩) (by show w.heap.size<=z;omega) _).setCell (p:=⟨z,3,none⟩) (by show w.heap.size<=z;omega) _).setCell (p:=⟨z,4,none⟩) (by show w.heap.size<=z;omega) _).setCell (p:=⟨z,5,none⟩) (by show w.heap.size<=z;omega) _
     pb:=(HO6.out.block _ (by omega) (by omega)).trans HPW.out.1
     rc:=(HO6.out.block _ (by omega) (by omega)).trans HPW.out.2
     bd:=HZ6.out
     R:=(Bl.made HOB.out hob (by omega)).only HO6.out hoz fun j hj b hb=>by simp[List.getD,hj,Value.ownBlock]at hb
     zB:=hz
     ne:=hoz
     x:=fun j hj b hb=>by simp[List.getD,hj,Value.ownBlock]at hb}
 case rest=>
  obtain⟨z,ob,w2,rfl,rfl,hN⟩:=hcut;have d3:=Aa 3 hN.pb;go_wp2;clear d3 mkr
  go_loopg [20] n3 (fun gh i wr=>∃k:Nat,gh=n3-k/\i=.int .i64 k/\k<=n3/\NB w wr z ob n L St (Value.slice ao2 n2 cap2) (.slice ao3 n3 cap3) (G9 a k) (List.replicate n (.slice none 0 0)) (List.replicate n []))
  case atStart=>exact⟨0,rfl,rfl,by omega,hN⟩
  case round=>
   obtain⟨k,hgk,rfl,hk,hN⟩:=hrel;have HG:=Ab hgk;clear hgk
   by_cases hlt:k<n3
   ·obtain⟨⟨ao4,cap4,b4,off4,hv4,g4⟩,hr4⟩:=HR3.out k (by first|exact hlt|(rw[<-HN3.out];exact hlt));have hnb:=HG3.out.ad;obtain rfl:=hnb (by omega);have c3:=Ah hN.bx (HG3.out.el k hlt);rw[hv4]at c3;have HT:Hid (G9 a (k+1)=FX (G9 a k) (a.prio.getD k [])):=OO a k (by rw[<-HN3.out];exact hlt);have HR4:=Ab hr4;have HN:=Ab hN;generalize hrow:a.prio.getD k []=row at*;clear hrow hv4 hr4;go_wp2;clear c3
    go_loopg [26] row.length (fun gh i wr=>∃j:Nat,gh=row.length-j/\i=.int .i64 j/\j<=row.length/\NB w wr z ob n L St (Value.slice ao2 n2 cap2) (.slice (some ⟨b3,off3,none⟩) n3 cap3) (FX (G9 a k) (row.take j)) (List.replicate n (.slice none 0 0)) (List.replicate n []))
    case atStart=>exact⟨0,rfl,rfl,by omega,HN.out⟩
    case round=>
     obtain⟨j,hgj,rfl,hj,hN2⟩:=hrel;have HGJ:=Ab hgj;clear hgj hN
     by_cases hltj:j<row.length
     ·have hnb4:=g4.nb;obtain rfl:=g4.ad (by omega);have c4:=Ah hN2.bx (g4.el j hltj);unfold ivF at c4;have e4:=Aa 4 hN2.bd;have f4:=Ay 4 hN2.bd;have HM:Hid (FX (G9 a k) (row.take (j+1))=max (FX (G9 a k) (row.take j)) (row.getD j 0)):=Oi _ _ _ hltj
      have HNT:Hid (∀t,NB w (wr.setCell ⟨z,4,none⟩ (.int .i64 t)) z ob n L St (Value.slice ao2 n2 cap2) (.slice (some ⟨b3,off3,none⟩) n3 cap3) t (List.replicate n (.slice none 0 0)) (List.replicate n [])):=fun t=>hN2.top t
      generalize FX (G9 a k) (row.take j)=tp at*;generalize row.getD j 0=xe at*;clear hN2;go_wp2
      all_goals
       go_roundg (row.length-(j+1))
       case measure=>have:=HGJ.out;omega
       case rel=>
        refine⟨j+1,rfl,by go_num,by omega, ?_⟩;rw[HM.out]
        first
         |(rw[show max tp xe=xe from by omega];exact HNT.out _)
         |(rw[show max tp xe=tp from by omega];exact HNT.out _)
     ·obtain rfl:j=row.length:=by omega
      rw[List.take_length,<-HT.out]at hN2;go_wp2
      go_roundg (n3-(k+1))
      case measure=>have:=HG.out;omega
      case rel=>exact⟨k+1,rfl,by go_num,by omega,hN2⟩
   ·obtain rfl:k=n3:=by omega
    have HTA:Hid (G9 a k=AT a):=by
     show _=_;rw[HN3.out,QN]
    rw[HTA.out]at hN;have e5:=Aa 5 hN.bd;go_wp2;clear e5
    go_loopg [40] n (fun gh i wr=>∃(u:Nat)(vals:List Value),gh=n-u/\i=.int .i64 u/\u<=n/\NB w wr z ob n L St (Value.slice ao2 n2 cap2) (.slice ao3 k cap3) (AT a) vals (BH l u))
    case atStart=>exact⟨0,_,rfl,rfl,by omega,by rw[Io,HNN.out];exact hN⟩
    case round=>
     obtain⟨u,vals,hgu,rfl,hu,hN2⟩:=hrel;have HGU:=Ab hgu;clear hgu hN
     by_cases hltu:u<n
     ·have hl6:=hN2.lt;have HNL:Hid (w.heap.size+2<=wr.drew.heap.size):=hl6.1
      have HNW:Hid (∀W,Below wr.drew.heap.size wr.drew W->NB w W z ob n L St (Value.slice ao2 n2 cap2) (.slice ao3 k cap3) (AT a) vals (BH l u)):=fun W h=>hN2.below ((Below.drew (B:=wr.heap.size) Ad).trans h)
      have hzB:=hN2.zB
      have HTL:Hid ((BH l u).length=n):=by show _=_;rw[Jp,HNN.out]
      clear hN2
      go_upto_region 14 with(fail)
      go_cut [10] (fun s10 wx=>s10=.int .i64 (u:Int)/\∃(g:Nat)(vals:List Value),vals.getD u undef=.slice (some ⟨g,0,none⟩) m m/\NB w wx z ob n L St (Value.slice ao2 n2 cap2) (.slice ao3 k cap3) (AT a) vals ((BH l u).set u (CD l u 0)))
      case first J' K' hJR hMK=>
       have HMK:=Ab hMK;have HJR:=Ab hJR;clear hMK hJR;refine Ci hmx (R14 vl z ob n u m (w.heap.size+2) wr.heap.size) (fun vs=>{tmps:=(_::_::_::_::_::_::_::_::_::_::_::_::_::_::_::_::_::_::_::_::_::_::_::_::_::_::_::_::_::_::_::_::_::_::_::_::_::_::_::_::_::_::_::vs 0::vs 1::vs 2::vs 3::vs 4::vs 5::vs 6::_::_::_::_::_::_::_::_::_::_::_::_::_::_::_::_::_::_::_::_::_::_::_::[]).toArray,defers:=[]}) (fun n=>[u43,u44,u45,u46,u47,u48,u49].getD n undef) 7 rfl (by kernel_rfl) (by kernel_rfl) (R14.mono vl z ob n u m (w.heap.size+2) wr.heap.size) ?step14 ?last14
       case step14=>
        intro ix o hlt ho
        match ix,hlt,ho with
        |0,hlt,ho|2,hlt,ho|3,hlt,ho|6,hlt,ho=>
         obtain rfl:=osI ho;intro vs W K hB hD hK;have HK:=Ab hK
         try have e1:vs 1=(.slice (some ⟨ob,0,none⟩) n n):=Ac hD 1 rfl
         try have e2:vs 2=.int .i64 (u:Int):=Ac hD 2 rfl
         clear hK hD ho hlt;dsimp only;go_simp;have h:=HK.out _ _ Ad rfl;simp only[upd,Nat.reduceEqDiff,reduceIte, *]at h;exact h
        |1,hlt,ho=>
         obtain rfl:=osI ho;intro vs W K hB hD hK;have HK:=Ab hK;have e0:vs 0=.pointer (some ⟨z,5,none⟩):=Ac hD 0 rfl;have c5:W.cell? ⟨z,5,none⟩=some (.slice (some ⟨ob,0,none⟩) n n):=Aa 5 (HNW.out W hB).bd;clear hK hD ho hlt;dsimp only;go_simp;have h:=HK.out _ _ Ad rfl;simp only[upd,Nat.reduceEqDiff,reduceIte,e0]at h;exact h
        |4,hlt,ho=>
         obtain rfl:=osI ho;intro vs W K hB hD hK;have HK:=Ab hK;have e3:vs 3=vl:=Ac hD 3 rfl;clear hK hD ho hlt;dsimp only;go_simp;refine(HOu.out W (HNW.out W hB).bx).mono ?_;rintro e W' ⟨rfl,hb⟩;have h:=HK.out _ _ hb rfl;simp only[upd,Nat.reduceEqDiff,reduceIte,e3]at h;exact h
        |5,hlt,ho=>
         obtain rfl:=osI ho;intro vs W K hB hD hK;have HK:=Ab hK;have e4:vs 4=.int .i64 (m:Int):=Ac hD 4 rfl;clear hK hD ho hlt;dsimp only;go_simp;have h:=HK.out _ _ (Ao _) ⟨_,rfl,hB.size,JW (heap_alloc_new _ _) (Nat.le_trans HNL.out hB.size) (by omega)⟩;simp only[upd,Nat.reduceEqDiff,reduceIte,e4]at h;exact h
        |q+7,hlt,ho=>omega
       case last14=>
        intro o ho;obtain rfl:=osI ho;intro vs W K hB hall hK;have HK:=Ab hK;obtain⟨g,e5,hg,ho5⟩:∃g,vs 5=.slice (some ⟨g,0,none⟩) m m/\wr.heap.size<=g/\OI W (w.heap.size+2) (vs 5) (List.replicate m 0):=hall 5 (by omega);have e6:vs 6=.pointer (some ⟨ob,u,none⟩):=hall 6 (by omega);rw[e5]at ho5;obtain⟨p1,p2,p3⟩:=(HNW.out wr.drew Ad).row (l:=List.replicate m 0) hltu hB ho5 (fun b e=>by cases e;exact hg);have HP3:=Ab p3;clear hK hall ho ho5;dsimp only;go_simp;refine HK.out _ _ ?_;show K' _ _;refine HMK.out _ _ (Met.intro (HJR.out _ _ ?_))
        (repeat apply Exists.intro)
        refine⟨?rel,rfl⟩
        case rel=>
         refine⟨rfl,g,_,AA _ _ _ _ (by rw[(HNW.out wr.drew Ad).R.lv];exact hltu), ?_⟩;rw[Ip,HMM.out];exact HP3.out
      case rest=>
       obtain⟨rfl,g,vals,hv,hN3⟩:=hcut;have c5:wc.cell? ⟨z,5,none⟩=some (.slice (some ⟨ob,0,none⟩) n n):=Aa 5 hN3.bd;have cu:=hN3.R.cell hltu;rw[hv]at cu;have HV:=Ab hv;have H3:=Ab hN3;clear hN3 hv;go_wp2;clear c5 cu
       go_loopg [56] m (fun gh i wr=>∃o:Nat,gh=m-o/\i=.int .i64 o/\o<=m/\NB w wr z ob n L St (Value.slice ao2 n2 cap2) (.slice ao3 k cap3) (AT a) vals ((BH l u).set u (CD l u o)))
       case atStart=>exact⟨0,rfl,rfl,by omega,H3.out⟩
       case round=>
        obtain⟨o,hgo,rfl,ho,hN4⟩:=hrel;have HGO:=Ab hgo;clear hgo
        by_cases hlto:o<m
        ·have HNW:Hid (∀W,Below wr.drew.heap.size wr.drew W->NB w W z ob n L St (Value.slice ao2 n2 cap2) (.slice ao3 k cap3) (AT a) vals ((BH l u).set u (CD l u o))):=fun W h=>hN4.below ((Below.drew (B:=wr.heap.size) Ad).trans h)
         have HRL:Hid ((CD l u o).length=m):=by show _=_;rw[Jr,HMM.out]
         clear hN4
         go_upto_region 18 with(fail)
         refine Ci hmx (R18 vl z ob n u m g o (AO l (u:Int) (o:Int))) (fun vs=>{tmps:=(_::_::_::_::_::_::_::_::_::_::_::_::_::_::_::_::_::_::_::_::_::_::_::_::_::_::_::_::_::_::_::_::_::_::_::_::_::_::_::_::_::_::_::_::_::_::_::_::_::_::_::_::_::_::_::_::_::_::_::vs 0::vs 1::vs 2::vs 3::vs 4::vs 5::vs 6::vs 7::vs 8::vs 9::vs 10::_::_::_::[]).toArray,defers:=[]}) (fun n=>[u59,u60,u61,u62,u63,u64,u65,u66,u67,u68,u69].getD n undef) 11 rfl (by kernel_rfl) (by kernel_rfl) (R18.mono vl z ob n u m g o (AO l (u:Int) (o:Int))) ?step18 ?last18
         case step18=>
          intro ix oo hlt ho
          match ix,hlt,ho with
          |0,hlt,ho|2,hlt,ho|3,hlt,ho|5,hlt,ho|6,hlt,ho|7,hlt,ho|8,hlt,ho|10,hlt,ho=>
           obtain rfl:=osI ho;intro vs W K hB hD hK;have HK:=Ab hK
           try have e1:vs 1=(.slice (some ⟨ob,0,none⟩) n n):=Ac hD 1 rfl
           try have e2:vs 2=.int .i64 (u:Int):=Ac hD 2 rfl
           try have e4:vs 4=.slice (some ⟨g,0,none⟩) m m:=Ac hD 4 rfl
           try have e5:vs 5=.int .i64 (o:Int):=Ac hD 5 rfl
           clear hK hD ho hlt;dsimp only;go_simp;have h:=HK.out _ _ Ad rfl;simp only[upd,Nat.reduceEqDiff,reduceIte, *]at h;exact h
          |1,hlt,ho=>
           obtain rfl:=osI ho;intro vs W K hB hD hK;have HK:=Ab hK;have e0:vs 0=.pointer (some ⟨z,5,none⟩):=Ac hD 0 rfl;have c5:W.cell? ⟨z,5,none⟩=some (.slice (some ⟨ob,0,none⟩) n n):=Aa 5 (HNW.out W hB).bd;clear hK hD ho hlt;dsimp only;go_simp;have h:=HK.out _ _ Ad rfl;simp only[upd,Nat.reduceEqDiff,reduceIte,e0]at h;exact h
          |4,hlt,ho=>
           obtain rfl:=osI ho;intro vs W K hB hD hK;have HK:=Ab hK;have e3:vs 3=.pointer (some ⟨ob,u,none⟩):=Ac hD 3 rfl;have cu:=(HNW.out W hB).R.cell hltu;rw[HV.out]at cu;clear hK hD ho hlt;dsimp only;go_simp;have h:=HK.out _ _ Ad rfl;simp only[upd,Nat.reduceEqDiff,reduceIte,e3]at h;exact h
          |9,hlt,ho=>
           obtain rfl:=osI ho;intro vs W K hB hD hK;have HK:=Ab hK;have e6:vs 6=vl:=Ac hD 6 rfl;have e7:vs 7=.int .i64 (u:Int):=Ac hD 7 rfl;have e8:vs 8=.int .i64 (o:Int):=Ac hD 8 rfl;clear hK hD ho hlt;dsimp only;go_simp;refine(HJn.out W u o (by omega) (by omega) (HNW.out W hB).bx).mono ?_;rintro e W' ⟨rfl,hb⟩;have h:=HK.out _ _ hb rfl;simp only[upd,Nat.reduceEqDiff,reduceIte,e6,e7,e8]at h;exact h
          |q+11,hlt,ho=>omega
         case last18=>
          intro oo ho;obtain rfl:=osI ho;intro vs W K hB hall hK;have HK:=Ab hK;have e9:vs 9=.int .i64 (AO l (u:Int) (o:Int)):=hall 9 (by omega);have e10:vs 10=.pointer (some ⟨g,o,none⟩):=hall 10 (by omega);have hNN:=HNW.out W hB;have he:=hNN.R.e u hltu
          have hjl:u<(BH l u).length:=by rw[HTL.out];exact hltu
          rw[HV.out,AA _ _ _ _ hjl]at he;have c1:=he.at' HRL.out.symm o (by rw[HRL.out];exact hlto);have f1:=he.fz HRL.out.symm o;have p3:=hNN.elem hltu HV.out (by rw[AA _ _ _ _ hjl,HRL.out]) o (AO l (u:Int) (o:Int));rw[AA _ _ _ _ hjl,List.set_set,Js]at p3;have HP3:=Ab p3;clear hK hall ho p3 hNN he;dsimp only;go_simp;refine HK.out _ _ ?_;go_wp2
          go_roundg (m-(o+1))
          case measure=>have:=HGO.out;omega
          case rel=>exact⟨o+1,rfl,by go_num,by omega,HP3.out⟩
        ·have hom:o=m:=by omega
         have e:(BH l u).set u (CD l u o)=BH l (u+1):=by rw[<-Jq,HMM.out,hom]
         rw[e]at hN4;go_wp2
         go_roundg (n-(u+1))
         case measure=>have:=HGU.out;omega
         case rel=>exact⟨u+1,vals,rfl,by go_num,by omega,hN4⟩
     ·obtain rfl:u=n:=by omega
      have c0:wr.cell? ⟨z,0,none⟩=some (.int .i64 L):=Aa 0 hN2.bd;have c1:wr.cell? ⟨z,1,none⟩=some (.int .i64 St):=Aa 1 hN2.bd;have c2:wr.cell? ⟨z,2,none⟩=some (Value.slice ao2 n2 cap2):=Aa 2 hN2.bd;have c3:wr.cell? ⟨z,3,none⟩=some (.slice ao3 k cap3):=Aa 3 hN2.bd;have c4:wr.cell? ⟨z,4,none⟩=some (.int .i64 (AT a)):=Aa 4 hN2.bd;have c5:wr.cell? ⟨z,5,none⟩=some (.slice (some ⟨ob,0,none⟩) u u):=Aa 5 hN2.bd;have r0:wr.cell? ⟨w.heap.size+1,0,none⟩=some (.int .i64 0):=Aa 0 hN2.rc;have q0:wr.frozen? ⟨w.heap.size+1,0,none⟩=false:=Ay 0 hN2.rc;have r1:wr.cell? ⟨w.heap.size+1,1,none⟩=some (.int .i64 0):=Aa 1 hN2.rc;have q1:wr.frozen? ⟨w.heap.size+1,1,none⟩=false:=Ay 1 hN2.rc;have r2:wr.cell? ⟨w.heap.size+1,2,none⟩=some (.slice none 0 0):=Aa 2 hN2.rc;have q2:wr.frozen? ⟨w.heap.size+1,2,none⟩=false:=Ay 2 hN2.rc;have r3:wr.cell? ⟨w.heap.size+1,3,none⟩=some (.slice none 0 0):=Aa 3 hN2.rc;have q3:wr.frozen? ⟨w.heap.size+1,3,none⟩=false:=Ay 3 hN2.rc;have r4:wr.cell? ⟨w.heap.size+1,4,none⟩=some (.int .i64 0):=Aa 4 hN2.rc;have q4:wr.frozen? ⟨w.heap.size+1,4,none⟩=false:=Ay 4 hN2.rc;have r5:wr.cell? ⟨w.heap.size+1,5,none⟩=some (.slice none 0 0):=Aa 5 hN2.rc;have q5:wr.frozen? ⟨w.heap.size+1,5,none⟩=false:=Ay 5 hN2.rc;have HN5:=Ab hN2;clear hN hN2;go_wp2;clear c0 c1 c2 c3 c4 c5 r0 r1 r2 r3 r4 r5 q0 q1 q2 q3 q4 q5;have S6:=NL (d0:=(.int .i64 L)) (d1:=(.int .i64 St)) (d2:=(Value.slice ao2 n2 cap2)) (d3:=(.slice ao3 k cap3)) (d4:=(.int .i64 (AT a))) (d5:=(.slice (some ⟨ob,0,none⟩) u u)) HN5.out.rc;have O6:=LP wr (w.heap.size+1) (.int .i64 L) (.int .i64 St) (Value.slice ao2 n2 cap2) (.slice ao3 k cap3) (.int .i64 (AT a)) (.slice (some ⟨ob,0,none⟩) u u);have B6:Below w.heap.size w ((((((wr.setCell ⟨w.heap.size+1,0,none⟩ (.int .i64 L)).setCell ⟨w.heap.size+1,1,none⟩ (.int .i64 St)).setCell ⟨w.heap.size+1,2,none⟩ (Value.slice ao2 n2 cap2)).setCell ⟨w.heap.size+1,3,none⟩ (.slice ao3 k cap3)).setCell ⟨w.heap.size+1,4,none⟩ (.int .i64 (AT a))).setCell ⟨w.heap.size+1,5,none⟩ (.slice (some ⟨ob,0,none⟩) u u)):=((((((HN5.out.bx.setCell (p:=⟨w.heap.size+1,0,none⟩) (by show w.heap.size<=w.heap.size+1;omega) _).setCell (p:=⟨w.heap.size+1,1,none⟩) (by show w.heap.size<=w.heap.size+1;omega) _).setCell (p:=⟨w.heap.size+1,2,none⟩) (by show w.heap.size<=w.heap.size+1;omega) _).setCell (p:=⟨w.heap.size+1,3,none⟩) (by show w.heap.size<=w.heap.size+1;omega) _).setCell (p:=⟨w.heap.size+1,4,none⟩) (by show w.heap.size<=w.heap.size+1;omega) _).setCell (p:=⟨w.heap.size+1,5,none⟩) (by show w.heap.size<=w.heap.size+1;omega) _);generalize((((((wr.setCell ⟨w.heap.size+1,0,none⟩ (.int .i64 L)).setCell ⟨w.heap.size+1,1,none⟩ (.int .i64 St)).setCell ⟨w.heap.size+1,2,none⟩ (Value.slice ao2 n2 cap2)).setCell ⟨w.heap.size+1,3,none⟩ (.slice ao3 k cap3)).setCell ⟨w.heap.size+1,4,none⟩ (.int .i64 (AT a))).setCell ⟨w.heap.size+1,5,none⟩ (.slice (some ⟨ob,0,none⟩) u u))=w9 at*;have HB6:=Ab B6
      have HR6:Hid (Ar w9 (.slice (some ⟨ob,0,none⟩) u u) (Aq l)):=by
       have hob:=HN5.out.R.row.1;have h1:=HN5.out.R.only O6 (by omega) (fun j hj b hb=>by have:=(HN5.out.R.e j hj).ge b hb;omega);rw[show BH l u=Aq l from by rw[<-Jo,HNN.out]]at h1;exact h1.is (by omega) (fun j hj=>Lk HVS.out j (by rw[HNN.out];exact hj))
      clear O6 B6;refine bodyPost_ret (results_cell_row rfl _ _ (w.heap.size+1) _ _ _ _ rfl S6 Tryz.underlying105 (by rfl) (by rfl)) rfl ?_;exact⟨_,_,_,by rw[HLS.out.1,HLS.out.2],by rw[HLS.out.1,HLS.out.2],HR6.out,HB6.out⟩
end Go.Proofs.YtncjeamdkjcebaaGreatDoor
