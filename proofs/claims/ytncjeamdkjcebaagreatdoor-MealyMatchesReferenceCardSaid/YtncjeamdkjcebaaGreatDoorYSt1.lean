/- Which plays of a strategy are lost. -/
import Derived.Maps.OwnSet
import Derived.Maps.OwnIn
import Derived.DeepKeys4
import Derived.Test.YtncjeamdkjcebaaGreatDoorYMyN
set_option linter.all false
set_option maxHeartbeats 8000000
set_option maxRecDepth 100000
namespace Go.Proofs.YtncjeamdkjcebaaGreatDoor
inductive Cyc(E:Nat->Nat->Prop)(A:Nat->Prop):Nat->Nat->Prop
 |one {a b:Nat}:A a->A b->E a b->Cyc E A a b
 |step {a b c:Nat}:Cyc E A a b->A c->E b c->Cyc E A a c
theorem Cyc.left{E:Nat->Nat->Prop}{A:Nat->Prop}{a b:Nat}(h:Cyc E A a b):A a:=by
 induction h with
 |one h _ _=>exact h
 |step _ _ _ ih=>exact ih
theorem Cyc.right{E:Nat->Nat->Prop}{A:Nat->Prop}{a b:Nat}(h:Cyc E A a b):A b:=by
 cases h with
 |one _ h _=>exact h
 |step _ h _=>exact h
theorem Cyc.trans{E:Nat->Nat->Prop}{A:Nat->Prop}{a b c:Nat}(h1:Cyc E A a b)(h2:Cyc E A b c):Cyc E A a c:=by
 induction h2 with
 |one _ hc e=>exact h1.step hc e
 |step _ hc e ih=>exact ih.step hc e
theorem Cyc.mono{E:Nat->Nat->Prop}{A B:Nat->Prop}(c:∀x,A x->B x){a b:Nat}(h:Cyc E A a b):Cyc E B a b:=by
 induction h with
 |one ha hb e=>exact .one (c _ ha) (c _ hb) e
 |step _ hc e ih=>exact ih.step (c _ hc) e
def In(E:Nat->Nat->Prop)(A:Nat->Prop)(x y:Nat):Prop:=A x/\A y/\E x y
theorem Cyc.rch{E:Nat->Nat->Prop}{A:Nat->Prop}{a b:Nat}(h:Cyc E A a b):Rch (In E A) a b:=by
 induction h with
 |one ha hb e=>exact Rch.one ⟨ha,hb,e⟩
 |step h hc e ih=>exact ih.step ⟨h.right,hc,e⟩
theorem N4{E:Nat->Nat->Prop}{A:Nat->Prop}{a b:Nat}(h:Rch (In E A) a b)(c:a≠b):Cyc E A a b:=by
 induction h with
 |refl=>exact absurd rfl c
 |step h e ih=>
  rename_i x y
  by_cases hx:a=x
  ·subst hx;exact .one e.1 e.2.1 e.2.2
  ·exact(ih hx).step e.2.1 e.2.2
theorem Cyc.comp{E:Nat->Nat->Prop}{A C:Nat->Prop}{a b:Nat}(h:Cyc E A a b)(c:b=a\/Cyc E A b a)(hC:∀x,Rch (In E A) a x->Rch (In E A) x a->C x):Cyc E C a b:=by
 induction h with
 |one ha hb e=>
  refine .one (hC _ (Rch.refl _) (Rch.refl _)) (hC _ (Rch.one ⟨ha,hb,e⟩) ?_) e
  rcases c with rfl|h
  ·exact Rch.refl _
  ·exact h.rch
 |step h hc e ih=>
  rename_i x y
  have d:Rch (In E A) y a:=by
   rcases c with rfl|k
   ·exact Rch.refl _
   ·exact k.rch
  have f:Cyc E A x a:=by
   rcases c with rfl|k
   ·exact .one h.right hc e
   ·exact(Cyc.one h.right hc e).trans k
  exact(ih (.inr f)).step (hC _ (h.rch.step ⟨h.right,hc,e⟩) d) e
section
variable (E:Nat->Nat->Prop) (pr:Nat->Int) (bad:Nat->Prop)
def FW(A:Nat->Prop):Prop:=∀i,A i->bad i->¬Cyc E (fun x=>A x/\pr i<=pr x) i i
end
section
variable (E:Nat->Nat->Prop) (pr:Nat->Int) (bad:Nat->Prop)
variable {E pr bad}
theorem FW.sub{A B:Nat->Prop}(h:FW E pr bad A)(a:∀x,B x->A x):FW E pr bad B:=fun i hi hb k=>h i (a i hi) hb (k.mono fun x hx=>⟨a x hx.1,hx.2⟩)
theorem FW.comps{A:Nat->Prop}(h:∀C:Nat->Prop,(∀x,C x->A x)->(∀x y,C x->A y->(C y↔Rch (In E A) x y/\Rch (In E A) y x))->(∃x,C x)->FW E pr bad C):FW E pr bad A:=fun i hi hb k=>by
 have hC:=h (fun x=>A x/\Rch (In E A) i x/\Rch (In E A) x i) (fun x hx=>hx.1) (fun x y hx hy=>⟨fun h=>⟨hx.2.2.trans h.2.1,h.2.2.trans hx.2.1⟩,fun h=>⟨hy,hx.2.1.trans h.1,h.2.trans hx.2.2⟩⟩) ⟨i,hi,Rch.refl _,Rch.refl _⟩;refine hC i ⟨hi,Rch.refl _,Rch.refl _⟩ hb ?_
 have k2:Cyc E (fun x=>(A x/\Rch (In E A) i x/\Rch (In E A) x i)/\pr i<=pr x) i i:=by
  refine k.comp (.inl rfl) fun x h1 h2=> ?_
  have hm:∀a b,Rch (In E fun x=>A x/\pr i<=pr x) a b->Rch (In E A) a b:=fun a b hab=>by
   induction hab with
   |refl=>exact Rch.refl _
   |step _ e ih=>exact ih.step ⟨e.1.1,e.2.1.1,e.2.2⟩
  have hx:A x/\pr i<=pr x:=Rch.closed (A:=fun x=>A x/\pr i<=pr x) (fun _ _ _ e=>e.2.1) h1 ⟨hi,Int.le_refl _⟩;exact⟨⟨hx.1,hm _ _ h1,hm _ _ h2⟩,hx.2⟩
 exact k2
theorem FW.rest{C:Nat->Prop}{m:Int}(hm:∀i,C i->bad i->m<=pr i):FW E pr bad C↔FW E pr bad (fun x=>C x/\m<=pr x):=by
 refine⟨fun h=>h.sub fun x hx=>hx.1,fun h i hi hb k=>h i ⟨hi,hm i hi hb⟩ hb (k.mono fun x hx=> ?_)⟩;have:=hm i hi hb;exact⟨⟨hx.1,by omega⟩,hx.2⟩
theorem FW.none{C:Nat->Prop}{i:Nat}(hi:C i)(hb:bad i)(hm:∀x,C x->pr i<=pr x)(hc:∀x y,C x->C y->Rch (In E C) x y):FW E pr bad C↔¬∃x y,C x/\C y/\E x y:=by
 refine⟨fun h=> ?_,fun h j hj hbj k=> ?_⟩
 ·rintro⟨x,y,hx,hy,e⟩;refine h i hi hb ?_
  have e1:Cyc E C i i:=by
   have c1:Cyc E C x y:=.one hx hy e
   have c2:Cyc E C x i:=by
    by_cases hyi:y=i
    ·subst hyi;exact c1
    ·exact c1.trans (N4 (hc y i hy hi) hyi)
   by_cases hix:i=x
   ·subst hix;exact c2
   ·exact(N4 (hc i x hi hx) hix).trans c2
  exact e1.mono fun x hx=>⟨hx,hm x hx⟩
 ·apply h
  cases k with
  |one h1 h2 e=>exact⟨_,_,h1.1,h2.1,e⟩
  |step k h2 e=>exact⟨_,_,k.right.1,h2.1,e⟩
end
theorem Gq{n:Nat}{l:List Nat}(hn:l.Nodup)(h:∀v∈l,v<n):l.length<=n:=by
 have:=List.Nodup.length_le_of_subset hn (l₂:=List.range n) fun v hv=>List.mem_range.2 (h v hv)
 simpa using this
structure Rep(n:Nat)(part:Nat->Prop)(t:Tj)(ord stk:List Nat)(opn:List Bool)(comps:List (List Nat)):Prop where
 num:∀v,t.num v=if v∈ord then ord.idxOf v+1 else 0
 cnt:t.cnt=ord.length
 sk:t.stk=stk
 nd:ord.Nodup
 op:∀v∈ord,part v
 on:opn.length=n
 oi:∀v,v<n->(opn.getD v false=true↔part v/\t.prt v=0)
 cw:∀c∈comps,c≠[]/\c.Nodup/\∃r,r≠0/\∀v,v∈c↔t.prt v=r
 cc:∀v,t.prt v≠0->∃c∈comps,v∈c
section
variable {n:Nat} {part:Nat->Prop} {t:Tj} {ord stk:List Nat} {opn:List Bool} {comps:List (List Nat)} {E:Nat->Nat->Prop} {G:List Nat} {s:Nat}
theorem Rep.in_ord(h:Rep n part t ord stk opn comps){v:Nat}:t.num v≠0↔v∈ord:=by
 rw[h.num v]
 by_cases k:v∈ord
 ·rw[if_pos k];exact⟨fun _=>k,fun _=>by omega⟩
 ·rw[if_neg k];exact⟨fun e=>absurd rfl e,fun e=>absurd e k⟩
theorem Rep.at(h:Rep n part t ord stk opn comps){v:Nat}(k:v∈ord):t.num v=ord.idxOf v+1:=by rw[h.num v,if_pos k]
theorem Rep.len(h:Rep n part t ord stk opn comps)(hp:∀v,part v->v<n):ord.length<=n:=Gq h.nd fun v hv=>hp v (h.op v hv)
theorem Rep.room(h:Rep n part t ord stk opn comps)(hp:∀v,part v->v<n)(hs:s∉ord)(a:part s):ord.length<n:=by
 have:=Gq (n:=n) (l:=s::ord) (List.nodup_cons.2 ⟨hs,h.nd⟩) fun v hv=>by
  rcases List.mem_cons.1 hv with rfl|hv
  ·exact hp _ a
  ·exact hp v (h.op v hv)
 rw[List.length_cons]at this;omega
theorem Qu{l e:List Nat}{y:Nat}(h:y∈l):(l++e).idxOf y=l.idxOf y:=by
 rw[List.idxOf_append,if_pos h]
theorem Qt{l:List Nat}{y:Nat}(h:y∉l):(l++[y]).idxOf y=l.length:=by
 rw[List.idxOf_append,if_neg h];simp
theorem Rep.openV(h:Rep n part t ord stk opn comps)(hs:s∉ord)(c:part s):Rep n part (t.openV s) (ord++[s]) (stk++[s]) opn comps:=by
 refine⟨fun v=> ?_,by show t.cnt+1=_;rw[h.cnt];simp,by show t.stk++[s]=_;rw[h.sk], ?_,fun v hv=> ?_,h.on,h.oi,h.cw,h.cc⟩
 ·by_cases hv:v=s
  ·subst hv;rw[if_pos (by simp),Qt hs,<-h.cnt];exact CF _ _ _
  ·have e:(t.openV s).num v=t.num v:=Er _ _ _ _ hv;rw[e,h.num v]
   by_cases hm:v∈ord
   ·rw[if_pos hm,if_pos (List.mem_append_left _ hm),Qu hm]
   ·rw[if_neg hm,if_neg (by simp[hm,hv])]
 ·rw[List.nodup_append];exact⟨h.nd,by simp,fun a ha b hb=>by rw[List.mem_singleton.1 hb];rintro rfl;exact hs ha⟩
 ·rcases List.mem_append.1 hv with k|k
  ·exact h.op v k
  ·rw[List.mem_singleton.1 k];exact c
theorem Rep.setLow(h:Rep n part t ord stk opn comps)(f:Nat->Nat):Rep n part {t with low:=f} ord stk opn comps:=⟨h.num,h.cnt,h.sk,h.nd,h.op,h.on,h.oi,h.cw,h.cc⟩
theorem Rep.pop{t0:Tj}{a r:List Nat}{d:List Bool}(h:Rep n part t ord (a++s::r) opn comps)(hi:EI E t G)(h0:t0.stk=a)(hl:d.length=n)
  (ho:∀v,v<n->(d.getD v false=true↔opn.getD v false=true/\v∉s::r)):Rep n part (t.pop t0 s) ord a d (comps++[s::r]):=by
 have j:t.stk=a++s::r:=h.sk;have i:=hi.nd;rw[j,List.nodup_append]at i
 have m:s∈t.stk:=by rw[j];simp
 have b:=(hi.st s).1 m
 have f:∀v,(v∈t.stk/\v∉t0.stk)↔v∈s::r:=fun v=>by
  rw[j,h0,List.mem_append];refine⟨fun k=>k.1.resolve_left k.2,fun k=>⟨.inr k,fun k2=>i.2.2 v k2 v k rfl⟩⟩
 have hp:∀v,(t.pop t0 s).prt v=if v∈s::r then t.num s else t.prt v:=fun v=>by
  show(if v∈t.stk/\v∉t0.stk then t.num s else t.prt v)=_
  by_cases k:v∈s::r
  ·rw[if_pos ((f v).2 k),if_pos k]
  ·rw[if_neg (fun e=>k ((f v).1 e)),if_neg k]
 have hz:∀v∈s::r,t.prt v=0:=fun v hv=>((hi.st v).1 ((f v).2 hv).1).2
 have l:∀v,t.prt v≠t.num s:=fun v e=>by
  have hv:t.prt v≠0:=by rw[e];exact b.1
  obtain⟨-,r',k1,k2⟩:=hi.pn v hv;have:r'=s:=hi.inj r' s (by rw[k2];exact hv) (by rw[k2,e]);subst this;rw[k1]at b;exact hv b.2
 refine⟨h.num,h.cnt,h0,h.nd,h.op,hl,fun v hv=> ?_,fun c hc=> ?_,fun v hv=> ?_⟩
 ·rw[ho v hv,h.oi v hv,hp v]
  by_cases k:v∈s::r
  ·rw[if_pos k];exact⟨fun e=>absurd k e.2,fun e=>absurd e.2 b.1⟩
  ·rw[if_neg k];exact⟨fun e=>e.1,fun e=>⟨e,k⟩⟩
 ·rcases List.mem_append.1 hc with hc|hc
  ·obtain⟨k1,k2,q,k3,k4⟩:=h.cw c hc;refine⟨k1,k2,q,k3,fun v=> ?_⟩;rw[k4 v,hp v]
   by_cases k:v∈s::r
   ·rw[if_pos k,hz v k];refine⟨fun e=>absurd e.symm k3,fun e=> ?_⟩
    exfalso
    obtain⟨x,hx⟩:=List.exists_mem_of_ne_nil c k1;have:=(k4 x).1 hx;exact l x (by rw[this,e])
   ·rw[if_neg k]
  ·rw[List.mem_singleton.1 hc];refine⟨by simp,i.2.1,t.num s,b.1,fun v=> ?_⟩;rw[hp v]
   by_cases k:v∈s::r
   ·rw[if_pos k];exact⟨fun _=>rfl,fun _=>k⟩
   ·rw[if_neg k];exact⟨fun e=>absurd e k,fun e=>absurd e (l v)⟩
 ·rw[hp v]at hv
  by_cases k:v∈s::r
  ·exact⟨_,by simp,k⟩
  ·rw[if_neg k]at hv;obtain⟨c,k1,k2⟩:=h.cc v hv;exact⟨c,List.mem_append_left _ k1,k2⟩
def Tj.lowerN(t:Tj)(s u:Nat):Tj:={t with low:=upN t.low s (min (t.low s) (t.num u))}
theorem EI.lowerN{u:Nat}(h:EI E t G)(hs:s∈t.stk)(hu:u∈t.stk)(he:Rch E s u):EI E (t.lowerN s u) G:=
 {h with
  lw:=fun v hv=>by
   by_cases hvs:v=s
   ·subst hvs;have e:(t.lowerN v u).low v=min (t.low v) (t.num u):=CF _ _ _;rw[e];obtain⟨h1,z,hz,h2,h3⟩:=h.lw v hs;refine⟨by show _<=t.num v;omega, ?_⟩
    by_cases hc:t.low v<=t.num u
    ·exact⟨z,hz,by show t.num z=_;omega,h3⟩
    ·exact⟨u,hu,by show t.num u=_;omega,he⟩
   ·have e:(t.lowerN s u).low v=t.low v:=Er _ _ _ _ hvs;rw[e]
    exact h.lw v hv}
theorem CS.lowN{t0:Tj}{u:Nat}{done:Nat->Prop}(h:CS E t0 t s G done)(hu:u∈t.stk)(he:E s u):CS E t0 (t.lowerN s u) s G (fun x=>done x\/x=u):=by
 have e:(t.lowerN s u).low s=min (t.low s) (t.num u):=CF _ _ _;refine⟨h.inv.lowerN h.smem hu (Rch.one he),h.nu,h.pr,h.sk,fun v hv=> ?_,h.z0,h.gr,fun y hy h1 h2 x hx hE=> ?_,fun x hx=> ?_⟩
 ·have:(t.lowerN s u).low v=t.low v:=Er _ _ _ _ fun k=>h.z0 (k▸hv)
  rw[this];exact h.lo v hv
 ·rw[e];have:=h.cr y hy h1 h2 x hx hE;show _<=t.num x;omega
 ·rw[e]
  rcases hx with hx|rfl
  ·obtain⟨k1,k2⟩:=h.dn x hx;exact⟨k1,fun hm=>by have:=k2 hm;show _<=t.num x;omega⟩
  ·refine⟨((h.inv.st x).1 hu).1,fun _=> ?_⟩;show _<=t.num x;omega
structure H9(E:Nat->Nat->Prop)(t t':Tj)(s:Nat)(G:List Nat):Prop where
 po:La E t t' s G
 nw:t'.num s=t.cnt+1
 lo:t'.prt s≠0->t'.low s=t'.num s
 cn:t.cnt<t'.cnt
structure Ds(E:Nat->Nat->Prop)(t0 t:Tj)(s:Nat)(G:List Nat)(done:Nat->Prop):Prop where
 mi:CS E t0 t s G done
 nw:t.num s=t0.cnt+1
 cn:t0.cnt<t.cnt
end
section
variable {n:Nat} {part:Nat->Prop} {t:Tj} {ord stk:List Nat} {opn:List Bool} {comps:List (List Nat)} {E:Nat->Nat->Prop} {G:List Nat} {s:Nat}
variable {t0 t':Tj} {u:Nat} {done:Nat->Prop}
theorem Ds.start(h:EI E t0 G)(hs:t0.num s=0)(hg:∀g∈G,Rch E g s):Ds E t0 (t0.openV s) s G (fun _=>False):=
 ⟨CS.start h hs hg,CF _ _ _,Nat.lt_succ_self _⟩
theorem Ds.more(h:Ds E t0 t s G done){done':Nat->Prop}(hd:∀u,done' u->done u):Ds E t0 t s G done':=⟨h.mi.more fun u hu=>.inl (hd u hu),h.nw,h.cn⟩
theorem Ds.skip(h:Ds E t0 t s G done)(hu:t.prt u≠0):Ds E t0 t s G (fun x=>done x\/x=u):=⟨h.mi.skip hu,h.nw,h.cn⟩
theorem Ds.lowN(h:Ds E t0 t s G done)(hu:u∈t.stk)(he:E s u):Ds E t0 (t.lowerN s u) s G (fun x=>done x\/x=u):=⟨h.mi.lowN hu he,h.nw,h.cn⟩
theorem Ds.low_le(h:Ds E t0 t s G done):t.low s<=t.num s:=(h.mi.inv.lw s h.mi.smem).1
theorem Ds.sn(h:Ds E t0 t s G done):t.num s≠0:=by rw[h.nw];omega
theorem Ds.visit(h:Ds E t0 t s G done)(he:E s u)(hp:H9 E t t' u (G++[s])):∃t2,Ds E t0 t2 s G (fun x=>done x\/x=u)/\(∃f,t2={t' with low:=f})/\t2.low s=min (t.low s) (t'.low u):=by
 have c:t'.low s=t.low s:=hp.po.ext.lo s h.mi.smem
 have b:t'.num s=t0.cnt+1:=by rw[hp.po.ext.nu s h.sn];exact h.nw
 have a:t0.cnt<t'.cnt:=Nat.lt_trans h.cn hp.cn
 by_cases hpu:t'.prt u=0
 ·exact⟨t'.lower s u,⟨h.mi.visitLow he hp.po hpu,b,a⟩,⟨_,rfl⟩,by rw[<-c];exact CF _ _ _⟩
 ·refine⟨t',⟨h.mi.visitIn hp.po hpu,b,a⟩,⟨t'.low,rfl⟩, ?_⟩;rw[c,hp.lo hpu,hp.nw];have:=h.low_le;have:=h.nw;have:=h.cn;omega
theorem Ds.leave(h:Ds E t0 t s G done)(a:∀u,E s u->done u)(hlt:t.low s≠t.num s):H9 E t0 t s G:=by
 have:=h.low_le;have b:=(h.mi.inv.st s).1 h.mi.smem;exact⟨h.mi.leave a (by omega),h.nw,fun k=>absurd b.2 k,h.cn⟩
theorem Ds.close(h:Ds E t0 t s G done)(a:∀u,E s u->done u)(b:t.low s=t.num s):H9 E t0 (t.pop t0 s) s G:=
 ⟨h.mi.close a b,h.nw,fun _=>b,h.cn⟩
end
end Go.Proofs.YtncjeamdkjcebaaGreatDoor
namespace Go.Proofs.YtncjeamdkjcebaaGreatDoor
open Go.RowKit
def Dw(st:Nat->Nat)(m n:Nat):Prop:=m<n/\st m=st n/\∀i j,i<j->j<n->st i≠st j
theorem Dw.unique{st:Nat->Nat}{m n m' n':Nat}(h:Dw st m n)(h':Dw st m' n'):m=m'/\n=n':=by
 obtain⟨h1,h2,h3⟩:=h;obtain⟨b,a,c⟩:=h'
 have hn:n=n':=by
  rcases Nat.lt_trichotomy n n' with h|h|h
  ·exact absurd h2 (c m n h1 h)
  ·exact h
  ·exact absurd a (h3 m' n' b h)
 subst hn
 rcases Nat.lt_trichotomy m m' with h|h|h
 ·exact absurd (h2.trans a.symm) (h3 m m' h b)
 ·exact⟨h,rfl⟩
 ·exact absurd (a.trans h2.symm) (h3 m' m h h1)
theorem KC{st:Nat->Nat}{N n:Nat}(hN:∀i,i<n->st i<N)(hi:∀i j,i<j->j<n->st i≠st j):n<=N:=by
 have h1:((List.range n).map st).Nodup:=by
  rw[List.nodup_iff_pairwise_ne,List.pairwise_map];refine List.Pairwise.imp_of_mem (fun{a b}ha hb hab=> ?_) List.pairwise_lt_range;exact hi a b hab (List.mem_range.1 hb)
 have:=Gq h1 (n:=N) fun x hx=>by
  obtain⟨i,hi,rfl⟩:=List.mem_map.1 hx;exact hN i (List.mem_range.1 hi)
 simpa using this
theorem Q0{st:Nat->Nat}{N:Nat}(hN:∀i,st i<N):∃m n,Dw st m n/\n<=N:=by
 have b:∃n,∃m,m<n/\st m=st n:=by
  refine Classical.byContradiction fun hno=> ?_
  have:=KC (st:=st) (N:=N) (n:=N+1) (fun i _=>hN i) fun i j hij _ he=>hno ⟨j,i,hij,he⟩
  omega
 obtain⟨n,⟨m,hm,he⟩,a⟩:∃n,(∃m,m<n/\st m=st n)/\∀k,k<n->¬∃m,m<k/\st m=st k:=by
  obtain⟨n,hn⟩:=b
  induction n using Nat.strongRecOn with
  |ind n ih=>
   by_cases h:∃k,k<n/\∃m,m<k/\st m=st k
   ·obtain⟨k,hk,hm⟩:=h;exact ih k hk hm
   ·exact⟨n,hn,fun k hk hm=>h ⟨k,hk,hm⟩⟩
 have hi:∀i j,i<j->j<n->st i≠st j:=fun i j hij hj he=>a j hj ⟨i,hij,he⟩
 exact⟨m,n,⟨hm,he,hi⟩,KC (fun i _=>hN i) hi⟩
def A7(lt:Nat->Int)(m n:Nat):Ls:=⟨(List.range m).map lt,(List.range (n-m)).map fun i=>lt (m+i)⟩
theorem Qb{lt:Nat->Int}{m n:Nat}(h:m<n):0<(A7 lt m n).loop.length:=by simp[A7];omega
theorem LH{lt:Nat->Int}{n i:Nat}(h:i<n):((List.range n).map lt).getD i 0=lt i:=by simp[List.getD,h]
end Go.Proofs.YtncjeamdkjcebaaGreatDoor
namespace Go.Proofs.YtncjeamdkjcebaaGreatDoor
structure UE where
 st:Int
 inn:Int
 pr:Int
deriving DecidableEq
def FX(l:List UE)(y:UE):List UE:=if y∈l then l else l++[y]
def BL(l:List UE)(ys:List UE):List UE:=ys.foldl FX l
theorem PP(l:List UE)(y:UE):∃e,FX l y=l++e:=by
 unfold FX;split
 ·exact⟨[],by simp⟩
 ·exact⟨[y],rfl⟩
theorem EL(l ys:List UE):∃e,BL l ys=l++e:=by
 induction ys generalizing l with
 |nil=>exact⟨[],by simp[BL]⟩
 |cons y ys ih=>
  obtain⟨e,he⟩:=PP l y;obtain⟨e',a⟩:=ih (FX l y);exact⟨e++e',by rw[BL,List.foldl_cons,<-BL,a,he,List.append_assoc]⟩
theorem On(l ys:List UE)(y:UE):BL l (ys++[y])=FX (BL l ys) y:=by simp[BL]
theorem PO(l:List UE)(y:UE):y∈FX l y:=by
 unfold FX;split
 ·assumption
 ·simp
theorem Lb(l ys:List UE):∀y∈ys,y∈BL l ys:=by
 induction ys generalizing l with
 |nil=>intro y hy;cases hy
 |cons z ys ih=>
  intro y hy;rw[BL,List.foldl_cons,<-BL]
  rcases List.mem_cons.1 hy with rfl|hy
  ·obtain⟨e,he⟩:=EL (FX l y) ys;rw[he];exact List.mem_append_left _ (PO l y)
  ·exact ih _ y hy
theorem Mz{l:List UE}(h:l.Nodup)(y:UE):(FX l y).Nodup:=by
 unfold FX;split
 ·exact h
 ·rename_i hn;rw[List.nodup_append];exact⟨h,by simp,fun a ha b hb=>by rw[List.mem_singleton.1 hb];rintro rfl;exact hn ha⟩
theorem Mx{l:List UE}(h:l.Nodup)(ys:List UE):(BL l ys).Nodup:=by
 induction ys generalizing l with
 |nil=>exact h
 |cons y ys ih=>rw[BL,List.foldl_cons,<-BL];exact ih (Mz h y)
theorem NL{l e:List UE}{y:UE}(h:y∈l):(l++e).idxOf y=l.idxOf y:=by
 induction l with
 |nil=>cases h
 |cons z l ih=>
  rw[List.cons_append,List.idxOf_cons,List.idxOf_cons]
  by_cases e:z=y
  ·subst e;simp
  ·have hb:(z==y)=false:=by simpa using e
   rw[hb,ih ((List.mem_cons.1 h).resolve_left fun x=>e x.symm)]
theorem NK{l:List UE}{y:UE}(h:y∉l):(l++[y]).idxOf y=l.length:=by
 induction l with
 |nil=>simp
 |cons z l ih=>
  have e:¬z=y:=fun x=>h (by rw[x];exact List.mem_cons_self)
  have hb:(z==y)=false:=by simpa using e
  rw[List.cons_append,List.idxOf_cons,hb,ih (fun x=>h (List.mem_cons_of_mem _ x))];simp
def Dj(l ys:List UE):List Int:=ys.map fun y=>(l.idxOf y:Int)
theorem JW{l e ys:List UE}(h:∀y∈ys,y∈l):Dj (l++e) ys=Dj l ys:=by
 unfold Dj
 exact List.map_congr_left fun y hy=>by rw[NL (h y hy)]
theorem I8(l ys:List UE)(y:UE):Dj l (ys++[y])=Dj l ys++[(l.idxOf y:Int)]:=by simp[Dj]
section
variable (S:UE->List UE)
def Kw(most:Nat):Nat->Nat->List UE->Option (List UE)
 |0,_,_=>none
 |f+1,k,l=>if _h:k<l.length then(if(BL l (S l[k])).length<=most then Kw most f (k+1) (BL l (S l[k]))else none)else some l
structure AtP(most:Nat)(x0:UE)(k:Nat)(l:List UE):Prop where
 eq:Kw S most (most+1) 0 [x0]=Kw S most (most+1-k) k l
 le:l.length<=most
 nd:l.Nodup
 kl:k<=l.length
 cl:∀j,j<k->∀(h2:j<l.length),∀y∈S l[j],y∈l
 hd:l[0]? =some x0
end
section
variable (S:UE->List UE)
variable {S}
theorem AtP.start{a:Nat}(h:1<=a)(x0:UE):AtP S a x0 0 [x0]:=⟨rfl,h,by simp,by simp,fun j h=>absurd h (by omega),rfl⟩
theorem AtP.next{a:Nat}{x0:UE}{k:Nat}{l:List UE}(h:AtP S a x0 k l)(hk:k<l.length)(hm:(BL l (S l[k])).length<=a):AtP S a x0 (k+1) (BL l (S l[k])):=by
 have c:=h.le;obtain⟨e,he⟩:=EL l (S l[k]);refine⟨?_,hm,Mx h.nd _,by rw[he];simp;omega,fun j hj h2 y hy=> ?_,by rw[he,List.getElem?_append_left (by omega)];exact h.hd⟩
 ·rw[h.eq,show a+1-k=(a+1-(k+1))+1 by omega,Kw,dif_pos hk,if_pos hm]
 ·have b:j<l.length:=by omega
  have e1:(BL l (S l[k]))[j]=l[j]:=by simp only[he];rw[List.getElem_append_left b]
  rw[e1]at hy
  rcases(by omega:j<k\/j=k)with h3|rfl
  ·rw[he];exact List.mem_append_left _ (h.cl j h3 b y hy)
  ·exact Lb _ _ y hy
theorem AtP.fail{a:Nat}{x0:UE}{k:Nat}{l:List UE}(h:AtP S a x0 k l)(hk:k<l.length)(hm:a<(BL l (S l[k])).length):Kw S a (a+1) 0 [x0]=none:=by
 have b:=h.le;rw[h.eq,show a+1-k=(a+1-(k+1))+1 by omega,Kw,dif_pos hk,if_neg (by omega)]
theorem AtP.done{a:Nat}{x0:UE}{l:List UE}(h:AtP S a x0 l.length l):Kw S a (a+1) 0 [x0]=some l:=by
 have b:=h.le;rw[h.eq,show a+1-l.length=(a-l.length)+1 by omega,Kw,dif_neg (by omega)]
end
def Ex(x:UE):Int:=if x.inn<0 then 1 else 0
def Ey(top:Int)(x:UE):Int:=if x.inn<0 then x.pr else top
def C0(S:UE->List UE)(top:Int)(l:List UE)(k:Nat):Gm:=⟨(l.take k).map Ex,(l.take k).map (Ey top),(l.take k).map fun x=>Dj l (S x)⟩
end Go.Proofs.YtncjeamdkjcebaaGreatDoor
namespace Go.Proofs.YtncjeamdkjcebaaGreatDoor
open Go.RowKit Go.Maps Go.WideMaps
def plV(y:UE):Value:=.agg #[.int .i64 y.st,.int .i64 y.inn,.int .i64 y.pr]
def WfP(y:UE):Prop:=I64 y.st/\I64 y.inn/\I64 y.pr
noncomputable def klP (y:UE):Lit:=(keyOf Tryz.prog 108 (plV y)).getD (.bool false)
theorem G2:laidOutB Tryz.prog=true:=by kernel_rfl
theorem LV:108<Tryz.prog.types.size:=of_decide_eq_true (by kernel_rfl)
theorem OS:(match Tryz.prog.underlying 108 with|some (.array _ _)|some (.struct _)=>true| _=>false)=true:=by kernel_rfl
theorem Sr:Tryz.prog.keyTypeAt 2 108=true:=by kernel_rfl
theorem DG:Keyed Tryz.prog 108:=Keyed.of_law (deep_law_laid G2 (m:=2) (by omega) LV Sr OS)
theorem QT:Tryz.prog.keyType 108=true:=by kernel_rfl
theorem Jc:Tryz.prog.cellsOf 108=3:=by kernel_rfl
theorem LA:Tryz.prog.cellsOf 3=1:=by kernel_rfl
theorem EA{a:Int}(h:I64 a):(Lit.int .i64 a).wf=true:=WalkArith.wf_i64 h
theorem Jb(y:UE)(h:WfP y):keyOf Tryz.prog 108 (plV y)=some (klP y):=by
 have hs:(keyOf Tryz.prog 108 (plV y)).isSome=true:=by
  obtain⟨a,b,c⟩:=y;obtain⟨ha,hb,hc⟩:=h;have wa:=EA ha;have wb:=EA hb;have wc:=EA hc
  have hf:(plV ⟨a,b,c⟩).formed Tryz.prog 108=true:=by simp[plV,Value.formed,Tryz.underlying108,Jc]
  obtain⟨m,hm⟩:∃m,Tryz.prog.types.size=m+1:=⟨Tryz.prog.types.size-1,by have:=LV;omega⟩;unfold keyOf;rw[QT,hf,hm];simp only[Tryz.underlying108,Bool.and_self,if_true,Option.isSome_map];simp[Program.keyLits,Tryz.underlying108,Tryz.underlying3,Jc,LA,plV,Value.cells,wa,wb,wc]
 obtain⟨k,hk⟩:=Option.isSome_iff_exists.1 hs;unfold klP;rw[hk];rfl
theorem Sq{y z:UE}(h:plV y=plV z):y=z:=by
 obtain⟨a,b,c⟩:=y;obtain⟨a',b',c'⟩:=z;simp only[plV,Value.agg.injEq,Array.mk.injEq,List.cons.injEq,Value.int.injEq,true_and,and_true]at h;obtain⟨rfl,rfl,rfl⟩:=h;rfl
theorem NP{y z:UE}(hy:WfP y)(hz:WfP z)(h:klP y=klP z):y=z:=by
 have h1:=Jb y hy;have h2:=Jb z hz;rw[<-h]at h2;generalize klP y=k at*;exact Sq (Keyed.inj DG h1 h2)
theorem NQ{y:UE}(hy:WfP y):∃k,klP y=k/\Go.WideAt.IsKeyLit k:=by
 have h1:=Jb y hy;generalize klP y=k at*;exact⟨k,rfl,Keyed.key DG h1⟩
def CB(w:World)(b:Nat)(l:List UE):Prop:=∃D:DataW Unit,w.ownsMap Tryz.prog 108 (plainElem Tryz.prog 3) b l.length D/\IsMap D/\
 (∀y,WfP y->Maps.has D (klP y)=decide (y∈l))/\∀y,WfP y->y∈l->D.atKey (klP y) (.lit (.int .i64 0))=.lit (.int .i64 (l.idxOf y))
theorem CB.kept{w w':World}{b:Nat}{l:List UE}{row:Option Nat}(h:CB w b l)(hg:w.grownBy w' row)(a:some b≠row):CB w' b l:=by
 obtain⟨D,h1,h2⟩:=h;exact⟨D,h1.kept hg a,h2⟩
theorem CB.lt{w:World}{b:Nat}{l:List UE}(h:CB w b l):b<w.heap.size:=by
 obtain⟨D,h1,-⟩:=h;exact h1.lt
theorem CB.below{w w':World}{b:Nat}{l:List UE}(h:CB w b l)(hb:Below w.heap.size w w'):CB w' b l:=h.kept (AW hb) (by simp)
theorem CB.put{w':World}{b:Nat}{l:List UE}{y:UE}{D:DataW Unit}(hm:IsMap D)(hy:WfP y)(hn:y∉l)
  (h1:∀z,WfP z->Maps.has D (klP z)=decide (z∈l)) (h2:∀z,WfP z->z∈l->D.atKey (klP z) (.lit (.int .i64 0))=.lit (.int .i64 (l.idxOf z)))
  (h:w'.ownsMap Tryz.prog 108 (plainElem Tryz.prog 3) b (l.length+1) (D.put (klP y) (.lit (.int .i64 l.length)))):CB w' b (l++[y]):=by
 refine⟨_,by rw[List.length_append,List.length_singleton];exact h,hm.put _ _,fun z hz=> ?_,fun z hz hzl=> ?_⟩
 ·by_cases e:z=y
  ·subst e;obtain⟨k,e,hk⟩:=NQ hz;rw[e];rw[has_put_same hm hk];simp
  ·rw[has_put_other (fun k=>e (NP hz hy k)),h1 z hz];simp[e]
 ·by_cases e:z=y
  ·subst e;obtain⟨k,e,hk⟩:=NQ hz;rw[NK hn,e];rw[atKey_put_same hm hk]
  ·have a:z∈l:=by
    rcases List.mem_append.1 hzl with h|h
    ·exact h
    ·exact absurd (List.mem_singleton.1 h) e
   rw[atKey_put_other (fun k=>e (NP hz hy k)),h2 z hz a,NL a]
end Go.Proofs.YtncjeamdkjcebaaGreatDoor
namespace Go.Proofs.YtncjeamdkjcebaaGreatDoor
open Go.RowKit
def R1b(vl v2:Value)(ao3:Option Addr)(L St:Int)(n n3 cap3 B:Nat)(ix:Nat)(v:Value)(W:World):Prop:=
 match ix with
 |0=>v=(.agg #[.int .i64 L,.int .i64 St,v2,.slice ao3 n3 cap3])
 |1=>v=vl
 |2=>v=.int .i64 (n:Int)
 |3=>∃ob,v=.slice (some ⟨ob,0,none⟩) n n/\B<=ob/\W.heap[ob]? =some (.cells (madeCells #[.slice none 0 0] n) 26 (0,0))
 |4=>∃ob,v=.agg #[.int .i64 L,.int .i64 St,v2,.slice ao3 n3 cap3,.int .i64 0,.slice (some ⟨ob,0,none⟩) n n]/\B<=ob/\W.heap[ob]? =some (.cells (madeCells #[.slice none 0 0] n) 26 (0,0))
 |5=>∃z,v=.pointer (some ⟨z,0,none⟩)/\B<=z/\W.heap[z]? =some (.cells #[.int .i64 0,.int .i64 0,.slice none 0 0,.slice none 0 0,.int .i64 0,.slice none 0 0] 105 (0,0))
 | _=>True
theorem R1b.mono(vl v2:Value)(b:Option Addr)(L St:Int)(n n3 a B:Nat)(ix:Nat)(v:Value)(W W':World)(h:R1b vl v2 b L St n n3 a B ix v W)(hb:Below W.heap.size W W'):R1b vl v2 b L St n n3 a B ix v W':=by
 unfold R1b at*
 split at h<;>first|exact h|(obtain⟨o,h1,h2,h3⟩:=h;exact⟨o,h1,h2,(hb.block o (ltE h3)).trans h3⟩)
def R14(vl:Value)(z ob n u m B B2:Nat)(ix:Nat)(v:Value)(W:World):Prop:=
 match ix with
 |0=>v=.pointer (some ⟨z,5,none⟩)
 |1=>v=.slice (some ⟨ob,0,none⟩) n n
 |2=>v=.int .i64 (u:Int)
 |3=>v=vl
 |4=>v=.int .i64 (m:Int)
 |5=>∃g,v=.slice (some ⟨g,0,none⟩) m m/\B2<=g/\OI W B v (List.replicate m 0)
 |6=>v=.pointer (some ⟨ob,u,none⟩)
 | _=>True
theorem R14.mono(vl:Value)(z ob n u m B B2:Nat)(ix:Nat)(v:Value)(W W':World)(h:R14 vl z ob n u m B B2 ix v W)(hb:Below W.heap.size W W'):R14 vl z ob n u m B B2 ix v W':=by
 unfold R14 at*
 split at h<;>first|exact h|(obtain⟨o,h1,h2,h3⟩:=h;exact⟨o,h1,h2,h3.below hb⟩)
def R18(vl:Value)(z ob n u m g o:Nat)(x:Int)(ix:Nat)(v:Value)(_:World):Prop:=
 match ix with
 |0=>v=.pointer (some ⟨z,5,none⟩)
 |1=>v=.slice (some ⟨ob,0,none⟩) n n
 |2|7=>v=.int .i64 (u:Int)
 |3=>v=.pointer (some ⟨ob,u,none⟩)
 |4=>v=.slice (some ⟨g,0,none⟩) m m
 |5|8=>v=.int .i64 (o:Int)
 |6=>v=vl
 |9=>v=.int .i64 x
 |10=>v=.pointer (some ⟨g,o,none⟩)
 | _=>True
theorem R18.mono(vl:Value)(z ob n u m g o:Nat)(x:Int)(ix:Nat)(v:Value)(W W':World)(h:R18 vl z ob n u m g o x ix v W)(_:Below W.heap.size W W'):R18 vl z ob n u m g o x ix v W':=by
 unfold R18 at*;exact h
theorem Oa{w:World}{z:Nat}{t:TypeId}{c0 c1 c2 c3 c4 c5 d0 d1 d2 d3 d4 d5:Value}(h:w.heap[z]? =some (.cells #[c0,c1,c2,c3,c4,c5] t (0,0))):
  ((((((w.setCell ⟨z,0,none⟩ d0).setCell ⟨z,1,none⟩ d1).setCell ⟨z,2,none⟩ d2).setCell ⟨z,3,none⟩ d3).setCell ⟨z,4,none⟩ d4).setCell ⟨z,5,none⟩ d5).heap[z]? =some (.cells #[d0,d1,d2,d3,d4,d5] t (0,0)):=
 heap_setCell_same _ z 5 _ _ d5 (heap_setCell_same _ z 4 _ _ d4 (heap_setCell_same _ z 3 _ _ d3 (heap_setCell_same _ z 2 _ _ d2 (heap_setCell_same _ z 1 _ _ d1 (heap_setCell_same _ z 0 _ _ d0 h)))))
theorem L9(w:World)(z:Nat)(d0 d1 d2 d3 d4 d5:Value):
  Af (fun k=>k=z) w ((((((w.setCell ⟨z,0,none⟩ d0).setCell ⟨z,1,none⟩ d1).setCell ⟨z,2,none⟩ d2).setCell ⟨z,3,none⟩ d3).setCell ⟨z,4,none⟩ d4).setCell ⟨z,5,none⟩ d5):=
 (((((Af.set (S:=fun k=>k=z) z 0 d0 rfl).trans (Af.set z 1 d1 rfl)).trans (Af.set z 2 d2 rfl)).trans (Af.set z 3 d3 rfl)).trans (Af.set z 4 d4 rfl)).trans (Af.set z 5 d5 rfl)
def GF(va:Value)(a:Au)(l:List Sig)(w:World)(e:Ending)(w':World):Prop:=∃v2 v3 vt,va=.agg #[.int .i64 a.letters,.int .i64 a.start,v2,v3]/\e=.returned (.agg #[.int .i64 a.letters,.int .i64 a.start,v2,v3,.int .i64 (AU a),vt])/\Ar w' vt (Ap l)/\Below w.heap.size w w'
theorem MW(w:World)(vl va:Value)(l:List Sig)(a:Au)(hK:B7 w)(hl:AD w vl l)(ha:Cw w va a)(hv:As l=true):
  Calls Tryz.prog 74 #[vl,va] w (GF va a l w):=by
 obtain⟨⟨b8,b9⟩,⟨cc,cd⟩⟩:=Dv hv
 have am:Hid (∀W,Below w.heap.size w W->Calls Tryz.prog 78 #[vl] W (Av (.int .i64 (Al l)) W)):=fun W h=>Eb W vl l (hK.below h) (hl.below h)
 have av:Hid (∀W,Below w.heap.size w W->Calls Tryz.prog 79 #[vl] W (Av (.int .i64 (Ai l)) W)):=fun W h=>Dg W vl l (hK.below h) (hl.below h)
 have a8:Hid (∀W(i o:Nat),i<=64->o<=64->Below w.heap.size w W->Calls Tryz.prog 93 #[vl,.int .i64 (i:Int),.int .i64 (o:Int)] W (Av (.int .i64 (AI l i o)) W)):=fun W i o h1 h2 h=>Mq W vl l i o (by unfold I64;omega) (by unfold I64;omega) (hK.below h) (hl.below h)
 obtain⟨n,hn⟩:∃n:Nat,Al l=(n:Int):=⟨(Al l).toNat,by omega⟩;obtain⟨m,hm⟩:∃m:Nat,Ai l=(m:Int):=⟨(Ai l).toNat,by omega⟩;rw[hn]at b8 b9 am;rw[hm]at cc cd av
 have af:Hid ((Al l).toNat=n):=by show _=_;rw[hn];rfl
 have aq:Hid ((Ai l).toNat=m):=by show _=_;rw[hm];rfl
 obtain⟨ao,b7,b,cs,rfl,-⟩:=hl;obtain⟨ct,cv,rfl,-,⟨V2,⟨r,c,b2,cj,rfl,-⟩,-⟩,⟨V3,⟨s,d,b3,al,rfl,g3⟩,a3⟩⟩:=ha;obtain⟨n2,bi⟩:∃n2,n2=a.next.length:=⟨_,rfl⟩;obtain⟨L,hL⟩:∃L,L=a.letters:=⟨_,rfl⟩;obtain⟨St,ay⟩:∃St,St=a.start:=⟨_,rfl⟩;obtain⟨n3,aj⟩:∃n3,n3=a.prio.length:=⟨_,rfl⟩;obtain⟨vl,a5⟩:∃vl,vl=Value.slice ao l.length b7:=⟨_,rfl⟩;rw[<-aj]at g3 a3;rw[<-bi,<-hL,<-ay,<-aj,<-a5];rw[<-a5]at am av a8;have a7:=Ab g3;have bw:=Ab a3;have ar:=Ab aj;have ch:=g3.nb;have b5:Hid (As l=true):=hv;have ae:Hid (L=a.letters/\St=a.start):=⟨hL,ay⟩;clear g3 a3 hv hn hm hK bi hL ay aj a5
 have a1:Tryz.prog.follows .mixedOrders=true:=by kernel_rfl
 have cr:=fun wx=>run_make_row' (P:=Tryz.prog) 26 3 (.int .i64 0) 8 Tryz.underlying26 Dt rfl .i64 .i64 m (by omega) (by omega) wx
 have cf:=fun wx=>run_make_row' (P:=Tryz.prog) 23 26 (.slice none 0 0) 24 Tryz.underlying23 D9 rfl .i64 .i64 n (by omega) (by omega) wx
 go_enter Tryz.func74,Tryz.ntmps74
 go_upto_region 1 with(fail)
 have az:Below w.heap.size w ((w.alloc (.cells #[.int .i64 L,.int .i64 St,(Value.slice r n2 c),.slice s n3 d] 63)).alloc (.cells #[.int .i64 0,.int .i64 0,.slice none 0 0,.slice none 0 0,.int .i64 0,.slice none 0 0] 105)):=(by repeat(first|exact Ad|assumption|apply AE|apply AB));have bk:((w.alloc (.cells #[.int .i64 L,.int .i64 St,(Value.slice r n2 c),.slice s n3 d] 63)).alloc (.cells #[.int .i64 0,.int .i64 0,.slice none 0 0,.slice none 0 0,.int .i64 0,.slice none 0 0] 105)).heap[w.heap.size]? =some (.cells #[.int .i64 L,.int .i64 St,(Value.slice r n2 c),.slice s n3 d] 63 (0,0)):=(by(repeat(rw[Am];first|rw[if_pos (by first|simp;done|simp;omega)]|rw[if_neg (by first|simp;done|simp;omega)]));(try rfl));have a4:((w.alloc (.cells #[.int .i64 L,.int .i64 St,(Value.slice r n2 c),.slice s n3 d] 63)).alloc (.cells #[.int .i64 0,.int .i64 0,.slice none 0 0,.slice none 0 0,.int .i64 0,.slice none 0 0] 105)).heap[w.heap.size+1]? =some (.cells #[.int .i64 0,.int .i64 0,.slice none 0 0,.slice none 0 0,.int .i64 0,.slice none 0 0] 105 (0,0)):=(by(repeat(rw[Am];first|rw[if_pos (by first|simp;done|simp;omega)]|rw[if_neg (by first|simp;done|simp;omega)]));(try rfl));generalize((w.alloc (.cells #[.int .i64 L,.int .i64 St,(Value.slice r n2 c),.slice s n3 d] 63)).alloc (.cells #[.int .i64 0,.int .i64 0,.slice none 0 0,.slice none 0 0,.int .i64 0,.slice none 0 0] 105))=w1 at*;have cp:=(ltE a4)
 have bc:Hid (w.heap.size+2<=w1.drew.heap.size):=by show _<=w1.heap.size;omega
 have a6:Hid (∀W,Below w1.drew.heap.size w1.drew W->Below w.heap.size w W):=fun W h=>az.trans (((Below.drew Ad).trans h).mono az.size)
 have bb:Hid (∀W,Below w1.drew.heap.size w1.drew W->W.heap[w.heap.size]? =some (.cells #[.int .i64 L,.int .i64 St,(Value.slice r n2 c),.slice s n3 d] 63 (0,0))/\W.heap[w.heap.size+1]? =some (.cells #[.int .i64 0,.int .i64 0,.slice none 0 0,.slice none 0 0,.int .i64 0,.slice none 0 0] 105 (0,0))):=fun W h=>⟨(((Below.drew (B:=w1.heap.size) Ad).trans h).block _ (by omega)).trans bk,(((Below.drew (B:=w1.heap.size) Ad).trans h).block _ (by omega)).trans a4⟩
 have bv:Hid (∀W,Below w1.drew.heap.size w1.drew W->W.cell? ⟨w.heap.size,0,none⟩=some (.int .i64 L)/\W.cell? ⟨w.heap.size,1,none⟩=some (.int .i64 St)/\W.cell? ⟨w.heap.size,2,none⟩=some (Value.slice r n2 c)/\W.cell? ⟨w.heap.size,3,none⟩=some (.slice s n3 d)):=fun W h=>by
  have k:=(bb.out W h).1;exact⟨Aa 0 k,Aa 1 k,Aa 2 k,Aa 3 k⟩
 clear az bk a4
 go_cut [5] (fun s5 wx=>∃(z ob:Nat)(wz:World),s5=.pointer (some ⟨z,0,none⟩)/\wz=wx/\NB w wz z ob n L St (Value.slice r n2 c) (.slice s n3 d) 0 (List.replicate n (.slice none 0 0)) (List.replicate n []))
 case first J' K' hJR hMK=>
  have ap:=Ab hMK;have an:=Ab hJR;clear hMK hJR;refine B9 a1 (R1b vl (Value.slice r n2 c) s L St n n3 d (w.heap.size+2)) (fun vs=>{tmps:=(_::_::_::_::_::vs 5::_::_::_::_::_::_::vs 0::vs 1::vs 2::vs 3::vs 4::_::_::_::_::_::_::_::_::_::_::_::_::_::_::_::_::_::_::_::_::_::_::_::_::_::_::_::_::_::_::_::_::_::_::_::_::_::_::_::_::_::_::_::_::_::_::_::_::_::_::_::_::_::_::_::_::[]).toArray,defers:=[]}) (fun _=>undef) 6 rfl (by kernel_rfl) (by kernel_rfl) (R1b.mono vl (Value.slice r n2 c) s L St n n3 d (w.heap.size+2)) ?step ?last
  case step=>
   intro ix o hlt ho
   match ix,hlt,ho with
   |0,hlt,ho=>
    obtain rfl:=osI ho;intro vs W K hB hD hK;have HK:=Ab hK;obtain⟨d0,d1,d2,d3⟩:=bv.out W hB;clear hK hD ho hlt;dsimp only;go_simp;have h:=HK.out _ _ Ad rfl;simp only[upd,Nat.reduceEqDiff,reduceIte]at h;exact h
   |1,hlt,ho=>
    obtain rfl:=osI ho;intro vs W K hB hD hK;have HK:=Ab hK;clear hK hD ho hlt;dsimp only;go_simp;have h:=HK.out _ _ Ad rfl;simp only[upd,Nat.reduceEqDiff,reduceIte]at h;exact h
   |2,hlt,ho=>
    obtain rfl:=osI ho;intro vs W K hB hD hK;have HK:=Ab hK;have e1:vs 1=vl:=Ac hD 1 rfl;clear hK hD ho hlt;dsimp only;go_simp;refine(am.out W (a6.out W hB)).mono ?_;rintro e W' ⟨rfl,hb⟩;have h:=HK.out _ _ hb rfl;simp only[upd,Nat.reduceEqDiff,reduceIte,e1]at h;exact h
   |3,hlt,ho|5,hlt,ho=>
    obtain rfl:=osI ho;intro vs W K hB hD hK;have HK:=Ab hK
    try have e2:vs 2=.int .i64 (n:Int):=Ac hD 2 rfl
    clear hK hD ho hlt;dsimp only;go_simp;have h:=HK.out _ _ (Ao _) ⟨_,rfl,Nat.le_trans bc.out hB.size,heap_alloc_new _ _⟩;simp only[upd,Nat.reduceEqDiff,reduceIte, *]at h;exact h
   |4,hlt,ho=>
    obtain rfl:=osI ho;intro vs W K hB hD hK;have HK:=Ab hK;have e0:vs 0=(.agg #[.int .i64 L,.int .i64 St,(Value.slice r n2 c),.slice s n3 d]):=Ac hD 0 rfl;obtain⟨ob,e3,ak,aa⟩:∃ob,vs 3=.slice (some ⟨ob,0,none⟩) n n/\w.heap.size+2<=ob/\W.heap[ob]? =some (.cells (madeCells #[.slice none 0 0] n) 26 (0,0)):=Ac hD 3 (by rfl);clear hK hD ho hlt;dsimp only;go_simp;have h:=HK.out _ _ Ad ⟨ob,rfl,ak,aa⟩;simp only[upd,Nat.reduceEqDiff,reduceIte,e0,e3]at h;exact h
   |q+6,hlt,ho=>omega
  case last=>
   intro o ho;obtain rfl:=osI ho;intro vs W K hB v hK;have HK:=Ab hK;obtain⟨ob,e4,ak,aa⟩:∃ob,vs 4=.agg #[.int .i64 L,.int .i64 St,(Value.slice r n2 c),.slice s n3 d,.int .i64 0,.slice (some ⟨ob,0,none⟩) n n]/\w.heap.size+2<=ob/\W.heap[ob]? =some (.cells (madeCells #[.slice none 0 0] n) 26 (0,0)):=v 4 (by omega);obtain⟨z,e5,hz,y⟩:∃z,vs 5=.pointer (some ⟨z,0,none⟩)/\w.heap.size+2<=z/\W.heap[z]? =some (.cells #[.int .i64 0,.int .i64 0,.slice none 0 0,.slice none 0 0,.int .i64 0,.slice none 0 0] 105 (0,0)):=v 5 (by omega)
   have bj:ob≠z:=fun e=>by
    rw[e,y]at aa;simp at aa
   have c0:=Aa 0 y;have c1:=Aa 1 y;have c2:=Aa 2 y;have c3:=Aa 3 y;have c4:=Aa 4 y;have c5:=Aa 5 y;have f0:=At 0 y;have f1:=At 1 y;have f2:=At 2 y;have f3:=At 3 y;have f4:=At 4 y;have f5:=At 5 y;have b6:=Ab (Oa (d0:=.int .i64 L) (d1:=.int .i64 St) (d2:=(Value.slice r n2 c)) (d3:=.slice s n3 d) (d4:=.int .i64 0) (d5:=.slice (some ⟨ob,0,none⟩) n n) y);have au:=Ab (L9 W z (.int .i64 L) (.int .i64 St) (Value.slice r n2 c) (.slice s n3 d) (.int .i64 0) (.slice (some ⟨ob,0,none⟩) n n));have bu:=Ab aa;have bo:=Ab (a6.out W hB);have ba:=Ab (bb.out W hB);have co:w.heap.size+2<=W.heap.size:=Nat.le_trans bc.out hB.size;clear hK v ho aa y;dsimp only;go_simp;refine HK.out _ _ ?_;show K' _ _;refine ap.out _ _ (Met.intro (an.out _ _ ?_))
   (repeat apply Exists.intro)
   refine⟨?rel,rfl⟩
   case rel=>
    refine⟨z,ob,_,rfl,rfl, ?_⟩
    exact {
     bx:=(((((bo.out.setCell (p:=⟨z,0,none⟩) (by show w.heap.size<=z;omega) _).setCell (p:=⟨z,1,none⟩) (by show w.heap.size<=z;omega) _).setCell (p:=⟨z,2,none⟩) (by show w.heap.size<=z;omega) _).setCell (p:=⟨z,3,none⟩) (by show w.heap.size<=z;omega) _).setCell (p:=⟨z,4,none⟩) (by show w.heap.size<=z;omega) _).setCell (p:=⟨z,5,none⟩) (by show w.heap.size<=z;omega) _
     pb:=(au.out.block _ (by omega) (by omega)).trans ba.out.1
     rc:=(au.out.block _ (by omega) (by omega)).trans ba.out.2
     bd:=b6.out
     R:=(Rows.made bu.out ak (by omega)).only au.out bj fun j hj b hb=>by simp[List.getD,hj,Value.ownBlock]at hb
     zB:=hz
     ne:=bj
     x:=fun j hj b hb=>by simp[List.getD,hj,Value.ownBlock]at hb}
 case rest=>
  obtain⟨z,ob,w2,rfl,rfl,hN⟩:=hcut;have d3:=Aa 3 hN.pb;go_wp2;clear d3 cf
  go_loopg [20] n3 (fun gh i wr=>∃k:Nat,gh=n3-k/\i=.int .i64 k/\k<=n3/\NB w wr z ob n L St (Value.slice r n2 c) (.slice s n3 d) (Hz a k) (List.replicate n (.slice none 0 0)) (List.replicate n []))
  case atStart=>exact⟨0,rfl,rfl,by omega,hN⟩
  case round=>
   obtain⟨k,bf,rfl,hk,hN⟩:=hrel;have HG:=Ab bf;clear bf
   by_cases hlt:k<n3
   ·obtain⟨⟨cm,cg,b4,ck,bm,g4⟩,bl⟩:=bw.out k (by first|exact hlt|(rw[<-ar.out];exact hlt));have cb:=a7.out.ad;obtain rfl:=cb (by omega);have c3:=Ag hN.bx (a7.out.el k hlt);rw[bm]at c3;have HT:Hid (Hz a (k+1)=Gn (Hz a k) (a.prio.getD k [])):=Ph a k (by rw[<-ar.out];exact hlt);have cl:=Ab bl;have HN:=Ab hN;generalize hrow:a.prio.getD k []=row at*;clear hrow bm bl;go_wp2;clear c3
    go_loopg [26] row.length (fun gh i wr=>∃j:Nat,gh=row.length-j/\i=.int .i64 j/\j<=row.length/\NB w wr z ob n L St (Value.slice r n2 c) (.slice (some ⟨b3,al,none⟩) n3 d) (Gn (Hz a k) (row.take j)) (List.replicate n (.slice none 0 0)) (List.replicate n []))
    case atStart=>exact⟨0,rfl,rfl,by omega,HN.out⟩
    case round=>
     obtain⟨j,be,rfl,hj,f⟩:=hrel;have bp:=Ab be;clear be hN
     by_cases hltj:j<row.length
     ·have ci:=g4.nb;obtain rfl:=g4.ad (by omega);have c4:=Ag f.bx (g4.el j hltj);unfold ivF at c4;have e4:=Aa 4 f.bd;have f4:=At 4 f.bd;have HM:Hid (Gn (Hz a k) (row.take (j+1))=max (Gn (Hz a k) (row.take j)) (row.getD j 0)):=OG _ _ _ hltj
      have a9:Hid (∀t,NB w (wr.setCell ⟨z,4,none⟩ (.int .i64 t)) z ob n L St (Value.slice r n2 c) (.slice (some ⟨b3,al,none⟩) n3 d) t (List.replicate n (.slice none 0 0)) (List.replicate n [])):=fun t=>f.top t
      generalize Gn (Hz a k) (row.take j)=tp at*;generalize row.getD j 0=xe at*;clear f;go_wp2
      all_goals
       go_roundg (row.length-(j+1))
       case measure=>have:=bp.out;omega
       case rel=>
        refine⟨j+1,rfl,by go_num,by omega, ?_⟩;rw[HM.out]
        first
         |(rw[show max tp xe=xe from by omega];exact a9.out _)
         |(rw[show max tp xe=tp from by omega];exact a9.out _)
     ·obtain rfl:j=row.length:=by omega
      rw[List.take_length,<-HT.out]at f;go_wp2
      go_roundg (n3-(k+1))
      case measure=>have:=HG.out;omega
      case rel=>exact⟨k+1,rfl,by go_num,by omega,f⟩
   ·obtain rfl:k=n3:=by omega
    have b0:Hid (Hz a k=AU a):=by
     show _=_;rw[ar.out,Re]
    rw[b0.out]at hN;have e5:=Aa 5 hN.bd;go_wp2;clear e5
    go_loopg [40] n (fun gh i wr=>∃(u:Nat)(vals:List Value),gh=n-u/\i=.int .i64 u/\u<=n/\NB w wr z ob n L St (Value.slice r n2 c) (.slice s k d) (AU a) vals (BP l u))
    case atStart=>exact⟨0,_,rfl,rfl,by omega,by rw[IX,af.out];exact hN⟩
    case round=>
     obtain⟨u,vals,bh,rfl,hu,f⟩:=hrel;have br:=Ab bh;clear bh hN
     by_cases hltu:u<n
     ·have ca:=f.lt;have bs:Hid (w.heap.size+2<=wr.drew.heap.size):=ca.1
      have ab:Hid (∀W,Below wr.drew.heap.size wr.drew W->NB w W z ob n L St (Value.slice r n2 c) (.slice s k d) (AU a) vals (BP l u)):=fun W h=>f.below ((Below.drew (B:=wr.heap.size) Ad).trans h)
      have cq:=f.zB
      have b1:Hid ((BP l u).length=n):=by show _=_;rw[JO,af.out]
      clear f
      go_upto_region 14 with(fail)
      go_cut [10] (fun s10 wx=>s10=.int .i64 (u:Int)/\∃(g:Nat)(vals:List Value),vals.getD u undef=.slice (some ⟨g,0,none⟩) m m/\NB w wx z ob n L St (Value.slice r n2 c) (.slice s k d) (AU a) vals ((BP l u).set u (CO l u 0)))
      case first J' K' hJR hMK=>
       have ap:=Ab hMK;have an:=Ab hJR;clear hMK hJR;refine B9 a1 (R14 vl z ob n u m (w.heap.size+2) wr.heap.size) (fun vs=>{tmps:=(_::_::_::_::_::_::_::_::_::_::_::_::_::_::_::_::_::_::_::_::_::_::_::_::_::_::_::_::_::_::_::_::_::_::_::_::_::_::_::_::_::_::_::vs 0::vs 1::vs 2::vs 3::vs 4::vs 5::vs 6::_::_::_::_::_::_::_::_::_::_::_::_::_::_::_::_::_::_::_::_::_::_::_::[]).toArray,defers:=[]}) (fun n=>[u43,u44,u45,u46,u47,u48,u49].getD n undef) 7 rfl (by kernel_rfl) (by kernel_rfl) (R14.mono vl z ob n u m (w.heap.size+2) wr.heap.size) ?step14 ?last14
       case step14=>
        intro ix o hlt ho
        match ix,hlt,ho with
        |0,hlt,ho|2,hlt,ho|3,hlt,ho|6,hlt,ho=>
         obtain rfl:=osI ho;intro vs W K hB hD hK;have HK:=Ab hK
         try have e1:vs 1=(.slice (some ⟨ob,0,none⟩) n n):=Ac hD 1 rfl
         try have e2:vs 2=.int .i64 (u:Int):=Ac hD 2 rfl
         clear hK hD ho hlt;dsimp only;go_simp;have h:=HK.out _ _ Ad rfl;simp only[upd,Nat.reduceEqDiff,reduceIte, *]at h;exact h
        |1,hlt,ho=>
         obtain rfl:=osI ho;intro vs W K hB hD hK;have HK:=Ab hK;have e0:vs 0=.pointer (some ⟨z,5,none⟩):=Ac hD 0 rfl;have c5:W.cell? ⟨z,5,none⟩=some (.slice (some ⟨ob,0,none⟩) n n):=Aa 5 (ab.out W hB).bd;clear hK hD ho hlt;dsimp only;go_simp;have h:=HK.out _ _ Ad rfl;simp only[upd,Nat.reduceEqDiff,reduceIte,e0]at h;exact h
        |4,hlt,ho=>
         obtain rfl:=osI ho;intro vs W K hB hD hK;have HK:=Ab hK;have e3:vs 3=vl:=Ac hD 3 rfl;clear hK hD ho hlt;dsimp only;go_simp;refine(av.out W (ab.out W hB).bx).mono ?_;rintro e W' ⟨rfl,hb⟩;have h:=HK.out _ _ hb rfl;simp only[upd,Nat.reduceEqDiff,reduceIte,e3]at h;exact h
        |5,hlt,ho=>
         obtain rfl:=osI ho;intro vs W K hB hD hK;have HK:=Ab hK;have e4:vs 4=.int .i64 (m:Int):=Ac hD 4 rfl;clear hK hD ho hlt;dsimp only;go_simp;have h:=HK.out _ _ (Ao _) ⟨_,rfl,hB.size,Ko (heap_alloc_new _ _) (Nat.le_trans bs.out hB.size) (by omega)⟩;simp only[upd,Nat.reduceEqDiff,reduceIte,e4]at h;exact h
        |q+7,hlt,ho=>omega
       case last14=>
        intro o ho;obtain rfl:=osI ho;intro vs W K hB v hK;have HK:=Ab hK;obtain⟨g,e5,hg,a2⟩:∃g,vs 5=.slice (some ⟨g,0,none⟩) m m/\wr.heap.size<=g/\OI W (w.heap.size+2) (vs 5) (List.replicate m 0):=v 5 (by omega);have e6:vs 6=.pointer (some ⟨ob,u,none⟩):=v 6 (by omega);rw[e5]at a2;obtain⟨p1,p2,p3⟩:=(ab.out wr.drew Ad).row (l:=List.replicate m 0) hltu hB a2 (fun b e=>by cases e;exact hg);have aw:=Ab p3;clear hK v ho a2;dsimp only;go_simp;refine HK.out _ _ ?_;show K' _ _;refine ap.out _ _ (Met.intro (an.out _ _ ?_))
        (repeat apply Exists.intro)
        refine⟨?rel,rfl⟩
        case rel=>
         refine⟨rfl,g,_,AA _ _ _ _ (by rw[(ab.out wr.drew Ad).R.lv];exact hltu), ?_⟩;rw[IY,aq.out];exact aw.out
      case rest=>
       obtain⟨rfl,g,vals,hv,ah⟩:=hcut;have c5:wc.cell? ⟨z,5,none⟩=some (.slice (some ⟨ob,0,none⟩) n n):=Aa 5 ah.bd;have cu:=ah.R.cell hltu;rw[hv]at cu;have HV:=Ab hv;have H3:=Ab ah;clear ah hv;go_wp2;clear c5 cu
       go_loopg [56] m (fun gh i wr=>∃o:Nat,gh=m-o/\i=.int .i64 o/\o<=m/\NB w wr z ob n L St (Value.slice r n2 c) (.slice s k d) (AU a) vals ((BP l u).set u (CO l u o)))
       case atStart=>exact⟨0,rfl,rfl,by omega,H3.out⟩
       case round=>
        obtain⟨o,bg,rfl,ho,ai⟩:=hrel;have bq:=Ab bg;clear bg
        by_cases hlto:o<m
        ·have ab:Hid (∀W,Below wr.drew.heap.size wr.drew W->NB w W z ob n L St (Value.slice r n2 c) (.slice s k d) (AU a) vals ((BP l u).set u (CO l u o))):=fun W h=>ai.below ((Below.drew (B:=wr.heap.size) Ad).trans h)
         have ag:Hid ((CO l u o).length=m):=by show _=_;rw[JQ,aq.out]
         clear ai
         go_upto_region 18 with(fail)
         refine B9 a1 (R18 vl z ob n u m g o (AI l (u:Int) (o:Int))) (fun vs=>{tmps:=(_::_::_::_::_::_::_::_::_::_::_::_::_::_::_::_::_::_::_::_::_::_::_::_::_::_::_::_::_::_::_::_::_::_::_::_::_::_::_::_::_::_::_::_::_::_::_::_::_::_::_::_::_::_::_::_::_::_::_::vs 0::vs 1::vs 2::vs 3::vs 4::vs 5::vs 6::vs 7::vs 8::vs 9::vs 10::_::_::_::[]).toArray,defers:=[]}) (fun n=>[u59,u60,u61,u62,u63,u64,u65,u66,u67,u68,u69].getD n undef) 11 rfl (by kernel_rfl) (by kernel_rfl) (R18.mono vl z ob n u m g o (AI l (u:Int) (o:Int))) ?step18 ?last18
         case step18=>
          intro ix oo hlt ho
          match ix,hlt,ho with
          |0,hlt,ho|2,hlt,ho|3,hlt,ho|5,hlt,ho|6,hlt,ho|7,hlt,ho|8,hlt,ho|10,hlt,ho=>
           obtain rfl:=osI ho;intro vs W K hB hD hK;have HK:=Ab hK
           try have e1:vs 1=(.slice (some ⟨ob,0,none⟩) n n):=Ac hD 1 rfl
           try have e2:vs 2=.int .i64 (u:Int):=Ac hD 2 rfl
           try have e4:vs 4=.slice (some ⟨g,0,none⟩) m m:=Ac hD 4 rfl
           try have e5:vs 5=.int .i64 (o:Int):=Ac hD 5 rfl
           clear hK hD ho hlt;dsimp only;go_simp;have h:=HK.out _ _ Ad rfl;simp only[upd,Nat.reduceEqDiff,reduceIte, *]at h;exact h
          |1,hlt,ho=>
           obtain rfl:=osI ho;intro vs W K hB hD hK;have HK:=Ab hK;have e0:vs 0=.pointer (some ⟨z,5,none⟩):=Ac hD 0 rfl;have c5:W.cell? ⟨z,5,none⟩=some (.slice (some ⟨ob,0,none⟩) n n):=Aa 5 (ab.out W hB).bd;clear hK hD ho hlt;dsimp only;go_simp;have h:=HK.out _ _ Ad rfl;simp only[upd,Nat.reduceEqDiff,reduceIte,e0]at h;exact h
          |4,hlt,ho=>
           obtain rfl:=osI ho;intro vs W K hB hD hK;have HK:=Ab hK;have e3:vs 3=.pointer (some ⟨ob,u,none⟩):=Ac hD 3 rfl;have cu:=(ab.out W hB).R.cell hltu;rw[HV.out]at cu;clear hK hD ho hlt;dsimp only;go_simp;have h:=HK.out _ _ Ad rfl;simp only[upd,Nat.reduceEqDiff,reduceIte,e3]at h;exact h
          |9,hlt,ho=>
           obtain rfl:=osI ho;intro vs W K hB hD hK;have HK:=Ab hK;have e6:vs 6=vl:=Ac hD 6 rfl;have e7:vs 7=.int .i64 (u:Int):=Ac hD 7 rfl;have e8:vs 8=.int .i64 (o:Int):=Ac hD 8 rfl;clear hK hD ho hlt;dsimp only;go_simp;refine(a8.out W u o (by omega) (by omega) (ab.out W hB).bx).mono ?_;rintro e W' ⟨rfl,hb⟩;have h:=HK.out _ _ hb rfl;simp only[upd,Nat.reduceEqDiff,reduceIte,e6,e7,e8]at h;exact h
          |q+11,hlt,ho=>omega
         case last18=>
          intro oo ho;obtain rfl:=osI ho;intro vs W K hB v hK;have HK:=Ab hK;have e9:vs 9=.int .i64 (AI l (u:Int) (o:Int)):=v 9 (by omega);have cn:vs 10=.pointer (some ⟨g,o,none⟩):=v 10 (by omega);have ax:=ab.out W hB;have he:=ax.R.e u hltu
          have a0:u<(BP l u).length:=by rw[b1.out];exact hltu
          rw[HV.out,AA _ _ _ _ a0]at he;have c1:=he.at' ag.out.symm o (by rw[ag.out];exact hlto);have f1:=he.fz ag.out.symm o;have p3:=ax.elem hltu HV.out (by rw[AA _ _ _ _ a0,ag.out]) o (AI l (u:Int) (o:Int));rw[AA _ _ _ _ a0,List.set_set,JR]at p3;have aw:=Ab p3;clear hK v ho p3 ax he;dsimp only;go_simp;refine HK.out _ _ ?_;go_wp2
          go_roundg (m-(o+1))
          case measure=>have:=bq.out;omega
          case rel=>exact⟨o+1,rfl,by go_num,by omega,aw.out⟩
        ·have ce:o=m:=by omega
         have e:(BP l u).set u (CO l u o)=BP l (u+1):=by rw[<-JP,aq.out,ce]
         rw[e]at ai;go_wp2
         go_roundg (n-(u+1))
         case measure=>have:=br.out;omega
         case rel=>exact⟨u+1,vals,rfl,by go_num,by omega,ai⟩
     ·obtain rfl:u=n:=by omega
      have c0:wr.cell? ⟨z,0,none⟩=some (.int .i64 L):=Aa 0 f.bd;have c1:wr.cell? ⟨z,1,none⟩=some (.int .i64 St):=Aa 1 f.bd;have c2:wr.cell? ⟨z,2,none⟩=some (Value.slice r n2 c):=Aa 2 f.bd;have c3:wr.cell? ⟨z,3,none⟩=some (.slice s k d):=Aa 3 f.bd;have c4:wr.cell? ⟨z,4,none⟩=some (.int .i64 (AU a)):=Aa 4 f.bd;have c5:wr.cell? ⟨z,5,none⟩=some (.slice (some ⟨ob,0,none⟩) u u):=Aa 5 f.bd;have r0:wr.cell? ⟨w.heap.size+1,0,none⟩=some (.int .i64 0):=Aa 0 f.rc;have q0:wr.frozen? ⟨w.heap.size+1,0,none⟩=false:=At 0 f.rc;have r1:wr.cell? ⟨w.heap.size+1,1,none⟩=some (.int .i64 0):=Aa 1 f.rc;have q1:wr.frozen? ⟨w.heap.size+1,1,none⟩=false:=At 1 f.rc;have r2:wr.cell? ⟨w.heap.size+1,2,none⟩=some (.slice none 0 0):=Aa 2 f.rc;have q2:wr.frozen? ⟨w.heap.size+1,2,none⟩=false:=At 2 f.rc;have r3:wr.cell? ⟨w.heap.size+1,3,none⟩=some (.slice none 0 0):=Aa 3 f.rc;have q3:wr.frozen? ⟨w.heap.size+1,3,none⟩=false:=At 3 f.rc;have r4:wr.cell? ⟨w.heap.size+1,4,none⟩=some (.int .i64 0):=Aa 4 f.rc;have q4:wr.frozen? ⟨w.heap.size+1,4,none⟩=false:=At 4 f.rc;have r5:wr.cell? ⟨w.heap.size+1,5,none⟩=some (.slice none 0 0):=Aa 5 f.rc;have q5:wr.frozen? ⟨w.heap.size+1,5,none⟩=false:=At 5 f.rc;have ac:=Ab f;clear hN f;go_wp2;clear c0 c1 c2 c3 c4 c5 r0 r1 r2 r3 r4 r5 q0 q1 q2 q3 q4 q5;have S6:=Oa (d0:=(.int .i64 L)) (d1:=(.int .i64 St)) (d2:=(Value.slice r n2 c)) (d3:=(.slice s k d)) (d4:=(.int .i64 (AU a))) (d5:=(.slice (some ⟨ob,0,none⟩) u u)) ac.out.rc;have O6:=L9 wr (w.heap.size+1) (.int .i64 L) (.int .i64 St) (Value.slice r n2 c) (.slice s k d) (.int .i64 (AU a)) (.slice (some ⟨ob,0,none⟩) u u);have B6:Below w.heap.size w ((((((wr.setCell ⟨w.heap.size+1,0,none⟩ (.int .i64 L)).setCell ⟨w.heap.size+1,1,none⟩ (.int .i64 St)).setCell ⟨w.heap.size+1,2,none⟩ (Value.slice r n2 c)).setCell ⟨w.heap.size+1,3,none⟩ (.slice s k d)).setCell ⟨w.heap.size+1,4,none⟩ (.int .i64 (AU a))).setCell ⟨w.heap.size+1,5,none⟩ (.slice (some ⟨ob,0,none⟩) u u)):=((((((ac.out.bx.setCell (p:=⟨w.heap.size+1,0,none⟩) (by show w.heap.size<=w.heap.size+1;omega) _).setCell (p:=⟨w.heap.size+1,1,none⟩) (by show w.heap.size<=w.heap.size+1;omega) _).setCell (p:=⟨w.heap.size+1,2,none⟩) (by show w.heap.size<=w.heap.size+1;omega) _).setCell (p:=⟨w.heap.size+1,3,none⟩) (by show w.heap.size<=w.heap.size+1;omega) _).setCell (p:=⟨w.heap.size+1,4,none⟩) (by show w.heap.size<=w.heap.size+1;omega) _).setCell (p:=⟨w.heap.size+1,5,none⟩) (by show w.heap.size<=w.heap.size+1;omega) _);generalize((((((wr.setCell ⟨w.heap.size+1,0,none⟩ (.int .i64 L)).setCell ⟨w.heap.size+1,1,none⟩ (.int .i64 St)).setCell ⟨w.heap.size+1,2,none⟩ (Value.slice r n2 c)).setCell ⟨w.heap.size+1,3,none⟩ (.slice s k d)).setCell ⟨w.heap.size+1,4,none⟩ (.int .i64 (AU a))).setCell ⟨w.heap.size+1,5,none⟩ (.slice (some ⟨ob,0,none⟩) u u))=w9 at*;have bn:=Ab B6
      have bz:Hid (Ar w9 (.slice (some ⟨ob,0,none⟩) u u) (Ap l)):=by
       have ak:=ac.out.R.row.1;have h1:=ac.out.R.only O6 (by omega) (fun j hj b hb=>by have:=(ac.out.R.e j hj).ge b hb;omega);rw[show BP l u=Ap l from by rw[<-JN,af.out]]at h1;exact h1.is (by omega) (fun j hj=>LE b5.out j (by rw[af.out];exact hj))
      clear O6 B6;refine bodyPost_ret (results_cell_row rfl _ _ (w.heap.size+1) _ _ _ _ rfl S6 Tryz.underlying105 (by rfl) (by rfl)) rfl ?_;exact⟨_,_,_,by rw[ae.out.1,ae.out.2],by rw[ae.out.1,ae.out.2],bz.out,bn.out⟩
end Go.Proofs.YtncjeamdkjcebaaGreatDoor
