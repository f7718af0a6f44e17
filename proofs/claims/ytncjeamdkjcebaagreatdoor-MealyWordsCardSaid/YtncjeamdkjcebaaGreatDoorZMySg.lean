/- The laws of values of signals, in plain lists (out of chapter 01's texts). -/
import Derived.Test.YtncjeamdkjcebaaGreatDoorZMyW2
set_option linter.all false
set_option maxHeartbeats 8000000
set_option maxRecDepth 100000
namespace Go.Proofs.YtncjeamdkjcebaaGreatDoor
open Go.RowKit
def DA(l:List Sig)(a:Int):List Int:=(List.range l.length).map fun(i:Nat)=>A5 l a (i:Int)
theorem LZ(l:List Sig)(a i:Int):0<=A5 l a i/\A5 l a i<=3:=by
 unfold A5
 split
 ·rename_i h
  have hv:At l=true:=by
   have h1:=h.2.1;unfold AC at h1
   cases hv:At l
   ·rw[hv]at h1;simp at h1;omega
   ·rfl
  have hj:i.toNat<l.length:=by omega
  rw[Af _ _ _ hj];have hs:=DT (Ba hv).1 _ (List.getElem_mem hj);have h1:=Int.emod_nonneg (a/As (l.take i.toNat)) (show l[i.toNat].size≠0 by omega);have h2:=Int.emod_lt_of_pos (a/As (l.take i.toNat)) (show 0<l[i.toNat].size by omega);omega
 ·omega
theorem SG{l:List Sig}:∀(vals:List Int)(n:Int),mkL l vals=some n->Ew l n=vals/\0<=n/\n<As l:=by
 induction l with
 |nil=>
  intro vals n h
  cases vals with
  |nil=>simp only[mkL,Option.some.injEq]at h;subst h;simp[Ew,As]
  |cons v vs=>simp[mkL]at h
 |cons s r ih=>
  intro vals n h
  cases vals with
  |nil=>simp[mkL]at h
  |cons v vs=>
   simp only[mkL]at h
   split at h
   ·rename_i hg
    cases hr:mkL r vs with
    |none=>rw[hr]at h;simp at h
    |some m=>
     rw[hr,Option.map_some,Option.some.injEq]at h;subst h;obtain⟨i1,i2,i3⟩:=ih vs m hr;simp only[Ew,As];rw[EC hg.1 hg.2,EB hg.1 hg.2,i1];exact⟨rfl,C0 hg.1 hg.2 i2 i3⟩
   ·simp at h
theorem SH{l:List Sig}(hz:∀s∈l,AS s=true)(a:Int)(k:Nat)(hk:k<l.length):0<=(Ew l a).getD k 0/\(Ew l a).getD k 0<l[k].size:=by
 rw[KY hz a k hk];exact EE _ (Bx hz _ (List.getElem_mem hk)).1
/-! Halves by values. -/
theorem Oc(q:Bool){l:List Sig}(hz:∀s∈l,AS s=true):∀a b,BP q l a=BP q l b↔∀k(_:k<l.length),(l.getD k EL).inp=q->(Ew l a).getD k 0=(Ew l b).getD k 0:=by
 induction l with
 |nil=>intro a b;simp[BP]
 |cons s r ih=>
  intro a b;have hs:=(Bx hz s (by simp)).1;have IH:=ih (fun x hx=>hz x (List.mem_cons_of_mem _ hx)) (a/s.size) (b/s.size);obtain⟨a0,a1⟩:=EE a hs;obtain⟨b0,b1⟩:=EE b hs;simp only[BP,Ew]
  have hall:(∀k(_:k<(s::r).length),((s::r).getD k EL).inp=q->(a%s.size::Ew r (a/s.size)).getD k 0=(b%s.size::Ew r (b/s.size)).getD k 0)↔
    (s.inp=q->a%s.size=b%s.size)/\(∀k(_:k<r.length),(r.getD k EL).inp=q->(Ew r (a/s.size)).getD k 0=(Ew r (b/s.size)).getD k 0):=by
   constructor
   ·intro h;exact⟨fun hq=>by simpa using h 0 (by simp) (by simpa using hq),fun k hk hq=>by simpa using h (k+1) (by simpa using hk) (by simpa using hq)⟩
   ·rintro⟨h1,h2⟩ k hk hq
    cases k with
    |zero=>simpa using h1 (by simpa using hq)
    |succ k=>simpa using h2 k (by simpa using hk) (by simpa using hq)
  rw[hall,<-IH]
  by_cases hq:s.inp=q
  ·rw[if_pos (by simp[hq])];rw[if_pos (by simp[hq])]
   constructor
   ·intro h
    have e1:(a%s.size+s.size*BP q r (a/s.size))%s.size=(b%s.size+s.size*BP q r (b/s.size))%s.size:=by rw[h]
    have e2:(a%s.size+s.size*BP q r (a/s.size))/s.size=(b%s.size+s.size*BP q r (b/s.size))/s.size:=by rw[h]
    rw[EC a0 a1,EC b0 b1]at e1;rw[EB a0 a1,EB b0 b1]at e2;exact⟨fun _=>e1,e2⟩
   ·rintro⟨h1,h2⟩;rw[h1 hq,h2]
  ·rw[if_neg (by simp[hq]),if_neg (by simp[hq])];exact⟨fun h=>⟨fun e=>absurd e hq,h⟩,fun h=>h.2⟩
theorem Dg{l:List Sig}(hv:At l=true){a:Int}(h0:0<=a)(h1:a<AC l):DA l a=Ew l a:=by
 obtain⟨hz,hl1,hl6,hp⟩:=Ba hv
 apply List.ext_getElem
 ·simp[DA,K0]
 ·intro k hk1 hk2
  have hk:k<l.length:=by rwa [K0]at hk2
  have h2:=KY hz a k hk;rw[Af _ _ _ hk2]at h2;rw[h2];simp only[DA,List.getElem_map,List.getElem_range];rw[A5,if_pos ⟨h0,h1,by omega,by omega⟩,Int.toNat_natCast,Af _ _ _ hk]
theorem M4(l:List Sig)(a:Int):(DA l a).length=l.length:=by simp[DA]
theorem Dh(l:List Sig)(a:Int)(k:Nat)(hk:k<l.length):(DA l a).getD k 0=A5 l a k:=by
 rw[Af _ _ _ (by rw[M4];exact hk)];simp[DA]
theorem L0{l:List Sig}(hv:At l=true)(a:Int)(k:Nat)(hk:k<l.length):0<=A5 l a k/\A5 l a k<l[k].size:=by
 obtain⟨hz,hl1,hl6,hp⟩:=Ba hv;have hs:=Bx hz _ (List.getElem_mem hk)
 by_cases h:0<=a/\a<AC l
 ·rw[<-Dh l a k hk,Dg hv h.1 h.2];exact SH hz a k hk
 ·rw[A5,if_neg (fun h2=>h ⟨h2.1,h2.2.1⟩)];omega
theorem Qg{l:List Sig}(hv:At l=true)(vals:List Int):
  ((mkR l vals).2=false/\(mkR l vals).1=0)\/((mkR l vals).2=true/\0<=(mkR l vals).1/\(mkR l vals).1<AC l/\DA l (mkR l vals).1=vals):=by
 unfold mkR
 by_cases hlen:vals.length=l.length
 ·rw[hv,decide_eq_true hlen];simp only[Bool.and_self,if_true]
  cases hm:mkL l vals with
  |none=>exact .inl ⟨rfl,rfl⟩
  |some x=>
   obtain⟨h1,h2,h3⟩:=SG vals x hm;rw[<-Ez hv]at h3;exact .inr ⟨rfl,h2,h3,by rw[Dg hv h2 h3,h1]⟩
 ·rw[decide_eq_false hlen,Bool.and_false];exact .inl ⟨rfl,rfl⟩
def QB(l:List Sig)(q:Bool)(a b:Int)(k:Nat):Bool:=(List.range k).all fun j=> !((l.getD j EL).inp==q)||(A5 l a j==A5 l b j)
theorem QC{l:List Sig}(hv:At l=true)(q:Bool){a b:Int}(ha0:0<=a)(ha1:a<AC l)(hb0:0<=b)(hb1:b<AC l):
  QB l q a b l.length=(BZ l q a==BZ l q b):=by
 obtain⟨hz,hl1,hl6,hp⟩:=Ba hv;rw[BZ,if_pos ⟨ha0,ha1⟩,BZ,if_pos ⟨hb0,hb1⟩,Bool.eq_iff_iff,beq_iff_eq,Oc q hz a b];simp only[QB,List.all_eq_true,List.mem_range,Bool.or_eq_true,Bool.not_eq_true',beq_eq_false_iff_ne,beq_iff_eq]
 constructor
 ·intro h k hk hq;have:=h k hk;rw[<-Dg hv ha0 ha1,<-Dg hv hb0 hb1,Dh l a k hk,Dh l b k hk]
  rcases this with h1|h1
  ·exact absurd hq h1
  ·exact h1
 ·intro h k hk
  by_cases hq:(l.getD k EL).inp=q
  ·refine .inr ?_;have:=h k hk hq
   rwa [<-Dg hv ha0 ha1,<-Dg hv hb0 hb1,Dh l a k hk,Dh l b k hk]at this
  ·exact .inl hq
def C2(l:List Sig)(own:List Bool)(a b:Int):List Int:=(List.range l.length).map fun(i:Nat)=>if own.getD i false=true then A5 l (AO l 0 a) (i:Int)else A5 l (AO l 0 b) (i:Int)
def ED(l:List Sig)(own:List Bool)(a b:Int):Int:=BZ l false (mkR l (C2 l own a b)).1
theorem Iu{l:List Sig}{own:List Bool}{a b:Int}:(C2 l own a b).length=l.length:=by simp[C2]
theorem Kf{l:List Sig}{own:List Bool}{a b:Int}{k:Nat}(hk:k<l.length):(C2 l own a b).getD k 0=if own.getD k false=true then A5 l (AO l 0 a) (k:Int)else A5 l (AO l 0 b) (k:Int):=by
 unfold C2;rw[Af _ _ _ (by simpa using hk)];simp only[List.getElem_map,List.getElem_range]
theorem RI{l:List Sig}{own:List Bool}{a b:Int}:∀x∈C2 l own a b,0<=x/\x<=3:=by
 intro x hx;obtain⟨k,-,rfl⟩:=List.mem_map.1 hx
 split
 ·exact LZ l _ _
 ·exact LZ l _ _
theorem Iv{l:List Sig}(hv:At l=true)(own:List Bool)(a b:Int):(mkR l (C2 l own a b)).2=true/\0<=(mkR l (C2 l own a b)).1/\(mkR l (C2 l own a b)).1<AC l/\DA l (mkR l (C2 l own a b)).1=C2 l own a b:=by
 obtain⟨hz,hl1,hl6,hp⟩:=Ba hv
 rcases Qg hv (C2 l own a b)with h|h
 ·exfalso
  have hm:=Nw hz (vals:=C2 l own a b) Iu fun x _=>by
   unfold okV;rw[Kf x.2,Af _ _ _ x.2]
   split
   ·exact L0 hv _ _ x.2
   ·exact L0 hv _ _ x.2
  have h1:=h.1;rw[mkR,hv,Iu,decide_eq_true rfl,hm]at h1;simp at h1
 ·exact h
theorem Kg{l:List Sig}(hv:At l=true)(own:List Bool)(a b:Int):0<=ED l own a b/\ED l own a b<Aj l:=by
 obtain⟨-,h1,h2,-⟩:=Iv hv own a b;exact(Mw hv h1 h2).2.1
theorem DW{l:List Sig}(hv:At l=true)(q:Bool){a b:Int}(ha0:0<=a)(ha1:a<AC l)(hb0:0<=b)(hb1:b<AC l)(h:BZ l q a=BZ l q b){k:Nat}(hk:k<l.length)(hq:(l.getD k EL).inp=q):A5 l a k=A5 l b k:=by
 have h1:=QC hv q ha0 ha1 hb0 hb1;rw[h,beq_self_eq_true]at h1;unfold QB at h1;rw[List.all_eq_true]at h1;have h2:=h1 k (List.mem_range.2 hk);rw[hq]at h2;simpa using h2
theorem RJ{l:List Sig}(hv:At l=true)(own:List Bool){x a b:Int}(hx:0<=x/\x<Ap l)(ha:0<=a/\a<Aj l)(hb:0<=b/\b<Aj l){k:Nat}(hk:k<l.length):
  A5 l (AO l x (ED l own a b)) k=if own.getD k false=true then A5 l (AO l x a) k else A5 l (AO l x b) k:=by
 obtain⟨⟨hi,-⟩,-⟩:=C7 hv;have hm:=Kg hv own a b;obtain⟨-,z0,z1,z2⟩:=Iv hv own a b;obtain⟨m1,m2,m3⟩:=Cc hv hx.1 hx.2 hm.1 hm.2;obtain⟨a1,a2,a3⟩:=Cc hv hx.1 hx.2 ha.1 ha.2;obtain⟨b1,b2,b3⟩:=Cc hv hx.1 hx.2 hb.1 hb.2;obtain⟨c1,c2,c3⟩:=Cc hv (i:=0) (by omega) (by omega) ha.1 ha.2;obtain⟨d1,d2,d3⟩:=Cc hv (i:=0) (by omega) (by omega) hb.1 hb.2
 cases hq:(l.getD k EL).inp
 ·have e1:A5 l (AO l x (ED l own a b)) k=A5 l (mkR l (C2 l own a b)).1 k:=DW hv false m1.1 m1.2 z0 z1 m3 hk hq
  have e2:A5 l (mkR l (C2 l own a b)).1 k=(C2 l own a b).getD k 0:=by rw[<-Dh l _ k hk,z2]
  rw[e1,e2,Kf hk,DW hv false c1.1 c1.2 a1.1 a1.2 (c3.trans a3.symm) hk hq,DW hv false d1.1 d1.2 b1.1 b1.2 (d3.trans b3.symm) hk hq]
 ·rw[DW hv true m1.1 m1.2 a1.1 a1.2 (m2.trans a2.symm) hk hq,DW hv true a1.1 a1.2 b1.1 b1.2 (a2.trans b2.symm) hk hq]
  split<;>rfl
def Hr(l:List Sig)(own:List Bool)(a b:My)(n:Nat)(p:Pr):List Int:=(List.range n).map fun i=>ED l own (Bg a p.1 i) (Bg b p.2 i)
def By(l:List Sig)(own:List Bool)(a b:My)(K:Nat):My:=⟨a.ins,a.outs,0,(List.range K).map fun j=>Hr l own a b a.ins.toNat (bfP a b a.ins.toNat j),bfN a b a.ins.toNat K⟩
def GK:My:=⟨0,0,0,[],[]⟩
noncomputable def KT (l:List Sig) (own:List Bool) (a b:My):My:=
 open Classical in if h:∃K,EN a b a.ins.toNat K then By l own a b h.choose else GK
theorem Ig{l:List Sig}{own:List Bool}{a b:My}{K:Nat}(h:EN a b a.ins.toNat K):KT l own a b=By l own a b K:=by
 have hx:∃K,EN a b a.ins.toNat K:=⟨K,h⟩;unfold KT;rw[dif_pos hx,hx.choose_spec.unique h]
noncomputable def E2 (l:List Sig) (a b:My) (own:List Bool):My×Int:=
 if Bm l a=true/\Bm l b=true/\own.length=l.length then(KT l own a b,0)else(GK,1)
def stB(g:Gm)(p:Int)(set:List Bool)(s:List Int):Bool:=
 (decide (p=0)||decide (p=1))&&B9 g&&decide (set.length=g.owner.length)&&decide (s.length=g.owner.length)&&(List.range set.length).all (Du g p set s)
theorem LK(f:Nat->Bool)(k:Nat):(List.range (k+1)).all f=((List.range k).all f&&f k):=by
 rw[List.range_succ,List.all_append];simp
theorem Kl(f:Nat->Bool)(n k:Nat)(hk:k<n)(h:f k=false):(List.range n).all f=false:=by
 rw[List.all_eq_false];exact⟨k,List.mem_range.2 hk,by simp[h]⟩
theorem Ft{g:Gm}{p:Int}{set:List Bool}{s:List Int}(h:(p !=0&&p !=1)=true\/B9 g=false\/¬set.length=g.owner.length\/¬s.length=g.owner.length):stB g p set s=false:=by
 unfold stB
 rcases h with h|h|h|h
 ·simp only[Bool.and_eq_true,bne_iff_ne,ne_eq]at h;simp[h.1,h.2]
 ·simp[h]
 ·simp[h]
 ·simp[h]
theorem Ta{g:Gm}{p:Int}{set:List Bool}{s:List Int}(hp:p=0\/p=1)(h:B9 g=true)(h1:set.length=g.owner.length)(h2:s.length=g.owner.length):stB g p set s=(List.range set.length).all (Du g p set s):=by
 unfold stB
 rcases hp with rfl|rfl<;>simp[h,h1,h2]
theorem NX(w:World)(vg vs vt:Value)(g:Gm)(p:Int)(set:List Bool)(s:List Int)(hg:Cn w vg g)(hs:Bj w vs set)(ht:Ai w vt s)(hp:p=0\/p=1):
  Calls Tryz.prog 86 #[vg,.int .i64 p,vs,vt] w (Av (.bool (stB g p set s)) w):=by
 have HK:Hid (∀q:Int,q=p->∀W,Below w.heap.size w W->B9 g=true->set.length=g.owner.length->s.length=g.owner.length->∀k,k<g.owner.length->Calls Tryz.prog 116 #[vg,.int .i64 q,vs,vt,.int .i64 k] W (Av (.bool (Du g p set s k)) W)):=
  fun q hq W hW hv h1 h2 k hk=>hq▸RC W _ _ _ g q set s k (hg.below hW) (hs.below hW) (ht.below hW) hv h1 h2 hk
 have HV:Hid (∀W,Below w.heap.size w W->Calls Tryz.prog 115 #[vg] W (Av (.bool (B9 g)) W)):=fun W hW=>OT W _ g (hg.below hW)
 obtain⟨v0,v1,v2,rfl,i0,i1,i2⟩:=hg;obtain⟨a0,c0,rfl⟩:=i0.shape;obtain⟨aS,cS,rfl⟩:=hs.shape;obtain⟨aT,cT,rfl⟩:=ht.shape;obtain⟨bS,oS,hdS,mS,ddS⟩:=hs.data;clear i0 i1 i2 hs ht hdS ddS;have HP:Hid (p=0\/p=1):=hp
 cases hv:B9 g
 ·rcases hp with rfl|rfl
  all_goals
   go_enter Tryz.func86,Tryz.ntmps86
   go_wp2_with fail
   refine(HV.out _ (by repeat(first|exact Ad|assumption|(refine AD ?_ _)|(refine AE ?_ _)|(refine Below.drew ?_)))).mono ?_;rintro e w1 ⟨rfl,hb1⟩;rw[hv];have hB1:=(AI.start hb1).bl;go_wp2;go_ret;exact⟨Ak (Ft (.inr (.inl hv))).symm,hB1⟩
 cases h1:((set.length:Int) !=g.owner.length)
 case true=>
  rcases hp with rfl|rfl
  all_goals
   go_enter Tryz.func86,Tryz.ntmps86
   go_wp2_with fail
   refine(HV.out _ (by repeat(first|exact Ad|assumption|(refine AD ?_ _)|(refine AE ?_ _)|(refine Below.drew ?_)))).mono ?_;rintro e w1 ⟨rfl,hb1⟩;rw[hv];have hB1:=(AI.start hb1).bl;go_wp2;go_ret;exact⟨Ak (Ft (.inr (.inr (.inl (by have:=h1;simp at this;omega))))).symm,hB1⟩
 cases h2:((s.length:Int) !=g.owner.length)
 case true=>
  rcases hp with rfl|rfl
  all_goals
   go_enter Tryz.func86,Tryz.ntmps86
   go_wp2_with fail
   refine(HV.out _ (by repeat(first|exact Ad|assumption|(refine AD ?_ _)|(refine AE ?_ _)|(refine Below.drew ?_)))).mono ?_;rintro e w1 ⟨rfl,hb1⟩;rw[hv];have hB1:=(AI.start hb1).bl;go_wp2;go_ret;exact⟨Ak (Ft (.inr (.inr (.inr (by have:=h2;simp at this;omega))))).symm,hB1⟩
 have e1:set.length=g.owner.length:=by have:=h1;simp at this;omega
 have e2:s.length=g.owner.length:=by have:=h2;simp at this;omega
 have HE1:=Ab e1;have HE2:=Ab e2;have HF:Hid (stB g p set s=(List.range set.length).all (Du g p set s)):=Ta hp hv e1 e2;have HV1:=Ab hv;clear e1 e2
 suffices hmain:∀q:Int,q=p->Calls Tryz.prog 86 #[.agg #[.slice a0 g.owner.length c0,v1,v2],.int .i64 q,.slice aS set.length cS,.slice aT s.length cT] w (Av (.bool (stB g p set s)) w)from hmain p rfl
 intro q hq;have HQ:=Ab hq;rw[<-hq]at hp;clear hq
 rcases hp with rfl|rfl
 all_goals
  go_enter Tryz.func86,Tryz.ntmps86
  go_wp2_with fail
  refine(HV.out _ (by repeat(first|exact Ad|assumption|(refine AD ?_ _)|(refine AE ?_ _)|(refine Below.drew ?_)))).mono ?_;rintro e w1 ⟨rfl,hb1⟩;rw[HV1.out];have hbx:=AI.start hb1;clear hb1;go_wp2
  go_loopg [8,10,39] set.length (fun gh r _ i wr=>∃k:Nat,gh=set.length-k/\i=.int .i64 k/\r=.bool false/\k<=set.length/\AI w wr #[.slice a0 g.owner.length c0,v1,v2]/\Hid ((List.range k).all (Du g p set s)=true))
  case atStart=>exact⟨0,rfl,rfl,rfl,by omega,hbx,by simp[Hid]⟩
  case round=>
   obtain⟨k,hgk,rfl,rfl,hk,hB,HE⟩:=hrel;have HG:=Ab hgk;clear hgk hbx;have d0:=hB.cell 0 rfl;have d1:=hB.cell 1 rfl;have d2:=hB.cell 2 rfl
   by_cases hlt:k<set.length
   ·have HC:=Ab (HK.out _ HQ.out wr hB.bl HV1.out HE1.out HE2.out k (by have:=HE1.out;omega))
    go_wp2_with fail
    refine(HC.out).mono ?_;rintro e w2 ⟨rfl,hb2⟩
    cases hc:Du g p set s k
    ·go_wp2;go_ret;exact⟨Ak (by rw[HF.out,Kl _ _ k hlt hc]),(hB.step hb2).bl⟩
    ·go_wp2
     go_roundg (set.length-(k+1))
     case measure=>have:=HG.out;omega
     case rel=>exact⟨k+1,rfl,by go_num,rfl,by omega,hB.step hb2,by show _=_;rw[LK,HE.out,hc];rfl⟩
   ·obtain rfl:k=set.length:=by omega
    go_wp2;go_ret;exact⟨Ak (by rw[HF.out,HE.out]),hB.bl⟩
theorem NY(w:World)(vg vs vt:Value)(g:Gm)(p:Int)(set:List Bool)(s:List Int)(hg:Cn w vg g)(hs:Bj w vs set)(ht:Ai w vt s):
  Calls Tryz.prog 86 #[vg,.int .i64 p,vs,vt] w (Av (.bool (stB g p set s)) w):=by
 by_cases hp:p=0\/p=1
 ·exact NX w vg vs vt g p set s hg hs ht hp
 ·have h0:(p !=0)=true:=by simp;omega
  have h1:(p !=1)=true:=by simp;omega
  obtain⟨v0,v1,v2,rfl,i0,i1,i2⟩:=hg;obtain⟨a0,c0,rfl⟩:=i0.shape;clear i0 i1 i2 hs ht hp
  go_enter Tryz.func86,Tryz.ntmps86
  go_wp2;go_ret;exact⟨Ak (Ft (.inl (by rw[h0,h1];rfl))).symm,(by repeat(first|exact Ad|assumption|apply AD|apply AE))⟩
def D6(g:Gm)(p:Int)(set:List Bool)(s:List Int)(v:Nat):List Int:=
 if set.getD v false then(if g.owner.getD v 0=p then[s.getD v 0]else g.succ.getD v [])else[]
def BX(f:Nat->List Int)(n k:Nat):List (List Int):=(List.range n).map fun v=>if v<k then f v else[]
def Dr(set:List Bool)(k:Nat):List Int:=((List.range k).filter fun v=>set.getD v false).map Int.ofNat
theorem OE(f:Nat->List Int){n k j:Nat}(hj:j<n):(BX f n k).getD j []=if j<k then f j else[]:=by simp[BX,List.getD,hj]
theorem JF(f:Nat->List Int)(n k:Nat):(BX f n k).length=n:=by simp[BX]
theorem JH(f:Nat->List Int)(n k:Nat):(BX f n k).set k (f k)=BX f n (k+1):=by
 apply List.ext_getElem (by simp[BX])
 intro j h1 h2
 have hj:j<n:=by simpa[BX]using h2
 by_cases h:k=j
 ·subst h;simp[BX]
 ·rw[List.getElem_set_ne h];simp only[BX,List.getElem_map,List.getElem_range]
  by_cases hjk:j<k
  ·rw[if_pos hjk,if_pos (by omega)]
  ·rw[if_neg hjk,if_neg (by omega)]
theorem MW(f:Nat->List Int)(n k:Nat)(h:f k=[]):BX f n (k+1)=BX f n k:=by
 apply List.ext_getElem (by simp[BX])
 intro j h1 h2;simp only[BX,List.getElem_map,List.getElem_range]
 by_cases hj:j=k
 ·subst hj;rw[if_pos (by omega),if_neg (by omega),h]
 ·by_cases hjk:j<k
  ·rw[if_pos (by omega),if_pos hjk]
  ·rw[if_neg (by omega),if_neg hjk]
theorem OF(f:Nat->List Int)(n:Nat):BX f n 0=List.replicate n []:=by
 apply List.ext_getElem (by simp[BX])
 intro j h1 h2;simp[BX]
theorem Rf{set:List Bool}{k:Nat}(h:set.getD k false=true):Dr set (k+1)=Dr set k++[(k:Int)]:=by
 unfold Dr;rw[List.range_succ,List.filter_append,List.filter_cons,h];simp
theorem Po{set:List Bool}{k:Nat}(h:set.getD k false=false):Dr set (k+1)=Dr set k:=by
 unfold Dr;rw[List.range_succ,List.filter_append,List.filter_cons,h];simp
theorem KN(set:List Bool)(k:Nat):(Dr set k).length<=k:=by
 unfold Dr;rw[List.length_map];have:=List.length_filter_le (fun v=>set.getD v false) (List.range k);simpa using this
theorem Pn{set:List Bool}{k:Nat}{x:Int}:x∈Dr set k↔∃v:Nat,x=v/\v<k/\set.getD v false=true:=by
 unfold Dr;simp only[List.mem_map,List.mem_filter,List.mem_range]
 constructor
 ·rintro⟨v,⟨h1,h2⟩,rfl⟩;exact⟨v,rfl,h1,h2⟩
 ·rintro⟨v,rfl,h1,h2⟩;exact⟨v,⟨h1,h2⟩,rfl⟩
theorem Pm{set:List Bool}{k:Nat}(hk:k<=100000):∀x∈Dr set k,I64 x:=fun x hx=>by
 obtain⟨v,rfl,h,-⟩:=Pn.1 hx;unfold I64;omega
theorem Ag.of_below{S:Nat->Prop}{w w':World}(h:Below w.heap.size w w'):Ag S w w':=⟨h.os,h.tape,h.output,h.size,fun k hk _=>h.block k hk⟩
theorem Ag.to_below{S:Nat->Prop}{a w w':World}(hb:Below a.heap.size a w)(h:Ag S w w')(hS:∀k,S k->a.heap.size<=k):Below a.heap.size a w':=hb.trans (h.below _ hS hb.size)
theorem Ai.box1{W:World}{h:Nat}{x:Int}(hh:W.heap[h]? =some (.cells #[.int .i64 x] 3 (0,0)))(hx:I64 x):Ai W (.slice (some ⟨h,0,none⟩) 1 1) [x]:=by
 refine⟨⟨_,_,h,0,rfl,Nat.le_refl _,by simp[maxLen],by simp[Bk],(fun h=>by cases h),fun _=>rfl,fun j hj=> ?_⟩,fun y hy=>by rw[List.mem_singleton.1 hy];exact hx⟩
 obtain rfl:j=0:=by simpa using hj
 exact Aa 0 hh
def QY(nb ob:Nat)(va:Value)(B k:Nat):Prop:=k=nb\/va.ownBlock=some k\/B<=k\/k=ob
structure NG(W:World)(B nb ob n:Nat)(va:Value)(vals:List Value)(al:List Int)(nx:List (List Int)):Prop where
 a:OI W B va al
 o:W.ownsRow 0 26 1 (.slice (some ⟨nb,0,none⟩) n n) n vals
 e:∀j,j<n->∀W',Ag (QY nb ob va W.heap.size) W W'->Ai W' (vals.getD j undef) (nx.getD j [])
 lx:nx.length=n
 lt:nb<B
theorem NG.lv{W:World}{B nb ob n:Nat}{va:Value}{vals:List Value}{al:List Int}{nx:List (List Int)}(h:NG W B nb ob n va vals al nx):vals.length=n:=by
 have:=h.o.1;simpa using this
theorem NG.cell{W:World}{B nb ob n:Nat}{va:Value}{vals:List Value}{al:List Int}{nx:List (List Int)}(h:NG W B nb ob n va vals al nx){j:Nat}(hj:j<n):W.cell? ⟨nb,j,none⟩=some (vals.getD j undef):=by
 rw[World.ownsRow.cellAt h.o j (by omega),List.getD]
 have:j<vals.length:=by rw[h.lv];exact hj
 simp[this]
theorem NG.fz{W:World}{B nb ob n:Nat}{va:Value}{vals:List Value}{al:List Int}{nx:List (List Int)}(h:NG W B nb ob n va vals al nx)(j:Nat):W.frozen? ⟨nb,j,none⟩=false:=World.ownsRow.frozenAt h.o j
theorem NG.app{W W1:World}{B nb ob n:Nat}{va va1:Value}{vals:List Value}{al:List Int}{nx:List (List Int)}{x:Int}(h:NG W B nb ob n va vals al nx)(h1:OI W1 B va1 (al++[x]))(hg:W.grownBy W1 va.ownBlock)(hm:A7 W va va1):NG W1 B nb ob n va1 vals (al++[x]) nx:=by
 have hne:∀k,va.ownBlock=some k->k≠nb:=fun k hk e=>by have:=h.a.ge k hk;have:=h.lt;omega
 refine⟨h1,World.ownsRow.kept h.o hg (.inr fun e=>hne nb e.symm rfl),fun j hj W' hW=>h.e j hj W' ?_,h.lx,h.lt⟩;refine((Ag.of_grown hg).mono fun k _ hk=>.inr (.inl hk)).trans (hW.mono fun k _ hk=> ?_)
 rcases hk with hk|hk|hk|hk
 ·exact .inl hk
 ·rcases hm k hk with e|e
  ·exact .inr (.inl e)
  ·exact .inr (.inr (.inl e))
 ·exact .inr (.inr (.inl (Nat.le_trans hg.size hk)))
 ·exact .inr (.inr (.inr hk))
theorem NG.below{W W1:World}{B nb ob n:Nat}{va:Value}{vals:List Value}{al:List Int}{nx:List (List Int)}(h:NG W B nb ob n va vals al nx)(hb:Below W.heap.size W W1):NG W1 B nb ob n va vals al nx:=by
 refine⟨h.a.below hb,World.ownsRow.kept h.o (AV hb) (.inr (by simp[Value.ownBlock])),fun j hj W' hW=>h.e j hj W' ((Ag.of_below hb).trans (hW.mono fun k _ hk=> ?_)),h.lx,h.lt⟩
 rcases hk with hk|hk|hk|hk
 ·exact .inl hk
 ·exact .inr (.inl hk)
 ·exact .inr (.inr (.inl (Nat.le_trans hb.size hk)))
 ·exact .inr (.inr (.inr hk))
theorem NG.put{W:World}{B nb ob n:Nat}{va:Value}{vals:List Value}{al:List Int}{nx:List (List Int)}(h:NG W B nb ob n va vals al nx){k:Nat}(hk:k<n){u:Value}{r:List Int}
  (hu:∀W',Ag (QY nb ob va W.heap.size) W W'->Ai W' u r):NG (W.setCell ⟨nb,k,none⟩ u) B nb ob n va (vals.set k u) al (nx.set k r):=by
 have hs:Ag (QY nb ob va W.heap.size) W (W.setCell ⟨nb,k,none⟩ u):=Ag.set nb k u (.inl rfl);have hs1:Ag (fun k=>k=nb) W (W.setCell ⟨nb,k,none⟩ u):=Ag.set nb k u rfl;refine⟨h.a.only hs1 fun b hb hk=> ?_,(World.ownsRow.stored h.o k u).1,fun j hj W' hW=> ?_,by simp[h.lx],h.lt⟩
 ·have h1:=h.a.ge b hb;have h3:=h.lt;omega
 ·have hW2:=hs.trans (hW.mono fun k _ hk=>by simpa[QY]using hk)
  by_cases e:k=j
  ·subst e;rw[AA _ _ _ _ (by rw[h.lv];exact hk),AA _ _ _ _ (by rw[h.lx];exact hk)];exact hu W' hW2
  ·rw[AJ _ _ _ _ _ e,AJ _ _ _ _ _ e];exact h.e j hj W' hW2
structure NG0(w W:World)(n gb nb ob:Nat)(cs:Array Value)(vp:Value):Prop where
 bx:AI w W cs
 hg:W.heap[gb]? =some (.cells #[vp,.slice (some ⟨nb,0,none⟩) n n,.slice (some ⟨ob,0,none⟩) n n] 158 (0,0))
 hn:W.heap[nb]? =some (.cells (madeCells #[.slice none 0 0] n) 26 (0,0))
 ho:W.heap[ob]? =some (.cells (madeCells #[.bool false] n) 4 (0,0))
 gt:w.heap.size<gb/\w.heap.size<nb/\w.heap.size<ob
theorem Q3{w:World}{B g n:Nat}(h:w.heap[g]? =some (.cells (madeCells #[.bool false] n) 4 (0,0)))(hb:B<=g)(hn:n<=3000):OB w B (.slice (some ⟨g,0,none⟩) n n) (List.replicate n false):=by
 refine⟨by simp,.inr ⟨g,n,_, ?_,hb,h, ?_,by simp only[maxLen];omega,by simp[size_madeCells], ?_⟩⟩
 ·simp
 ·simp
 ·rw[toList_madeCells_one];simp
structure NGb(w W:World)(n gb nb ob:Nat)(cs:Array Value)(vp:Value):Prop where
 bx:AI w W cs
 hg:W.heap[gb]? =some (.cells #[vp,.slice (some ⟨nb,0,none⟩) n n,.slice (some ⟨ob,0,none⟩) n n] 158 (0,0))
 ho:OB W 0 (.slice (some ⟨ob,0,none⟩) n n) (List.replicate n false)
theorem NGb.only{w W W1:World}{n gb nb ob:Nat}{cs:Array Value}{vp:Value}{S:Nat->Prop}(h:NGb w W n gb nb ob cs vp)(ho:Ag S W W1)(hS:∀k,S k->k≠gb/\k≠ob/\w.heap.size<k):NGb w W1 n gb nb ob cs vp:=
 ⟨h.bx.only ho fun k hk=>(hS k hk).2.2,(ho.block gb (Array.getElem?_eq_some_iff.1 h.hg).1 fun k=>(hS _ k).1 rfl).trans h.hg,h.ho.only ho fun k hk hs=>by
  have e:ob=k:=by simpa[Value.ownBlock]using hk
  exact(hS k hs).2.1 e.symm⟩
def GrC(W:World)(gb nb ob n:Nat)(V:Nat->Value)(vp:Value)(prio:List Int)(nx:List (List Int)):Prop:=
 W.heap[gb]? =some (.cells #[vp,.slice (some ⟨nb,0,none⟩) n n,.slice (some ⟨ob,0,none⟩) n n] 158 (0,0))/\Ai W vp prio/\∀j,j<n->W.cell? ⟨nb,j,none⟩=some (V j)/\Ai W (V j) (nx.getD j [])
def R6(w:World)(n:Nat)(vp:Value)(prio al:List Int)(nx:List (List Int))(e:Ending)(w':World):Prop:=
 ∃(gb nb ob:Nat)(V:Nat->Value)(va:Value),e=.returned (.tuple #[.pointer (some ⟨gb,0,none⟩),va])/\OB w' 0 (.slice (some ⟨ob,0,none⟩) n n) (List.replicate n false)/\Below w.heap.size w w'/\w.heap.size<=ob/\
  ∀W',Ag (fun k=>k=ob\/w'.heap.size<=k) w' W'->GrC W' gb nb ob n V vp prio nx/\Ai W' va al
theorem MH(w:World)(v0 v1 v2 vs vt:Value)(g:Gm)(p:Int)(set:List Bool)(s:List Int)(hg:Cn w (.agg #[v0,v1,v2]) g)(hs:Bj w vs set)(ht:Ai w vt s)(hv:stB g p set s=true):
  Calls Tryz.prog 87 #[.agg #[v0,v1,v2],.int .i64 p,vs,vt] w (R6 w set.length v1 g.prio (Dr set set.length) (BX (D6 g p set s) set.length set.length)):=by
 have hst:=hv;simp only[stB,Bool.and_eq_true,decide_eq_true_eq]at hst;obtain⟨⟨⟨⟨hp,hvg⟩,l1⟩,l2⟩,hkp⟩:=hst;obtain⟨lo,lp,ls⟩:=DV hvg;obtain⟨u0,u1,u2,hu,i0,i1,i2⟩:=id hg
 obtain⟨rfl,rfl,rfl⟩:v0=u0/\v1=u1/\v2=u2:=by simpa using hu
 clear hu;have HP1:=Ab i1;have HT:=Ab ht;obtain⟨a0,c0,rfl⟩:=i0.shape;obtain⟨a1,c1,rfl⟩:=i1.shape;obtain⟨a2,c2,b2,o2,V,rfl,hd2,m2,dd2⟩:=i2.data;obtain⟨b0,o0,hd0,m0,dd0⟩:=i0.data;obtain⟨aS,cS,rfl⟩:=hs.shape;obtain⟨aT,cT,rfl⟩:=ht.shape;obtain⟨bS,oS,hdS,mS,ddS⟩:=hs.data;obtain⟨bT,oT,hdT,mT,ddT⟩:=ht.data;clear i0 i1 i2 hs ht hg hkp hvg hp hv mS mT m0 m2;obtain⟨n,hn⟩:∃n,n=set.length:=⟨_,rfl⟩;rw[<-hn]at l1 hdS ddS;rw[<-l1]at hd0 dd0 lo lp ls l2;rw[ls]at hd2 dd2;rw[l2]at hdT ddT;have HLP:Hid (g.prio.length=n):=lp;rw[<-hn,ls,lp,l2,<-l1];have HN:=Ab hn;have hn3:n<=3000:=lo;have HX64:Hid (∀x∈s,I64 x):=HT.out.2;have HL2:Hid (s.length=n):=l2;clear l1 lp ls l2 lo hn
 have mkb:=fun wx=>run_make_row' (P:=Tryz.prog) 31 4 (.bool false) 1 Tryz.underlying31 Of rfl .i64 .i64 n (by omega) (by omega) wx
 have mkr:=fun wx=>run_make_row' (P:=Tryz.prog) 23 26 (.slice none 0 0) 24 Tryz.underlying23 DF rfl .i64 .i64 n (by omega) (by omega) wx
 go_enter Tryz.func87,Tryz.ntmps87
 go_upto_region 1 with(fail)
 go_cut [10] (fun s10 wx=>∃gb nb ob,s10=.pointer (some ⟨gb,0,none⟩)/\Hid (NG0 w wx n gb nb ob #[.slice a0 n c0,.slice a1 n c1,.slice a2 n c2] (.slice a1 n c1)))
 case first=>
  go_region
  all_goals
   go_wp2_with fail
   go_meet
   case rel=>
    refine⟨w.heap.size+1+1+1,_,_,rfl,NG0.mk ⟨?_, ?_⟩ (by rw[CA,Al,if_pos (by simp)]) (by rw[CA];repeat(rw[Al];first|rw[if_pos (by first|simp;done|simp;omega)]|rw[if_neg (by first|simp;done|simp;omega)])) (by rw[CA];repeat(rw[Al];first|rw[if_pos (by first|simp;done|simp;omega)]|rw[if_neg (by first|simp;done|simp;omega)])) ⟨by omega,by omega,by omega⟩⟩
    ·exact(by repeat(first|exact Ad|assumption|(refine AD ?_ _)|(refine AE ?_ _)|(refine Below.drew ?_)))
    ·exact(by rw[CA];repeat(rw[Al];first|rw[if_pos (by first|simp;done|simp;omega)]|rw[if_neg (by first|simp;done|simp;omega)]))
 case rest=>
  obtain⟨gb,nb,ob,rfl,H0⟩:=hcut;clear mkb mkr;have hgl:=(Array.getElem?_eq_some_iff.1 H0.out.hg).1;have hnl:=(Array.getElem?_eq_some_iff.1 H0.out.hn).1;have hol:=(Array.getElem?_eq_some_iff.1 H0.out.ho).1;obtain⟨hgt1,hgt2,hgt3⟩:=H0.out.gt
  have hng:nb≠gb:=fun e=>by
   have:=H0.out.hn;rw[e,H0.out.hg]at this;simp at this
  have hno:nb≠ob:=fun e=>by
   have:=H0.out.hn;rw[e,H0.out.ho]at this;simp at this
  have hgo:gb≠ob:=fun e=>by
   have:=H0.out.hg;rw[e,H0.out.ho]at this;simp at this
  have HNE:Hid (nb≠gb/\nb≠ob/\gb≠ob):=⟨hng,hno,hgo⟩;have HR:Hid (Bl wc 0 n nb (List.replicate n (.slice none 0 0)) (List.replicate n [])):=Bl.made H0.out.hn (by omega) hn3
  have HNG:Hid (NG wc wc.heap.size nb ob n (.slice none 0 0) (List.replicate n (.slice none 0 0)) (Dr set 0) (BX (D6 g p set s) n 0)):=by
   refine⟨BC _ _,HR.out.o,fun j hj W' _=> ?_,JF _ _ _,hnl⟩;rw[OF,show(List.replicate n (Value.slice none 0 0)).getD j undef=.slice none 0 0 by simp[List.getD,hj],show(List.replicate n ([]:List Int)).getD j []=[]by simp[List.getD,hj]];exact Eh _
  have HGb:Hid (NGb w wc n gb nb ob #[.slice a0 n c0,.slice a1 n c1,.slice a2 n c2] (.slice a1 n c1)):=⟨H0.out.bx,H0.out.hg,Q3 H0.out.ho (by omega) hn3⟩
  have HOld:Hid (∀j,j<n->∀W,Below w.heap.size w W->W.cell? ⟨b2,o2+j,none⟩=some (V j)/\Ai W (V j) (g.succ.getD j [])):=fun j hj W hW=>⟨Ah hW (dd2 j hj).1,(dd2 j hj).2.below hW⟩
  have HSet:Hid (∀j,j<n->∀W,Below w.heap.size w W->W.cell? ⟨bS,oS+j,none⟩=some (.bool (set.getD j false))):=fun j hj W hW=>Ah hW (ddS j hj)
  have HTt:Hid (∀j,j<n->∀W,Below w.heap.size w W->W.cell? ⟨bT,oT+j,none⟩=some (.int .i64 (s.getD j 0))):=fun j hj W hW=>Ah hW (ddT j hj)
  have HOw:Hid (∀j,j<n->∀W,Below w.heap.size w W->W.cell? ⟨b0,o0+j,none⟩=some (.int .i64 (g.owner.getD j 0))):=fun j hj W hW=>Ah hW (dd0 j hj)
  have HAD:Hid (0<n->a0=some ⟨b0,o0,none⟩/\a2=some ⟨b2,o2,none⟩/\aS=some ⟨bS,oS,none⟩/\aT=some ⟨bT,oT,none⟩):=fun h=>⟨hd0 h,hd2 h,hdS h,hdT h⟩
  have hBw:w.heap.size<gb:=hgt1;have hBn:w.heap.size<nb:=hgt2;clear hng hno hgo H0 hd0 hd2 hdS hdT dd0 dd2 ddS ddT HR;obtain⟨B,hBe⟩:∃B,B=wc.heap.size:=⟨_,rfl⟩
  have hBl:B<=wc.heap.size:=by omega
  rw[<-hBe]at HNG hgl hnl hol;have HLts:Hid (gb<B/\nb<B/\ob<B):=⟨hgl,hnl,hol⟩;clear hBe hgl hnl hol;go_wp2
  go_loopg [11,26] n (fun gh va i wr=>∃(k:Nat)(vals:List Value),gh=n-k/\i=.int .i64 k/\k<=n/\B<=wr.heap.size/\Hid (NG wr B nb ob n va vals (Dr set k) (BX (D6 g p set s) n k))/\Hid (NGb w wr n gb nb ob #[.slice a0 n c0,.slice a1 n c1,.slice a2 n c2] (.slice a1 n c1)))
  case atStart=>exact⟨0,_,by omega,rfl,by omega,hBl,HNG,HGb⟩
  case round=>
   clear HNG HGb hBl;obtain⟨k,vals,hgk,rfl,hk,hBl,HNG,HGb⟩:=hrel;have HGK:=Ab hgk;clear hgk
   by_cases hlt:k<n
   ·obtain⟨rfl,rfl,rfl,rfl⟩:=HAD.out (by omega);have eS:=HSet.out k hlt _ HGb.out.bx.bl
    cases hq:set.getD k false
    ·have HKN:Hid (Dr set (k+1)=Dr set k/\BX (D6 g p set s) n (k+1)=BX (D6 g p set s) n k):=⟨Po hq,MW _ _ _ (by unfold D6;rw[hq];rfl)⟩;rw[hq]at eS;clear hq;go_wp2
     go_roundg (n-(k+1))
     case measure=>have:=HGK.out;omega
     case rel=>exact⟨k+1,vals,rfl,by go_num,by omega,hBl,by rw[HKN.out.1,HKN.out.2];exact HNG,HGb⟩
    ·have HKA:Hid (Dr set (k+1)=Dr set k++[(k:Int)]):=Rf hq;have hal:(Dr set k).length<=3000:=Nat.le_trans (KN _ _) (by omega);rw[hq]at eS;have HQ:=Ab hq;clear hq;obtain⟨w5,rfl⟩:∃w5:World,w5=wr:=⟨_,rfl⟩
     go_upto_region 8 with(at_builtin;refine DZ rfl _ _ (k:Int) rfl B _ _ HNG.out.a rfl _ (by simp) rfl (by omega) hBl ?_;intro v' w' hown' hg hmv;obtain⟨ao',cap',hv'⟩:=hown'.slice;rw[List.length_append,List.length_singleton]at hv';subst hv';have HN1:=Ab (HNG.out.app hown' hg hmv);have HG1:=Ab hg;clear hown' hg hmv)
     have hb1:=HG1.out.size
     have HGb1:Hid (NGb w w' n gb nb ob #[.slice (some ⟨b0,o0,none⟩) n c0,.slice a1 n c1,.slice (some ⟨b2,o2,none⟩) n c2] (.slice a1 n c1)):=HGb.out.only (Ag.of_grown HG1.out) fun k hk=>by
      have h1:=HNG.out.a.ge k hk;have:=HLts.out;omega
     have hBl1:B<=w'.heap.size:=Nat.le_trans hBl hb1;have eO:=HOw.out k hlt _ HGb1.out.bx.bl;obtain⟨aV,cV,hVv⟩:=(HOld.out k hlt _ HGb1.out.bx.bl).2.shape
     have HOk:Hid (∀W,Below w.heap.size w W->W.cell? ⟨b2,o2+k,none⟩=some (.slice aV (g.succ.getD k []).length cV)/\Ai W (.slice aV (g.succ.getD k []).length cV) (g.succ.getD k [])):=fun W hW=>hVv▸HOld.out k hlt W hW
     have eV:=(HOk.out _ HGb1.out.bx.bl).1;clear hVv;have d0:=HGb1.out.bx.cell 0 rfl;have d2:=HGb1.out.bx.cell 2 rfl;have g1:=Aa 1 HGb1.out.hg;have n0:=HN1.out.cell hlt;have n1:=HN1.out.fz k
     have hki:(k:Int)<n:=by omega
     have hk0:(0:Int)<=k:=by omega
     have HU1:Hid (NG (w'.setCell ⟨nb,k,none⟩ (.slice aV (g.succ.getD k []).length cV)).drew B nb ob n (.slice ao' ((Dr set k).length+1) cap') (vals.set k (.slice aV (g.succ.getD k []).length cV)) (Dr set k++[(k:Int)]) ((BX (D6 g p set s) n k).set k (g.succ.getD k []))):=by
      refine((HN1.out.below (Below.drew Ad)).put (W:=w'.drew) hlt fun W' hW=> ?_);refine(HOk.out W' ?_).2;refine Ag.to_below (HGb1.out.bx.bl.trans ((Below.drew Ad))) hW ?_;rintro q (rfl|h|h|rfl)
      ·omega
      ·have:=HN1.out.a.ge q h;have:=HLts.out;omega
      ·have:w'.heap.size<=q:=h;have:=HLts.out;omega
      ·omega
     have HGb2:Hid (NGb w (w'.setCell ⟨nb,k,none⟩ (.slice aV (g.succ.getD k []).length cV)).drew n gb nb ob #[.slice (some ⟨b0,o0,none⟩) n c0,.slice a1 n c1,.slice (some ⟨b2,o2,none⟩) n c2] (.slice a1 n c1)):=
      (HGb1.out.only (S:=fun q=>q=nb) (Ag.of_below (Below.drew Ad)) (by rintro q rfl;exact⟨HNE.out.1,HNE.out.2.1,hBn⟩)).only (Ag.set nb k (.slice aV (g.succ.getD k []).length cV) rfl) (by rintro q rfl;exact⟨HNE.out.1,HNE.out.2.1,hBn⟩)
     clear eS HNG HG1 HGb hb1 hBl;clear HOk;generalize(Dr set k).length=AL at*;generalize(g.succ.getD k []).length=SL at*
     go_region
     clear eV d0 d2 g1 n0 n1 eO HN1 HGb1
     have hBl2:B<=(w'.setCell ⟨nb,k,none⟩ (.slice aV SL cV)).drew.heap.size:=by simpa using hBl1
     generalize(w'.setCell ⟨nb,k,none⟩ (.slice aV SL cV)).drew=w6 at*;clear hBl1;have d0:=HGb2.out.bx.cell 0 rfl;have eO:=HOw.out k hlt _ HGb2.out.bx.bl;have HOR:Hid ((g.owner.getD k 0=p->D6 g p set s k=[s.getD k 0])/\(¬g.owner.getD k 0=p->D6 g p set s k=g.succ.getD k [])):=⟨fun h=>by unfold D6;rw[HQ.out,if_pos rfl,if_pos h],fun h=>by unfold D6;rw[HQ.out,if_pos rfl,if_neg h]⟩;generalize g.owner.getD k 0=ow at*
     cases ho:(ow==p)
     ·have HKN:Hid ((BX (D6 g p set s) n k).set k (g.succ.getD k [])=BX (D6 g p set s) n (k+1)):=by
       show _=_;rw[<-JH,HOR.out.2 (by simpa using ho)]
      go_wp2
      go_roundg (n-(k+1))
      case measure=>have:=HGK.out;omega
      case rel=>exact⟨k+1,_,rfl,by go_num,by omega,hBl2,by rw[HKA.out,<-HKN.out];exact HU1,HGb2⟩
     ·have HKN:Hid (((BX (D6 g p set s) n k).set k (g.succ.getD k [])).set k [s.getD k 0]=BX (D6 g p set s) n (k+1)):=by
       show _=_;rw[List.set_set,<-JH,HOR.out.1 (by simpa using ho)]
      go_upto_region 10 with(fail)
      clear d0 eO ho;have eT:=HTt.out k hlt _ HGb2.out.bx.bl;have hx64:I64 (s.getD k 0):=HX64.out _ (by rw[Af _ _ _ (by rw[HL2.out];exact hlt)];exact List.getElem_mem _);have g1:=Aa 1 HGb2.out.hg;have n0:=HU1.out.cell hlt;have n1:=HU1.out.fz k;generalize hxe:s.getD k 0=x at*;have HXE:=Ab hxe;clear hxe
      have HU2:Hid (∀W,W=w6.alloc (.cells #[.int .i64 x] 3)->∀u,u=w6.heap.size->NG (W.setCell ⟨nb,k,none⟩ (.slice (some ⟨u,0,none⟩) 1 1)).drew B nb ob n (.slice ao' (AL+1) cap') ((vals.set k (.slice aV SL cV)).set k (.slice (some ⟨u,0,none⟩) 1 1)) (Dr set k++[(k:Int)]) (((BX (D6 g p set s) n k).set k (g.succ.getD k [])).set k [x])):=by
       rintro W rfl u rfl;show NG ((w6.drew.alloc (.cells #[.int .i64 x] 3)).setCell ⟨nb,k,none⟩ _) _ _ _ _ _ _ _ _;have hb:Below w6.heap.size w6 (w6.drew.alloc (.cells #[.int .i64 x] 3)):=(by repeat(first|exact Ad|assumption|(refine AD ?_ _)|(refine AE ?_ _)|(refine Below.drew ?_)))
       refine(HU1.out.below hb).put hlt fun W' hW=>Ai.box1 ?_ hx64
       refine(hW.block _ (by simp) ?_).trans (heap_alloc_new w6.drew _);rintro(h|h|h|h)
       ·have:=HLts.out;omega
       ·have:=HU1.out.a.lt' _ h;omega
       ·simp at h;omega
       ·have:=HLts.out;omega
      have HGb3:Hid (∀W,W=w6.alloc (.cells #[.int .i64 x] 3)->∀u,NGb w (W.setCell ⟨nb,k,none⟩ u).drew n gb nb ob #[.slice (some ⟨b0,o0,none⟩) n c0,.slice a1 n c1,.slice (some ⟨b2,o2,none⟩) n c2] (.slice a1 n c1)):=by
       rintro W rfl u;have hb:Below w6.heap.size w6 (w6.drew.alloc (.cells #[.int .i64 x] 3)):=(by repeat(first|exact Ad|assumption|(refine AD ?_ _)|(refine AE ?_ _)|(refine Below.drew ?_)));exact(HGb2.out.only (S:=fun q=>q=nb) (Ag.of_below hb) (by rintro q rfl;exact⟨HNE.out.1,HNE.out.2.1,hBn⟩)).only (Ag.set nb k u rfl) (by rintro q rfl;exact⟨HNE.out.1,HNE.out.2.1,hBn⟩)
      have hnl6:nb<w6.heap.size:=by have:=HLts.out;omega
      have hb6:Below w6.heap.size w6 (w6.alloc (.cells #[.int .i64 x] 3)):=Ao _;have g1':=Ah hb6 g1;have n0':=Ah hb6 n0;have eT':=Ah hb6 eT;have n1':=(hb6.frozen (p:=⟨nb,k,none⟩) hnl6).trans n1;clear hb6
      go_region
      all_goals trace "two"
      all_goals
       clear eT g1 n0 n1 eT' g1' n0' n1'
       go_wp2_with fail
       go_roundg (n-(k+1))
       case measure=>have:=HGK.out;omega
       case rel=>exact⟨k+1,_,rfl,by go_num,by omega,by simp;omega,by rw[HKA.out,<-HKN.out,<-World.setCell_alloc_past _ _ _ _ hnl6];exact HU2.out _ rfl _ rfl,by rw[<-World.setCell_alloc_past _ _ _ _ hnl6];exact HGb3.out _ rfl _⟩
   ·obtain rfl:k=n:=by omega
    have hal:(Dr set k).length<=3000:=Nat.le_trans (KN _ _) (by omega)
    have HFin:Hid (R6 w k (.slice a1 k c1) g.prio (Dr set k) (BX (D6 g p set s) k k) (.returned (.tuple #[.pointer (some ⟨gb,0,none⟩),u11])) wr):=by
     refine⟨gb,nb,ob,fun j=>vals.getD j undef,u11,rfl,HGb.out.ho,HGb.out.bx.bl,by omega,fun W' hW=> ?_⟩;have hlts:=HLts.out
     have hs:∀q,(q=ob\/wr.heap.size<=q)->w.heap.size<=q:=by rintro q (rfl|h)<;>omega
     have hB':=Ag.to_below HGb.out.bx.bl hW hs;refine⟨⟨(hW.block gb (by omega) (by have:=HNE.out;omega)).trans HGb.out.hg,HLP.out▸HP1.out.below hB',fun j hj=>⟨?_, ?_⟩⟩, ?_⟩
     ·have hoo:=Ax HNG.out.o hW fun q hq hk=>by
       have e:nb=q:=by simpa[Value.ownBlock]using hq
       have:=HNE.out;omega
      rw[World.ownsRow.cellAt hoo j (by omega)]
      have:j<vals.length:=by rw[HNG.out.lv];exact hj
      simp[this]
     ·exact HNG.out.e j hj W' (hW.mono fun q _ hq=>by
       rcases hq with h|h
       ·exact .inr (.inr (.inr h))
       ·exact .inr (.inr (.inl h)))
     ·refine(HNG.out.a.only hW fun q hq hk=> ?_).is (by simp only[Bk];omega) (Pm (by omega));have h1:=HNG.out.a.ge q hq;have h2:=HNG.out.a.lt' q hq;omega
    go_wp2;go_ret2;exact HFin.out
end Go.Proofs.YtncjeamdkjcebaaGreatDoor
