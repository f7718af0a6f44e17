/- Parts without lost plays: what the recursive check decides, in plain terms. -/
import Derived.Test.YtncjeamdkjcebaaDoorZSt10
set_option linter.all false
set_option maxHeartbeats 8000000
set_option maxRecDepth 100000
namespace Go.Proofs.YtncjeamdkjcebaaDoor
def EG(nx:List (List Int))(x y:Nat):Prop:=(y:Int)∈nx.getD x []
def prF(prio:List Int)(v:Nat):Int:=prio.getD v 0
def FL(prio:List Int)(p:Int)(v:Nat):Prop:=prF prio v%2≠p
instance RT(prio:List Int)(p:Int)(v:Nat):Decidable (FL prio p v):=by unfold FL;infer_instance
def Hy:Int:=9223372036854775807
def Cz(prio:List Int)(p:Int)(l:List Nat):Int:=l.foldl (fun m v=>if FL prio p v then min m (prF prio v)else m) Hy
theorem Ic(prio:List Int)(p:Int)(l:List Nat)(v:Nat):Cz prio p (l++[v])=if FL prio p v then min (Cz prio p l) (prF prio v)else Cz prio p l:=by
 unfold Cz;rw[List.foldl_append];rfl
theorem OY{α:Type}{P:List α->Prop}(h0:P [])(h1:∀l a,P l->P (l++[a]))(l:List α):P l:=by
 have:∀r:List α,P r.reverse:=fun r=>by
  induction r with
  |nil=>exact h0
  |cons a r ih=>rw[List.reverse_cons];exact h1 _ _ ih
 have h:=this l.reverse
 rwa [List.reverse_reverse]at h
theorem EI(prio:List Int)(p:Int)(l:List Nat):(∀v∈l,FL prio p v->Cz prio p l<=prF prio v)/\((Cz prio p l=Hy/\∀v∈l,¬FL prio p v)\/∃v∈l,FL prio p v/\(Cz prio p l=prF prio v\/Cz prio p l=Hy))/\Cz prio p l<=Hy:=by
 refine OY (P:=fun l=>(∀v∈l,FL prio p v->Cz prio p l<=prF prio v)/\((Cz prio p l=Hy/\∀v∈l,¬FL prio p v)\/∃v∈l,FL prio p v/\(Cz prio p l=prF prio v\/Cz prio p l=Hy))/\Cz prio p l<=Hy) ?_ ?_ l
 ·exact⟨fun v hv=>absurd hv (by simp),.inl ⟨rfl,fun v hv=>absurd hv (by simp)⟩,Int.le_refl _⟩
 ·intro l v ih;obtain⟨h1,h2,h3⟩:=ih;rw[Ic]
  by_cases hb:FL prio p v
  ·rw[if_pos hb];refine⟨fun x hx hbx=> ?_,.inr ?_,by omega⟩
   ·rcases List.mem_append.1 hx with h|h
    ·have:=h1 x h hbx;omega
    ·rw[List.mem_singleton.1 h];omega
   ·by_cases hm:Cz prio p l<=prF prio v
    ·rcases h2 with⟨h4,h5⟩|⟨y,hy,h4,h5⟩
     ·exact⟨v,by simp,hb,.inr (by omega)⟩
     ·refine⟨y,List.mem_append_left _ hy,h4, ?_⟩
      rcases h5 with e|e
      ·left;omega
      ·right;omega
    ·exact⟨v,by simp,hb,.inl (by omega)⟩
  ·rw[if_neg hb];refine⟨fun x hx hbx=> ?_, ?_,h3⟩
   ·rcases List.mem_append.1 hx with h|h
    ·exact h1 x h hbx
    ·rw[List.mem_singleton.1 h]at hbx;exact absurd hbx hb
   ·rcases h2 with⟨h4,h5⟩|⟨y,hy,h4,h5⟩
    ·refine .inl ⟨h4,fun x hx=> ?_⟩
     rcases List.mem_append.1 hx with h|h
     ·exact h5 x h
     ·rw[List.mem_singleton.1 h];exact hb
    ·exact .inr ⟨y,List.mem_append_left _ hy,h4,h5⟩
def B1(prio:List Int)(m:Int)(l:List Nat):List Nat:=l.filter fun v=>decide (m<=prF prio v)
theorem Lm(prio:List Int)(m:Int)(l:List Nat)(v:Nat):B1 prio m (l++[v])=if m<=prF prio v then B1 prio m l++[v]else B1 prio m l:=by
 unfold B1;rw[List.filter_append]
 by_cases h:m<=prF prio v<;>simp[h]
theorem Gk{prio:List Int}{m:Int}{l:List Nat}{v:Nat}:v∈B1 prio m l↔v∈l/\m<=prF prio v:=by
 unfold B1;rw[List.mem_filter];simp
theorem IG(prio:List Int)(m:Int)(l:List Nat):(B1 prio m l).length<=l.length:=List.length_filter_le _ _
theorem Ll{prio:List Int}{m:Int}{l:List Nat}(h:(B1 prio m l).length=l.length):∀v∈l,m<=prF prio v:=fun v hv=>by
 have:=(List.length_filter_eq_length_iff.1 h) v hv;simpa using this
def Cc(nx:List (List Int))(prio:List Int)(p:Int)(l:List Nat):Prop:=EV (EG nx) (prF prio) (FL prio p) (·∈l)
section
variable {nx:List (List Int)} {prio:List Int} {p:Int}
theorem ME{c:List Nat}(h:B1 prio (Cz prio p c) c=[]):Cc nx prio p c:=fun i hi hb=>by
 exfalso
 have h1:=(EI prio p c).1 i hi hb;have:i∈B1 prio (Cz prio p c) c:=Gk.2 ⟨hi,h1⟩;rw[h]at this;cases this
theorem MF(c:List Nat):Cc nx prio p c↔Cc nx prio p (B1 prio (Cz prio p c) c):=by
 unfold Cc;rw[EV.rest (m:=Cz prio p c) (fun i hi hb=>(EI prio p c).1 i hi hb)]
 have e:(fun x=>x∈c/\Cz prio p c<=prF prio x)=(fun x=>x∈B1 prio (Cz prio p c) c):=funext fun x=>propext Gk.symm
 rw[e]
theorem JK{E:Nat->Nat->Prop}{A C:Nat->Prop}{x z:Nat}(hC:∀y,A y->(C y↔Rch (In E A) x y/\Rch (In E A) y x))(h:Rch (In E A) x z)(hz:Rch (In E A) z x):Rch (In E C) x z:=by
 induction h with
 |refl=>exact Rch.refl _
 |step h e ih=>
  rename_i y z;have hy:Rch (In E A) y x:=(Rch.one e).trans hz;refine(ih hy).step ⟨(hC y e.1).2 ⟨h,hy⟩,(hC z e.2.1).2 ⟨h.step e,hz⟩,e.2.2⟩
theorem MD{A:Nat->Prop}{c:List Nat}(hA:∀x∈c,A x)(hC:∀x∈c,∀y,A y->(y∈c↔Rch (In (EG nx) A) x y/\Rch (In (EG nx) A) y x))(hne:c≠[])(hp:∀x∈c,prF prio x<Hy)(h:∀v∈c,Cz prio p c<=prF prio v):
  Cc nx prio p c↔¬∃x y,x∈c/\y∈c/\EG nx x y:=by
 obtain⟨h1,h2,-⟩:=EI prio p c;obtain⟨x0,hx0⟩:=List.exists_mem_of_ne_nil c hne;have h3:=h x0 hx0;have h4:=hp x0 hx0
 obtain⟨i,hi,hb,he⟩:∃i∈c,FL prio p i/\Cz prio p c=prF prio i:=by
  rcases h2 with⟨h5,-⟩|⟨i,hi,hb,he|he⟩
  ·omega
  ·exact⟨i,hi,hb,he⟩
  ·omega
 refine EV.none (C:=(·∈c)) hi hb (fun x hx=>by have:=h x hx;omega) fun x y hx hy=> ?_
 obtain⟨k1,k2⟩:=(hC x hx y (hA y hy)).1 hy;exact JK (C:=(·∈c)) (hC x hx) k1 k2
theorem M2{E:Nat->Nat->Prop}{x y:Nat}(h:Rch E x y)(hne:x≠y):∃z,E x z:=by
 induction h with
 |refl=>exact absurd rfl hne
 |step h e ih=>
  rename_i z _
  by_cases hx:x=z
  ·subst hx;exact⟨_,e⟩
  ·exact ih hx
theorem N8{A:Nat->Prop}{c:List Nat}(hA:∀x∈c,A x)(hC:∀x∈c,∀y,A y->(y∈c↔Rch (In (EG nx) A) x y/\Rch (In (EG nx) A) y x))(hnd:c.Nodup)(hl:1<c.length):∃x y,x∈c/\y∈c/\EG nx x y:=by
 match c,hl with
 |x::y::r,_=>
  have hxy:x≠y:=fun e=>by
   subst e;simp at hnd
  have hx:x∈x::y::r:=by simp
  have hy:y∈x::y::r:=by simp
  obtain⟨k1,k2⟩:=(hC x hx y (hA y hy)).1 hy;obtain⟨z,hz⟩:=M2 (JK (C:=(·∈x::y::r)) (hC x hx) k1 k2) hxy;exact⟨x,z,hz.1,hz.2.1,hz.2.2⟩
theorem G3{part:List Nat}{cs:List (List Nat)}(h:IT (EP (·∈part) nx) (·∈part) cs):Cc nx prio p part↔∀c∈cs,Cc nx prio p c:=by
 refine⟨fun hg c hc=>EV.sub hg fun x hx=>(h.ne c hc).2.2 x hx,fun hg=> ?_⟩
 refine EV.comps fun C hCA hCe ⟨x,hx⟩=> ?_
 obtain⟨c,hc,hxc⟩:=h.al x (hCA x hx)
 have e:C=(·∈c):=funext fun y=>propext ⟨fun hy=> ?_,fun hy=> ?_⟩
 ·rw[e];exact hg c hc
 ·exact(h.eq c hc x hxc y (hCA y hy)).2 ((hCe x y hx (hCA y hy)).1 hy)
 ·have hyA:=(h.ne c hc).2.2 y hy;exact(hCe x y hx hyA).2 ((h.eq c hc x hxc y hyA).1 hy)
end
end Go.Proofs.YtncjeamdkjcebaaDoor
namespace Go.Proofs.YtncjeamdkjcebaaDoor
open Go.RowKit
structure Ck(w:World)(zr zp zc gb ob:Nat)(p:Int):Prop where
 r:w.heap[zr]? =some (.cells #[.pointer (some ⟨gb,0,none⟩)] 99 (0,0))
 pl:w.heap[zp]? =some (.cells #[.int .i64 p] 3 (0,0))
 c:w.heap[zc]? =some (.cells #[.func (.func 71) #[] #[.pointer (some ⟨zr,0,none⟩),.pointer (some ⟨zp,0,none⟩),.pointer (some ⟨zc,0,none⟩)]] 132 (0,0))
 ne:zr≠ob/\zp≠ob/\zc≠ob
theorem Ck.step{w W:World}{zr zp zc gb ob:Nat}{p:Int}(h:Ck w zr zp zc gb ob p)(ho:Ae (fun k=>k=ob) w W):Ck W zr zp zc gb ob p:=
 ⟨(ho.block _ (Array.getElem?_eq_some_iff.1 h.r).1 h.ne.1).trans h.r,(ho.block _ (Array.getElem?_eq_some_iff.1 h.pl).1 h.ne.2.1).trans h.pl,(ho.block _ (Array.getElem?_eq_some_iff.1 h.c).1 h.ne.2.2).trans h.c,h.ne⟩
structure GXn(n:Nat)(prio:List Int)(nx:List (List Int))(p:Int):Prop where
 n3:n<=3000
 pn:prio.length=n
 pr:∀v,v<n->0<=prio.getD v 0/\prio.getD v 0<=30000
 rg:∀v,v<n->∀x∈nx.getD v [],0<=x/\x<n
 pl:0<=p/\p<=1
theorem GXn.gx{n:Nat}{prio:List Int}{nx:List (List Int)}{p:Int}(h:GXn n prio nx p){A:Nat->Prop}(hA:∀v,A v->v<n):GX n nx A:=⟨h.n3,h.rg,hA⟩
theorem OI.kpO{w:World}{B ob n:Nat}{v:Value}{l:List Nat}(h:OI w B v (AT l))(hb:ob<B)(hl:∀x∈l,x<n)(hn:n<=100000)(hll:l.length<=100000):KpO ob w v (AT l):=fun W hW=>
 (h.only hW fun k hk hh=>by
  have h1:=h.ge k hk;have h2:=h.lt' k hk
  rcases hh with e|e<;>omega).is (by rw[AO];unfold Bg;omega) (EL hl hn)
def KH(w:World)(gb nb ob n:Nat)(V:Nat->Value)(vp:Value)(prio:List Int)(nx:List (List Int))(p:Int)(part:List Nat)(e:Ending)(w':World):Prop:=
 ∃b:Bool,e=.returned (.bool b)/\(b=true↔Cc nx prio p part)/\GS w' gb nb ob n V vp prio nx (List.replicate n false)/\Ae (fun k=>k=ob) w w'
theorem PJ(gb nb ob n:Nat)(V:Nat->Value)(vp:Value)(prio:List Int)(nx:List (List Int))(p:Int)(zr zp zc:Nat)(hx:GXn n prio nx p)(m:Nat):∀(w:World)(vl:Value)(part:List Nat),part.length<m->(∀v∈part,v<n)->part.length<=3000->
  GS w gb nb ob n V vp prio nx (List.replicate n false)->KpO ob w vl (AT part)->Ck w zr zp zc gb ob p->
  Calls Tryd.prog 71 #[vl,.pointer (some ⟨zr,0,none⟩),.pointer (some ⟨zp,0,none⟩),.pointer (some ⟨zc,0,none⟩)] w (KH w gb nb ob n V vp prio nx p part):=by
 induction m with
 |zero=>intro _ _ _ h;exact absurd h (by omega)
 |succ m ih=>
 intro w vl part hm hpn hp3 hS hl hc;have HIH:=Ab ih;have HX:=Ab hx;have HPN:=Ab hpn;have HM:=Ab hm;have hn3:=hx.n3;have HCk:=Ab hc;have HCmp:=Ab (I7 w gb nb ob n V vp vl prio nx part hS hl (hx.gx hpn));obtain⟨aP,cP,hvp⟩:=hS.now.2.1.shape;rw[hx.pn]at hvp;subst hvp;have q1:=Aa 0 hc.r;clear ih hx hpn hS hl hc hm
 go_enter Tryd.func71,Tryd.ntmps71
 go_wp2
 go_step3
 go_wp2
 go_step3
 go_wp2_with fail
 refine HCmp.out.mono ?_;rintro e w1 ⟨aA,cA,bA,U,cs,rfl,hA,hcl,hU,hS1,hO1,hC⟩;have HA:=Ab hA;have HU:=Ab hU;have HS1:=Ab hS1;have HO1:=Ab hO1;have HC:=Ab hC;clear q1 HCmp hA hU hS1 hO1 hC;go_wp2
 go_loopg [18] cs.length (fun gh i wr=>∃k:Nat,gh=cs.length-k/\i=.int .i64 k/\k<=cs.length/\Hid (GS wr gb nb ob n V (.slice aP n cP) prio nx (List.replicate n false))/\Hid (Ae (fun k=>k=ob) w wr)/\Hid (Ae (fun k=>k=ob\/w1.heap.size<=k) w1 wr)/\Hid (∀j,j<k->Cc nx prio p (cs.getD j [])))
 case atStart=>exact⟨0,rfl,rfl,by omega,HS1,HO1,Ae.refl _ _,fun j hj=>absurd hj (by omega)⟩
 case round=>
  clear HS1 HO1;obtain⟨k,hgk,rfl,hk,HSr,HOw,HOr,HGd⟩:=hrel;have HGK:=Ab hgk;clear hgk;obtain⟨wo,rfl⟩:∃wo:World,wo=wr:=⟨_,rfl⟩
  by_cases hlt:k<cs.length
  ·obtain rfl:=HA.out (by omega);obtain⟨eU,iU⟩:=HU.out wo HOr.out k hlt;obtain⟨aC,cC,hvU⟩:=iU.shape;rw[AO]at hvU
   have HUc:Hid (∀W',Ae (fun k=>k=ob\/w1.heap.size<=k) w1 W'->Af W' (.slice aC (cs.getD k []).length cC) (AT (cs.getD k []))):=fun W' hW=>hvU▸(HU.out W' hW k hlt).2
   rw[hvU]at eU
   have hcm:cs.getD k []∈cs:=by rw[Ag _ _ _ hlt];exact List.getElem_mem hlt
   have HCm:=Ab hcm;obtain⟨hc1,hc2,hc3⟩:=HC.out.ne _ hcm
   have hcn:∀v∈cs.getD k [],v<n:=fun v hv=>HPN.out v (hc3 v hv)
   have hcl3:(cs.getD k []).length<=3000:=by
    have:=Ft hc2 hcn;omega
   have hclp:(cs.getD k []).length<=part.length:=List.Nodup.length_le_of_subset hc2 hc3;have HCn:=Ab hcn;have HC1:Hid (cs.getD k []≠[]/\(cs.getD k []).Nodup/\∀x∈cs.getD k [],x∈part):=⟨hc1,hc2,hc3⟩;have HCE:=Ab (HC.out.eq _ hcm)
   have HGs:Hid (∀b,Cc nx prio p (cs.getD k [])->∀j,j<k+1->b=true->Cc nx prio p (cs.getD j [])):=fun b h j hj _=>by
    by_cases e:j=k
    ·rw[e];exact h
    ·exact HGd.out j (by omega)
   clear hcm hc1 hc2 hc3 hcn iU hvU;generalize hce:cs.getD k []=c at*;clear hce;have HCk1:=Ab (HCk.out.step HOw.out);have q1:=Aa 0 HCk1.out.r;have q2:=Aa 0 HCk1.out.pl;have q3:=Aa 0 HSr.out.now.1;have HPr:=Ab HSr.out.now.2.1;have HUo:=Ab (HUc.out wo HOr.out);go_wp2
   go_loopg [8,24] c.length (fun gh b i wi=>∃(j nn:Nat),gh=c.length-j/\i=.int .i64 j/\b=.int .i64 (Cz prio p (c.take j))/\j<=c.length/\wi=wo.drewN nn)
   case atStart=>exact⟨0,0,rfl,rfl,rfl,by omega,rfl⟩
   case round=>
    obtain⟨j,nn,hgj,rfl,rfl,hj,rfl⟩:=hrel;have HGJ:=Ab hgj;clear hgj
    by_cases hjl:j<c.length
    ·obtain⟨bC,oC,had,-,hdt⟩:=HUo.out.dat;obtain rfl:=had (by omega);have ev:=hdt j hjl;rw[Dl hjl]at ev;have hvn:c.getD j 0<n:=HCn.out _ (by rw[Ag _ _ _ hjl];exact List.getElem_mem hjl)
     have HTk:Hid (c.take (j+1)=c.take j++[c.getD j 0]):=by show _=_;rw[List.take_succ_eq_append_getElem hjl,Ag _ _ _ hjl]
     obtain⟨bP,oP,hpd,-,hpt⟩:=HPr.out.dat;obtain rfl:=hpd (by omega);generalize c.getD j 0=v at*;have ep:=hpt v hvn;obtain⟨p0,p1⟩:=HX.out.pr v hvn;have HBS:=Ab (Ic prio p (c.take j) v);have hpv:prF prio v=prio.getD v 0:=rfl;have HPV:=Ab hpv;have HBD:Hid (FL prio p v↔prio.getD v 0%2≠p):=Iff.rfl;clear had hdt hpd hpt hpv;generalize prio.getD v 0=pv at*;generalize Cz prio p (c.take j)=bm at*
     have hvi:(v:Int)<n:=by omega
     have hmd:Int.tmod pv 2=pv%2:=Int.tmod_eq_emod_of_nonneg p0
     cases hb:(pv%2 !=p)
     ·have HBn:Hid (Cz prio p (c.take (j+1))=bm):=by
       show _=_;rw[HTk.out,HBS.out,if_neg fun h=>HBD.out.1 h (by simpa using hb)]
      go_wp2
      go_quiet (fail)
      go_wp2
      go_roundg (c.length-(j+1))
      case measure=>have:=HGJ.out;omega
      case rel=>exact⟨j+1,_,rfl,by go_num,by rw[HBn.out],by omega,rfl⟩
     ·have HBn:Hid (Cz prio p (c.take (j+1))=min bm pv):=by
       show _=_;rw[HTk.out,HBS.out,if_pos (HBD.out.2 (by simpa using hb)),HPV.out]
      go_wp2
      go_quiet (fail)
      go_wp2
      all_goals
       go_roundg (c.length-(j+1))
       case measure=>have:=HGJ.out;omega
       case rel=>exact⟨j+1,_,rfl,by go_num,by rw[HBn.out];congr 1;omega,by omega,rfl⟩
    ·obtain rfl:j=c.length:=by omega
     rw[List.take_length];have hms:=(EI prio p c).2.2
     have HMe:Hid (∀q,Cz prio p c=q->B1 prio q c=B1 prio (Cz prio p c) c):=fun q h=>by rw[h]
     have HGN:Hid ((B1 prio (Cz prio p c) c=[]->Cc nx prio p c)/\(Cc nx prio p c↔Cc nx prio p (B1 prio (Cz prio p c) c))):=⟨ME,MF c⟩
     have HGF:Hid ((∀v∈c,Cz prio p c<=prF prio v)->(Cc nx prio p c↔¬∃x y,x∈c/\y∈c/\EG nx x y)):=fun h=>MD (A:=(·∈part)) HC1.out.2.2 (HCE.out) HC1.out.1 (fun x hx=>by have:=(HX.out.pr x (HCn.out x hx)).2;unfold prF Hy;omega) h
     have HNo:Hid (¬Cc nx prio p c->¬Cc nx prio p part):=fun h k=>h ((G3 HC.out).1 k c HCm.out)
     unfold Hy at hms;clear HMe q1 q2 q3;generalize Cz prio p c=bm at*;go_wp2
     go_loopg [11,50] c.length (fun gh va i wi=>∃j:Nat,gh=c.length-j/\i=.int .i64 j/\j<=c.length/\Hid (OI wi wo.heap.size va (AT (B1 prio bm (c.take j))))/\Hid (Below wo.heap.size wo wi))
     case atStart=>exact⟨0,rfl,rfl,by omega,Bl _ _,Ai _ _ _⟩
     case round=>
      obtain⟨j,hgj,rfl,hj,HOI,HBi⟩:=hrel;have HGJ:=Ab hgj;clear hgj;have hBsz:=HBi.out.size;have hrl:(B1 prio bm (c.take j)).length<=3000:=Nat.le_trans (IG _ _ _) (by rw[List.length_take];omega)
      by_cases hjl:j<c.length
      ·obtain⟨bC,oC,had,-,hdt⟩:=HUo.out.dat;obtain rfl:=had (by omega);have ev:=Aj HBi.out (hdt j hjl);rw[Dl hjl]at ev;have hvn:c.getD j 0<n:=HCn.out _ (by rw[Ag _ _ _ hjl];exact List.getElem_mem hjl)
       have HTk:Hid (c.take (j+1)=c.take j++[c.getD j 0]):=by show _=_;rw[List.take_succ_eq_append_getElem hjl,Ag _ _ _ hjl]
       obtain⟨bP,oP,hpd,-,hpt⟩:=HPr.out.dat;obtain rfl:=hpd (by omega);generalize c.getD j 0=v at*;have ep:=Aj HBi.out (hpt v hvn);obtain⟨p0,p1⟩:=HX.out.pr v hvn;have HRS:=Ab (Lm prio bm (c.take j) v);have hpv:prF prio v=prio.getD v 0:=rfl;have HPV:=Ab hpv;have q1:=Aj HBi.out (Aa 0 HCk1.out.r);have q3:=Aj HBi.out (Aa 0 HSr.out.now.1);clear had hdt hpd hpt hpv;generalize prio.getD v 0=pv at*
       have hvi:(v:Int)<n:=by omega
       by_cases hge:bm<=pv
       ·have HRn:Hid (AT (B1 prio bm (c.take (j+1)))=AT (B1 prio bm (c.take j))++[(v:Int)]):=by
         show _=_;rw[HTk.out,HRS.out,if_pos (by rw[HPV.out];exact hge),Gb];rfl
        have hge1:decide (bm<=pv)=true:=by simpa using hge
        go_wp2_with (at_builtin;refine DD rfl _ _ (v:Int) rfl wo.heap.size _ _ HOI.out rfl _ (by simp) rfl (by rw[AO];omega) hBsz ?_;intro v' w' hown' hg hmv;have HO2:=Ab hown';have HB2:=Ab (HBi.out.grown hg hBsz (fun g h=>HOI.out.ge g h));clear hown' hg hmv)
        go_roundg (c.length-(j+1))
        case measure=>have:=HGJ.out;omega
        case rel=>exact⟨j+1,rfl,by go_num,by omega,by rw[HRn.out];exact HO2,HB2⟩
       ·have HRn:Hid (B1 prio bm (c.take (j+1))=B1 prio bm (c.take j)):=by
         show _=_;rw[HTk.out,HRS.out,if_neg (by rw[HPV.out];exact hge)]
        have hge1:decide (bm<=pv)=false:=by simpa using hge
        go_wp2
        go_roundg (c.length-(j+1))
        case measure=>have:=HGJ.out;omega
        case rel=>exact⟨j+1,rfl,by go_num,by omega,by rw[HRn.out];exact HOI,HBi⟩
      ·obtain rfl:j=c.length:=by omega
       rw[List.take_length]at HOI hrl
       have HRC:Hid (∀x∈B1 prio bm c,x∈c):=fun x hx=>(Gk.1 hx).1
       have HRF:Hid ((B1 prio bm c).length=c.length->∀v∈c,bm<=prF prio v):=fun h=>Ll h
       have hrc:(B1 prio bm c).length<=c.length:=IG _ _ _;obtain⟨aR,cR,hva⟩:=HOI.out.slice;rw[AO]at hva;subst hva;generalize B1 prio bm c=rest at*;have HS2:=Ab (HSr.out.below HBi.out);have HOw2:Hid (Ae (fun k=>k=ob) w wr):=HOw.out.trans (Ae.of_below HBi.out);have HOr2:Hid (Ae (fun k=>k=ob\/w1.heap.size<=k) w1 wr):=HOr.out.trans (Ae.of_below HBi.out);have HCk2:=Ab (HCk.out.step HOw2.out);have hobl:ob<wo.heap.size:=HSr.out.lt;have HKp:Hid (KpO ob wr (.slice aR rest.length cR) (AT rest)):=HOI.out.kpO hobl (fun x hx=>HCn.out x (HRC.out x hx)) (by omega) (by omega)
       by_cases h0:rest.length=0
       ·have HG0:Hid (Cc nx prio p c):=HGN.out.1 (List.eq_nil_of_length_eq_zero h0)
        have h0':((rest.length:Int)==0)=true:=by simp[h0]
        clear h0;go_wp2
        go_roundg (cs.length-(k+1))
        case measure=>have:=HGK.out;omega
        case rel=>exact⟨k+1,rfl,by go_num,by omega,HS2,HOw2,HOr2,fun j hj=>HGs.out true HG0.out j hj rfl⟩
       ·have h0':((rest.length:Int)==0)=false:=by rw[beq_eq_false_iff_ne];omega
        clear h0
        by_cases h1:rest.length<c.length
        ·have h1':decide (rest.length<c.length)=true:=by simpa using h1
         have q4:=Aa 0 HCk2.out.c
         go_wp2_with fail
         refine(HIH.out wr _ rest (by have:=HM.out;omega) (fun x hx=>HCn.out x (HRC.out x hx)) (by omega) HS2.out HKp.out HCk2.out).mono ?_;rintro e w9 ⟨b,rfl,hb,hS9,hO9⟩;have HB:=Ab hb;have HS9:=Ab hS9;have HOw9:Hid (Ae (fun k=>k=ob) w w9):=HOw2.out.trans hO9;have HOr9:Hid (Ae (fun k=>k=ob\/w1.heap.size<=k) w1 w9):=HOr2.out.trans (hO9.mono fun _ _ e=>.inl e);clear hb hS9 hO9 q4
         cases b
         ·have HBad:Hid (¬Cc nx prio p part):=HNo.out fun h=>by have:=HB.out.2 (HGN.out.2.1 h);cases this
          go_wp2
          (try rw[Exit.noGoto_ret])
          go_ret;exact⟨false,rfl,⟨fun h=>absurd h (by simp),fun h=>absurd h HBad.out⟩,HS9.out,HOw9.out⟩
         ·have HG0:Hid (Cc nx prio p c):=HGN.out.2.2 (HB.out.1 rfl);go_wp2
          go_roundg (cs.length-(k+1))
          case measure=>have:=HGK.out;omega
          case rel=>exact⟨k+1,rfl,by go_num,by omega,HS9,HOw9,HOr9,fun j hj=>HGs.out true HG0.out j hj rfl⟩
        ·have h1':decide (rest.length<c.length)=false:=by simpa using h1
         have HG2:=Ab (HGF.out (HRF.out (by omega)));clear h1
         by_cases h2:1<c.length
         ·have h2':decide ((1:Int)<(c.length:Int))=true:=by simp;omega
          have HBad:Hid (¬Cc nx prio p part):=HNo.out fun h=>HG2.out.1 h (N8 (A:=(·∈part)) HC1.out.2.2 HCE.out HC1.out.2.1 h2)
          clear h2;go_wp2
          go_quiet (fail)
          go_wp2
          (try rw[Exit.noGoto_ret])
          go_ret;exact⟨false,rfl,⟨fun h=>absurd h (by simp),fun h=>absurd h HBad.out⟩,HS2.out.below (Ai _ _ _),HOw2.out.trans (Ae.of_below (Ai _ _ _))⟩
         ·have h2':decide ((1:Int)<(c.length:Int))=false:=by simp;omega
          have hcl1:c.length=1:=by
           have:c.length≠0:=fun e=>HC1.out.1 (List.eq_nil_of_length_eq_zero e)
           omega
          have hc0:0<c.length:=by omega
          have hc0':(0:Int)<c.length:=by omega
          obtain⟨bC,oC,had,-,hdt⟩:=(HUo.out.below HBi.out).dat;obtain rfl:=had (by omega);have ev:=hdt 0 hc0;rw[Dl hc0,Nat.add_zero]at ev;have hvn:c.getD 0 0<n:=HCn.out _ (by rw[Ag _ _ _ hc0];exact List.getElem_mem hc0)
          have HSing:Hid (c=[c.getD 0 0]):=by
           show _=_
           match c,hcl1 with
           |[x],_=>rfl
          have q5:=Aa 0 HCk2.out.r;have q6:=Aa 1 HS2.out.now.1;generalize c.getD 0 0=x at*;obtain⟨e7,i7⟩:=HS2.out.now.2.2 x hvn;obtain⟨aV,cV,hvV⟩:=i7.shape;rw[hvV]at e7 i7
          have HCt:Hid (∀n',Calls Tryd.prog 73 #[.slice aV (nx.getD x []).length cV,.int .i64 (x:Int)] (wr.drewN n') (Dt (.bool (decide ((x:Int)∈nx.getD x []))) (wr.drewN n'))):=fun n'=>Fb _ _ _ _ (i7.below (Ai _ _ _))
          have HEx:Hid ((∃a b,a∈c/\b∈c/\EG nx a b)↔(x:Int)∈nx.getD x []):=by
           rw[HSing.out];refine⟨fun⟨a,b,ha,hb,he⟩=> ?_,fun h=>⟨x,x,by simp,by simp,h⟩⟩;rw[List.mem_singleton]at ha hb;subst ha hb;exact he
          have hxi:(x:Int)<n:=by omega
          have hoc:bC=bC:=rfl;clear h2 hcl1 had hdt hvV i7 hoc;generalize(nx.getD x []).length=lx at*
          cases hd:decide ((x:Int)∈nx.getD x [])
          ·have HG0:Hid (Cc nx prio p c):=HG2.out.2 fun h=>of_decide_eq_false hd (HEx.out.1 h)
           rw[hd]at HCt;clear hd;go_wp2
           go_quiet ((go_at_call 73;refine(HCt.out _).mono ?_;rintro e w' ⟨rfl,n,rfl⟩;exact⟨rfl,_,by rw[World.drewN_drewN]⟩))
           go_wp2
           go_roundg (cs.length-(k+1))
           case measure=>have:=HGK.out;omega
           case rel=>exact⟨k+1,rfl,by go_num,by omega,HS2.out.below (Ai _ _ _),HOw2.out.trans (Ae.of_below (Ai _ _ _)),HOr2.out.trans (Ae.of_below (Ai _ _ _)),fun j hj=>HGs.out true HG0.out j hj rfl⟩
          ·have HBad:Hid (¬Cc nx prio p part):=HNo.out fun h=>HG2.out.1 h (HEx.out.2 (of_decide_eq_true hd))
           rw[hd]at HCt;clear hd;go_wp2
           go_quiet ((go_at_call 73;refine(HCt.out _).mono ?_;rintro e w' ⟨rfl,n,rfl⟩;exact⟨rfl,_,by rw[World.drewN_drewN]⟩))
           go_wp2
           (try rw[Exit.noGoto_ret])
           go_ret;exact⟨false,rfl,⟨fun h=>absurd h (by simp),fun h=>absurd h HBad.out⟩,HS2.out.below (Ai _ _ _),HOw2.out.trans (Ae.of_below (Ai _ _ _))⟩
  ·obtain rfl:k=cs.length:=by omega
   have HFin:Hid (Cc nx prio p part):=(G3 HC.out).2 fun c hc=>by
    obtain⟨j,hj,rfl⟩:=List.getElem_of_mem hc;have:=HGd.out j hj;rw[Ag _ _ _ hj]at this;exact this
   go_wp2
   (try rw[Exit.noGoto_ret])
   go_ret;exact⟨true,rfl,⟨fun _=>HFin.out,fun _=>rfl⟩,HSr.out,HOw.out⟩
end Go.Proofs.YtncjeamdkjcebaaDoor
