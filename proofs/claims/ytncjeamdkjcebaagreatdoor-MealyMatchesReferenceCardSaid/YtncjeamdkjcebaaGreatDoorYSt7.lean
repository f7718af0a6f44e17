/- What newGraph makes. -/
import Derived.Test.YtncjeamdkjcebaaGreatDoorYSg23
set_option linter.all false
set_option maxHeartbeats 8000000
set_option maxRecDepth 100000
namespace Go.Proofs.YtncjeamdkjcebaaGreatDoor
open Go.RowKit
def EB(g:Gm)(p:Int)(set:List Bool)(s:List Int)(v:Nat):List Int:=
 if set.getD v false then(if g.owner.getD v 0=p then[s.getD v 0]else g.succ.getD v [])else[]
def B4(f:Nat->List Int)(n k:Nat):List (List Int):=(List.range n).map fun v=>if v<k then f v else[]
def DS(set:List Bool)(k:Nat):List Int:=((List.range k).filter fun v=>set.getD v false).map Int.ofNat
theorem O5(f:Nat->List Int){n k j:Nat}(hj:j<n):(B4 f n k).getD j []=if j<k then f j else[]:=by simp[B4,List.getD,hj]
theorem J8(f:Nat->List Int)(n k:Nat):(B4 f n k).length=n:=by simp[B4]
theorem J9(f:Nat->List Int)(n k:Nat):(B4 f n k).set k (f k)=B4 f n (k+1):=by
 apply List.ext_getElem (by simp[B4])
 intro j h1 h2
 have hj:j<n:=by simpa[B4]using h2
 by_cases h:k=j
 ·subst h;simp[B4]
 ·rw[List.getElem_set_ne h];simp only[B4,List.getElem_map,List.getElem_range]
  by_cases hjk:j<k
  ·rw[if_pos hjk,if_pos (by omega)]
  ·rw[if_neg hjk,if_neg (by omega)]
theorem Nf(f:Nat->List Int)(n k:Nat)(h:f k=[]):B4 f n (k+1)=B4 f n k:=by
 apply List.ext_getElem (by simp[B4])
 intro j h1 h2;simp only[B4,List.getElem_map,List.getElem_range]
 by_cases hj:j=k
 ·subst hj;rw[if_pos (by omega),if_neg (by omega),h]
 ·by_cases hjk:j<k
  ·rw[if_pos (by omega),if_pos hjk]
  ·rw[if_neg (by omega),if_neg hjk]
theorem O7(f:Nat->List Int)(n:Nat):B4 f n 0=List.replicate n []:=by
 apply List.ext_getElem (by simp[B4])
 intro j h1 h2;simp[B4]
theorem RK{set:List Bool}{k:Nat}(h:set.getD k false=true):DS set (k+1)=DS set k++[(k:Int)]:=by
 unfold DS;rw[List.range_succ,List.filter_append,List.filter_cons,h];simp
theorem PT{set:List Bool}{k:Nat}(h:set.getD k false=false):DS set (k+1)=DS set k:=by
 unfold DS;rw[List.range_succ,List.filter_append,List.filter_cons,h];simp
theorem Ld(set:List Bool)(k:Nat):(DS set k).length<=k:=by
 unfold DS;rw[List.length_map];have:=List.length_filter_le (fun v=>set.getD v false) (List.range k);simpa using this
theorem PR{set:List Bool}{k:Nat}{x:Int}:x∈DS set k↔∃v:Nat,x=v/\v<k/\set.getD v false=true:=by
 unfold DS;simp only[List.mem_map,List.mem_filter,List.mem_range]
 constructor
 ·rintro⟨v,⟨h1,h2⟩,rfl⟩;exact⟨v,rfl,h1,h2⟩
 ·rintro⟨v,rfl,h1,h2⟩;exact⟨v,⟨h1,h2⟩,rfl⟩
theorem PQ{set:List Bool}{k:Nat}(hk:k<=100000):∀x∈DS set k,I64 x:=fun x hx=>by
 obtain⟨v,rfl,h,-⟩:=PR.1 hx;unfold I64;omega
theorem Af.of_below{S:Nat->Prop}{w w':World}(h:Below w.heap.size w w'):Af S w w':=⟨h.os,h.tape,h.output,h.size,fun k hk _=>h.block k hk⟩
theorem Af.to_below{S:Nat->Prop}{a w w':World}(hb:Below a.heap.size a w)(h:Af S w w')(hS:∀k,S k->a.heap.size<=k):Below a.heap.size a w':=hb.trans (h.below _ hS hb.size)
theorem Ah.box1{W:World}{h:Nat}{x:Int}(hh:W.heap[h]? =some (.cells #[.int .i64 x] 3 (0,0)))(hx:I64 x):Ah W (.slice (some ⟨h,0,none⟩) 1 1) [x]:=by
 refine⟨⟨_,_,h,0,rfl,Nat.le_refl _,by simp[maxLen],by simp[Bg],(fun h=>by cases h),fun _=>rfl,fun j hj=> ?_⟩,fun y hy=>by rw[List.mem_singleton.1 hy];exact hx⟩
 obtain rfl:j=0:=by simpa using hj
 exact Aa 0 hh
def Rn(nb ob:Nat)(va:Value)(B k:Nat):Prop:=k=nb\/va.ownBlock=some k\/B<=k\/k=ob
structure NG(W:World)(B nb ob n:Nat)(va:Value)(vals:List Value)(al:List Int)(nx:List (List Int)):Prop where
 a:OI W B va al
 o:W.ownsRow 0 26 1 (.slice (some ⟨nb,0,none⟩) n n) n vals
 e:∀j,j<n->∀W',Af (Rn nb ob va W.heap.size) W W'->Ah W' (vals.getD j undef) (nx.getD j [])
 lx:nx.length=n
 lt:nb<B
theorem NG.lv{W:World}{B nb ob n:Nat}{va:Value}{vals:List Value}{al:List Int}{nx:List (List Int)}(h:NG W B nb ob n va vals al nx):vals.length=n:=by
 have:=h.o.1;simpa using this
theorem NG.cell{W:World}{B nb ob n:Nat}{va:Value}{vals:List Value}{al:List Int}{nx:List (List Int)}(h:NG W B nb ob n va vals al nx){j:Nat}(hj:j<n):W.cell? ⟨nb,j,none⟩=some (vals.getD j undef):=by
 rw[World.ownsRow.cellAt h.o j (by omega),List.getD]
 have:j<vals.length:=by rw[h.lv];exact hj
 simp[this]
theorem NG.fz{W:World}{B nb ob n:Nat}{va:Value}{vals:List Value}{al:List Int}{nx:List (List Int)}(h:NG W B nb ob n va vals al nx)(j:Nat):W.frozen? ⟨nb,j,none⟩=false:=World.ownsRow.frozenAt h.o j
theorem NG.app{W W1:World}{B nb ob n:Nat}{va b:Value}{vals:List Value}{al:List Int}{nx:List (List Int)}{x:Int}(h:NG W B nb ob n va vals al nx)(h1:OI W1 B b (al++[x]))(hg:W.grownBy W1 va.ownBlock)(hm:AS W va b):NG W1 B nb ob n b vals (al++[x]) nx:=by
 have c:∀k,va.ownBlock=some k->k≠nb:=fun k hk e=>by have:=h.a.ge k hk;have:=h.lt;omega
 refine⟨h1,World.ownsRow.kept h.o hg (.inr fun e=>c nb e.symm rfl),fun j hj W' hW=>h.e j hj W' ?_,h.lx,h.lt⟩;refine((Af.of_grown hg).mono fun k _ hk=>.inr (.inl hk)).trans (hW.mono fun k _ hk=> ?_)
 rcases hk with hk|hk|hk|hk
 ·exact .inl hk
 ·rcases hm k hk with e|e
  ·exact .inr (.inl e)
  ·exact .inr (.inr (.inl e))
 ·exact .inr (.inr (.inl (Nat.le_trans hg.size hk)))
 ·exact .inr (.inr (.inr hk))
theorem NG.below{W W1:World}{B nb ob n:Nat}{va:Value}{vals:List Value}{al:List Int}{nx:List (List Int)}(h:NG W B nb ob n va vals al nx)(hb:Below W.heap.size W W1):NG W1 B nb ob n va vals al nx:=by
 refine⟨h.a.below hb,World.ownsRow.kept h.o (AW hb) (.inr (by simp[Value.ownBlock])),fun j hj W' hW=>h.e j hj W' ((Af.of_below hb).trans (hW.mono fun k _ hk=> ?_)),h.lx,h.lt⟩
 rcases hk with hk|hk|hk|hk
 ·exact .inl hk
 ·exact .inr (.inl hk)
 ·exact .inr (.inr (.inl (Nat.le_trans hb.size hk)))
 ·exact .inr (.inr (.inr hk))
theorem NG.put{W:World}{B nb ob n:Nat}{va:Value}{vals:List Value}{al:List Int}{nx:List (List Int)}(h:NG W B nb ob n va vals al nx){k:Nat}(hk:k<n){u:Value}{r:List Int}
  (hu:∀W',Af (Rn nb ob va W.heap.size) W W'->Ah W' u r):NG (W.setCell ⟨nb,k,none⟩ u) B nb ob n va (vals.set k u) al (nx.set k r):=by
 have hs:Af (Rn nb ob va W.heap.size) W (W.setCell ⟨nb,k,none⟩ u):=Af.set nb k u (.inl rfl);have d:Af (fun k=>k=nb) W (W.setCell ⟨nb,k,none⟩ u):=Af.set nb k u rfl;refine⟨h.a.only d fun b hb hk=> ?_,(World.ownsRow.stored h.o k u).1,fun j hj W' hW=> ?_,by simp[h.lx],h.lt⟩
 ·have h1:=h.a.ge b hb;have h3:=h.lt;omega
 ·have c:=hs.trans (hW.mono fun k _ hk=>by simpa[Rn]using hk)
  by_cases e:k=j
  ·subst e;rw[AA _ _ _ _ (by rw[h.lv];exact hk),AA _ _ _ _ (by rw[h.lx];exact hk)];exact hu W' c
  ·rw[AJ _ _ _ _ _ e,AJ _ _ _ _ _ e];exact h.e j hj W' c
structure NG0(w W:World)(n gb nb ob:Nat)(cs:Array Value)(vp:Value):Prop where
 bx:AH w W cs
 hg:W.heap[gb]? =some (.cells #[vp,.slice (some ⟨nb,0,none⟩) n n,.slice (some ⟨ob,0,none⟩) n n] 158 (0,0))
 hn:W.heap[nb]? =some (.cells (madeCells #[.slice none 0 0] n) 26 (0,0))
 ho:W.heap[ob]? =some (.cells (madeCells #[.bool false] n) 4 (0,0))
 gt:w.heap.size<gb/\w.heap.size<nb/\w.heap.size<ob
theorem Rs{w:World}{B g n:Nat}(h:w.heap[g]? =some (.cells (madeCells #[.bool false] n) 4 (0,0)))(hb:B<=g)(hn:n<=3000):OB w B (.slice (some ⟨g,0,none⟩) n n) (List.replicate n false):=by
 refine⟨by simp,.inr ⟨g,n,_, ?_,hb,h, ?_,by simp only[maxLen];omega,by simp[size_madeCells], ?_⟩⟩
 ·simp
 ·simp
 ·rw[toList_madeCells_one];simp
structure NGb(w W:World)(n gb nb ob:Nat)(cs:Array Value)(vp:Value):Prop where
 bx:AH w W cs
 hg:W.heap[gb]? =some (.cells #[vp,.slice (some ⟨nb,0,none⟩) n n,.slice (some ⟨ob,0,none⟩) n n] 158 (0,0))
 ho:OB W 0 (.slice (some ⟨ob,0,none⟩) n n) (List.replicate n false)
theorem NGb.only{w W W1:World}{n gb nb ob:Nat}{cs:Array Value}{vp:Value}{S:Nat->Prop}(h:NGb w W n gb nb ob cs vp)(ho:Af S W W1)(hS:∀k,S k->k≠gb/\k≠ob/\w.heap.size<k):NGb w W1 n gb nb ob cs vp:=
 ⟨h.bx.only ho fun k hk=>(hS k hk).2.2,(ho.block gb (Array.getElem?_eq_some_iff.1 h.hg).1 fun k=>(hS _ k).1 rfl).trans h.hg,h.ho.only ho fun k hk hs=>by
  have e:ob=k:=by simpa[Value.ownBlock]using hk
  exact(hS k hs).2.1 e.symm⟩
def GrC(W:World)(gb nb ob n:Nat)(V:Nat->Value)(vp:Value)(prio:List Int)(nx:List (List Int)):Prop:=
 W.heap[gb]? =some (.cells #[vp,.slice (some ⟨nb,0,none⟩) n n,.slice (some ⟨ob,0,none⟩) n n] 158 (0,0))/\Ah W vp prio/\∀j,j<n->W.cell? ⟨nb,j,none⟩=some (V j)/\Ah W (V j) (nx.getD j [])
def SF(w:World)(n:Nat)(vp:Value)(prio al:List Int)(nx:List (List Int))(e:Ending)(w':World):Prop:=
 ∃(gb nb ob:Nat)(V:Nat->Value)(va:Value),e=.returned (.tuple #[.pointer (some ⟨gb,0,none⟩),va])/\OB w' 0 (.slice (some ⟨ob,0,none⟩) n n) (List.replicate n false)/\Below w.heap.size w w'/\w.heap.size<=ob/\
  ∀W',Af (fun k=>k=ob\/w'.heap.size<=k) w' W'->GrC W' gb nb ob n V vp prio nx/\Ah W' va al
theorem MY(w:World)(v0 v1 v2 vs vt:Value)(g:Gm)(p:Int)(set:List Bool)(s:List Int)(hg:Cx w (.agg #[v0,v1,v2]) g)(hs:Bf w vs set)(ht:Ah w vt s)(hv:stB g p set s=true):
  Calls Tryz.prog 87 #[.agg #[v0,v1,v2],.int .i64 p,vs,vt] w (SF w set.length v1 g.prio (DS set set.length) (B4 (EB g p set s) set.length set.length)):=by
 have bk:=hv;simp only[stB,Bool.and_eq_true,decide_eq_true_eq]at bk;obtain⟨⟨⟨⟨hp,bn⟩,l1⟩,l2⟩,b4⟩:=bk;obtain⟨lo,lp,ls⟩:=Es bn;obtain⟨u0,u1,u2,hu,i0,i1,i2⟩:=id hg
 obtain⟨rfl,rfl,rfl⟩:v0=u0/\v1=u1/\v2=u2:=by simpa using hu
 clear hu;have bs:=Ab i1;have HT:=Ab ht;obtain⟨a0,c0,rfl⟩:=i0.shape;obtain⟨a1,c1,rfl⟩:=i1.shape;obtain⟨a2,c2,b2,o2,V,rfl,aq,m2,ad⟩:=i2.data;obtain⟨b0,o0,ap,m0,am⟩:=i0.data;obtain⟨aS,cS,rfl⟩:=hs.shape;obtain⟨aT,cT,rfl⟩:=ht.shape;obtain⟨bS,oS,ar,mS,an⟩:=hs.data;obtain⟨bT,oT,au,mT,ao⟩:=ht.data;clear i0 i1 i2 hs ht hg b4 bn hp hv mS mT m0 m2;obtain⟨n,hn⟩:∃n,n=set.length:=⟨_,rfl⟩;rw[<-hn]at l1 ar an;rw[<-l1]at ap am lo lp ls l2;rw[ls]at aq ad;rw[l2]at au ao;have br:Hid (g.prio.length=n):=lp;rw[<-hn,ls,lp,l2,<-l1];have HN:=Ab hn;have bh:n<=3000:=lo;have a6:Hid (∀x∈s,I64 x):=HT.out.2;have bq:Hid (s.length=n):=l2;clear l1 lp ls l2 lo hn
 have b6:=fun wx=>run_make_row' (P:=Tryz.prog) 31 4 (.bool false) 1 Tryz.underlying31 OE rfl .i64 .i64 n (by omega) (by omega) wx
 have b7:=fun wx=>run_make_row' (P:=Tryz.prog) 23 26 (.slice none 0 0) 24 Tryz.underlying23 D9 rfl .i64 .i64 n (by omega) (by omega) wx
 go_enter Tryz.func87,Tryz.ntmps87
 go_upto_region 1 with(fail)
 go_cut [10] (fun s10 wx=>∃gb nb ob,s10=.pointer (some ⟨gb,0,none⟩)/\Hid (NG0 w wx n gb nb ob #[.slice a0 n c0,.slice a1 n c1,.slice a2 n c2] (.slice a1 n c1)))
 case first=>
  go_region
  all_goals
   go_wp2_with fail
   go_meet
   case rel=>
    refine⟨w.heap.size+1+1+1,_,_,rfl,NG0.mk ⟨?_, ?_⟩ (by rw[CH,Am,if_pos (by simp)]) (by rw[CH];repeat(rw[Am];first|rw[if_pos (by first|simp;done|simp;omega)]|rw[if_neg (by first|simp;done|simp;omega)])) (by rw[CH];repeat(rw[Am];first|rw[if_pos (by first|simp;done|simp;omega)]|rw[if_neg (by first|simp;done|simp;omega)])) ⟨by omega,by omega,by omega⟩⟩
    ·exact(by repeat(first|exact Ad|assumption|(refine AE ?_ _)|(refine AB ?_ _)|(refine Below.drew ?_)))
    ·exact(by rw[CH];repeat(rw[Am];first|rw[if_pos (by first|simp;done|simp;omega)]|rw[if_neg (by first|simp;done|simp;omega)]))
 case rest=>
  obtain⟨gb,nb,ob,rfl,H0⟩:=hcut;clear b6 b7;have av:=(Array.getElem?_eq_some_iff.1 H0.out.hg).1;have af:=(Array.getElem?_eq_some_iff.1 H0.out.hn).1;have aw:=(Array.getElem?_eq_some_iff.1 H0.out.ho).1;obtain⟨be,bf,ca⟩:=H0.out.gt
  have bi:nb≠gb:=fun e=>by
   have:=H0.out.hn;rw[e,H0.out.hg]at this;simp at this
  have bj:nb≠ob:=fun e=>by
   have:=H0.out.hn;rw[e,H0.out.ho]at this;simp at this
  have bd:gb≠ob:=fun e=>by
   have:=H0.out.hg;rw[e,H0.out.ho]at this;simp at this
  have l:Hid (nb≠gb/\nb≠ob/\gb≠ob):=⟨bi,bj,bd⟩;have HR:Hid (Rows wc 0 n nb (List.replicate n (.slice none 0 0)) (List.replicate n [])):=Rows.made H0.out.hn (by omega) bh
  have b:Hid (NG wc wc.heap.size nb ob n (.slice none 0 0) (List.replicate n (.slice none 0 0)) (DS set 0) (B4 (EB g p set s) n 0)):=by
   refine⟨Br _ _,HR.out.o,fun j hj W' _=> ?_,J8 _ _ _,af⟩;rw[O7,show(List.replicate n (Value.slice none 0 0)).getD j undef=.slice none 0 0 by simp[List.getD,hj],show(List.replicate n ([]:List Int)).getD j []=[]by simp[List.getD,hj]];exact Fy _
  have d:Hid (NGb w wc n gb nb ob #[.slice a0 n c0,.slice a1 n c1,.slice a2 n c2] (.slice a1 n c1)):=⟨H0.out.bx,H0.out.hg,Rs H0.out.ho (by omega) bh⟩
  have ag:Hid (∀j,j<n->∀W,Below w.heap.size w W->W.cell? ⟨b2,o2+j,none⟩=some (V j)/\Ah W (V j) (g.succ.getD j [])):=fun j hj W hW=>⟨Ag hW (ad j hj).1,(ad j hj).2.below hW⟩
  have a5:Hid (∀j,j<n->∀W,Below w.heap.size w W->W.cell? ⟨bS,oS+j,none⟩=some (.bool (set.getD j false))):=fun j hj W hW=>Ag hW (an j hj)
  have bu:Hid (∀j,j<n->∀W,Below w.heap.size w W->W.cell? ⟨bT,oT+j,none⟩=some (.int .i64 (s.getD j 0))):=fun j hj W hW=>Ag hW (ao j hj)
  have a4:Hid (∀j,j<n->∀W,Below w.heap.size w W->W.cell? ⟨b0,o0+j,none⟩=some (.int .i64 (g.owner.getD j 0))):=fun j hj W hW=>Ag hW (am j hj)
  have bp:Hid (0<n->a0=some ⟨b0,o0,none⟩/\a2=some ⟨b2,o2,none⟩/\aS=some ⟨bS,oS,none⟩/\aT=some ⟨bT,oT,none⟩):=fun h=>⟨ap h,aq h,ar h,au h⟩
  have cd:w.heap.size<gb:=be;have ae:w.heap.size<nb:=bf;clear bi bj bd H0 ap aq ar au am ad an ao HR;obtain⟨B,a8⟩:∃B,B=wc.heap.size:=⟨_,rfl⟩
  have r:B<=wc.heap.size:=by omega
  rw[<-a8]at b av af aw;have f:Hid (gb<B/\nb<B/\ob<B):=⟨av,af,aw⟩;clear a8 av af aw;go_wp2
  go_loopg [11,26] n (fun gh va i wr=>∃(k:Nat)(vals:List Value),gh=n-k/\i=.int .i64 k/\k<=n/\B<=wr.heap.size/\Hid (NG wr B nb ob n va vals (DS set k) (B4 (EB g p set s) n k))/\Hid (NGb w wr n gb nb ob #[.slice a0 n c0,.slice a1 n c1,.slice a2 n c2] (.slice a1 n c1)))
  case atStart=>exact⟨0,_,by omega,rfl,by omega,r,b,d⟩
  case round=>
   clear b d r;obtain⟨k,vals,bc,rfl,hk,r,b,d⟩:=hrel;have ak:=Ab bc;clear bc
   by_cases hlt:k<n
   ·obtain⟨rfl,rfl,rfl,rfl⟩:=bp.out (by omega);have eS:=a5.out k hlt _ d.out.bx.bl
    cases hq:set.getD k false
    ·have y:Hid (DS set (k+1)=DS set k/\B4 (EB g p set s) n (k+1)=B4 (EB g p set s) n k):=⟨PT hq,Nf _ _ _ (by unfold EB;rw[hq];rfl)⟩;rw[hq]at eS;clear hq;go_wp2
     go_roundg (n-(k+1))
     case measure=>have:=ak.out;omega
     case rel=>exact⟨k+1,vals,rfl,by go_num,by omega,r,by rw[y.out.1,y.out.2];exact b,d⟩
    ·have az:Hid (DS set (k+1)=DS set k++[(k:Int)]):=RK hq;have b3:(DS set k).length<=3000:=Nat.le_trans (Ld _ _) (by omega);rw[hq]at eS;have HQ:=Ab hq;clear hq;obtain⟨w5,rfl⟩:∃w5:World,w5=wr:=⟨_,rfl⟩
     go_upto_region 8 with(at_builtin;refine C8 rfl _ _ (k:Int) rfl B _ _ b.out.a rfl _ (by simp) rfl (by omega) r ?_;intro v' w' v hg bg;obtain⟨a7,ah,bm⟩:=v.slice;rw[List.length_append,List.length_singleton]at bm;subst bm;have z:=Ab (b.out.app v hg bg);have aj:=Ab hg;clear v hg bg)
     have bb:=aj.out.size
     have c:Hid (NGb w w' n gb nb ob #[.slice (some ⟨b0,o0,none⟩) n c0,.slice a1 n c1,.slice (some ⟨b2,o2,none⟩) n c2] (.slice a1 n c1)):=d.out.only (Af.of_grown aj.out) fun k hk=>by
      have h1:=b.out.a.ge k hk;have:=f.out;omega
     have ai:B<=w'.heap.size:=Nat.le_trans r bb;have eO:=a4.out k hlt _ c.out.bx.bl;obtain⟨aV,cV,ba⟩:=(ag.out k hlt _ c.out.bx.bl).2.shape
     have al:Hid (∀W,Below w.heap.size w W->W.cell? ⟨b2,o2+k,none⟩=some (.slice aV (g.succ.getD k []).length cV)/\Ah W (.slice aV (g.succ.getD k []).length cV) (g.succ.getD k [])):=fun W hW=>ba▸ag.out k hlt W hW
     have eV:=(al.out _ c.out.bx.bl).1;clear ba;have d0:=c.out.bx.cell 0 rfl;have d2:=c.out.bx.cell 2 rfl;have g1:=Aa 1 c.out.hg;have n0:=z.out.cell hlt;have n1:=z.out.fz k
     have cf:(k:Int)<n:=by omega
     have ce:(0:Int)<=k:=by omega
     have aa:Hid (NG (w'.setCell ⟨nb,k,none⟩ (.slice aV (g.succ.getD k []).length cV)).drew B nb ob n (.slice a7 ((DS set k).length+1) ah) (vals.set k (.slice aV (g.succ.getD k []).length cV)) (DS set k++[(k:Int)]) ((B4 (EB g p set s) n k).set k (g.succ.getD k []))):=by
      refine((z.out.below (Below.drew Ad)).put (W:=w'.drew) hlt fun W' hW=> ?_);refine(al.out W' ?_).2;refine Af.to_below (c.out.bx.bl.trans ((Below.drew Ad))) hW ?_;rintro q (rfl|h|h|rfl)
      ·omega
      ·have:=z.out.a.ge q h;have:=f.out;omega
      ·have:w'.heap.size<=q:=h;have:=f.out;omega
      ·omega
     have m:Hid (NGb w (w'.setCell ⟨nb,k,none⟩ (.slice aV (g.succ.getD k []).length cV)).drew n gb nb ob #[.slice (some ⟨b0,o0,none⟩) n c0,.slice a1 n c1,.slice (some ⟨b2,o2,none⟩) n c2] (.slice a1 n c1)):=
      (c.out.only (S:=fun q=>q=nb) (Af.of_below (Below.drew Ad)) (by rintro q rfl;exact⟨l.out.1,l.out.2.1,ae⟩)).only (Af.set nb k (.slice aV (g.succ.getD k []).length cV) rfl) (by rintro q rfl;exact⟨l.out.1,l.out.2.1,ae⟩)
     clear eS b aj d bb r;clear al;generalize(DS set k).length=AL at*;generalize(g.succ.getD k []).length=SL at*
     go_region
     clear eV d0 d2 g1 n0 n1 eO z c
     have a9:B<=(w'.setCell ⟨nb,k,none⟩ (.slice aV SL cV)).drew.heap.size:=by simpa using ai
     generalize(w'.setCell ⟨nb,k,none⟩ (.slice aV SL cV)).drew=w6 at*;clear ai;have d0:=m.out.bx.cell 0 rfl;have eO:=a4.out k hlt _ m.out.bx.bl;have a3:Hid ((g.owner.getD k 0=p->EB g p set s k=[s.getD k 0])/\(¬g.owner.getD k 0=p->EB g p set s k=g.succ.getD k [])):=⟨fun h=>by unfold EB;rw[HQ.out,if_pos rfl,if_pos h],fun h=>by unfold EB;rw[HQ.out,if_pos rfl,if_neg h]⟩;generalize g.owner.getD k 0=ow at*
     cases ho:(ow==p)
     ·have y:Hid ((B4 (EB g p set s) n k).set k (g.succ.getD k [])=B4 (EB g p set s) n (k+1)):=by
       show _=_;rw[<-J9,a3.out.2 (by simpa using ho)]
      go_wp2
      go_roundg (n-(k+1))
      case measure=>have:=ak.out;omega
      case rel=>exact⟨k+1,_,rfl,by go_num,by omega,a9,by rw[az.out,<-y.out];exact aa,m⟩
     ·have y:Hid (((B4 (EB g p set s) n k).set k (g.succ.getD k [])).set k [s.getD k 0]=B4 (EB g p set s) n (k+1)):=by
       show _=_;rw[List.set_set,<-J9,a3.out.1 (by simpa using ho)]
      go_upto_region 10 with(fail)
      clear d0 eO ho;have eT:=bu.out k hlt _ m.out.bx.bl;have bo:I64 (s.getD k 0):=a6.out _ (by rw[Ae _ _ _ (by rw[bq.out];exact hlt)];exact List.getElem_mem _);have g1:=Aa 1 m.out.hg;have n0:=aa.out.cell hlt;have n1:=aa.out.fz k;generalize hxe:s.getD k 0=x at*;have cc:=Ab hxe;clear hxe
      have bv:Hid (∀W,W=w6.alloc (.cells #[.int .i64 x] 3)->∀u,u=w6.heap.size->NG (W.setCell ⟨nb,k,none⟩ (.slice (some ⟨u,0,none⟩) 1 1)).drew B nb ob n (.slice a7 (AL+1) ah) ((vals.set k (.slice aV SL cV)).set k (.slice (some ⟨u,0,none⟩) 1 1)) (DS set k++[(k:Int)]) (((B4 (EB g p set s) n k).set k (g.succ.getD k [])).set k [x])):=by
       rintro W rfl u rfl;show NG ((w6.drew.alloc (.cells #[.int .i64 x] 3)).setCell ⟨nb,k,none⟩ _) _ _ _ _ _ _ _ _;have hb:Below w6.heap.size w6 (w6.drew.alloc (.cells #[.int .i64 x] 3)):=(by repeat(first|exact Ad|assumption|(refine AE ?_ _)|(refine AB ?_ _)|(refine Below.drew ?_)))
       refine(aa.out.below hb).put hlt fun W' hW=>Ah.box1 ?_ bo
       refine(hW.block _ (by simp) ?_).trans (heap_alloc_new w6.drew _);rintro(h|h|h|h)
       ·have:=f.out;omega
       ·have:=aa.out.a.lt' _ h;omega
       ·simp at h;omega
       ·have:=f.out;omega
      have ay:Hid (∀W,W=w6.alloc (.cells #[.int .i64 x] 3)->∀u,NGb w (W.setCell ⟨nb,k,none⟩ u).drew n gb nb ob #[.slice (some ⟨b0,o0,none⟩) n c0,.slice a1 n c1,.slice (some ⟨b2,o2,none⟩) n c2] (.slice a1 n c1)):=by
       rintro W rfl u;have hb:Below w6.heap.size w6 (w6.drew.alloc (.cells #[.int .i64 x] 3)):=(by repeat(first|exact Ad|assumption|(refine AE ?_ _)|(refine AB ?_ _)|(refine Below.drew ?_)));exact(m.out.only (S:=fun q=>q=nb) (Af.of_below hb) (by rintro q rfl;exact⟨l.out.1,l.out.2.1,ae⟩)).only (Af.set nb k u rfl) (by rintro q rfl;exact⟨l.out.1,l.out.2.1,ae⟩)
      have ac:nb<w6.heap.size:=by have:=f.out;omega
      have ab:Below w6.heap.size w6 (w6.alloc (.cells #[.int .i64 x] 3)):=Ao _;have bz:=Ag ab g1;have b8:=Ag ab n0;have bw:=Ag ab eT;have b9:=(ab.frozen (p:=⟨nb,k,none⟩) ac).trans n1;clear ab
      go_region
      all_goals trace "two"
      all_goals
       clear eT g1 n0 n1 bw bz b8 b9
       go_wp2_with fail
       go_roundg (n-(k+1))
       case measure=>have:=ak.out;omega
       case rel=>exact⟨k+1,_,rfl,by go_num,by omega,by simp;omega,by rw[az.out,<-y.out,<-World.setCell_alloc_past _ _ _ _ ac];exact bv.out _ rfl _ rfl,by rw[<-World.setCell_alloc_past _ _ _ _ ac];exact ay.out _ rfl _⟩
   ·obtain rfl:k=n:=by omega
    have b3:(DS set k).length<=3000:=Nat.le_trans (Ld _ _) (by omega)
    have ax:Hid (SF w k (.slice a1 k c1) g.prio (DS set k) (B4 (EB g p set s) k k) (.returned (.tuple #[.pointer (some ⟨gb,0,none⟩),u11])) wr):=by
     refine⟨gb,nb,ob,fun j=>vals.getD j undef,u11,rfl,d.out.ho,d.out.bx.bl,by omega,fun W' hW=> ?_⟩;have cb:=f.out
     have hs:∀q,(q=ob\/wr.heap.size<=q)->w.heap.size<=q:=by rintro q (rfl|h)<;>omega
     have b1:=Af.to_below d.out.bx.bl hW hs;refine⟨⟨(hW.block gb (by omega) (by have:=l.out;omega)).trans d.out.hg,br.out▸bs.out.below b1,fun j hj=>⟨?_, ?_⟩⟩, ?_⟩
     ·have b5:=Ax b.out.o hW fun q hq hk=>by
       have e:nb=q:=by simpa[Value.ownBlock]using hq
       have:=l.out;omega
      rw[World.ownsRow.cellAt b5 j (by omega)]
      have:j<vals.length:=by rw[b.out.lv];exact hj
      simp[this]
     ·exact b.out.e j hj W' (hW.mono fun q _ hq=>by
       rcases hq with h|h
       ·exact .inr (.inr (.inr h))
       ·exact .inr (.inr (.inl h)))
     ·refine(b.out.a.only hW fun q hq hk=> ?_).is (by simp only[Bg];omega) (PQ (by omega));have h1:=b.out.a.ge q hq;have h2:=b.out.a.lt' q hq;omega
    go_wp2;go_ret2;exact ax.out
theorem Af.chain{S T:Nat->Prop}{a b c:World}(h:Af S a b)(k:Af T b c)(hs:∀q,q<a.heap.size->T q->S q):Af S a c:=
 ⟨k.os.trans h.os,k.tape.trans h.tape,k.output.trans h.output,Nat.le_trans h.size k.size,fun i hi hn=>(k.block i (Nat.lt_of_lt_of_le hi h.size) fun e=>hn (hs i hi e)).trans (h.block i hi hn)⟩
structure KR(S:Nat->Prop)(W:World)(vals:List Value)(rows:List (List Int)):Prop where
 ln:vals.length=rows.length
 at':∀j,j<rows.length->∀W',Af S W W'->Ah W' (vals.getD j undef) (rows.getD j [])
section
variable {S S1:Nat->Prop} {W W1:World} {vals:List Value} {rows:List (List Int)}
theorem KR.nil(S:Nat->Prop)(W:World):KR S W [] []:=⟨rfl,fun j h=>absurd h (by simp)⟩
theorem KR.move(h:KR S W vals rows)(ho:Af S W W1)(hs:∀q,q<W.heap.size->S1 q->S q):KR S1 W1 vals rows:=
 ⟨h.ln,fun j hj W' hW=>h.at' j hj W' (ho.chain hW hs)⟩
theorem KR.add{y:Value}{row:List Int}(h:KR S W vals rows)(hy:∀W',Af S W W'->Ah W' y row):KR S W (vals++[y]) (rows++[row]):=by
 have hl:=h.ln;refine⟨by simp[hl],fun j hj W' hW=> ?_⟩
 by_cases e:j<rows.length
 ·have h1:=h.at' j e W' hW
  rwa [show(vals++[y]).getD j undef=vals.getD j undef by simp[List.getD,List.getElem?_append_left (show j<vals.length by omega)],show(rows++[row]).getD j []=rows.getD j []by simp[List.getD,List.getElem?_append_left e]]
 ·obtain rfl:j=rows.length:=by simp at hj;omega
  rw[show(vals++[y]).getD rows.length undef=y by rw[<-hl];simp[List.getD],show(rows++[row]).getD rows.length []=row by simp[List.getD]];exact hy W' hW
theorem KR.is{B:Nat}{v:Value}(h:KR S W vals rows)(ho:W.ownsRow B 26 1 v rows.length vals)(hn:rows.length<=100000):Ar W v rows:=by
 refine⟨fun j=>vals.getD j undef,Ct ho (by unfold Bg;omega) _ fun j hj=> ?_,fun j hj=>h.at' j hj W (Af.refl _ _)⟩
 have:j<vals.length:=by rw[h.ln];exact hj
 rw[Ae _ _ _ this];simp[this]
end
def Dx(z:Nat)(vN vP:Value)(X:Nat->Prop)(q:Nat):Prop:=q=z\/vN.ownBlock=some q\/vP.ownBlock=some q\/X q
structure AM(W:World)(B z:Nat)(L O st:Int)(vN vP:Value)(nv pv:List Value)(nx pr:List (List Int))(X:Nat->Prop):Prop where
 box:W.heap[z]? =some (.cells #[.int .i64 L,.int .i64 O,.int .i64 st,vN,vP] 25 (0,0))
 zB:B<=z
 oN:W.ownsRow B 26 1 vN nx.length nv
 oP:W.ownsRow B 26 1 vP pr.length pv
 ap:(∀q,vN.ownBlock=some q->vP.ownBlock≠some q)/\vN.ownBlock≠some z/\vP.ownBlock≠some z
 xz:∀q,X q->q<W.heap.size/\q≠z/\vN.ownBlock≠some q/\vP.ownBlock≠some q
 kN:KR (Dx z vN vP X) W nv nx
 kP:KR (Dx z vN vP X) W pv pr
section
variable {W W1 w':World} {B z:Nat} {L O st:Int} {vN vP v' y:Value} {nv pv:List Value} {nx pr:List (List Int)} {X X1:Nat->Prop} {row:List Int}
theorem AM.zlt(h:AM W B z L O st vN vP nv pv nx pr X):z<W.heap.size:=(Array.getElem?_eq_some_iff.1 h.box).1
theorem AM.Nlt(h:AM W B z L O st vN vP nv pv nx pr X):∀q,vN.ownBlock=some q->B<=q/\q<W.heap.size:=fun q e=>World.ownsRow.lt h.oN q e
theorem AM.Plt(h:AM W B z L O st vN vP nv pv nx pr X):∀q,vP.ownBlock=some q->B<=q/\q<W.heap.size:=fun q e=>World.ownsRow.lt h.oP q e
theorem AM.hlt(h:AM W B z L O st vN vP nv pv nx pr X):∀q,Dx z vN vP X q->q<W.heap.size:=by
 rintro q (e|e|e|e)
 ·rw[e];exact h.zlt
 ·exact(h.Nlt q e).2
 ·exact(h.Plt q e).2
 ·exact(h.xz q e).1
theorem AM.other(h:AM W B z L O st vN vP nv pv nx pr X)(ho:Af X W W1)(hs:∀q,q<W.heap.size->X1 q->X q)(hx:∀q,X1 q->q<W1.heap.size):AM W1 B z L O st vN vP nv pv nx pr X1:=by
 have a:Af (Dx z vN vP X) W W1:=ho.mono fun q _ e=>.inr (.inr (.inr e))
 have b:∀q,q<W.heap.size->Dx z vN vP X1 q->Dx z vN vP X q:=by
  rintro q hq (e|e|e|e)
  ·exact .inl e
  ·exact .inr (.inl e)
  ·exact .inr (.inr (.inl e))
  ·exact .inr (.inr (.inr (hs q hq e)))
 refine⟨(ho.block z h.zlt fun e=>(h.xz z e).2.1 rfl).trans h.box,h.zB,Ax h.oN ho fun q e k=>(h.xz q k).2.2.1 e,Ax h.oP ho fun q e k=>(h.xz q k).2.2.2 e,h.ap,fun q e=>⟨hx q e, ?_⟩,h.kN.move a b,h.kP.move a b⟩
 by_cases hq:q<W.heap.size
 ·exact(h.xz q (hs q hq e)).2
 ·exact⟨fun k=>by have:=h.zlt;omega,fun k=>by have:=(h.Nlt q k).2;omega,fun k=>by have:=(h.Plt q k).2;omega⟩
theorem AM.below(h:AM W B z L O st vN vP nv pv nx pr X)(hb:Below W.heap.size W W1):AM W1 B z L O st vN vP nv pv nx pr X:=h.other (Af.of_below hb) (fun _ _ e=>e) fun q e=>Nat.lt_of_lt_of_le (h.xz q e).1 hb.size
theorem AM.fresh{C:Nat}(_h:AM W B z L O st vN vP nv pv nx pr X)(ho:OI W C y row)(hC:∀q,y.ownBlock=some q->¬Dx z vN vP X q)(hn:row.length<=100000)(hr:∀x∈row,I64 x):∀W',Af (Dx z vN vP X) W W'->Ah W' y row:=fun _ hW=>
 (ho.only hW hC).is (by unfold Bg;omega) hr
theorem AM.appN(h:AM W B z L O st vN vP nv pv nx pr X)(hy:∀W',Af (Dx z vN vP X) W W'->Ah W' y row)
  (ho:w'.ownsRow B 26 1 v' (nx.length+1) (nv++[y])) (hg:W.grownBy w' vN.ownBlock) (hm:AS W vN v'):
  w'.heap[z]? =some (.cells #[.int .i64 L,.int .i64 O,.int .i64 st,vN,vP] 25 (0,0))/\AM (w'.setCell ⟨z,3,none⟩ v') B z L O st v' vP (nv++[y]) pv (nx++[row]) pr X/\Af (fun q=>q=z\/vN.ownBlock=some q) W (w'.setCell ⟨z,3,none⟩ v')/\Below B W (w'.setCell ⟨z,3,none⟩ v'):=by
 have a:=Af.of_grown hg;have b:=(a.block z h.zlt h.ap.2.1).trans h.box;have hz:=h.zlt
 have i:Af (Dx z vN vP X) W w':=a.mono fun q _ e=>.inr (.inl e)
 have c:Af (Dx z vN vP X) W (w'.setCell ⟨z,3,none⟩ v'):=i.trans (Af.set _ _ _ (.inl rfl))
 have f:v'.ownBlock≠some z:=fun e=>(hm z e).elim (fun k=>h.ap.2.1 k) fun k=>by omega
 have hS:Af (fun q=>q=z) w' (w'.setCell ⟨z,3,none⟩ v'):=Af.set _ _ _ rfl;have j:Af (fun q=>q=z\/vN.ownBlock=some q) W (w'.setCell ⟨z,3,none⟩ v'):=(a.mono fun q _ e=>.inr e).trans (Af.set _ _ _ (.inl rfl));have d:Below B W (w'.setCell ⟨z,3,none⟩ v'):=((a.mono (T:=fun q=>B<=q) fun q _ e=>(h.Nlt q e).1).trans (Af.set _ _ _ h.zB)).below B (fun _ e=>e) (by have:=h.zB;omega)
 have hs:∀q,q<W.heap.size->Dx z v' vP X q->Dx z vN vP X q:=by
  rintro q hq (e|e|e|e)
  ·exact .inl e
  ·exact(hm q e).elim (fun k=>.inr (.inl k)) fun k=>by omega
  ·exact .inr (.inr (.inl e))
  ·exact .inr (.inr (.inr e))
 refine⟨b,⟨?_,h.zB, ?_, ?_,⟨fun q e k=> ?_,f,h.ap.2.2⟩,fun q e=>⟨Nat.lt_of_lt_of_le (h.xz q e).1 c.size,(h.xz q e).2.1,fun k=> ?_,(h.xz q e).2.2.2⟩,(h.kN.add hy).move c hs,h.kP.move c hs⟩,j,d⟩
 ·exact heap_setCell_same _ _ 3 _ _ _ b
 ·rw[List.length_append,List.length_singleton]
  exact Ax ho hS fun q e k=>f (by rw[e,k])
 ·exact Ax (Ax h.oP a fun q e k=>h.ap.1 q k e) hS fun q e k=>h.ap.2.2 (by rw[e,k])
 ·exact(hm q e).elim (fun e=>h.ap.1 q e k) fun e=>by have:=(h.Plt q k).2;omega
 ·exact(hm q k).elim (fun k=>(h.xz q e).2.2.1 k) fun k=>by have:=(h.xz q e).1;omega
theorem AM.appP(h:AM W B z L O st vN vP nv pv nx pr X)(hy:∀W',Af (Dx z vN vP X) W W'->Ah W' y row)
  (ho:w'.ownsRow B 26 1 v' (pr.length+1) (pv++[y])) (hg:W.grownBy w' vP.ownBlock) (hm:AS W vP v'):
  w'.heap[z]? =some (.cells #[.int .i64 L,.int .i64 O,.int .i64 st,vN,vP] 25 (0,0))/\AM (w'.setCell ⟨z,4,none⟩ v') B z L O st vN v' nv (pv++[y]) nx (pr++[row]) X/\Af (fun q=>q=z\/vP.ownBlock=some q) W (w'.setCell ⟨z,4,none⟩ v')/\Below B W (w'.setCell ⟨z,4,none⟩ v'):=by
 have a:=Af.of_grown hg;have b:=(a.block z h.zlt h.ap.2.2).trans h.box;have hz:=h.zlt
 have i:Af (Dx z vN vP X) W w':=a.mono fun q _ e=>.inr (.inr (.inl e))
 have c:Af (Dx z vN vP X) W (w'.setCell ⟨z,4,none⟩ v'):=i.trans (Af.set _ _ _ (.inl rfl))
 have f:v'.ownBlock≠some z:=fun e=>(hm z e).elim (fun k=>h.ap.2.2 k) fun k=>by omega
 have hS:Af (fun q=>q=z) w' (w'.setCell ⟨z,4,none⟩ v'):=Af.set _ _ _ rfl;have j:Af (fun q=>q=z\/vP.ownBlock=some q) W (w'.setCell ⟨z,4,none⟩ v'):=(a.mono fun q _ e=>.inr e).trans (Af.set _ _ _ (.inl rfl));have d:Below B W (w'.setCell ⟨z,4,none⟩ v'):=((a.mono (T:=fun q=>B<=q) fun q _ e=>(h.Plt q e).1).trans (Af.set _ _ _ h.zB)).below B (fun _ e=>e) (by have:=h.zB;omega)
 have hs:∀q,q<W.heap.size->Dx z vN v' X q->Dx z vN vP X q:=by
  rintro q hq (e|e|e|e)
  ·exact .inl e
  ·exact .inr (.inl e)
  ·exact(hm q e).elim (fun k=>.inr (.inr (.inl k))) fun k=>by omega
  ·exact .inr (.inr (.inr e))
 refine⟨b,⟨?_,h.zB, ?_, ?_,⟨fun q e k=> ?_,h.ap.2.1,f⟩,fun q e=>⟨Nat.lt_of_lt_of_le (h.xz q e).1 c.size,(h.xz q e).2.1,(h.xz q e).2.2.1,fun k=> ?_⟩,h.kN.move c hs,(h.kP.add hy).move c hs⟩,j,d⟩
 ·exact heap_setCell_same _ _ 4 _ _ _ b
 ·exact Ax (Ax h.oN a fun q e k=>h.ap.1 q e k) hS fun q e k=>h.ap.2.1 (by rw[e,k])
 ·rw[List.length_append,List.length_singleton]
  exact Ax ho hS fun q e k=>f (by rw[e,k])
 ·exact(hm q k).elim (fun k=>h.ap.1 q e k) fun k=>by have:=(h.Nlt q e).2;omega
 ·exact(hm q k).elim (fun k=>(h.xz q e).2.2.2 k) fun k=>by have:=(h.xz q e).1;omega
theorem AM.is(h:AM W B z L O st vN vP nv pv nx pr X)(hL:I64 L)(hO:I64 O)(hs:I64 st)(hn:nx.length<=100000)(hp:pr.length<=100000):BB W (.agg #[.int .i64 L,.int .i64 O,.int .i64 st,vN,vP]) ⟨L,O,st,nx,pr⟩:=
 ⟨vN,vP,rfl,⟨hL,hO,hs⟩,h.kN.is h.oN hn,h.kP.is h.oP hp⟩
theorem AM.of(h:W.heap[z]? =some (.cells #[.int .i64 L,.int .i64 O,.int .i64 st,.slice none 0 0,.slice none 0 0] 25 (0,0)))(hB:B<=z)(hx:∀q,X q->q<W.heap.size/\q≠z):AM W B z L O st (.slice none 0 0) (.slice none 0 0) [] [] [] [] X:=
 ⟨h,hB,⟨rfl,.inl ⟨rfl,rfl⟩⟩,⟨rfl,.inl ⟨rfl,rfl⟩⟩,⟨fun _ e=>(nomatch e),fun e=>(nomatch e),fun e=>(nomatch e)⟩,fun q e=>⟨(hx q e).1,(hx q e).2,fun k=>(nomatch k),fun k=>(nomatch k)⟩,KR.nil _ _,KR.nil _ _⟩
theorem AM.more(h:AM W B z L O st vN vP nv pv nx pr X)(hX:∀q,X1 q->X q\/(q<W.heap.size/\q≠z/\vN.ownBlock≠some q/\vP.ownBlock≠some q))(h0:nx=[])(h1:pr=[]):AM W B z L O st vN vP nv pv nx pr X1:=by
 subst h0 h1;have e1:nv=[]:=List.eq_nil_of_length_eq_zero h.kN.ln;have e2:pv=[]:=List.eq_nil_of_length_eq_zero h.kP.ln;subst e1 e2;exact⟨h.box,h.zB,h.oN,h.oP,h.ap,fun q e=>(hX q e).elim (fun k=>h.xz q k) id,KR.nil _ _,KR.nil _ _⟩
end
def H8(m:My)(k:Int)(w:World)(e:Ending)(w':World):Prop:=∃v,e=.returned (.tuple #[v,.int .i64 k])/\BB w' v m/\Below w.heap.size w w'
theorem C4{wr:World}{n:Nat}{t:TypeId}{x y z u v a b c d e:Value}(h:wr.heap[n]? =some (.cells #[x,y,z,u,v] t (0,0))):(((((wr.setCell ⟨n,0,none⟩ a).setCell ⟨n,1,none⟩ b).setCell ⟨n,2,none⟩ c).setCell ⟨n,3,none⟩ d).setCell ⟨n,4,none⟩ e).heap[n]? =some (.cells #[a,b,c,d,e] t (0,0)):=
 heap_setCell_same _ n 4 _ _ e (heap_setCell_same _ n 3 _ _ d (heap_setCell_same _ n 2 _ _ c (heap_setCell_same _ n 1 _ _ b (heap_setCell_same _ n 0 _ _ a h))))
theorem FN{wr:World}(n:Nat)(a b c d e:Value):Af (fun q=>q=n) wr (((((wr.setCell ⟨n,0,none⟩ a).setCell ⟨n,1,none⟩ b).setCell ⟨n,2,none⟩ c).setCell ⟨n,3,none⟩ d).setCell ⟨n,4,none⟩ e):=
 let S:Nat->Prop:=fun q=>q=n
 ((((Af.set (S:=S) n 0 a rfl).trans (Af.set (S:=S) n 1 b rfl)).trans (Af.set (S:=S) n 2 c rfl)).trans (Af.set (S:=S) n 3 d rfl)).trans (Af.set (S:=S) n 4 e rfl)
theorem Et(w:World):BB w (.agg #[.int .i64 0,.int .i64 0,.int .i64 0,.slice none 0 0,.slice none 0 0]) Fh:=by
 refine⟨_,_,rfl,⟨by unfold I64;decide,by unfold I64;decide,by unfold I64;decide⟩, ?_, ?_⟩<;>
 exact⟨fun _=>undef,⟨none,0,0,0,rfl,Nat.le_refl _,Nat.zero_le _,Nat.zero_le _,(fun _=>rfl),(fun h=>absurd h (by decide)),fun j hj=>absurd hj (Nat.not_lt_zero j)⟩,fun j hj=>absurd hj (Nat.not_lt_zero j)⟩
theorem D3{w W:World}{n:Nat}{m:My}{x0 x1 x2 x3 x4 y:Value}{k:Int}(hb:Below w.heap.size w W)(hn:w.heap.size<=n)(hy:∀W',Af (fun q=>q=n) W W'->BB W' y m):
  H8 m k w (.returned (.tuple #[y,.int .i64 k])) (((((W.setCell ⟨n,0,none⟩ x0).setCell ⟨n,1,none⟩ x1).setCell ⟨n,2,none⟩ x2).setCell ⟨n,3,none⟩ x3).setCell ⟨n,4,none⟩ x4):=
 ⟨y,rfl,hy _ (FN _ _ _ _ _ _),hb.trans ((FN _ _ _ _ _ _).below w.heap.size (fun q e=>by omega) hb.size)⟩
theorem Me{l:List Sig}(hv:As l=true){a:Int}(h0:0<=a)(h1:a<Ay l):Fg l a=Cm l a:=by
 rw[Gx hv h0 h1,Fg,if_pos ⟨h0,h1⟩]
theorem Ta(w:World)(vl vo:Value)(l:List Sig)(own:List Bool)(a b:Int)(hl:AD w vl l)(ho:Bf w vo own)(a3:own.length=l.length)(hv:As l=true)(ha:0<=a/\a<Ai l)(hb:0<=b/\b<Ai l):
  Calls Tryz.prog 51 #[vl,.int .i64 a,.int .i64 b,vo] w (Av (.int .i64 (D4 l own a b)) w):=by
 obtain⟨⟨aw,-⟩,-,ak⟩:=Dv hv;obtain⟨hz,ba,bb,hp⟩:=AN hv;obtain⟨⟨a1,a2⟩,-⟩:=DP hv (i:=0) (by omega) (by omega) ha.1 ha.2;obtain⟨⟨b1,b2⟩,-⟩:=DP hv (i:=0) (by omega) (by omega) hb.1 hb.2;have ay:=(E7 hv).2
 have HJ:Hid (∀W o,I64 o->Below w.heap.size w W->Calls Tryz.prog 61 #[vl,.int .i64 0,.int .i64 o] W (Av (.int .i64 (AI l 0 o)) W)):=fun W o h2 h=>Kq W _ l 0 o (by unfold I64;omega) h2 (hl.below h)
 have ag:Hid (∀W,Below w.heap.size w W->Calls Tryz.prog 95 #[vl,.int .i64 (AI l 0 a)] W (Py (Cm l (AI l 0 a)) W)):=fun W h=>by
  rw[<-Me hv a1 a2];exact Hk W _ l _ (by unfold I64;omega) (hl.below h)
 have ah:Hid (∀W,Below w.heap.size w W->Calls Tryz.prog 95 #[vl,.int .i64 (AI l 0 b)] W (Py (Cm l (AI l 0 b)) W)):=fun W h=>by
  rw[<-Me hv b1 b2];exact Hk W _ l _ (by unfold I64;omega) (hl.below h)
 have ao:Hid (∀W v,Below w.heap.size w W->Ah W v (CV l own a b)->Calls Tryz.prog 96 #[vl,v] W (Hg (mkR l (CV l own a b)) W)):=fun W v h hi=>Ry W _ v l _ (hl.below h) hi
 have aq:Hid (∀W,Below w.heap.size w W->Calls Tryz.prog 97 #[vl,.int .i64 (mkR l (CV l own a b)).1] W (Av (.int .i64 (D4 l own a b)) W)):=fun W h=>Oh W _ l _ (by obtain⟨-,h1,h2,-⟩:=I2 hv own a b;unfold I64;omega) (hl.below h)
 have ae:=Ab (Gz l (AI l 0 a));have u:=Ab (Gz l (AI l 0 b))
 have am:Hid (∀k,k<l.length->(CV l own a b).getD k 0=if own.getD k false=true then(Cm l (AI l 0 a)).getD k 0 else(Cm l (AI l 0 b)).getD k 0):=fun k hk=>by
  rw[KL hk,Gy l _ k hk,Gy l _ k hk]
 have af:Hid ((CV l own a b).length=l.length):=G0;have an:Hid (∀x∈CV l own a b,0<=x/\x<=3):=NU
 have az:I64 a:=by unfold I64;omega
 have a0:I64 b:=by unfold I64;omega
 obtain⟨sa,sc,rfl⟩:=hl.shape;obtain⟨oa,oc,rfl⟩:=ho.shape;rw[a3]at ho⊢;obtain⟨bo,oo,od,-,of⟩:=ho.data;have ap:=Ab of;obtain rfl:=od (by omega);clear hl ho of od a1 a2 b1 b2 hv hz hp ha hb ak ay aw;generalize(mkR l (CV l own a b))=MK at*;generalize(Cm l (AI l 0 a))=XA at*;generalize(Cm l (AI l 0 b))=XB at*;generalize(CV l own a b)=MX at*;generalize D4 l own a b=MO at*;generalize hn:l.length=n at*;clear hn
 go_enter Tryz.func51,Tryz.ntmps51
 go_wp2_with fail
 refine(HJ.out _ a az Ad).mono ?_;rintro e w1 ⟨rfl,p⟩
 go_wp2_with fail
 refine(ag.out _ p).mono ?_;rintro e w2 ⟨vx,rfl,hx,f⟩;replace f:=p.trans (f.mono p.size)
 go_wp2_with fail
 refine(HJ.out _ b a0 f).mono ?_;rintro e w3 ⟨rfl,c⟩;replace hx:=hx.below c;have a4:XA.length=n:=ae.out;obtain⟨gx,cx,rfl,av,a6⟩:=hx.row (by omega);rw[a4]at hx⊢;replace c:=f.trans (c.mono f.size)
 go_wp2_with fail
 refine(ah.out _ c).mono ?_;rintro e w4 ⟨vy,rfl,hy,q⟩;replace hx:=hx.below q;have a5:XB.length=n:=u.out;obtain⟨gy,cy,rfl,a8,a7⟩:=hy.row (by omega);rw[a5]at hy⊢
 have aj:gx≠gy:=by omega
 replace q:=c.trans (q.mono c.size);have HX:=Ab hx;have HY:=Ab hy;have au:w.heap.size<=gx:=Nat.le_trans p.size av;have ab:=Ab q;clear hx hy p f c q ag ah HJ
 go_wp2_with fail
 go_loopg [11] n (fun gh iv wr=>∃(k:Nat)(L:List Int),gh=n-k/\iv=.int .i64 (k:Int)/\k<=n/\Hid (OI wr w1.heap.size (.slice (some ⟨gx,0,none⟩) n cx) L/\OI wr w3.heap.size (.slice (some ⟨gy,0,none⟩) n cy) XB/\L.length=n/\(∀j,j<n->L.getD j 0=if j<k then MX.getD j 0 else XA.getD j 0)/\Below w.heap.size w wr))
 case atStart=>exact⟨0,XA,rfl,rfl,by omega,HX.out,HY.out,ae.out,fun j _=>by rw[if_neg (by omega)],ab.out⟩
 case round=>
  obtain⟨k,L,ai,rfl,hk,HI⟩:=hrel;have ac:=Ab ai;clear ai HX HY ab
  by_cases hlt:k<n
  ·have i1:(k:Int)<(n:Int):=by omega
   have a9:(0:Int)<=(k:Int):=by omega
   have cO:=Ag HI.out.2.2.2.2 (ap.out k hlt);have d:=Ab (am.out k hlt);have HJ:=HI.out.2.2.2.1
   cases ho:own.getD k false with
   |true=>
    rw[ho]at cO d
    have HN:Hid (∀j,j<n->L.getD j 0=if j<k+1 then MX.getD j 0 else XA.getD j 0):=fun j hj=>by
     rw[HJ j hj]
     by_cases h1:j<k
     ·rw[if_pos h1,if_pos (by omega)]
     ·by_cases h2:j=k
      ·subst h2;rw[if_neg h1,if_pos (by omega),d.out];rfl
      ·rw[if_neg h1,if_neg (by omega)]
    clear ho HJ d;go_wp2
    go_roundg (n-(k+1))
    case measure=>have:=ac.out;omega
    case rel=>exact⟨k+1,L,rfl,by go_num,by omega,HI.out.1,HI.out.2.1,HI.out.2.2.1,HN.out,HI.out.2.2.2.2⟩
   |false=>
    rw[ho]at cO d
    have al:k<XB.length:=by have:=u.out;omega
    have m:L.length=n:=HI.out.2.2.1;have cY:=HI.out.2.1.at' u.out.symm k al
    have ax:k<L.length:=by omega
    have cX:=HI.out.1.at' m.symm k ax;have fX:=HI.out.1.fz m.symm k
    have HN:Hid (∀j,j<n->(L.set k XB[k]).getD j 0=if j<k+1 then MX.getD j 0 else XA.getD j 0):=fun j hj=>by
     by_cases h2:k=j
     ·subst h2;rw[AA _ _ _ _ (by omega),if_pos (by omega),d.out,<-Ae _ 0 _ al];rfl
     ·rw[AJ _ _ _ _ _ h2,HJ j hj]
      by_cases h1:j<k
      ·rw[if_pos h1,if_pos (by omega)]
      ·rw[if_neg h1,if_neg (by omega)]
    have s:Hid (OI (wr.setCell ⟨gx,k,none⟩ (.int .i64 XB[k])) w1.heap.size (.slice (some ⟨gx,0,none⟩) n cx) (L.set k XB[k])/\OI (wr.setCell ⟨gx,k,none⟩ (.int .i64 XB[k])) w3.heap.size (.slice (some ⟨gy,0,none⟩) n cy) XB/\(L.set k XB[k]).length=n/\Below w.heap.size w (wr.setCell ⟨gx,k,none⟩ (.int .i64 XB[k]))):=
     ⟨HI.out.1.set m.symm k _,HI.out.2.1.setNe (by simp[Value.ownBlock];exact fun e=>aj e.symm),by rw[List.length_set];exact m,BS HI.out.2.2.2.2 au⟩
    clear ho HJ d m;generalize XB[k]=y at*;generalize L[k]=z at*;go_wp2
    go_roundg (n-(k+1))
    case measure=>have:=ac.out;omega
    case rel=>exact⟨k+1,L.set k y,rfl,by go_num,by omega,s.out.1,s.out.2.1,s.out.2.2.1,HN.out,s.out.2.2.2⟩
  ·have i1:¬(k:Int)<(n:Int):=by omega
   have aa:L=MX:=NF (by rw[af.out];exact HI.out.2.2.1) (fun j hj=>by rw[af.out]at hj;rw[HI.out.2.2.2.1 j hj,if_pos (by omega)]);have HB:=Ab HI.out.2.2.2.2
   have ad:Hid (Ah wr (.slice (some ⟨gx,0,none⟩) n cx) MX):=by
    rw[<-aa]
    refine HI.out.1.is (by rw[HI.out.2.2.1];simp only[Bg];omega) fun x hx=> ?_
    rw[aa]at hx;have:=an.out x hx;unfold I64;omega
   clear aa HI
   go_wp2_with fail
   refine(ao.out _ _ HB.out ad.out).mono ?_;rintro e w6 ⟨rfl,r⟩;replace r:=HB.out.trans (r.mono HB.out.size);clear HB ad
   go_wp2_with fail
   refine(aq.out _ r).mono ?_;rintro e w7 ⟨rfl,ar⟩;go_wp2;go_ret;exact⟨rfl,r.trans (ar.mono r.size)⟩
end Go.Proofs.YtncjeamdkjcebaaGreatDoor
