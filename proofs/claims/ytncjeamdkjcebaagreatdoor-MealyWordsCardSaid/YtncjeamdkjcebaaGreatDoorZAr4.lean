/- What newBoard computes. -/
import Derived.Laws.CopyOwn
import Derived.Test.YtncjeamdkjcebaaGreatDoorZArSc
import Derived.Test.YtncjeamdkjcebaaGreatDoorZAr3
set_option linter.all false
set_option maxHeartbeats 2000000
namespace Go.Proofs.YtncjeamdkjcebaaGreatDoor
open Go.RowKit
def FX(m:Int)(row:List Int):Int:=row.foldl max m
def G9(a:Au)(k:Nat):Int:=(a.prio.take k).foldl FX 0
def AT(a:Au):Int:=a.prio.foldl FX 0
theorem OO(a:Au)(k:Nat)(h:k<a.prio.length):G9 a (k+1)=FX (G9 a k) (a.prio.getD k []):=by
 unfold G9;rw[List.take_succ_eq_append_getElem h,List.foldl_append,Af _ _ _ h];rfl
theorem QN(a:Au):G9 a a.prio.length=AT a:=by unfold G9 AT;rw[List.take_length]
theorem Oi(m:Int)(row:List Int)(j:Nat)(h:j<row.length):FX m (row.take (j+1))=max (FX m (row.take j)) (row.getD j 0):=by
 unfold FX;rw[List.take_succ_eq_append_getElem h,List.foldl_append,Af _ _ _ h];rfl
def Aq(l:List Sig):List (List Int):=(List.range (Ap l).toNat).map fun(i:Nat)=>(List.range (Aj l).toNat).map fun(o:Nat)=>AO l (i:Int) (o:Int)
def BH(l:List Sig)(i:Nat):List (List Int):=(List.range (Ap l).toNat).map fun(k:Nat)=>if k<i then(List.range (Aj l).toNat).map fun(o:Nat)=>AO l (k:Int) (o:Int)else[]
def CD(l:List Sig)(i o:Nat):List Int:=(List.range (Aj l).toNat).map fun(k:Nat)=>if k<o then AO l (i:Int) (k:Int)else 0
theorem Io(l:List Sig):BH l 0=List.replicate (Ap l).toNat []:=by
 apply List.ext_getElem (by simp[BH])
 intro j h1 h2;simp[BH]
theorem Jo(l:List Sig):BH l (Ap l).toNat=Aq l:=by
 apply List.ext_getElem (by simp[BH,Aq])
 intro j h1 h2
 have:j<(Ap l).toNat:=by simpa[BH]using h1
 simp only[BH,Aq,List.getElem_map,List.getElem_range];rw[if_pos this]
theorem Jp(l:List Sig)(i:Nat):(BH l i).length=(Ap l).toNat:=by simp[BH]
theorem Jr(l:List Sig)(i o:Nat):(CD l i o).length=(Aj l).toNat:=by simp[CD]
theorem Ip(l:List Sig)(i:Nat):CD l i 0=List.replicate (Aj l).toNat 0:=by
 apply List.ext_getElem (by simp[CD])
 intro j h1 h2;simp[CD]
theorem Js(l:List Sig)(i o:Nat):(CD l i o).set o (AO l i o)=CD l i (o+1):=by
 apply List.ext_getElem (by simp[CD])
 intro j h1 h2;rw[List.getElem_set];simp only[CD,List.getElem_map,List.getElem_range]
 by_cases e:o=j
 ·subst e;simp
 ·rw[if_neg e]
  by_cases h3:j<o
  ·rw[if_pos h3,if_pos (by omega)]
  ·rw[if_neg h3,if_neg (by omega)]
theorem Jq(l:List Sig)(i:Nat):(BH l i).set i (CD l i (Aj l).toNat)=BH l (i+1):=by
 apply List.ext_getElem (by simp[BH])
 intro j h1 h2;rw[List.getElem_set]
 have hj:j<(Ap l).toNat:=by simpa[BH]using h1
 simp only[BH,List.getElem_map,List.getElem_range]
 by_cases e:i=j
 ·subst e;rw[if_pos rfl,if_pos (by omega)]
  apply List.ext_getElem (by simp[CD])
  intro o h3 h4
  have:o<(Aj l).toNat:=by simpa[CD]using h3
  simp only[CD,List.getElem_map,List.getElem_range];rw[if_pos this]
 ·rw[if_neg e]
  by_cases h3:j<i
  ·rw[if_pos h3,if_pos (by omega)]
  ·rw[if_neg h3,if_neg (by omega)]
theorem JW{w:World}{B g n:Nat}(h:w.heap[g]? =some (.cells (madeCells #[.int .i64 0] n) 3 (0,0)))(hb:B<=g)(hn:n<=3000):OI w B (.slice (some ⟨g,0,none⟩) n n) (List.replicate n 0):=by
 refine⟨by simp,.inr ⟨g,n,_, ?_,hb,h, ?_,by simp only[maxLen];omega,by simp[size_madeCells], ?_⟩⟩
 ·simp
 ·simp
 ·rw[toList_madeCells_one];simp
theorem Bl.made{W:World}{B ob n:Nat}(h:W.heap[ob]? =some (.cells (madeCells #[.slice none 0 0] n) 26 (0,0)))(hb:B<=ob)(hn:n<=3000):Bl W B n ob (List.replicate n (.slice none 0 0)) (List.replicate n []):=by
 have hg:∀j,j<n->(List.replicate n (Value.slice none 0 0)).getD j undef=.slice none 0 0:=fun j hj=>by simp[List.getD,hj]
 have hg2:∀j,j<n->(List.replicate n ([]:List Int)).getD j []=[]:=fun j hj=>by simp[List.getD,hj]
 refine⟨⟨by simp,.inr ⟨ob,n,_,rfl,hb,h,Nat.le_refl _,by simp only[maxLen];omega,by simp[size_madeCells], ?_⟩⟩,fun j hj=> ?_,fun i j hi hj _=> ?_,fun j hj=> ?_,by simp,by simp⟩
 ·rw[toList_madeCells_one];simp
 ·rw[hg j hj,hg2 j hj];exact BC _ _
 ·rw[hg i hi];intro k hk;cases hk
 ·rw[hg j hj];intro hk;cases hk
theorem Bl.elem{w:World}{B n ob:Nat}{vals:List Value}{rows:List (List Int)}(h:Bl w B n ob vals rows){u:Nat}(hu:u<n){g len cap:Nat}(hg:vals.getD u undef=.slice (some ⟨g,0,none⟩) len cap)(hl:len=(rows.getD u []).length)(j:Nat)(x:Int):
  Bl (w.setCell ⟨g,j,none⟩ (.int .i64 x)) B n ob vals (rows.set u ((rows.getD u []).set j x)):=by
 have ho:Ag (fun k=>k=g) w (w.setCell ⟨g,j,none⟩ (.int .i64 x)):=Ag.set g j _ rfl
 have hown:(vals.getD u undef).ownBlock=some g:=by rw[hg];rfl
 have hlr:u<rows.length:=by rw[h.lr];exact hu
 refine⟨Ax h.o ho (fun k hk e=>by cases hk;exact h.ob' u hu (by rw[hown];exact congrArg some e.symm)),fun i hi=> ?_,h.a,h.ob',h.lv,by simpa using h.lr⟩
 by_cases e:u=i
 ·subst e;have h1:=h.e u hu;rw[hg]at h1⊢;rw[AA _ _ _ _ hlr];exact h1.set hl j x
 ·rw[AJ _ _ _ _ _ e]
  exact(h.e i hi).only ho fun k hk x=>h.a u i hu hi e g hown (x▸hk)
theorem Lk{l:List Sig}(hv:At l=true)(j:Nat)(hj:j<(Ap l).toNat):((Aq l).getD j []).length<=3000/\∀x∈(Aq l).getD j [],I64 x:=by
 obtain⟨⟨hi0,hi1⟩,⟨ho0,ho1⟩⟩:=C7 hv
 have hlen:j<(Aq l).length:=by simpa[Aq]using hj
 have e:(Aq l).getD j []=(List.range (Aj l).toNat).map fun(o:Nat)=>AO l (j:Int) (o:Int):=by
  rw[Af _ _ _ hlen];simp only[Aq,List.getElem_map,List.getElem_range]
 rw[e];refine⟨by rw[List.length_map,List.length_range];omega,fun x hx=> ?_⟩;obtain⟨o,ho,rfl⟩:=List.mem_map.1 hx;have ho:=List.mem_range.1 ho;have h1:=(Cc hv (i:=(j:Int)) (o:=(o:Int)) (by omega) (by omega) (by omega) (by omega)).1;have h2:=FW hv;unfold I64;omega
structure NB(w wr:World)(z ob n:Nat)(L S:Int)(v2 v3:Value)(tp:Int)(vals:List Value)(bf:List (List Int)):Prop where
 bx:Below w.heap.size w wr
 pb:wr.heap[w.heap.size]? =some (.cells #[.int .i64 L,.int .i64 S,v2,v3] 63 (0,0))
 rc:wr.heap[w.heap.size+1]? =some (.cells #[.int .i64 0,.int .i64 0,.slice none 0 0,.slice none 0 0,.int .i64 0,.slice none 0 0] 105 (0,0))
 bd:wr.heap[z]? =some (.cells #[.int .i64 L,.int .i64 S,v2,v3,.int .i64 tp,.slice (some ⟨ob,0,none⟩) n n] 105 (0,0))
 R:Bl wr (w.heap.size+2) n ob vals bf
 zB:w.heap.size+2<=z
 ne:ob≠z
 x:∀j,j<n->∀b,(vals.getD j undef).ownBlock=some b->b≠z
section
variable {w wr w':World} {z ob n:Nat} {L S:Int} {v2 v3:Value} {tp:Int} {vals:List Value} {bf:List (List Int)}
theorem NB.lt(h:NB w wr z ob n L S v2 v3 tp vals bf):w.heap.size+2<=wr.heap.size/\z<wr.heap.size:=by
 have:=(Array.getElem?_eq_some_iff.1 h.rc).1;exact⟨by omega,(Array.getElem?_eq_some_iff.1 h.bd).1⟩
theorem NB.below(h:NB w wr z ob n L S v2 v3 tp vals bf)(hb:Below wr.heap.size wr w'):NB w w' z ob n L S v2 v3 tp vals bf:=by
 have hl:=h.lt;have ho:Ag (fun _=>False) wr w':=⟨hb.os,hb.tape,hb.output,hb.size,fun k hk _=>hb.block k hk⟩
 exact {h with
  bx:=h.bx.trans (hb.mono h.bx.size)
  pb:=(hb.block _ (by omega)).trans h.pb
  rc:=(hb.block _ (by omega)).trans h.rc
  bd:=(hb.block _ hl.2).trans h.bd
  R:=h.R.only ho (fun e=>e) fun _ _ _ _ e=>e}
theorem NB.top(h:NB w wr z ob n L S v2 v3 tp vals bf)(t:Int):NB w (wr.setCell ⟨z,4,none⟩ (.int .i64 t)) z ob n L S v2 v3 t vals bf:=by
 have hl:=h.lt;have hz:=h.zB;have ho:Ag (fun k=>k=z) wr (wr.setCell ⟨z,4,none⟩ (.int .i64 t)):=Ag.set z 4 _ rfl
 exact {h with
  bx:=h.bx.setCell (p:=⟨z,4,none⟩) (by show w.heap.size<=z;omega) _
  pb:=(ho.block _ (by omega) (by omega)).trans h.pb
  rc:=(ho.block _ (by omega) (by omega)).trans h.rc
  bd:=heap_setCell_same _ z 4 _ _ _ h.bd
  R:=h.R.only ho h.ne fun j hj b hb e=>h.x j hj b hb e}
theorem NB.row{W:World}{u:Nat}{v':Value}{l:List Int}(h:NB w wr z ob n L S v2 v3 tp vals bf)(hu:u<n)(hb:Below wr.heap.size wr W)(hv:OI W (w.heap.size+2) v' l)(hf:∀b,v'.ownBlock=some b->wr.heap.size<=b):
  W.cell? ⟨ob,u,none⟩=some (vals.getD u undef)/\W.frozen? ⟨ob,u,none⟩=false/\NB w (W.setCell ⟨ob,u,none⟩ v') z ob n L S v2 v3 tp (vals.set u v') (bf.set u l):=by
 have hl:=h.lt;have h':=h.below hb;obtain⟨p1,p2,p3⟩:=h.R.push hu hv ⟨hb.os,hb.tape,hb.output,hb.size,fun k hk _=>hb.block k hk⟩ (fun b e=>.inr (hf b e));have hr:=h.R.row
 have hlv:u<vals.length:=by rw[h.R.lv];exact hu
 have ho:Ag (fun k=>k=ob) W (W.setCell ⟨ob,u,none⟩ v'):=Ag.set ob u v' rfl;have hs:=hb.size
 refine⟨p1,p2,{h with
  bx:=h'.bx.setCell (p:=⟨ob,u,none⟩) (by show w.heap.size<=ob;omega) _
  pb:=(ho.block _ (by omega) (by omega)).trans h'.pb
  rc:=(ho.block _ (by omega) (by omega)).trans h'.rc
  bd:=(ho.block _ (by omega) (Ne.symm h.ne)).trans h'.bd
  R:=p3
  x:=fun j hj b e=> ?_}⟩
 by_cases e1:u=j
 ·subst e1;rw[AA _ _ _ _ hlv]at e;have:=hf b e;omega
 ·rw[AJ _ _ _ _ _ e1]at e;exact h.x j hj b e
theorem NB.elem{u:Nat}(h:NB w wr z ob n L S v2 v3 tp vals bf)(hu:u<n){g len cap:Nat}(hg:vals.getD u undef=.slice (some ⟨g,0,none⟩) len cap)(hlen:len=(bf.getD u []).length)(j:Nat)(x:Int):
  NB w (wr.setCell ⟨g,j,none⟩ (.int .i64 x)) z ob n L S v2 v3 tp vals (bf.set u ((bf.getD u []).set j x)):=by
 have hl:=h.lt;have ho:Ag (fun k=>k=g) wr (wr.setCell ⟨g,j,none⟩ (.int .i64 x)):=Ag.set g j _ rfl
 have hown:(vals.getD u undef).ownBlock=some g:=by rw[hg];rfl
 have hge:=(h.R.e u hu).ge g hown
 exact {h with
  bx:=h.bx.setCell (p:=⟨g,j,none⟩) (by show w.heap.size<=g;omega) _
  pb:=(ho.block _ (by omega) (by omega)).trans h.pb
  rc:=(ho.block _ (by omega) (by omega)).trans h.rc
  bd:=(ho.block _ hl.2 (fun e=>h.x u hu g hown e.symm)).trans h.bd
  R:=h.R.elem hu hg hlen j x}
end
structure Ls where
 stem:List Int
 loop:List Int
deriving DecidableEq
def atL(w:Ls)(i:Nat):Int:=if i<w.stem.length then w.stem.getD i 0 else w.loop.getD ((i-w.stem.length)%w.loop.length) 0
def Per(u:Nat->Int)(m p:Nat):Prop:=∀i,m<=i->u (i+p)=u i
theorem Per.mono{u:Nat->Int}{m m' p:Nat}(h:Per u m p)(hm:m<=m'):Per u m' p:=fun i hi=>h i (by omega)
theorem Ed{w:Ls}{i:Nat}(h:i<w.stem.length):atL w i=w.stem.getD i 0:=if_pos h
/-! Formed lassos. -/
def CO(x:Int):Bool:=decide (0<=x)&&decide (x<64)
def BV(w:Ls):Bool:=decide (w.stem.length<=60)&&decide (1<=w.loop.length)&&decide (w.loop.length<=40)&&w.stem.all CO&&w.loop.all CO
theorem CB(w:Ls):BV w=true↔w.stem.length<=60/\1<=w.loop.length/\w.loop.length<=40/\(∀x∈w.stem,CO x=true)/\∀x∈w.loop,CO x=true:=by
 simp only[BV,Bool.and_eq_true,decide_eq_true_eq,List.all_eq_true];exact⟨fun⟨⟨⟨⟨a,b⟩,c⟩,d⟩,e⟩=>⟨a,b,c,d,e⟩,fun⟨a,b,c,d,e⟩=>⟨⟨⟨⟨a,b⟩,c⟩,d⟩,e⟩⟩
def atI(w:Ls)(i:Int):Int:=if 0<=i/\BV w=true then atL w i.toNat else -1
def Bi(k:Int)(w:Ls):Bool:=BV w&&w.stem.all (fun x=>decide (x<k))&&w.loop.all (fun x=>decide (x<k))
theorem K7{w:Ls}(h:BV w=true):0<w.loop.length:=((CB w).1 h).2.1
theorem Ek(x:Int):CO x=true↔0<=x/\x<64:=by simp[CO]
def Co(w:World)(v:Value)(l:Ls):Prop:=∃v0 v1,v=.agg #[v0,v1]/\Ai w v0 l.stem/\Ai w v1 l.loop
theorem Co.below{w wr:World}{v:Value}{l:Ls}(h:Co w v l)(hb:Below w.heap.size w wr):Co wr v l:=by
 obtain⟨v0,v1,rfl,h0,h1⟩:=h;exact⟨v0,v1,rfl,h0.below hb,h1.below hb⟩
def ES(most:Int)(l:List Int):Bool:=l.all fun x=>decide (0<=x)&&decide (x<most)
theorem KP(l:List Int):ES 64 l=l.all CO:=rfl
def Fx(l:Ls)(w:World)(e:Ending)(w':World):Prop:=∃v,e=.returned v/\Co w' v l/\Below w.heap.size w w'
theorem P6(l:List Int){k j:Nat}(h:j<k):ivF (l.take k) j=ivF l j:=by simp[ivF,List.getD,h]
theorem Hw(w:World)(vl:Value)(l:List Int)(most:Int)(hl:Ai w vl l):
  Calls Tryz.prog 90 #[vl,.int .i64 most] w (fun e w'=>e=.returned (.bool (ES most l))/\w=w'):=by
 obtain⟨⟨ao,cap,b,off,rfl,hl⟩,-⟩:=hl;have hn:=hl.nb
 go_enter Tryz.func90,Tryz.ntmps90
 go_wp2
 go_loop [9] (fun i=>∃k:Nat,i=.int .i64 k/\k<=l.length/\Hid (ES most (l.take k)=true)) (fun i=>l.length-(intOf i).toNat)
 case atStart=>exact⟨0,rfl,by omega,by show _=_;simp[ES]⟩
 case round=>
  obtain⟨k,rfl,hk,HA⟩:=hrel
  by_cases hlt:k<l.length
  ·obtain rfl:=hl.ad (by omega);have c1:=hl.el k hlt;unfold ivF at c1;rw[Af _ _ _ hlt]at c1;have HS:=Ab (Br l (fun x=>decide (0<=x)&&decide (x<most)) k hlt)
   have HF0:Hid ((decide (0<=l[k])&&decide (l[k]<most))=false->ES most l=false):=fun h=>Bn l _ k hlt h
   generalize l[k]=x at*
   by_cases h0:x<0
   ·have HF:=Ab (HF0.out (by simp;omega));go_wp2;go_ret;exact⟨Ak (by rw[HF.out]),rfl⟩
   ·by_cases h1:most<=x
    ·have HF:=Ab (HF0.out (by simp;omega));go_wp2;go_ret;exact⟨Ak (by rw[HF.out]),rfl⟩
    ·have HT:Hid (ES most (l.take (k+1))=true):=by
      show _=_;have:=HA.out;unfold ES at this⊢;rw[HS.out,this];simp;omega
     go_wp2
     go_round
     case rel=>exact⟨k+1,by go_num,by omega,HT⟩
     case measure=>simp[intOf];omega
  ·obtain rfl:k=l.length:=by omega
   have HF:Hid (ES most l=true):=by
    show _=_;have:=HA.out
    rwa [List.take_length]at this
   go_wp2;go_ret;exact⟨Ak (by rw[HF.out]),rfl⟩
theorem KB(w:World)(x:Int):Calls Tryz.prog 105 #[.int .i64 x] w (fun e w'=>e=.returned (.bool (CO x))/\w=w'):=by
 by_cases h0:0<=x
 ·go_enter Tryz.func105,Tryz.ntmps105
  go_wp2;go_ret;exact⟨Ak (by simp[CO];omega),rfl⟩
 ·go_enter Tryz.func105,Tryz.ntmps105
  go_wp2;go_ret;exact⟨Ak (by simp[CO];omega),rfl⟩
theorem He(l:Ls):BV l=(decide (l.stem.length<=60)&&decide (1<=l.loop.length)&&decide (l.loop.length<=40)&&ES 64 l.stem&&ES 64 l.loop):=rfl
theorem Gs(w:World)(v:Value)(l:Ls)(hl:Co w v l):
  Calls Tryz.prog 69 #[v] w (Av (.bool (BV l)) w):=by
 obtain⟨v0,v1,rfl,h0,h1⟩:=hl;have H0:=Ab (fun(W:World)(hW:Below w.heap.size w W)=>Hw W v0 l.stem 64 (h0.below hW));have H1:=Ab (fun(W:World)(hW:Below w.heap.size w W)=>Hw W v1 l.loop 64 (h1.below hW));obtain⟨⟨a0,c0,b0,o0,rfl,g0⟩,-⟩:=h0;obtain⟨⟨a1,c1,b1,o1,rfl,g1⟩,-⟩:=h1;have hn0:=g0.nb;have hn1:=g1.nb;have HF:=Ab (He l);generalize ES 64 l.stem=r0 at*;generalize ES 64 l.loop=r1 at*;generalize BV l=r at*;clear g0 g1
 by_cases q0:(60:Int)<l.stem.length
 ·have HR:Hid (r=false):=by show _=_;rw[HF.out];simp;omega
  go_enter Tryz.func69,Tryz.ntmps69
  go_wp2;go_ret;exact⟨Ak HR.out.symm,Ao _⟩
 by_cases q1:(l.loop.length:Int)<1
 ·have HR:Hid (r=false):=by show _=_;rw[HF.out];simp;omega
  go_enter Tryz.func69,Tryz.ntmps69
  go_wp2;go_ret;exact⟨Ak HR.out.symm,Ao _⟩
 by_cases q2:(40:Int)<l.loop.length
 ·have HR:Hid (r=false):=by show _=_;rw[HF.out];simp;omega
  go_enter Tryz.func69,Tryz.ntmps69
  go_wp2;go_ret;exact⟨Ak HR.out.symm,Ao _⟩
 have HR:Hid (r=(r0&&r1)):=by
  show _=_;rw[HF.out,decide_eq_true (show l.stem.length<=60 by omega),decide_eq_true (show 1<=l.loop.length by omega),decide_eq_true (show l.loop.length<=40 by omega)];rfl
 go_enter Tryz.func69,Tryz.ntmps69
 go_wp2_with fail
 refine(H0.out _ (Ao _)).mono ?_;rintro e w' ⟨rfl,rfl⟩
 cases r0 with
 |false=>
  go_wp2;go_ret;exact⟨Ak (by rw[HR.out];rfl),Ao _⟩
 |true=>
  go_wp2_with fail
  refine(H1.out _ (Ao _)).mono ?_;rintro e w' ⟨rfl,rfl⟩;go_wp2;go_ret;exact⟨Ak (by rw[HR.out];rfl),Ao _⟩
theorem NT(w:World)(v:Value)(l:Ls)(hl:Co w v l):
  Calls Tryz.prog 66 #[v] w (Av (.bool (BV l)) w):=by
 obtain⟨v0,v1,rfl,h0,h1⟩:=hl;obtain⟨⟨a0,c0,b0,o0,rfl,g0⟩,-⟩:=h0;obtain⟨⟨a1,c1,b1,o1,rfl,g1⟩,-⟩:=h1;have hn0:=g0.nb;have hn1:=g1.nb;have HF:=Ab (He l);have HS0:=Ab (fun k(h:k<l.stem.length)(hb:CO l.stem[k]=false)=>Bn l.stem CO k h hb);have HS1:=Ab (fun k(h:k<l.loop.length)(hb:CO l.loop[k]=false)=>Bn l.loop CO k h hb);rw[KP,KP]at HF;generalize BV l=r at*
 by_cases q0:(60:Int)<l.stem.length
 ·have HR:Hid (r=false):=by show _=_;rw[HF.out];simp;omega
  go_enter Tryz.func66,Tryz.ntmps66
  go_wp2;go_ret;exact⟨Ak HR.out.symm,Ao _⟩
 by_cases q1:(l.loop.length:Int)<1
 ·have HR:Hid (r=false):=by show _=_;rw[HF.out];simp;omega
  go_enter Tryz.func66,Tryz.ntmps66
  go_wp2;go_ret;exact⟨Ak HR.out.symm,Ao _⟩
 by_cases q2:(40:Int)<l.loop.length
 ·have HR:Hid (r=false):=by show _=_;rw[HF.out];simp;omega
  go_enter Tryz.func66,Tryz.ntmps66
  go_wp2;go_ret;exact⟨Ak HR.out.symm,Ao _⟩
 have HR:Hid (r=(l.stem.all CO&&l.loop.all CO)):=by
  show _=_;rw[HF.out,decide_eq_true (show l.stem.length<=60 by omega),decide_eq_true (show 1<=l.loop.length by omega),decide_eq_true (show l.loop.length<=40 by omega)];rfl
 clear HF
 go_enter Tryz.func66,Tryz.ntmps66
 go_wp2;have hB0:Below w.heap.size w (w.alloc (Obj.cells #[Value.slice a0 l.stem.length c0,Value.slice a1 l.loop.length c1] 30)):=Ao _;have cA:(w.alloc (Obj.cells #[Value.slice a0 l.stem.length c0,Value.slice a1 l.loop.length c1] 30)).cell? ⟨w.heap.size,0,none⟩=some (Value.slice a0 l.stem.length c0):=Dj 0 Ad rfl;have cB:(w.alloc (Obj.cells #[Value.slice a0 l.stem.length c0,Value.slice a1 l.loop.length c1] 30)).cell? ⟨w.heap.size,1,none⟩=some (Value.slice a1 l.loop.length c1):=Dj 1 Ad rfl;generalize(w.alloc (Obj.cells #[Value.slice a0 l.stem.length c0,Value.slice a1 l.loop.length c1] 30))=w1 at*
 go_loop [3] (fun i=>∃k:Nat,i=.int .i64 k/\k<=l.stem.length/\Hid ((l.stem.take k).all CO=true)) (fun i=>l.stem.length-(intOf i).toNat)
 case atStart=>exact⟨0,rfl,by omega,by show _=_;simp⟩
 case round=>
  obtain⟨k,rfl,hk,HA⟩:=hrel
  by_cases hlt:k<l.stem.length
  ·obtain rfl:=g0.ad (by omega);have e1:=Ah hB0 (g0.el k hlt);unfold ivF at e1;rw[Af _ _ _ hlt]at e1;have HS:=Ab (Br l.stem CO k hlt);have HF0:=Ab (HS0.out k hlt);generalize l.stem[k]=x at*
   go_wp2_with fail
   refine(KB _ x).mono ?_;rintro e w2 ⟨rfl,rfl⟩
   cases hx:CO x
   ·have HF:=Ab (HF0.out hx);go_wp2;go_ret;exact⟨Ak (by rw[HR.out,HF.out];rfl),hB0⟩
   ·have HT:Hid ((l.stem.take (k+1)).all CO=true):=by show _=_;rw[HS.out,HA.out,hx];rfl
    go_wp2
    go_round
    case rel=>exact⟨k+1,by go_num,by omega,HT⟩
    case measure=>simp[intOf];omega
  ·obtain rfl:k=l.stem.length:=by omega
   have HT:Hid (l.stem.all CO=true):=by
    show _=_;have:=HA.out
    rwa [List.take_length]at this
   clear HA hk hlt;go_wp2
   go_loop [5] (fun i=>∃k:Nat,i=.int .i64 k/\k<=l.loop.length/\Hid ((l.loop.take k).all CO=true)) (fun i=>l.loop.length-(intOf i).toNat)
   case atStart=>exact⟨0,rfl,by omega,by show _=_;simp⟩
   case round=>
    obtain⟨k,rfl,hk,HA⟩:=hrel
    by_cases hlt:k<l.loop.length
    ·obtain rfl:=g1.ad (by omega);have e1:=Ah hB0 (g1.el k hlt);unfold ivF at e1;rw[Af _ _ _ hlt]at e1;have HS:=Ab (Br l.loop CO k hlt);have HF0:=Ab (HS1.out k hlt);generalize l.loop[k]=x at*
     go_wp2_with fail
     refine(KB _ x).mono ?_;rintro e w2 ⟨rfl,rfl⟩
     cases hx:CO x
     ·have HF:=Ab (HF0.out hx);go_wp2;go_ret;exact⟨Ak (by rw[HR.out,HF.out,Bool.and_false]),hB0⟩
     ·have HT:Hid ((l.loop.take (k+1)).all CO=true):=by show _=_;rw[HS.out,HA.out,hx];rfl
      go_wp2
      go_round
      case rel=>exact⟨k+1,by go_num,by omega,HT⟩
      case measure=>simp[intOf];omega
    ·obtain rfl:k=l.loop.length:=by omega
     have HT2:Hid (l.loop.all CO=true):=by
      show _=_;have:=HA.out
      rwa [List.take_length]at this
     go_wp2;go_ret;exact⟨Ak (by rw[HR.out,HT.out,HT2.out];rfl),hB0⟩
theorem N4{l:Ls}{i:Nat}(h:i<l.stem.length):atL l i=l.stem[i]:=by rw[Ed h];exact Af _ _ _ h
theorem Ri{l:Ls}{i:Nat}(h:l.stem.length<=i)(hm:(i-l.stem.length)%l.loop.length<l.loop.length):atL l i=l.loop[(i-l.stem.length)%l.loop.length]:=by
 unfold atL;rw[if_neg (by omega)];exact Af _ _ _ hm
theorem Qp(w:World)(v:Value)(l:Ls)(i:Nat)(hl:Co w v l)(hp:0<l.loop.length)(hi:I64 i):
  Calls Tryz.prog 70 #[v,.int .i64 (i:Int)] w (Av (.int .i64 (atL l i)) w):=by
 obtain⟨v0,v1,rfl,h0,h1⟩:=hl;obtain⟨⟨a0,c0,b0,o0,rfl,g0⟩,-⟩:=h0;obtain⟨⟨a1,c1,b1,o1,rfl,g1⟩,-⟩:=h1;have hn0:=g0.nb;have hn1:=g1.nb;unfold I64 at hi;have hB0:Below w.heap.size w (w.alloc (Obj.cells #[Value.slice a0 l.stem.length c0,Value.slice a1 l.loop.length c1] 30)):=Ao _
 by_cases hlt:i<l.stem.length
 ·obtain rfl:=g0.ad (by omega);have e1:=Ah hB0 (g0.el i hlt);unfold ivF at e1;rw[Af _ _ _ hlt]at e1;have HR:=Ab (N4 hlt);generalize l.stem[i]=x at*
  go_enter Tryz.func70,Tryz.ntmps70
  go_wp2;go_ret;exact⟨Dy HR.out.symm,hB0⟩
 ·have hm:=Nat.mod_lt (i-l.stem.length) hp;obtain rfl:=g1.ad hp;have e1:=Ah hB0 (g1.el _ hm);unfold ivF at e1;rw[Af _ _ _ hm]at e1;have HR:=Ab (Ri (by omega) hm)
  have hw1:IntKind.i64.wrap ((i:Int)-l.stem.length)=((i-l.stem.length:Nat):Int):=by rw[IntWalk.i64_in _ ⟨by omega,by omega⟩];omega
  have ht:((i-l.stem.length:Nat):Int).tmod (l.loop.length:Int)=(((i-l.stem.length)%l.loop.length:Nat):Int):=by rw[Int.tmod_eq_emod_of_nonneg (by omega)];omega
  have hz:¬(l.loop.length:Int)=0:=by omega
  have hw2:IntKind.i64.wrap (((i-l.stem.length)%l.loop.length:Nat):Int)=(((i-l.stem.length)%l.loop.length:Nat):Int):=IntWalk.i64_in _ ⟨by omega,by omega⟩;generalize(i-l.stem.length)%l.loop.length=q at*;generalize l.loop[q]=x at*;generalize i-l.stem.length=d at*
  go_enter Tryz.func70,Tryz.ntmps70
  go_wp2;have cA:(w.alloc (Obj.cells #[Value.slice a0 l.stem.length c0,Value.slice (some ⟨b1,o1,none⟩) l.loop.length c1] 30)).cell? ⟨w.heap.size,0,none⟩=some (Value.slice a0 l.stem.length c0):=Dj 0 Ad rfl;have cB:(w.alloc (Obj.cells #[Value.slice a0 l.stem.length c0,Value.slice (some ⟨b1,o1,none⟩) l.loop.length c1] 30)).cell? ⟨w.heap.size,1,none⟩=some (Value.slice (some ⟨b1,o1,none⟩) l.loop.length c1):=Dj 1 Ad rfl;generalize(w.alloc (Obj.cells #[Value.slice a0 l.stem.length c0,Value.slice (some ⟨b1,o1,none⟩) l.loop.length c1] 30))=w1 at*
  go_quiet (fail)
  go_wp2;go_ret;exact⟨Dy HR.out.symm,AE hB0 _⟩
theorem Ai.take{w:World}{ao:Option Addr}{cap b off:Nat}{l:List Int}(h:I8 w ao cap b off l.length (ivF l))(hr:∀x∈l,I64 x)(k:Nat)(hk:k<=l.length):
  Ai w (.slice ao k cap) (l.take k):=by
 have:=h.lc
 have hl:(l.take k).length=k:=by rw[List.length_take];omega
 refine⟨⟨ao,cap,b,off,by rw[hl],⟨by omega,h.cm,by have:=h.nm;omega,h.nc,fun h0=>h.ad (by omega),fun j hj=> ?_⟩⟩,fun x hx=>hr x (List.mem_of_mem_take hx)⟩;rw[hl]at hj;rw[P6 _ hj];exact h.el j (by omega)
def TY(l:Ls)(w:World)(e:Ending)(w':World):Prop:=
 ∃a b c d,e=.returned (.agg #[.slice a l.stem.length b,.slice c l.loop.length d])/\Hid (Ai w' (.slice a l.stem.length b) l.stem)/\Hid (Ai w' (.slice c l.loop.length d) l.loop)/\Below w.heap.size w w'
theorem Fx.t{l:Ls}{w w':World}{e:Ending}(h:Fx l w e w'):TY l w e w':=by
 obtain⟨v,rfl,⟨v0,v1,rfl,h0,h1⟩,hb⟩:=h;have k0:=h0;have k1:=h1;obtain⟨⟨a0,c0,b0,o0,rfl,g0⟩,-⟩:=h0;obtain⟨⟨a1,c1,b1,o1,rfl,g1⟩,-⟩:=h1;exact⟨a0,c0,a1,c1,rfl,k0,k1,hb⟩
theorem Rg{l:Ls}{i:Int}(h:i<0):atI l i=-1:=if_neg (by omega)
theorem Rh{l:Ls}{i:Int}(h:BV l=false):atI l i=-1:=if_neg (by rw[h];simp)
theorem Hv{l:Ls}{i:Int}(h0:0<=i)(h:BV l=true):atI l i=atL l i.toNat:=if_pos ⟨h0,h⟩
theorem IS(w:World)(v:Value)(l:Ls)(i:Int)(hl:Co w v l)(hi:I64 i):
  Calls Tryz.prog 30 #[v,.int .i64 i] w (Av (.int .i64 (atI l i)) w):=by
 have HF:=Ab (fun(W:World)(hW:Below w.heap.size w W)=>Gs W v l (hl.below hW))
 by_cases h0:i<0
 ·have HR:=Ab (Rg (l:=l) h0);obtain⟨v0,v1,rfl,h0,h1⟩:=hl;obtain⟨⟨a0,c0,b0,o0,rfl,g0⟩,-⟩:=h0;obtain⟨⟨a1,c1,b1,o1,rfl,g1⟩,-⟩:=h1;clear g0 g1
  go_enter Tryz.func30,Tryz.ntmps30
  go_wp2;go_ret;exact⟨Dy HR.out.symm,Ao _⟩
 by_cases hf:BV l=true
 ·obtain⟨k,rfl⟩:∃k:Nat,i=k:=⟨i.toNat,by omega⟩;have HP:=Ab (fun(W:World)(hW:Below w.heap.size w W)=>Qp W v l k (hl.below hW) (K7 hf) hi)
  have HR:Hid (atI l (k:Int)=atL l k):=by show _=_;rw[Hv (by omega) hf];rfl
  obtain⟨v0,v1,rfl,h0,h1⟩:=hl;obtain⟨⟨a0,c0,b0,o0,rfl,g0⟩,-⟩:=h0;obtain⟨⟨a1,c1,b1,o1,rfl,g1⟩,-⟩:=h1;rw[hf]at HF;clear g0 g1 hf
  go_enter Tryz.func30,Tryz.ntmps30
  go_wp2_with fail
  refine(HF.out _ (Ao _)).mono ?_;rintro e w2 ⟨rfl,hb2⟩;have hB2:=(Ao (w:=w) (Obj.cells #[Value.slice a0 l.stem.length c0,Value.slice a1 l.loop.length c1] 30)).trans (hb2.mono (by simp));have cA:w2.cell? ⟨w.heap.size,0,none⟩=some (Value.slice a0 l.stem.length c0):=Dj 0 hb2 rfl;have cB:w2.cell? ⟨w.heap.size,1,none⟩=some (Value.slice a1 l.loop.length c1):=Dj 1 hb2 rfl;clear hb2
  go_wp2_with fail
  refine(HP.out _ hB2).mono ?_;rintro e w3 ⟨rfl,hb3⟩;go_wp2;go_ret;exact⟨Dy HR.out.symm,hB2.trans (hb3.mono hB2.size)⟩
 ·rw[Bool.not_eq_true]at hf;have HR:=Ab (Rh (i:=i) hf);obtain⟨v0,v1,rfl,h0,h1⟩:=hl;obtain⟨⟨a0,c0,b0,o0,rfl,g0⟩,-⟩:=h0;obtain⟨⟨a1,c1,b1,o1,rfl,g1⟩,-⟩:=h1;rw[hf]at HF;clear g0 g1 hf
  go_enter Tryz.func30,Tryz.ntmps30
  go_wp2_with fail
  refine(HF.out _ (Ao _)).mono ?_;rintro e w2 ⟨rfl,hb2⟩;go_wp2;go_ret;exact⟨Dy HR.out.symm,(Ao _).trans (hb2.mono (by simp))⟩
def ltB(k:Int)(l:List Int):Bool:=l.all fun x=>decide (x<k)
theorem Hb(k:Int)(l:Ls):Bi k l=(ltB k l.stem&&ltB k l.loop&&BV l):=by
 unfold Bi ltB
 cases BV l<;>simp
theorem Ie{k:Int}{l:List Int}(h:l.all CO=true):ES k l=ltB k l:=by
 unfold ES ltB;rw[Bool.eq_iff_iff,List.all_eq_true,List.all_eq_true];rw[List.all_eq_true]at h;exact⟨fun h2 x hx=>by have:=h2 x hx;simp at this;simpa using this.2,fun h2 x hx=>by have h3:=h2 x hx;have h4:=(Ek x).1 (h x hx);simp at h3⊢;omega⟩
theorem LU(k:Int)(l:Ls):Bi k l=(BV l&&ES k l.stem&&ES k l.loop):=by
 rw[Hb]
 by_cases hf:BV l=true
 ·obtain⟨_,_,_,h1,h2⟩:=(CB l).1 hf;rw[Ie (List.all_eq_true.2 h1),Ie (List.all_eq_true.2 h2),hf];simp
 ·rw[Bool.not_eq_true]at hf;rw[hf];simp
theorem Ic(w:World)(v:Value)(l:Ls)(k:Int)(hl:Co w v l):
  Calls Tryz.prog 42 #[.int .i64 k,v] w (Av (.bool (Bi k l)) w):=by
 have HF:=Ab (fun(W:World)(hW:Below w.heap.size w W)=>Gs W v l (hl.below hW));have HR:=Ab (LU k l);obtain⟨v0,v1,rfl,h0,h1⟩:=hl;have H0:=Ab (fun(W:World)(hW:Below w.heap.size w W)=>Hw W v0 l.stem k (h0.below hW));have H1:=Ab (fun(W:World)(hW:Below w.heap.size w W)=>Hw W v1 l.loop k (h1.below hW));obtain⟨⟨a0,c0,b0,o0,rfl,g0⟩,-⟩:=h0;obtain⟨⟨a1,c1,b1,o1,rfl,g1⟩,-⟩:=h1;clear g0 g1;generalize Bi k l=r at*;generalize BV l=f at*;generalize ES k l.stem=p at*;generalize ES k l.loop=q at*
 go_enter Tryz.func42,Tryz.ntmps42
 go_wp2_with fail
 refine(HF.out _ (Ao _)).mono ?_;rintro e w2 ⟨rfl,hb2⟩;have hB2:=(Ao (w:=w) (Obj.cells #[Value.slice a0 l.stem.length c0,Value.slice a1 l.loop.length c1] 30)).trans (hb2.mono (by simp));have cA:w2.cell? ⟨w.heap.size,0,none⟩=some (Value.slice a0 l.stem.length c0):=Dj 0 hb2 rfl;have cB:w2.cell? ⟨w.heap.size,1,none⟩=some (Value.slice a1 l.loop.length c1):=Dj 1 hb2 rfl;clear hb2
 cases f with
 |false=>
  go_wp2;go_ret;exact⟨Ak (by rw[HR.out];rfl),hB2⟩
 |true=>
  go_wp2_with fail
  refine(H0.out _ hB2).mono ?_;rintro e w3 ⟨rfl,rfl⟩
  cases p with
  |false=>
   go_wp2;go_ret;exact⟨Ak (by rw[HR.out];rfl),hB2⟩
  |true=>
   go_wp2_with fail
   refine(H1.out _ hB2).mono ?_;rintro e w3 ⟨rfl,rfl⟩;go_wp2;go_ret;exact⟨Ak (by rw[HR.out];rfl),hB2⟩
theorem Jc(w:World)(v:Value)(l:Ls)(z:Int)(hl:Co w v l):
  Calls Tryz.prog 28 #[.int .i64 z,v] w (Av (.bool (Bi z l)) w):=by
 have HF:=Ab (fun(W:World)(hW:Below w.heap.size w W)=>NT W v l (hl.below hW));have HR:=Ab (Hb z l);obtain⟨v0,v1,rfl,h0,h1⟩:=hl;obtain⟨⟨a0,c0,b0,o0,rfl,g0⟩,-⟩:=h0;obtain⟨⟨a1,c1,b1,o1,rfl,g1⟩,-⟩:=h1;have hn0:=g0.nb;have hn1:=g1.nb;have HS0:=Ab (fun k(h:k<l.stem.length)(hb:decide (l.stem[k]<z)=false)=>Bn l.stem (fun x=>decide (x<z)) k h hb);have HS1:=Ab (fun k(h:k<l.loop.length)(hb:decide (l.loop[k]<z)=false)=>Bn l.loop (fun x=>decide (x<z)) k h hb);generalize BV l=f at*;generalize Bi z l=r at*
 go_enter Tryz.func28,Tryz.ntmps28
 go_wp2;have hB0:Below w.heap.size w (w.alloc (Obj.cells #[Value.slice a0 l.stem.length c0,Value.slice a1 l.loop.length c1] 30)):=Ao _;have cA:(w.alloc (Obj.cells #[Value.slice a0 l.stem.length c0,Value.slice a1 l.loop.length c1] 30)).cell? ⟨w.heap.size,0,none⟩=some (Value.slice a0 l.stem.length c0):=Dj 0 Ad rfl;have cB:(w.alloc (Obj.cells #[Value.slice a0 l.stem.length c0,Value.slice a1 l.loop.length c1] 30)).cell? ⟨w.heap.size,1,none⟩=some (Value.slice a1 l.loop.length c1):=Dj 1 Ad rfl;generalize(w.alloc (Obj.cells #[Value.slice a0 l.stem.length c0,Value.slice a1 l.loop.length c1] 30))=w1 at*
 go_loop [5] (fun i=>∃k:Nat,i=.int .i64 k/\k<=l.stem.length/\Hid (ltB z (l.stem.take k)=true)) (fun i=>l.stem.length-(intOf i).toNat)
 case atStart=>exact⟨0,rfl,by omega,by show _=_;simp[ltB]⟩
 case round=>
  obtain⟨k,rfl,hk,HA⟩:=hrel
  by_cases hlt:k<l.stem.length
  ·obtain rfl:=g0.ad (by omega);have e1:=Ah hB0 (g0.el k hlt);unfold ivF at e1;rw[Af _ _ _ hlt]at e1;have HS:=Ab (Br l.stem (fun x=>decide (x<z)) k hlt);have HF0:=Ab (HS0.out k hlt);generalize l.stem[k]=x at*
   by_cases hx:z<=x
   ·have HX:Hid (ltB z l.stem=false):=HF0.out (by simp;omega);go_wp2;go_ret;exact⟨Ak (by rw[HR.out,HX.out];rfl),hB0⟩
   ·have HT:Hid (ltB z (l.stem.take (k+1))=true):=by show _=_;unfold ltB;rw[HS.out];have:=HA.out;unfold ltB at this;rw[this];simp;omega
    go_wp2
    go_round
    case rel=>exact⟨k+1,by go_num,by omega,HT⟩
    case measure=>simp[intOf];omega
  ·obtain rfl:k=l.stem.length:=by omega
   have HT:Hid (ltB z l.stem=true):=by
    show _=_;have:=HA.out
    rwa [List.take_length]at this
   clear HA hk hlt;go_wp2
   go_loop [6] (fun i=>∃k:Nat,i=.int .i64 k/\k<=l.loop.length/\Hid (ltB z (l.loop.take k)=true)) (fun i=>l.loop.length-(intOf i).toNat)
   case atStart=>exact⟨0,rfl,by omega,by show _=_;simp[ltB]⟩
   case round=>
    obtain⟨k,rfl,hk,HA⟩:=hrel
    by_cases hlt:k<l.loop.length
    ·obtain rfl:=g1.ad (by omega);have e1:=Ah hB0 (g1.el k hlt);unfold ivF at e1;rw[Af _ _ _ hlt]at e1;have HS:=Ab (Br l.loop (fun x=>decide (x<z)) k hlt);have HF0:=Ab (HS1.out k hlt);generalize l.loop[k]=x at*
     by_cases hx:z<=x
     ·have HX:Hid (ltB z l.loop=false):=HF0.out (by simp;omega);go_wp2;go_ret;exact⟨Ak (by rw[HR.out,HX.out,Bool.and_false];rfl),hB0⟩
     ·have HT:Hid (ltB z (l.loop.take (k+1))=true):=by show _=_;unfold ltB;rw[HS.out];have:=HA.out;unfold ltB at this;rw[this];simp;omega
      go_wp2
      go_round
      case rel=>exact⟨k+1,by go_num,by omega,HT⟩
      case measure=>simp[intOf];omega
    ·obtain rfl:k=l.loop.length:=by omega
     have HT2:Hid (ltB z l.loop=true):=by
      show _=_;have:=HA.out
      rwa [List.take_length]at this
     go_wp2_with fail
     refine(HF.out _ hB0).mono ?_;rintro e w2 ⟨rfl,hb2⟩;go_wp2;go_ret;exact⟨Ak (by rw[HR.out,HT.out,HT2.out];rfl),hB0.trans (hb2.mono hB0.size)⟩
theorem JR(w:World)(va vb:Value)(a b:List Int)(ha:Ai w va a)(hb:Ai w vb b):
  Calls Tryz.prog 16 #[va,vb] w (DL (.bool (decide (a=b))) w):=by
 obtain⟨⟨aa,ca,ba,oa,rfl,ha⟩,har⟩:=ha;obtain⟨⟨ab,cb,bb,ob,rfl,hb⟩,hbr⟩:=hb;have hna:=ha.nb;have hnb:=hb.nb;clear har hbr
 by_cases hlen:a.length=b.length
 case neg=>
  have hne:((a.length:Int) !=b.length)=true:=by simp;omega
  have HF:Hid (decide (a=b)=false):=decide_eq_false (fun e=>hlen (by rw[e]));clear hlen
  go_enter Tryz.func16,Tryz.ntmps16
  go_wp2;go_ret;exact⟨Ak (by rw[HF.out]),0,rfl⟩
 have hne:((a.length:Int) !=b.length)=false:=by simp;omega
 have HLN:=Ab hlen;clear hlen
 go_enter Tryz.func16,Tryz.ntmps16
 go_wp2
 go_loopw [5] (fun i wr=>∃(k m:Nat),i=.int .i64 k/\k<=a.length/\Hid (a.take k=b.take k)/\wr=w.drewN m) (fun i _=>a.length-(intOf i).toNat)
 case atStart=>exact⟨0,0,rfl,by omega,by show _=_;simp,rfl⟩
 case round=>
  obtain⟨k,m,rfl,hk,HE,rfl⟩:=hrel
  by_cases hlt:k<a.length
  ·have hltb:k<b.length:=by rw[<-HLN.out];exact hlt
   obtain rfl:=ha.ad (by omega);obtain rfl:=hb.ad (by omega);have c1:=ha.el k hlt;have c2:=hb.el k hltb;unfold ivF at c1 c2;rw[Af _ _ _ hlt]at c1;rw[Af _ _ _ hltb]at c2
   by_cases hq:a[k]=b[k]
   ·have hq2:(a[k] !=b[k])=false:=by simp[hq]
    have HE2:Hid (a.take (k+1)=b.take (k+1)):=Kv hlt hltb HE.out hq;clear hq;go_wp2
    go_quiet (fail)
    go_wp2
    go_roundw
    case rel=>exact⟨k+1,_,by go_num,by omega,HE2.out,rfl⟩
    case measure=>simp[intOf];omega
   ·have hq2:(a[k] !=b[k])=true:=by simp[hq]
    have HF:Hid (decide (a=b)=false):=decide_eq_false (fun e=>hq (by subst e;rfl));clear hq;go_wp2
    go_quiet (fail)
    go_wp2;go_ret;exact⟨Ak (by rw[HF.out]),m+nq,by simp[World.drewN,Nat.add_assoc]⟩
  ·obtain rfl:k=a.length:=by omega
   have HF:Hid (decide (a=b)=true):=decide_eq_true (by
    have:=HE.out;rw[List.take_length,HLN.out,List.take_length]at this
    exact this)
   go_wp2;go_ret;exact⟨Ak (by rw[HF.out]),m,rfl⟩
theorem QX(w:World)(va vb:Value)(a b:Ls)(ha:Co w va a)(hb:Co w vb b):
  Calls Tryz.prog 22 #[va,vb] w (Av (.bool (decide (a=b))) w):=by
 obtain⟨x0,x1,rfl,h0,h1⟩:=ha;obtain⟨y0,y1,rfl,k0,k1⟩:=hb;have H0:=Ab (fun(W:World)(hW:Below w.heap.size w W)=>JR W x0 y0 a.stem b.stem (h0.below hW) (k0.below hW));have H1:=Ab (fun(W:World)(hW:Below w.heap.size w W)=>JR W x1 y1 a.loop b.loop (h1.below hW) (k1.below hW));obtain⟨⟨a0,c0,b0,o0,rfl,-⟩,-⟩:=h0;obtain⟨⟨a1,c1,b1,o1,rfl,-⟩,-⟩:=h1;obtain⟨⟨a2,c2,b2,o2,rfl,-⟩,-⟩:=k0;obtain⟨⟨a3,c3,b3,o3,rfl,-⟩,-⟩:=k1
 have HR:Hid (decide (a=b)=(decide (a.stem=b.stem)&&decide (a.loop=b.loop))):=by
  show _=_;obtain⟨a1,a2⟩:=a;obtain⟨b1,b2⟩:=b;simp
 generalize decide (a.stem=b.stem)=r0 at*;generalize decide (a.loop=b.loop)=r1 at*;generalize decide (a=b)=r at*
 go_enter Tryz.func22,Tryz.ntmps22
 go_wp2_with fail
 refine(H0.out _ (by repeat(first|exact Ad|assumption|(refine AD ?_ _)|(refine AE ?_ _)|(refine Below.drew ?_)))).mono ?_;rintro e w' ⟨rfl,n0,rfl⟩
 cases r0 with
 |false=>
  go_wp2;go_ret;exact⟨Ak (by rw[HR.out];rfl),(by repeat(first|exact Ad|assumption|(refine AD ?_ _)|(refine AE ?_ _)|(refine Below.drew ?_)))⟩
 |true=>
  go_wp2_with fail
  refine(H1.out _ (by repeat(first|exact Ad|assumption|(refine AD ?_ _)|(refine AE ?_ _)|(refine Below.drew ?_)))).mono ?_;rintro e w' ⟨rfl,n1,rfl⟩;go_wp2;go_ret;exact⟨Ak (by rw[HR.out];rfl),(by repeat(first|exact Ad|assumption|(refine AD ?_ _)|(refine AE ?_ _)|(refine Below.drew ?_)))⟩
end Go.Proofs.YtncjeamdkjcebaaGreatDoor
