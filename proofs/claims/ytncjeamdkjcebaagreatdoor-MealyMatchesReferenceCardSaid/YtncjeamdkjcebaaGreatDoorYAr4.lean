/- What newBoard computes. -/
import Derived.Laws.CopyOwn
import Derived.Test.YtncjeamdkjcebaaGreatDoorYArSc
import Derived.Test.YtncjeamdkjcebaaGreatDoorYAr3
set_option linter.all false
set_option maxHeartbeats 2000000
namespace Go.Proofs.YtncjeamdkjcebaaGreatDoor
open Go.RowKit
def Gn(m:Int)(row:List Int):Int:=row.foldl max m
def Hz(a:Au)(k:Nat):Int:=(a.prio.take k).foldl Gn 0
def AU(a:Au):Int:=a.prio.foldl Gn 0
theorem Ph(a:Au)(k:Nat)(h:k<a.prio.length):Hz a (k+1)=Gn (Hz a k) (a.prio.getD k []):=by
 unfold Hz;rw[List.take_succ_eq_append_getElem h,List.foldl_append,Ae _ _ _ h];rfl
theorem Re(a:Au):Hz a a.prio.length=AU a:=by unfold Hz AU;rw[List.take_length]
theorem OG(m:Int)(row:List Int)(j:Nat)(h:j<row.length):Gn m (row.take (j+1))=max (Gn m (row.take j)) (row.getD j 0):=by
 unfold Gn;rw[List.take_succ_eq_append_getElem h,List.foldl_append,Ae _ _ _ h];rfl
def Ap(l:List Sig):List (List Int):=(List.range (Al l).toNat).map fun(i:Nat)=>(List.range (Ai l).toNat).map fun(o:Nat)=>AI l (i:Int) (o:Int)
def BP(l:List Sig)(i:Nat):List (List Int):=(List.range (Al l).toNat).map fun(k:Nat)=>if k<i then(List.range (Ai l).toNat).map fun(o:Nat)=>AI l (k:Int) (o:Int)else[]
def CO(l:List Sig)(i o:Nat):List Int:=(List.range (Ai l).toNat).map fun(k:Nat)=>if k<o then AI l (i:Int) (k:Int)else 0
theorem IX(l:List Sig):BP l 0=List.replicate (Al l).toNat []:=by
 apply List.ext_getElem (by simp[BP])
 intro j h1 h2;simp[BP]
theorem JN(l:List Sig):BP l (Al l).toNat=Ap l:=by
 apply List.ext_getElem (by simp[BP,Ap])
 intro j h1 h2
 have:j<(Al l).toNat:=by simpa[BP]using h1
 simp only[BP,Ap,List.getElem_map,List.getElem_range];rw[if_pos this]
theorem JO(l:List Sig)(i:Nat):(BP l i).length=(Al l).toNat:=by simp[BP]
theorem JQ(l:List Sig)(i o:Nat):(CO l i o).length=(Ai l).toNat:=by simp[CO]
theorem IY(l:List Sig)(i:Nat):CO l i 0=List.replicate (Ai l).toNat 0:=by
 apply List.ext_getElem (by simp[CO])
 intro j h1 h2;simp[CO]
theorem JR(l:List Sig)(i o:Nat):(CO l i o).set o (AI l i o)=CO l i (o+1):=by
 apply List.ext_getElem (by simp[CO])
 intro j h1 h2;rw[List.getElem_set];simp only[CO,List.getElem_map,List.getElem_range]
 by_cases e:o=j
 ·subst e;simp
 ·rw[if_neg e]
  by_cases h3:j<o
  ·rw[if_pos h3,if_pos (by omega)]
  ·rw[if_neg h3,if_neg (by omega)]
theorem JP(l:List Sig)(i:Nat):(BP l i).set i (CO l i (Ai l).toNat)=BP l (i+1):=by
 apply List.ext_getElem (by simp[BP])
 intro j h1 h2;rw[List.getElem_set]
 have hj:j<(Al l).toNat:=by simpa[BP]using h1
 simp only[BP,List.getElem_map,List.getElem_range]
 by_cases e:i=j
 ·subst e;rw[if_pos rfl,if_pos (by omega)]
  apply List.ext_getElem (by simp[CO])
  intro o h3 h4
  have:o<(Ai l).toNat:=by simpa[CO]using h3
  simp only[CO,List.getElem_map,List.getElem_range];rw[if_pos this]
 ·rw[if_neg e]
  by_cases h3:j<i
  ·rw[if_pos h3,if_pos (by omega)]
  ·rw[if_neg h3,if_neg (by omega)]
theorem Ko{w:World}{B g n:Nat}(h:w.heap[g]? =some (.cells (madeCells #[.int .i64 0] n) 3 (0,0)))(hb:B<=g)(hn:n<=3000):OI w B (.slice (some ⟨g,0,none⟩) n n) (List.replicate n 0):=by
 refine⟨by simp,.inr ⟨g,n,_, ?_,hb,h, ?_,by simp only[maxLen];omega,by simp[size_madeCells], ?_⟩⟩
 ·simp
 ·simp
 ·rw[toList_madeCells_one];simp
theorem Rows.made{W:World}{B ob n:Nat}(h:W.heap[ob]? =some (.cells (madeCells #[.slice none 0 0] n) 26 (0,0)))(hb:B<=ob)(hn:n<=3000):Rows W B n ob (List.replicate n (.slice none 0 0)) (List.replicate n []):=by
 have hg:∀j,j<n->(List.replicate n (Value.slice none 0 0)).getD j undef=.slice none 0 0:=fun j hj=>by simp[List.getD,hj]
 have a:∀j,j<n->(List.replicate n ([]:List Int)).getD j []=[]:=fun j hj=>by simp[List.getD,hj]
 refine⟨⟨by simp,.inr ⟨ob,n,_,rfl,hb,h,Nat.le_refl _,by simp only[maxLen];omega,by simp[size_madeCells], ?_⟩⟩,fun j hj=> ?_,fun i j hi hj _=> ?_,fun j hj=> ?_,by simp,by simp⟩
 ·rw[toList_madeCells_one];simp
 ·rw[hg j hj,a j hj];exact Br _ _
 ·rw[hg i hi];intro k hk;cases hk
 ·rw[hg j hj];intro hk;cases hk
theorem Rows.elem{w:World}{B n ob:Nat}{vals:List Value}{b:List (List Int)}(h:Rows w B n ob vals b){u:Nat}(hu:u<n){g len d:Nat}(hg:vals.getD u undef=.slice (some ⟨g,0,none⟩) len d)(hl:len=(b.getD u []).length)(j:Nat)(x:Int):
  Rows (w.setCell ⟨g,j,none⟩ (.int .i64 x)) B n ob vals (b.set u ((b.getD u []).set j x)):=by
 have ho:Af (fun k=>k=g) w (w.setCell ⟨g,j,none⟩ (.int .i64 x)):=Af.set g j _ rfl
 have c:(vals.getD u undef).ownBlock=some g:=by rw[hg];rfl
 have f:u<b.length:=by rw[h.lr];exact hu
 refine⟨Ax h.o ho (fun k hk e=>by cases hk;exact h.ob' u hu (by rw[c];exact congrArg some e.symm)),fun i hi=> ?_,h.a,h.ob',h.lv,by simpa using h.lr⟩
 by_cases e:u=i
 ·subst e;have h1:=h.e u hu;rw[hg]at h1⊢;rw[AA _ _ _ _ f];exact h1.set hl j x
 ·rw[AJ _ _ _ _ _ e]
  exact(h.e i hi).only ho fun k hk x=>h.a u i hu hi e g c (x▸hk)
theorem LE{l:List Sig}(hv:As l=true)(j:Nat)(hj:j<(Al l).toNat):((Ap l).getD j []).length<=3000/\∀x∈(Ap l).getD j [],I64 x:=by
 obtain⟨⟨b,c⟩,⟨d,f⟩⟩:=Dv hv
 have a:j<(Ap l).length:=by simpa[Ap]using hj
 have e:(Ap l).getD j []=(List.range (Ai l).toNat).map fun(o:Nat)=>AI l (j:Int) (o:Int):=by
  rw[Ae _ _ _ a];simp only[Ap,List.getElem_map,List.getElem_range]
 rw[e];refine⟨by rw[List.length_map,List.length_range];omega,fun x hx=> ?_⟩;obtain⟨o,ho,rfl⟩:=List.mem_map.1 hx;have ho:=List.mem_range.1 ho;have h1:=(DP hv (i:=(j:Int)) (o:=(o:Int)) (by omega) (by omega) (by omega) (by omega)).1;have h2:=E7 hv;unfold I64;omega
structure NB(w wr:World)(z ob n:Nat)(L S:Int)(v2 v3:Value)(tp:Int)(vals:List Value)(bf:List (List Int)):Prop where
 bx:Below w.heap.size w wr
 pb:wr.heap[w.heap.size]? =some (.cells #[.int .i64 L,.int .i64 S,v2,v3] 63 (0,0))
 rc:wr.heap[w.heap.size+1]? =some (.cells #[.int .i64 0,.int .i64 0,.slice none 0 0,.slice none 0 0,.int .i64 0,.slice none 0 0] 105 (0,0))
 bd:wr.heap[z]? =some (.cells #[.int .i64 L,.int .i64 S,v2,v3,.int .i64 tp,.slice (some ⟨ob,0,none⟩) n n] 105 (0,0))
 R:Rows wr (w.heap.size+2) n ob vals bf
 zB:w.heap.size+2<=z
 ne:ob≠z
 x:∀j,j<n->∀b,(vals.getD j undef).ownBlock=some b->b≠z
section
variable {w wr w':World} {z ob n:Nat} {L S:Int} {v2 v3:Value} {tp:Int} {vals:List Value} {bf:List (List Int)}
theorem NB.lt(h:NB w wr z ob n L S v2 v3 tp vals bf):w.heap.size+2<=wr.heap.size/\z<wr.heap.size:=by
 have:=(Array.getElem?_eq_some_iff.1 h.rc).1;exact⟨by omega,(Array.getElem?_eq_some_iff.1 h.bd).1⟩
theorem NB.below(h:NB w wr z ob n L S v2 v3 tp vals bf)(hb:Below wr.heap.size wr w'):NB w w' z ob n L S v2 v3 tp vals bf:=by
 have hl:=h.lt;have ho:Af (fun _=>False) wr w':=⟨hb.os,hb.tape,hb.output,hb.size,fun k hk _=>hb.block k hk⟩
 exact {h with
  bx:=h.bx.trans (hb.mono h.bx.size)
  pb:=(hb.block _ (by omega)).trans h.pb
  rc:=(hb.block _ (by omega)).trans h.rc
  bd:=(hb.block _ hl.2).trans h.bd
  R:=h.R.only ho (fun e=>e) fun _ _ _ _ e=>e}
theorem NB.top(h:NB w wr z ob n L S v2 v3 tp vals bf)(t:Int):NB w (wr.setCell ⟨z,4,none⟩ (.int .i64 t)) z ob n L S v2 v3 t vals bf:=by
 have hl:=h.lt;have hz:=h.zB;have ho:Af (fun k=>k=z) wr (wr.setCell ⟨z,4,none⟩ (.int .i64 t)):=Af.set z 4 _ rfl
 exact {h with
  bx:=h.bx.setCell (p:=⟨z,4,none⟩) (by show w.heap.size<=z;omega) _
  pb:=(ho.block _ (by omega) (by omega)).trans h.pb
  rc:=(ho.block _ (by omega) (by omega)).trans h.rc
  bd:=heap_setCell_same _ z 4 _ _ _ h.bd
  R:=h.R.only ho h.ne fun j hj b hb e=>h.x j hj b hb e}
theorem NB.row{W:World}{u:Nat}{v':Value}{l:List Int}(h:NB w wr z ob n L S v2 v3 tp vals bf)(hu:u<n)(hb:Below wr.heap.size wr W)(hv:OI W (w.heap.size+2) v' l)(hf:∀b,v'.ownBlock=some b->wr.heap.size<=b):
  W.cell? ⟨ob,u,none⟩=some (vals.getD u undef)/\W.frozen? ⟨ob,u,none⟩=false/\NB w (W.setCell ⟨ob,u,none⟩ v') z ob n L S v2 v3 tp (vals.set u v') (bf.set u l):=by
 have hl:=h.lt;have h':=h.below hb;obtain⟨p1,p2,p3⟩:=h.R.push hu hv ⟨hb.os,hb.tape,hb.output,hb.size,fun k hk _=>hb.block k hk⟩ (fun b e=>.inr (hf b e));have hr:=h.R.row
 have a:u<vals.length:=by rw[h.R.lv];exact hu
 have ho:Af (fun k=>k=ob) W (W.setCell ⟨ob,u,none⟩ v'):=Af.set ob u v' rfl;have hs:=hb.size
 refine⟨p1,p2,{h with
  bx:=h'.bx.setCell (p:=⟨ob,u,none⟩) (by show w.heap.size<=ob;omega) _
  pb:=(ho.block _ (by omega) (by omega)).trans h'.pb
  rc:=(ho.block _ (by omega) (by omega)).trans h'.rc
  bd:=(ho.block _ (by omega) (Ne.symm h.ne)).trans h'.bd
  R:=p3
  x:=fun j hj b e=> ?_}⟩
 by_cases e1:u=j
 ·subst e1;rw[AA _ _ _ _ a]at e;have:=hf b e;omega
 ·rw[AJ _ _ _ _ _ e1]at e;exact h.x j hj b e
theorem NB.elem{u:Nat}(h:NB w wr z ob n L S v2 v3 tp vals bf)(hu:u<n){g len c:Nat}(hg:vals.getD u undef=.slice (some ⟨g,0,none⟩) len c)(b:len=(bf.getD u []).length)(j:Nat)(x:Int):
  NB w (wr.setCell ⟨g,j,none⟩ (.int .i64 x)) z ob n L S v2 v3 tp vals (bf.set u ((bf.getD u []).set j x)):=by
 have hl:=h.lt;have ho:Af (fun k=>k=g) wr (wr.setCell ⟨g,j,none⟩ (.int .i64 x)):=Af.set g j _ rfl
 have a:(vals.getD u undef).ownBlock=some g:=by rw[hg];rfl
 have d:=(h.R.e u hu).ge g a
 exact {h with
  bx:=h.bx.setCell (p:=⟨g,j,none⟩) (by show w.heap.size<=g;omega) _
  pb:=(ho.block _ (by omega) (by omega)).trans h.pb
  rc:=(ho.block _ (by omega) (by omega)).trans h.rc
  bd:=(ho.block _ hl.2 (fun e=>h.x u hu g a e.symm)).trans h.bd
  R:=h.R.elem hu hg b j x}
end
structure Ls where
 stem:List Int
 loop:List Int
deriving DecidableEq
def atL(w:Ls)(i:Nat):Int:=if i<w.stem.length then w.stem.getD i 0 else w.loop.getD ((i-w.stem.length)%w.loop.length) 0
def Per(u:Nat->Int)(m p:Nat):Prop:=∀i,m<=i->u (i+p)=u i
theorem Per.mono{u:Nat->Int}{m m' p:Nat}(h:Per u m p)(hm:m<=m'):Per u m' p:=fun i hi=>h i (by omega)
theorem GO{w:Ls}{i:Nat}(h:i<w.stem.length):atL w i=w.stem.getD i 0:=if_pos h
/-! Formed lassos. -/
def Do(x:Int):Bool:=decide (0<=x)&&decide (x<64)
def CD(w:Ls):Bool:=decide (w.stem.length<=60)&&decide (1<=w.loop.length)&&decide (w.loop.length<=40)&&w.stem.all Do&&w.loop.all Do
theorem DD(w:Ls):CD w=true↔w.stem.length<=60/\1<=w.loop.length/\w.loop.length<=40/\(∀x∈w.stem,Do x=true)/\∀x∈w.loop,Do x=true:=by
 simp only[CD,Bool.and_eq_true,decide_eq_true_eq,List.all_eq_true];exact⟨fun⟨⟨⟨⟨a,b⟩,c⟩,d⟩,e⟩=>⟨a,b,c,d,e⟩,fun⟨a,b,c,d,e⟩=>⟨⟨⟨⟨a,b⟩,c⟩,d⟩,e⟩⟩
def atI(w:Ls)(i:Int):Int:=if 0<=i/\CD w=true then atL w i.toNat else -1
def Ch(k:Int)(w:Ls):Bool:=CD w&&w.stem.all (fun x=>decide (x<k))&&w.loop.all (fun x=>decide (x<k))
theorem Qj{w:Ls}(h:CD w=true):0<w.loop.length:=((DD w).1 h).2.1
theorem ER(x:Int):Do x=true↔0<=x/\x<64:=by simp[Do]
def Cn(w:World)(v:Value)(l:Ls):Prop:=∃v0 v1,v=.agg #[v0,v1]/\Ah w v0 l.stem/\Ah w v1 l.loop
theorem Cn.below{w wr:World}{v:Value}{l:Ls}(h:Cn w v l)(hb:Below w.heap.size w wr):Cn wr v l:=by
 obtain⟨v0,v1,rfl,h0,h1⟩:=h;exact⟨v0,v1,rfl,h0.below hb,h1.below hb⟩
def Fi(most:Int)(l:List Int):Bool:=l.all fun x=>decide (0<=x)&&decide (x<most)
theorem Lg(l:List Int):Fi 64 l=l.all Do:=rfl
def Dz(l:Ls)(w:World)(e:Ending)(w':World):Prop:=∃v,e=.returned v/\Cn w' v l/\Below w.heap.size w w'
theorem QC(l:List Int){k j:Nat}(h:j<k):ivF (l.take k) j=ivF l j:=by simp[ivF,List.getD,h]
theorem Iv(w:World)(vl:Value)(l:List Int)(a:Int)(hl:Ah w vl l):
  Calls Tryz.prog 90 #[vl,.int .i64 a] w (fun e w'=>e=.returned (.bool (Fi a l))/\w=w'):=by
 obtain⟨⟨ao,d,b,f,rfl,hl⟩,-⟩:=hl;have hn:=hl.nb
 go_enter Tryz.func90,Tryz.ntmps90
 go_wp2
 go_loop [9] (fun i=>∃k:Nat,i=.int .i64 k/\k<=l.length/\Hid (Fi a (l.take k)=true)) (fun i=>l.length-(intOf i).toNat)
 case atStart=>exact⟨0,rfl,by omega,by show _=_;simp[Fi]⟩
 case round=>
  obtain⟨k,rfl,hk,HA⟩:=hrel
  by_cases hlt:k<l.length
  ·obtain rfl:=hl.ad (by omega);have c1:=hl.el k hlt;unfold ivF at c1;rw[Ae _ _ _ hlt]at c1;have HS:=Ab (By l (fun x=>decide (0<=x)&&decide (x<a)) k hlt)
   have c:Hid ((decide (0<=l[k])&&decide (l[k]<a))=false->Fi a l=false):=fun h=>Bu l _ k hlt h
   generalize l[k]=x at*
   by_cases h0:x<0
   ·have HF:=Ab (c.out (by simp;omega));go_wp2;go_ret;exact⟨Ak (by rw[HF.out]),rfl⟩
   ·by_cases h1:a<=x
    ·have HF:=Ab (c.out (by simp;omega));go_wp2;go_ret;exact⟨Ak (by rw[HF.out]),rfl⟩
    ·have HT:Hid (Fi a (l.take (k+1))=true):=by
      show _=_;have:=HA.out;unfold Fi at this⊢;rw[HS.out,this];simp;omega
     go_wp2
     go_round
     case rel=>exact⟨k+1,by go_num,by omega,HT⟩
     case measure=>simp[intOf];omega
  ·obtain rfl:k=l.length:=by omega
   have HF:Hid (Fi a l=true):=by
    show _=_;have:=HA.out
    rwa [List.take_length]at this
   go_wp2;go_ret;exact⟨Ak (by rw[HF.out]),rfl⟩
theorem K4(w:World)(x:Int):Calls Tryz.prog 105 #[.int .i64 x] w (fun e w'=>e=.returned (.bool (Do x))/\w=w'):=by
 by_cases h0:0<=x
 ·go_enter Tryz.func105,Tryz.ntmps105
  go_wp2;go_ret;exact⟨Ak (by simp[Do];omega),rfl⟩
 ·go_enter Tryz.func105,Tryz.ntmps105
  go_wp2;go_ret;exact⟨Ak (by simp[Do];omega),rfl⟩
theorem Ib(l:Ls):CD l=(decide (l.stem.length<=60)&&decide (1<=l.loop.length)&&decide (l.loop.length<=40)&&Fi 64 l.stem&&Fi 64 l.loop):=rfl
theorem Qk(w:World)(v:Value)(l:Ls)(hl:Cn w v l):
  Calls Tryz.prog 69 #[v] w (Av (.bool (CD l)) w):=by
 obtain⟨v0,v1,rfl,h0,h1⟩:=hl;have H0:=Ab (fun(W:World)(hW:Below w.heap.size w W)=>Iv W v0 l.stem 64 (h0.below hW));have H1:=Ab (fun(W:World)(hW:Below w.heap.size w W)=>Iv W v1 l.loop 64 (h1.below hW));obtain⟨⟨a0,c0,b0,o0,rfl,g0⟩,-⟩:=h0;obtain⟨⟨a1,c1,b1,o1,rfl,g1⟩,-⟩:=h1;have a:=g0.nb;have b:=g1.nb;have HF:=Ab (Ib l);generalize Fi 64 l.stem=r0 at*;generalize Fi 64 l.loop=r1 at*;generalize CD l=r at*;clear g0 g1
 by_cases q0:(60:Int)<l.stem.length
 ·have HR:Hid (r=false):=by show _=_;rw[HF.out];simp;omega
  go_enter Tryz.func69,Tryz.ntmps69
  go_wp2;go_ret;exact⟨Ak HR.out.symm,Ao _⟩
 by_cases q1:(l.loop.length:Int)<1
 ·have HR:Hid (r=false):=by show _=_;rw[HF.out];simp;omega
  go_enter Tryz.func69,Tryz.ntmps69
  go_wp2;go_ret;exact⟨Ak HR.out.symm,Ao _⟩
 by_cases q2:(40:Int)<l.loop.length
 ·have HR:Hid (r=false):=by show _=_;rw[HF.out];simp;omega
  go_enter Tryz.func69,Tryz.ntmps69
  go_wp2;go_ret;exact⟨Ak HR.out.symm,Ao _⟩
 have HR:Hid (r=(r0&&r1)):=by
  show _=_;rw[HF.out,decide_eq_true (show l.stem.length<=60 by omega),decide_eq_true (show 1<=l.loop.length by omega),decide_eq_true (show l.loop.length<=40 by omega)];rfl
 go_enter Tryz.func69,Tryz.ntmps69
 go_wp2_with fail
 refine(H0.out _ (Ao _)).mono ?_;rintro e w' ⟨rfl,rfl⟩
 cases r0 with
 |false=>
  go_wp2;go_ret;exact⟨Ak (by rw[HR.out];rfl),Ao _⟩
 |true=>
  go_wp2_with fail
  refine(H1.out _ (Ao _)).mono ?_;rintro e w' ⟨rfl,rfl⟩;go_wp2;go_ret;exact⟨Ak (by rw[HR.out];rfl),Ao _⟩
theorem Hi(w:World)(v:Value)(l:Ls)(hl:Cn w v l):
  Calls Tryz.prog 66 #[v] w (Av (.bool (CD l)) w):=by
 obtain⟨v0,v1,rfl,h0,h1⟩:=hl;obtain⟨⟨a0,c0,b0,o0,rfl,g0⟩,-⟩:=h0;obtain⟨⟨a1,c1,b1,o1,rfl,g1⟩,-⟩:=h1;have j:=g0.nb;have m:=g1.nb;have HF:=Ab (Ib l);have c:=Ab (fun k(h:k<l.stem.length)(hb:Do l.stem[k]=false)=>Bu l.stem Do k h hb);have d:=Ab (fun k(h:k<l.loop.length)(hb:Do l.loop[k]=false)=>Bu l.loop Do k h hb);rw[Lg,Lg]at HF;generalize CD l=r at*
 by_cases q0:(60:Int)<l.stem.length
 ·have HR:Hid (r=false):=by show _=_;rw[HF.out];simp;omega
  go_enter Tryz.func66,Tryz.ntmps66
  go_wp2;go_ret;exact⟨Ak HR.out.symm,Ao _⟩
 by_cases q1:(l.loop.length:Int)<1
 ·have HR:Hid (r=false):=by show _=_;rw[HF.out];simp;omega
  go_enter Tryz.func66,Tryz.ntmps66
  go_wp2;go_ret;exact⟨Ak HR.out.symm,Ao _⟩
 by_cases q2:(40:Int)<l.loop.length
 ·have HR:Hid (r=false):=by show _=_;rw[HF.out];simp;omega
  go_enter Tryz.func66,Tryz.ntmps66
  go_wp2;go_ret;exact⟨Ak HR.out.symm,Ao _⟩
 have HR:Hid (r=(l.stem.all Do&&l.loop.all Do)):=by
  show _=_;rw[HF.out,decide_eq_true (show l.stem.length<=60 by omega),decide_eq_true (show 1<=l.loop.length by omega),decide_eq_true (show l.loop.length<=40 by omega)];rfl
 clear HF
 go_enter Tryz.func66,Tryz.ntmps66
 go_wp2;have a:Below w.heap.size w (w.alloc (Obj.cells #[Value.slice a0 l.stem.length c0,Value.slice a1 l.loop.length c1] 30)):=Ao _;have cA:(w.alloc (Obj.cells #[Value.slice a0 l.stem.length c0,Value.slice a1 l.loop.length c1] 30)).cell? ⟨w.heap.size,0,none⟩=some (Value.slice a0 l.stem.length c0):=C9 0 Ad rfl;have cB:(w.alloc (Obj.cells #[Value.slice a0 l.stem.length c0,Value.slice a1 l.loop.length c1] 30)).cell? ⟨w.heap.size,1,none⟩=some (Value.slice a1 l.loop.length c1):=C9 1 Ad rfl;generalize(w.alloc (Obj.cells #[Value.slice a0 l.stem.length c0,Value.slice a1 l.loop.length c1] 30))=w1 at*
 go_loop [3] (fun i=>∃k:Nat,i=.int .i64 k/\k<=l.stem.length/\Hid ((l.stem.take k).all Do=true)) (fun i=>l.stem.length-(intOf i).toNat)
 case atStart=>exact⟨0,rfl,by omega,by show _=_;simp⟩
 case round=>
  obtain⟨k,rfl,hk,HA⟩:=hrel
  by_cases hlt:k<l.stem.length
  ·obtain rfl:=g0.ad (by omega);have e1:=Ag a (g0.el k hlt);unfold ivF at e1;rw[Ae _ _ _ hlt]at e1;have HS:=Ab (By l.stem Do k hlt);have b:=Ab (c.out k hlt);generalize l.stem[k]=x at*
   go_wp2_with fail
   refine(K4 _ x).mono ?_;rintro e w2 ⟨rfl,rfl⟩
   cases hx:Do x
   ·have HF:=Ab (b.out hx);go_wp2;go_ret;exact⟨Ak (by rw[HR.out,HF.out];rfl),a⟩
   ·have HT:Hid ((l.stem.take (k+1)).all Do=true):=by show _=_;rw[HS.out,HA.out,hx];rfl
    go_wp2
    go_round
    case rel=>exact⟨k+1,by go_num,by omega,HT⟩
    case measure=>simp[intOf];omega
  ·obtain rfl:k=l.stem.length:=by omega
   have HT:Hid (l.stem.all Do=true):=by
    show _=_;have:=HA.out
    rwa [List.take_length]at this
   clear HA hk hlt;go_wp2
   go_loop [5] (fun i=>∃k:Nat,i=.int .i64 k/\k<=l.loop.length/\Hid ((l.loop.take k).all Do=true)) (fun i=>l.loop.length-(intOf i).toNat)
   case atStart=>exact⟨0,rfl,by omega,by show _=_;simp⟩
   case round=>
    obtain⟨k,rfl,hk,HA⟩:=hrel
    by_cases hlt:k<l.loop.length
    ·obtain rfl:=g1.ad (by omega);have e1:=Ag a (g1.el k hlt);unfold ivF at e1;rw[Ae _ _ _ hlt]at e1;have HS:=Ab (By l.loop Do k hlt);have b:=Ab (d.out k hlt);generalize l.loop[k]=x at*
     go_wp2_with fail
     refine(K4 _ x).mono ?_;rintro e w2 ⟨rfl,rfl⟩
     cases hx:Do x
     ·have HF:=Ab (b.out hx);go_wp2;go_ret;exact⟨Ak (by rw[HR.out,HF.out,Bool.and_false]),a⟩
     ·have HT:Hid ((l.loop.take (k+1)).all Do=true):=by show _=_;rw[HS.out,HA.out,hx];rfl
      go_wp2
      go_round
      case rel=>exact⟨k+1,by go_num,by omega,HT⟩
      case measure=>simp[intOf];omega
    ·obtain rfl:k=l.loop.length:=by omega
     have f:Hid (l.loop.all Do=true):=by
      show _=_;have:=HA.out
      rwa [List.take_length]at this
     go_wp2;go_ret;exact⟨Ak (by rw[HR.out,HT.out,f.out];rfl),a⟩
theorem Ot{l:Ls}{i:Nat}(h:i<l.stem.length):atL l i=l.stem[i]:=by rw[GO h];exact Ae _ _ _ h
theorem RN{l:Ls}{i:Nat}(h:l.stem.length<=i)(hm:(i-l.stem.length)%l.loop.length<l.loop.length):atL l i=l.loop[(i-l.stem.length)%l.loop.length]:=by
 unfold atL;rw[if_neg (by omega)];exact Ae _ _ _ hm
theorem Ah.take{w:World}{ao:Option Addr}{a b c:Nat}{l:List Int}(h:Jw w ao a b c l.length (ivF l))(hr:∀x∈l,I64 x)(k:Nat)(hk:k<=l.length):
  Ah w (.slice ao k a) (l.take k):=by
 have:=h.lc
 have hl:(l.take k).length=k:=by rw[List.length_take];omega
 refine⟨⟨ao,a,b,c,by rw[hl],⟨by omega,h.cm,by have:=h.nm;omega,h.nc,fun h0=>h.ad (by omega),fun j hj=> ?_⟩⟩,fun x hx=>hr x (List.mem_of_mem_take hx)⟩;rw[hl]at hj;rw[QC _ hj];exact h.el j (by omega)
def Uw(l:Ls)(w:World)(e:Ending)(w':World):Prop:=
 ∃a b c d,e=.returned (.agg #[.slice a l.stem.length b,.slice c l.loop.length d])/\Hid (Ah w' (.slice a l.stem.length b) l.stem)/\Hid (Ah w' (.slice c l.loop.length d) l.loop)/\Below w.heap.size w w'
theorem Dz.t{l:Ls}{w w':World}{e:Ending}(h:Dz l w e w'):Uw l w e w':=by
 obtain⟨v,rfl,⟨v0,v1,rfl,h0,h1⟩,hb⟩:=h;have k0:=h0;have k1:=h1;obtain⟨⟨a0,c0,b0,o0,rfl,g0⟩,-⟩:=h0;obtain⟨⟨a1,c1,b1,o1,rfl,g1⟩,-⟩:=h1;exact⟨a0,c0,a1,c1,rfl,k0,k1,hb⟩
theorem RL{l:Ls}{i:Int}(h:i<0):atI l i=-1:=if_neg (by omega)
theorem RM{l:Ls}{i:Int}(h:CD l=false):atI l i=-1:=if_neg (by rw[h];simp)
theorem Nv{l:Ls}{i:Int}(h0:0<=i)(h:CD l=true):atI l i=atL l i.toNat:=if_pos ⟨h0,h⟩
def ltB(k:Int)(l:List Int):Bool:=l.all fun x=>decide (x<k)
theorem H7(k:Int)(l:Ls):Ch k l=(ltB k l.stem&&ltB k l.loop&&CD l):=by
 unfold Ch ltB
 cases CD l<;>simp
theorem IL{k:Int}{l:List Int}(h:l.all Do=true):Fi k l=ltB k l:=by
 unfold Fi ltB;rw[Bool.eq_iff_iff,List.all_eq_true,List.all_eq_true];rw[List.all_eq_true]at h;exact⟨fun h2 x hx=>by have:=h2 x hx;simp at this;simpa using this.2,fun h2 x hx=>by have h3:=h2 x hx;have h4:=(ER x).1 (h x hx);simp at h3⊢;omega⟩
theorem Md(k:Int)(l:Ls):Ch k l=(CD l&&Fi k l.stem&&Fi k l.loop):=by
 rw[H7]
 by_cases hf:CD l=true
 ·obtain⟨_,_,_,h1,h2⟩:=(DD l).1 hf;rw[IL (List.all_eq_true.2 h1),IL (List.all_eq_true.2 h2),hf];simp
 ·rw[Bool.not_eq_true]at hf;rw[hf];simp
theorem IK(w:World)(v:Value)(l:Ls)(k:Int)(hl:Cn w v l):
  Calls Tryz.prog 42 #[.int .i64 k,v] w (Av (.bool (Ch k l)) w):=by
 have HF:=Ab (fun(W:World)(hW:Below w.heap.size w W)=>Qk W v l (hl.below hW));have HR:=Ab (Md k l);obtain⟨v0,v1,rfl,h0,h1⟩:=hl;have H0:=Ab (fun(W:World)(hW:Below w.heap.size w W)=>Iv W v0 l.stem k (h0.below hW));have H1:=Ab (fun(W:World)(hW:Below w.heap.size w W)=>Iv W v1 l.loop k (h1.below hW));obtain⟨⟨a0,c0,b0,o0,rfl,g0⟩,-⟩:=h0;obtain⟨⟨a1,c1,b1,o1,rfl,g1⟩,-⟩:=h1;clear g0 g1;generalize Ch k l=r at*;generalize CD l=f at*;generalize Fi k l.stem=p at*;generalize Fi k l.loop=q at*
 go_enter Tryz.func42,Tryz.ntmps42
 go_wp2_with fail
 refine(HF.out _ (Ao _)).mono ?_;rintro e w2 ⟨rfl,b⟩;have a:=(Ao (w:=w) (Obj.cells #[Value.slice a0 l.stem.length c0,Value.slice a1 l.loop.length c1] 30)).trans (b.mono (by simp));have cA:w2.cell? ⟨w.heap.size,0,none⟩=some (Value.slice a0 l.stem.length c0):=C9 0 b rfl;have cB:w2.cell? ⟨w.heap.size,1,none⟩=some (Value.slice a1 l.loop.length c1):=C9 1 b rfl;clear b
 cases f with
 |false=>
  go_wp2;go_ret;exact⟨Ak (by rw[HR.out];rfl),a⟩
 |true=>
  go_wp2_with fail
  refine(H0.out _ a).mono ?_;rintro e w3 ⟨rfl,rfl⟩
  cases p with
  |false=>
   go_wp2;go_ret;exact⟨Ak (by rw[HR.out];rfl),a⟩
  |true=>
   go_wp2_with fail
   refine(H1.out _ a).mono ?_;rintro e w3 ⟨rfl,rfl⟩;go_wp2;go_ret;exact⟨Ak (by rw[HR.out];rfl),a⟩
theorem Om(w:World)(v:Value)(l:Ls)(z:Int)(hl:Cn w v l):
  Calls Tryz.prog 28 #[.int .i64 z,v] w (Av (.bool (Ch z l)) w):=by
 have HF:=Ab (fun(W:World)(hW:Below w.heap.size w W)=>Hi W v l (hl.below hW));have HR:=Ab (H7 z l);obtain⟨v0,v1,rfl,h0,h1⟩:=hl;obtain⟨⟨a0,c0,b0,o0,rfl,g0⟩,-⟩:=h0;obtain⟨⟨a1,c1,b1,o1,rfl,g1⟩,-⟩:=h1;have n:=g0.nb;have o:=g1.nb;have c:=Ab (fun k(h:k<l.stem.length)(hb:decide (l.stem[k]<z)=false)=>Bu l.stem (fun x=>decide (x<z)) k h hb);have d:=Ab (fun k(h:k<l.loop.length)(hb:decide (l.loop[k]<z)=false)=>Bu l.loop (fun x=>decide (x<z)) k h hb);generalize CD l=f at*;generalize Ch z l=r at*
 go_enter Tryz.func28,Tryz.ntmps28
 go_wp2;have a:Below w.heap.size w (w.alloc (Obj.cells #[Value.slice a0 l.stem.length c0,Value.slice a1 l.loop.length c1] 30)):=Ao _;have cA:(w.alloc (Obj.cells #[Value.slice a0 l.stem.length c0,Value.slice a1 l.loop.length c1] 30)).cell? ⟨w.heap.size,0,none⟩=some (Value.slice a0 l.stem.length c0):=C9 0 Ad rfl;have cB:(w.alloc (Obj.cells #[Value.slice a0 l.stem.length c0,Value.slice a1 l.loop.length c1] 30)).cell? ⟨w.heap.size,1,none⟩=some (Value.slice a1 l.loop.length c1):=C9 1 Ad rfl;generalize(w.alloc (Obj.cells #[Value.slice a0 l.stem.length c0,Value.slice a1 l.loop.length c1] 30))=w1 at*
 go_loop [5] (fun i=>∃k:Nat,i=.int .i64 k/\k<=l.stem.length/\Hid (ltB z (l.stem.take k)=true)) (fun i=>l.stem.length-(intOf i).toNat)
 case atStart=>exact⟨0,rfl,by omega,by show _=_;simp[ltB]⟩
 case round=>
  obtain⟨k,rfl,hk,HA⟩:=hrel
  by_cases hlt:k<l.stem.length
  ·obtain rfl:=g0.ad (by omega);have e1:=Ag a (g0.el k hlt);unfold ivF at e1;rw[Ae _ _ _ hlt]at e1;have HS:=Ab (By l.stem (fun x=>decide (x<z)) k hlt);have b:=Ab (c.out k hlt);generalize l.stem[k]=x at*
   by_cases hx:z<=x
   ·have HX:Hid (ltB z l.stem=false):=b.out (by simp;omega);go_wp2;go_ret;exact⟨Ak (by rw[HR.out,HX.out];rfl),a⟩
   ·have HT:Hid (ltB z (l.stem.take (k+1))=true):=by show _=_;unfold ltB;rw[HS.out];have:=HA.out;unfold ltB at this;rw[this];simp;omega
    go_wp2
    go_round
    case rel=>exact⟨k+1,by go_num,by omega,HT⟩
    case measure=>simp[intOf];omega
  ·obtain rfl:k=l.stem.length:=by omega
   have HT:Hid (ltB z l.stem=true):=by
    show _=_;have:=HA.out
    rwa [List.take_length]at this
   clear HA hk hlt;go_wp2
   go_loop [6] (fun i=>∃k:Nat,i=.int .i64 k/\k<=l.loop.length/\Hid (ltB z (l.loop.take k)=true)) (fun i=>l.loop.length-(intOf i).toNat)
   case atStart=>exact⟨0,rfl,by omega,by show _=_;simp[ltB]⟩
   case round=>
    obtain⟨k,rfl,hk,HA⟩:=hrel
    by_cases hlt:k<l.loop.length
    ·obtain rfl:=g1.ad (by omega);have e1:=Ag a (g1.el k hlt);unfold ivF at e1;rw[Ae _ _ _ hlt]at e1;have HS:=Ab (By l.loop (fun x=>decide (x<z)) k hlt);have b:=Ab (d.out k hlt);generalize l.loop[k]=x at*
     by_cases hx:z<=x
     ·have HX:Hid (ltB z l.loop=false):=b.out (by simp;omega);go_wp2;go_ret;exact⟨Ak (by rw[HR.out,HX.out,Bool.and_false];rfl),a⟩
     ·have HT:Hid (ltB z (l.loop.take (k+1))=true):=by show _=_;unfold ltB;rw[HS.out];have:=HA.out;unfold ltB at this;rw[this];simp;omega
      go_wp2
      go_round
      case rel=>exact⟨k+1,by go_num,by omega,HT⟩
      case measure=>simp[intOf];omega
    ·obtain rfl:k=l.loop.length:=by omega
     have j:Hid (ltB z l.loop=true):=by
      show _=_;have:=HA.out
      rwa [List.take_length]at this
     go_wp2_with fail
     refine(HF.out _ a).mono ?_;rintro e w2 ⟨rfl,m⟩;go_wp2;go_ret;exact⟨Ak (by rw[HR.out,HT.out,j.out];rfl),a.trans (m.mono a.size)⟩
theorem Kl(w:World)(va vb:Value)(a b:List Int)(ha:Ah w va a)(hb:Ah w vb b):
  Calls Tryz.prog 16 #[va,vb] w (DZ (.bool (decide (a=b))) w):=by
 obtain⟨⟨aa,ca,ba,oa,rfl,ha⟩,j⟩:=ha;obtain⟨⟨ab,cb,bb,ob,rfl,hb⟩,l⟩:=hb;have p:=ha.nb;have q:=hb.nb;clear j l
 by_cases hlen:a.length=b.length
 case neg=>
  have n:((a.length:Int) !=b.length)=true:=by simp;omega
  have HF:Hid (decide (a=b)=false):=decide_eq_false (fun e=>hlen (by rw[e]));clear hlen
  go_enter Tryz.func16,Tryz.ntmps16
  go_wp2;go_ret;exact⟨Ak (by rw[HF.out]),0,rfl⟩
 have n:((a.length:Int) !=b.length)=false:=by simp;omega
 have d:=Ab hlen;clear hlen
 go_enter Tryz.func16,Tryz.ntmps16
 go_wp2
 go_loopw [5] (fun i wr=>∃(k m:Nat),i=.int .i64 k/\k<=a.length/\Hid (a.take k=b.take k)/\wr=w.drewN m) (fun i _=>a.length-(intOf i).toNat)
 case atStart=>exact⟨0,0,rfl,by omega,by show _=_;simp,rfl⟩
 case round=>
  obtain⟨k,m,rfl,hk,HE,rfl⟩:=hrel
  by_cases hlt:k<a.length
  ·have c:k<b.length:=by rw[<-d.out];exact hlt
   obtain rfl:=ha.ad (by omega);obtain rfl:=hb.ad (by omega);have c1:=ha.el k hlt;have c2:=hb.el k c;unfold ivF at c1 c2;rw[Ae _ _ _ hlt]at c1;rw[Ae _ _ _ c]at c2
   by_cases hq:a[k]=b[k]
   ·have o:(a[k] !=b[k])=false:=by simp[hq]
    have f:Hid (a.take (k+1)=b.take (k+1)):=K0 hlt c HE.out hq;clear hq;go_wp2
    go_quiet (fail)
    go_wp2
    go_roundw
    case rel=>exact⟨k+1,_,by go_num,by omega,f.out,rfl⟩
    case measure=>simp[intOf];omega
   ·have o:(a[k] !=b[k])=true:=by simp[hq]
    have HF:Hid (decide (a=b)=false):=decide_eq_false (fun e=>hq (by subst e;rfl));clear hq;go_wp2
    go_quiet (fail)
    go_wp2;go_ret;exact⟨Ak (by rw[HF.out]),m+nq,by simp[World.drewN,Nat.add_assoc]⟩
  ·obtain rfl:k=a.length:=by omega
   have HF:Hid (decide (a=b)=true):=decide_eq_true (by
    have:=HE.out;rw[List.take_length,d.out,List.take_length]at this
    exact this)
   go_wp2;go_ret;exact⟨Ak (by rw[HF.out]),m,rfl⟩
theorem Rm(w:World)(va vb:Value)(a b:Ls)(ha:Cn w va a)(hb:Cn w vb b):
  Calls Tryz.prog 22 #[va,vb] w (Av (.bool (decide (a=b))) w):=by
 obtain⟨x0,x1,rfl,h0,h1⟩:=ha;obtain⟨y0,y1,rfl,k0,k1⟩:=hb;have H0:=Ab (fun(W:World)(hW:Below w.heap.size w W)=>Kl W x0 y0 a.stem b.stem (h0.below hW) (k0.below hW));have H1:=Ab (fun(W:World)(hW:Below w.heap.size w W)=>Kl W x1 y1 a.loop b.loop (h1.below hW) (k1.below hW));obtain⟨⟨a0,c0,b0,o0,rfl,-⟩,-⟩:=h0;obtain⟨⟨a1,c1,b1,o1,rfl,-⟩,-⟩:=h1;obtain⟨⟨a2,c2,b2,o2,rfl,-⟩,-⟩:=k0;obtain⟨⟨a3,c3,b3,o3,rfl,-⟩,-⟩:=k1
 have HR:Hid (decide (a=b)=(decide (a.stem=b.stem)&&decide (a.loop=b.loop))):=by
  show _=_;obtain⟨a1,a2⟩:=a;obtain⟨b1,b2⟩:=b;simp
 generalize decide (a.stem=b.stem)=r0 at*;generalize decide (a.loop=b.loop)=r1 at*;generalize decide (a=b)=r at*
 go_enter Tryz.func22,Tryz.ntmps22
 go_wp2_with fail
 refine(H0.out _ (by repeat(first|exact Ad|assumption|(refine AE ?_ _)|(refine AB ?_ _)|(refine Below.drew ?_)))).mono ?_;rintro e w' ⟨rfl,n0,rfl⟩
 cases r0 with
 |false=>
  go_wp2;go_ret;exact⟨Ak (by rw[HR.out];rfl),(by repeat(first|exact Ad|assumption|(refine AE ?_ _)|(refine AB ?_ _)|(refine Below.drew ?_)))⟩
 |true=>
  go_wp2_with fail
  refine(H1.out _ (by repeat(first|exact Ad|assumption|(refine AE ?_ _)|(refine AB ?_ _)|(refine Below.drew ?_)))).mono ?_;rintro e w' ⟨rfl,n1,rfl⟩;go_wp2;go_ret;exact⟨Ak (by rw[HR.out];rfl),(by repeat(first|exact Ad|assumption|(refine AE ?_ _)|(refine AB ?_ _)|(refine Below.drew ?_)))⟩
end Go.Proofs.YtncjeamdkjcebaaGreatDoor
