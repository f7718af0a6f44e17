/- What newBoard computes. -/
import Derived.Laws.CopyOwn
import Derived.Test.YtncjeamdkjcebaaDoorZArSc
import Derived.Test.YtncjeamdkjcebaaDoorZAr3
set_option linter.all false
set_option maxHeartbeats 2000000
namespace Go.Proofs.YtncjeamdkjcebaaDoor
open Go.RowKit
def Fo(m:Int)(row:List Int):Int:=row.foldl max m
def Gp(a:Au)(k:Nat):Int:=(a.prio.take k).foldl Fo 0
def AP(a:Au):Int:=a.prio.foldl Fo 0
theorem Ng(a:Au)(k:Nat)(h:k<a.prio.length):Gp a (k+1)=Fo (Gp a k) (a.prio.getD k []):=by
 unfold Gp;rw[List.take_succ_eq_append_getElem h,List.foldl_append,Ag _ _ _ h];rfl
theorem O9(a:Au):Gp a a.prio.length=AP a:=by unfold Gp AP;rw[List.take_length]
theorem MJ(m:Int)(row:List Int)(j:Nat)(h:j<row.length):Fo m (row.take (j+1))=max (Fo m (row.take j)) (row.getD j 0):=by
 unfold Fo;rw[List.take_succ_eq_append_getElem h,List.foldl_append,Ag _ _ _ h];rfl
def Al(l:List Sig):List (List Int):=(List.range (An l).toNat).map fun(i:Nat)=>(List.range (Ah l).toNat).map fun(o:Nat)=>AQ l (i:Int) (o:Int)
def Bq(l:List Sig)(i:Nat):List (List Int):=(List.range (An l).toNat).map fun(k:Nat)=>if k<i then(List.range (Ah l).toNat).map fun(o:Nat)=>AQ l (k:Int) (o:Int)else[]
def Cm(l:List Sig)(i o:Nat):List Int:=(List.range (Ah l).toNat).map fun(k:Nat)=>if k<o then AQ l (i:Int) (k:Int)else 0
theorem G4(l:List Sig):Bq l 0=List.replicate (An l).toNat []:=by
 apply List.ext_getElem (by simp[Bq])
 intro j h1 h2;simp[Bq]
theorem Ip(l:List Sig):Bq l (An l).toNat=Al l:=by
 apply List.ext_getElem (by simp[Bq,Al])
 intro j h1 h2
 have:j<(An l).toNat:=by simpa[Bq]using h1
 simp only[Bq,Al,List.getElem_map,List.getElem_range];rw[if_pos this]
theorem Iq(l:List Sig)(i:Nat):(Bq l i).length=(An l).toNat:=by simp[Bq]
theorem Is(l:List Sig)(i o:Nat):(Cm l i o).length=(Ah l).toNat:=by simp[Cm]
theorem G5(l:List Sig)(i:Nat):Cm l i 0=List.replicate (Ah l).toNat 0:=by
 apply List.ext_getElem (by simp[Cm])
 intro j h1 h2;simp[Cm]
theorem It(l:List Sig)(i o:Nat):(Cm l i o).set o (AQ l i o)=Cm l i (o+1):=by
 apply List.ext_getElem (by simp[Cm])
 intro j h1 h2;rw[List.getElem_set];simp only[Cm,List.getElem_map,List.getElem_range]
 by_cases e:o=j
 ·subst e;simp
 ·rw[if_neg e]
  by_cases h3:j<o
  ·rw[if_pos h3,if_pos (by omega)]
  ·rw[if_neg h3,if_neg (by omega)]
theorem Ir(l:List Sig)(i:Nat):(Bq l i).set i (Cm l i (Ah l).toNat)=Bq l (i+1):=by
 apply List.ext_getElem (by simp[Bq])
 intro j h1 h2;rw[List.getElem_set]
 have hj:j<(An l).toNat:=by simpa[Bq]using h1
 simp only[Bq,List.getElem_map,List.getElem_range]
 by_cases e:i=j
 ·subst e;rw[if_pos rfl,if_pos (by omega)]
  apply List.ext_getElem (by simp[Cm])
  intro o h3 h4
  have:o<(Ah l).toNat:=by simpa[Cm]using h3
  simp only[Cm,List.getElem_map,List.getElem_range];rw[if_pos this]
 ·rw[if_neg e]
  by_cases h3:j<i
  ·rw[if_pos h3,if_pos (by omega)]
  ·rw[if_neg h3,if_neg (by omega)]
theorem I0{w:World}{B g n:Nat}(h:w.heap[g]? =some (.cells (madeCells #[.int .i64 0] n) 3 (0,0)))(hb:B<=g)(hn:n<=3000):OI w B (.slice (some ⟨g,0,none⟩) n n) (List.replicate n 0):=by
 refine⟨by simp,.inr ⟨g,n,_, ?_,hb,h, ?_,by simp only[maxLen];omega,by simp[size_madeCells], ?_⟩⟩
 ·simp
 ·simp
 ·rw[toList_madeCells_one];simp
theorem BC.made{W:World}{B ob n:Nat}(h:W.heap[ob]? =some (.cells (madeCells #[.slice none 0 0] n) 25 (0,0)))(hb:B<=ob)(hn:n<=3000):BC W B n ob (List.replicate n (.slice none 0 0)) (List.replicate n []):=by
 have hg:∀j,j<n->(List.replicate n (Value.slice none 0 0)).getD j undef=.slice none 0 0:=fun j hj=>by simp[List.getD,hj]
 have hg2:∀j,j<n->(List.replicate n ([]:List Int)).getD j []=[]:=fun j hj=>by simp[List.getD,hj]
 refine⟨⟨by simp,.inr ⟨ob,n,_,rfl,hb,h,Nat.le_refl _,by simp only[maxLen];omega,by simp[size_madeCells], ?_⟩⟩,fun j hj=> ?_,fun i j hi hj _=> ?_,fun j hj=> ?_,by simp,by simp⟩
 ·rw[toList_madeCells_one];simp
 ·rw[hg j hj,hg2 j hj];exact Bl _ _
 ·rw[hg i hi];intro k hk;cases hk
 ·rw[hg j hj];intro hk;cases hk
theorem BC.elem{w:World}{B n ob:Nat}{vals:List Value}{rows:List (List Int)}(h:BC w B n ob vals rows){u:Nat}(hu:u<n){g len cap:Nat}(hg:vals.getD u undef=.slice (some ⟨g,0,none⟩) len cap)(hl:len=(rows.getD u []).length)(j:Nat)(x:Int):
  BC (w.setCell ⟨g,j,none⟩ (.int .i64 x)) B n ob vals (rows.set u ((rows.getD u []).set j x)):=by
 have ho:Ae (fun k=>k=g) w (w.setCell ⟨g,j,none⟩ (.int .i64 x)):=Ae.set g j _ rfl
 have hown:(vals.getD u undef).ownBlock=some g:=by rw[hg];rfl
 have hlr:u<rows.length:=by rw[h.lr];exact hu
 refine⟨At h.o ho (fun k hk e=>by cases hk;exact h.ob' u hu (by rw[hown];exact congrArg some e.symm)),fun i hi=> ?_,h.a,h.ob',h.lv,by simpa using h.lr⟩
 by_cases e:u=i
 ·subst e;have h1:=h.e u hu;rw[hg]at h1⊢;rw[Ay _ _ _ _ hlr];exact h1.set hl j x
 ·rw[AH _ _ _ _ _ e]
  exact(h.e i hi).only ho fun k hk x=>h.a u i hu hi e g hown (x▸hk)
theorem J4{l:List Sig}(hv:Ax l=true)(j:Nat)(hj:j<(An l).toNat):((Al l).getD j []).length<=3000/\∀x∈(Al l).getD j [],I64 x:=by
 obtain⟨⟨hi0,hi1⟩,⟨ho0,ho1⟩⟩:=C5 hv
 have hlen:j<(Al l).length:=by simpa[Al]using hj
 have e:(Al l).getD j []=(List.range (Ah l).toNat).map fun(o:Nat)=>AQ l (j:Int) (o:Int):=by
  rw[Ag _ _ _ hlen];simp only[Al,List.getElem_map,List.getElem_range]
 rw[e];refine⟨by rw[List.length_map,List.length_range];omega,fun x hx=> ?_⟩;obtain⟨o,ho,rfl⟩:=List.mem_map.1 hx;have ho:=List.mem_range.1 ho;have h1:=(DX hv (i:=(j:Int)) (o:=(o:Int)) (by omega) (by omega) (by omega) (by omega)).1;have h2:=Fn hv;unfold I64;omega
structure NB(w wr:World)(z ob n:Nat)(L S:Int)(v2 v3:Value)(tp:Int)(vals:List Value)(bf:List (List Int)):Prop where
 bx:Below w.heap.size w wr
 pb:wr.heap[w.heap.size]? =some (.cells #[.int .i64 L,.int .i64 S,v2,v3] 44 (0,0))
 rc:wr.heap[w.heap.size+1]? =some (.cells #[.int .i64 0,.int .i64 0,.slice none 0 0,.slice none 0 0,.int .i64 0,.slice none 0 0] 76 (0,0))
 bd:wr.heap[z]? =some (.cells #[.int .i64 L,.int .i64 S,v2,v3,.int .i64 tp,.slice (some ⟨ob,0,none⟩) n n] 76 (0,0))
 R:BC wr (w.heap.size+2) n ob vals bf
 zB:w.heap.size+2<=z
 ne:ob≠z
 x:∀j,j<n->∀b,(vals.getD j undef).ownBlock=some b->b≠z
section
variable {w wr w':World} {z ob n:Nat} {L S:Int} {v2 v3:Value} {tp:Int} {vals:List Value} {bf:List (List Int)}
theorem NB.lt(h:NB w wr z ob n L S v2 v3 tp vals bf):w.heap.size+2<=wr.heap.size/\z<wr.heap.size:=by
 have:=(Array.getElem?_eq_some_iff.1 h.rc).1;exact⟨by omega,(Array.getElem?_eq_some_iff.1 h.bd).1⟩
theorem NB.below(h:NB w wr z ob n L S v2 v3 tp vals bf)(hb:Below wr.heap.size wr w'):NB w w' z ob n L S v2 v3 tp vals bf:=by
 have hl:=h.lt;have ho:Ae (fun _=>False) wr w':=⟨hb.os,hb.tape,hb.output,hb.size,fun k hk _=>hb.block k hk⟩
 exact {h with
  bx:=h.bx.trans (hb.mono h.bx.size)
  pb:=(hb.block _ (by omega)).trans h.pb
  rc:=(hb.block _ (by omega)).trans h.rc
  bd:=(hb.block _ hl.2).trans h.bd
  R:=h.R.only ho (fun e=>e) fun _ _ _ _ e=>e}
theorem NB.top(h:NB w wr z ob n L S v2 v3 tp vals bf)(t:Int):NB w (wr.setCell ⟨z,4,none⟩ (.int .i64 t)) z ob n L S v2 v3 t vals bf:=by
 have hl:=h.lt;have hz:=h.zB;have ho:Ae (fun k=>k=z) wr (wr.setCell ⟨z,4,none⟩ (.int .i64 t)):=Ae.set z 4 _ rfl
 exact {h with
  bx:=h.bx.setCell (p:=⟨z,4,none⟩) (by show w.heap.size<=z;omega) _
  pb:=(ho.block _ (by omega) (by omega)).trans h.pb
  rc:=(ho.block _ (by omega) (by omega)).trans h.rc
  bd:=heap_setCell_same _ z 4 _ _ _ h.bd
  R:=h.R.only ho h.ne fun j hj b hb e=>h.x j hj b hb e}
theorem NB.row{W:World}{u:Nat}{v':Value}{l:List Int}(h:NB w wr z ob n L S v2 v3 tp vals bf)(hu:u<n)(hb:Below wr.heap.size wr W)(hv:OI W (w.heap.size+2) v' l)(hf:∀b,v'.ownBlock=some b->wr.heap.size<=b):
  W.cell? ⟨ob,u,none⟩=some (vals.getD u undef)/\W.frozen? ⟨ob,u,none⟩=false/\NB w (W.setCell ⟨ob,u,none⟩ v') z ob n L S v2 v3 tp (vals.set u v') (bf.set u l):=by
 have hl:=h.lt;have h':=h.below hb;obtain⟨p1,p2,p3⟩:=h.R.push hu hv ⟨hb.os,hb.tape,hb.output,hb.size,fun k hk _=>hb.block k hk⟩ (fun b e=>.inr (hf b e));have hr:=h.R.row
 have hlv:u<vals.length:=by rw[h.R.lv];exact hu
 have ho:Ae (fun k=>k=ob) W (W.setCell ⟨ob,u,none⟩ v'):=Ae.set ob u v' rfl;have hs:=hb.size
 refine⟨p1,p2,{h with
  bx:=h'.bx.setCell (p:=⟨ob,u,none⟩) (by show w.heap.size<=ob;omega) _
  pb:=(ho.block _ (by omega) (by omega)).trans h'.pb
  rc:=(ho.block _ (by omega) (by omega)).trans h'.rc
  bd:=(ho.block _ (by omega) (Ne.symm h.ne)).trans h'.bd
  R:=p3
  x:=fun j hj b e=> ?_}⟩
 by_cases e1:u=j
 ·subst e1;rw[Ay _ _ _ _ hlv]at e;have:=hf b e;omega
 ·rw[AH _ _ _ _ _ e1]at e;exact h.x j hj b e
theorem NB.elem{u:Nat}(h:NB w wr z ob n L S v2 v3 tp vals bf)(hu:u<n){g len cap:Nat}(hg:vals.getD u undef=.slice (some ⟨g,0,none⟩) len cap)(hlen:len=(bf.getD u []).length)(j:Nat)(x:Int):
  NB w (wr.setCell ⟨g,j,none⟩ (.int .i64 x)) z ob n L S v2 v3 tp vals (bf.set u ((bf.getD u []).set j x)):=by
 have hl:=h.lt;have ho:Ae (fun k=>k=g) wr (wr.setCell ⟨g,j,none⟩ (.int .i64 x)):=Ae.set g j _ rfl
 have hown:(vals.getD u undef).ownBlock=some g:=by rw[hg];rfl
 have hge:=(h.R.e u hu).ge g hown
 exact {h with
  bx:=h.bx.setCell (p:=⟨g,j,none⟩) (by show w.heap.size<=g;omega) _
  pb:=(ho.block _ (by omega) (by omega)).trans h.pb
  rc:=(ho.block _ (by omega) (by omega)).trans h.rc
  bd:=(ho.block _ hl.2 (fun e=>h.x u hu g hown e.symm)).trans h.bd
  R:=h.R.elem hu hg hlen j x}
end
structure Ls where
 stem:List Int
 loop:List Int
deriving DecidableEq
def atL(w:Ls)(i:Nat):Int:=if i<w.stem.length then w.stem.getD i 0 else w.loop.getD ((i-w.stem.length)%w.loop.length) 0
def Per(u:Nat->Int)(m p:Nat):Prop:=∀i,m<=i->u (i+p)=u i
theorem Per.mono{u:Nat->Int}{m m' p:Nat}(h:Per u m p)(hm:m<=m'):Per u m' p:=fun i hi=>h i (by omega)
theorem GY{w:Ls}{i:Nat}(h:i<w.stem.length):atL w i=w.stem.getD i 0:=if_pos h
/-! Formed lassos. -/
def Hu(x:Int):Bool:=decide (0<=x)&&decide (x<64)
def Ek(w:Ls):Bool:=decide (w.stem.length<=60)&&decide (1<=w.loop.length)&&decide (w.loop.length<=40)&&w.stem.all Hu&&w.loop.all Hu
theorem Dm(w:Ls):Ek w=true↔w.stem.length<=60/\1<=w.loop.length/\w.loop.length<=40/\(∀x∈w.stem,Hu x=true)/\∀x∈w.loop,Hu x=true:=by
 simp only[Ek,Bool.and_eq_true,decide_eq_true_eq,List.all_eq_true];exact⟨fun⟨⟨⟨⟨a,b⟩,c⟩,d⟩,e⟩=>⟨a,b,c,d,e⟩,fun⟨a,b,c,d,e⟩=>⟨⟨⟨⟨a,b⟩,c⟩,d⟩,e⟩⟩
def CA(k:Int)(w:Ls):Bool:=Ek w&&w.stem.all (fun x=>decide (x<k))&&w.loop.all (fun x=>decide (x<k))
theorem D0(x:Int):Hu x=true↔0<=x/\x<64:=by simp[Hu]
def Df(w:World)(v:Value)(l:Ls):Prop:=∃v0 v1,v=.agg #[v0,v1]/\Af w v0 l.stem/\Af w v1 l.loop
theorem Df.below{w wr:World}{v:Value}{l:Ls}(h:Df w v l)(hb:Below w.heap.size w wr):Df wr v l:=by
 obtain⟨v0,v1,rfl,h0,h1⟩:=h;exact⟨v0,v1,rfl,h0.below hb,h1.below hb⟩
def Ew(most:Int)(l:List Int):Bool:=l.all fun x=>decide (0<=x)&&decide (x<most)
def EW(l:Ls)(w:World)(e:Ending)(w':World):Prop:=∃v,e=.returned v/\Df w' v l/\Below w.heap.size w w'
theorem On(l:List Int){k j:Nat}(h:j<k):ivF (l.take k) j=ivF l j:=by simp[ivF,List.getD,h]
theorem GH(w:World)(vl:Value)(l:List Int)(most:Int)(hl:Af w vl l):
  Calls Tryd.prog 58 #[vl,.int .i64 most] w (fun e w'=>e=.returned (.bool (Ew most l))/\w=w'):=by
 obtain⟨⟨ao,cap,b,off,rfl,hl⟩,-⟩:=hl;have hn:=hl.nb
 go_enter Tryd.func58,Tryd.ntmps58
 go_wp2
 go_loop [9] (fun i=>∃k:Nat,i=.int .i64 k/\k<=l.length/\Hid (Ew most (l.take k)=true)) (fun i=>l.length-(intOf i).toNat)
 case atStart=>exact⟨0,rfl,by omega,by show _=_;simp[Ew]⟩
 case round=>
  obtain⟨k,rfl,hk,HA⟩:=hrel
  by_cases hlt:k<l.length
  ·obtain rfl:=hl.ad (by omega);have c1:=hl.el k hlt;unfold ivF at c1;rw[Ag _ _ _ hlt]at c1;have HS:=Ab (CZ l (fun x=>decide (0<=x)&&decide (x<most)) k hlt)
   have HF0:Hid ((decide (0<=l[k])&&decide (l[k]<most))=false->Ew most l=false):=fun h=>Cu l _ k hlt h
   generalize l[k]=x at*
   by_cases h0:x<0
   ·have HF:=Ab (HF0.out (by simp;omega));go_wp2;go_ret;exact⟨Av (by rw[HF.out]),rfl⟩
   ·by_cases h1:most<=x
    ·have HF:=Ab (HF0.out (by simp;omega));go_wp2;go_ret;exact⟨Av (by rw[HF.out]),rfl⟩
    ·have HT:Hid (Ew most (l.take (k+1))=true):=by
      show _=_;have:=HA.out;unfold Ew at this⊢;rw[HS.out,this];simp;omega
     go_wp2
     go_round
     case rel=>exact⟨k+1,by go_num,by omega,HT⟩
     case measure=>simp[intOf];omega
  ·obtain rfl:k=l.length:=by omega
   have HF:Hid (Ew most l=true):=by
    show _=_;have:=HA.out
    rwa [List.take_length]at this
   go_wp2;go_ret;exact⟨Av (by rw[HF.out]),rfl⟩
theorem JQ(l:Ls):Ek l=(decide (l.stem.length<=60)&&decide (1<=l.loop.length)&&decide (l.loop.length<=40)&&Ew 64 l.stem&&Ew 64 l.loop):=rfl
theorem N6(w:World)(v:Value)(l:Ls)(hl:Df w v l):
  Calls Tryd.prog 57 #[v] w (AC (.bool (Ek l)) w):=by
 obtain⟨v0,v1,rfl,h0,h1⟩:=hl;have H0:=Ab (fun(W:World)(hW:Below w.heap.size w W)=>GH W v0 l.stem 64 (h0.below hW));have H1:=Ab (fun(W:World)(hW:Below w.heap.size w W)=>GH W v1 l.loop 64 (h1.below hW));obtain⟨⟨a0,c0,b0,o0,rfl,g0⟩,-⟩:=h0;obtain⟨⟨a1,c1,b1,o1,rfl,g1⟩,-⟩:=h1;have hn0:=g0.nb;have hn1:=g1.nb;have HF:=Ab (JQ l);generalize Ew 64 l.stem=r0 at*;generalize Ew 64 l.loop=r1 at*;generalize Ek l=r at*;clear g0 g1
 by_cases q0:(60:Int)<l.stem.length
 ·have HR:Hid (r=false):=by show _=_;rw[HF.out];simp;omega
  go_enter Tryd.func57,Tryd.ntmps57
  go_wp2;go_ret;exact⟨Av HR.out.symm,Ap _⟩
 by_cases q1:(l.loop.length:Int)<1
 ·have HR:Hid (r=false):=by show _=_;rw[HF.out];simp;omega
  go_enter Tryd.func57,Tryd.ntmps57
  go_wp2;go_ret;exact⟨Av HR.out.symm,Ap _⟩
 by_cases q2:(40:Int)<l.loop.length
 ·have HR:Hid (r=false):=by show _=_;rw[HF.out];simp;omega
  go_enter Tryd.func57,Tryd.ntmps57
  go_wp2;go_ret;exact⟨Av HR.out.symm,Ap _⟩
 have HR:Hid (r=(r0&&r1)):=by
  show _=_;rw[HF.out,decide_eq_true (show l.stem.length<=60 by omega),decide_eq_true (show 1<=l.loop.length by omega),decide_eq_true (show l.loop.length<=40 by omega)];rfl
 go_enter Tryd.func57,Tryd.ntmps57
 go_wp2_with fail
 refine(H0.out _ (Ap _)).mono ?_;rintro e w' ⟨rfl,rfl⟩
 cases r0 with
 |false=>
  go_wp2;go_ret;exact⟨Av (by rw[HR.out];rfl),Ap _⟩
 |true=>
  go_wp2_with fail
  refine(H1.out _ (Ap _)).mono ?_;rintro e w' ⟨rfl,rfl⟩;go_wp2;go_ret;exact⟨Av (by rw[HR.out];rfl),Ap _⟩
theorem Af.take{w:World}{ao:Option Addr}{cap b off:Nat}{l:List Int}(h:H9 w ao cap b off l.length (ivF l))(hr:∀x∈l,I64 x)(k:Nat)(hk:k<=l.length):
  Af w (.slice ao k cap) (l.take k):=by
 have:=h.lc
 have hl:(l.take k).length=k:=by rw[List.length_take];omega
 refine⟨⟨ao,cap,b,off,by rw[hl],⟨by omega,h.cm,by have:=h.nm;omega,h.nc,fun h0=>h.ad (by omega),fun j hj=> ?_⟩⟩,fun x hx=>hr x (List.mem_of_mem_take hx)⟩;rw[hl]at hj;rw[On _ hj];exact h.el j (by omega)
def Si(l:Ls)(w:World)(e:Ending)(w':World):Prop:=
 ∃a b c d,e=.returned (.agg #[.slice a l.stem.length b,.slice c l.loop.length d])/\Hid (Af w' (.slice a l.stem.length b) l.stem)/\Hid (Af w' (.slice c l.loop.length d) l.loop)/\Below w.heap.size w w'
theorem EW.t{l:Ls}{w w':World}{e:Ending}(h:EW l w e w'):Si l w e w':=by
 obtain⟨v,rfl,⟨v0,v1,rfl,h0,h1⟩,hb⟩:=h;have k0:=h0;have k1:=h1;obtain⟨⟨a0,c0,b0,o0,rfl,g0⟩,-⟩:=h0;obtain⟨⟨a1,c1,b1,o1,rfl,g1⟩,-⟩:=h1;exact⟨a0,c0,a1,c1,rfl,k0,k1,hb⟩
def ltB(k:Int)(l:List Int):Bool:=l.all fun x=>decide (x<k)
theorem IR(k:Int)(l:Ls):CA k l=(ltB k l.stem&&ltB k l.loop&&Ek l):=by
 unfold CA ltB
 cases Ek l<;>simp
theorem GW{k:Int}{l:List Int}(h:l.all Hu=true):Ew k l=ltB k l:=by
 unfold Ew ltB;rw[Bool.eq_iff_iff,List.all_eq_true,List.all_eq_true];rw[List.all_eq_true]at h;exact⟨fun h2 x hx=>by have:=h2 x hx;simp at this;simpa using this.2,fun h2 x hx=>by have h3:=h2 x hx;have h4:=(D0 x).1 (h x hx);simp at h3⊢;omega⟩
theorem KA(k:Int)(l:Ls):CA k l=(Ek l&&Ew k l.stem&&Ew k l.loop):=by
 rw[IR]
 by_cases hf:Ek l=true
 ·obtain⟨_,_,_,h1,h2⟩:=(Dm l).1 hf;rw[GW (List.all_eq_true.2 h1),GW (List.all_eq_true.2 h2),hf];simp
 ·rw[Bool.not_eq_true]at hf;rw[hf];simp
theorem GV(w:World)(v:Value)(l:Ls)(k:Int)(hl:Df w v l):
  Calls Tryd.prog 23 #[.int .i64 k,v] w (AC (.bool (CA k l)) w):=by
 have HF:=Ab (fun(W:World)(hW:Below w.heap.size w W)=>N6 W v l (hl.below hW));have HR:=Ab (KA k l);obtain⟨v0,v1,rfl,h0,h1⟩:=hl;have H0:=Ab (fun(W:World)(hW:Below w.heap.size w W)=>GH W v0 l.stem k (h0.below hW));have H1:=Ab (fun(W:World)(hW:Below w.heap.size w W)=>GH W v1 l.loop k (h1.below hW));obtain⟨⟨a0,c0,b0,o0,rfl,g0⟩,-⟩:=h0;obtain⟨⟨a1,c1,b1,o1,rfl,g1⟩,-⟩:=h1;clear g0 g1;generalize CA k l=r at*;generalize Ek l=f at*;generalize Ew k l.stem=p at*;generalize Ew k l.loop=q at*
 go_enter Tryd.func23,Tryd.ntmps23
 go_wp2_with fail
 refine(HF.out _ (Ap _)).mono ?_;rintro e w2 ⟨rfl,hb2⟩;have hB2:=(Ap (w:=w) (Obj.cells #[Value.slice a0 l.stem.length c0,Value.slice a1 l.loop.length c1] 40)).trans (hb2.mono (by simp));have cA:w2.cell? ⟨w.heap.size,0,none⟩=some (Value.slice a0 l.stem.length c0):=LK 0 hb2 rfl;have cB:w2.cell? ⟨w.heap.size,1,none⟩=some (Value.slice a1 l.loop.length c1):=LK 1 hb2 rfl;clear hb2
 cases f with
 |false=>
  go_wp2;go_ret;exact⟨Av (by rw[HR.out];rfl),hB2⟩
 |true=>
  go_wp2_with fail
  refine(H0.out _ hB2).mono ?_;rintro e w3 ⟨rfl,rfl⟩
  cases p with
  |false=>
   go_wp2;go_ret;exact⟨Av (by rw[HR.out];rfl),hB2⟩
  |true=>
   go_wp2_with fail
   refine(H1.out _ hB2).mono ?_;rintro e w3 ⟨rfl,rfl⟩;go_wp2;go_ret;exact⟨Av (by rw[HR.out];rfl),hB2⟩
theorem GN(w:World)(va vb:Value)(a b:List Int)(ha:Af w va a)(hb:Af w vb b):
  Calls Tryd.prog 8 #[va,vb] w (Dt (.bool (decide (a=b))) w):=by
 obtain⟨⟨aa,ca,ba,oa,rfl,ha⟩,har⟩:=ha;obtain⟨⟨ab,cb,bb,ob,rfl,hb⟩,hbr⟩:=hb;have hna:=ha.nb;have hnb:=hb.nb;clear har hbr
 by_cases hlen:a.length=b.length
 case neg=>
  have hne:((a.length:Int) !=b.length)=true:=by simp;omega
  have HF:Hid (decide (a=b)=false):=decide_eq_false (fun e=>hlen (by rw[e]));clear hlen
  go_enter Tryd.func8,Tryd.ntmps8
  go_wp2;go_ret;exact⟨Av (by rw[HF.out]),0,rfl⟩
 have hne:((a.length:Int) !=b.length)=false:=by simp;omega
 have HLN:=Ab hlen;clear hlen
 go_enter Tryd.func8,Tryd.ntmps8
 go_wp2
 go_loopw [5] (fun i wr=>∃(k m:Nat),i=.int .i64 k/\k<=a.length/\Hid (a.take k=b.take k)/\wr=w.drewN m) (fun i _=>a.length-(intOf i).toNat)
 case atStart=>exact⟨0,0,rfl,by omega,by show _=_;simp,rfl⟩
 case round=>
  obtain⟨k,m,rfl,hk,HE,rfl⟩:=hrel
  by_cases hlt:k<a.length
  ·have hltb:k<b.length:=by rw[<-HLN.out];exact hlt
   obtain rfl:=ha.ad (by omega);obtain rfl:=hb.ad (by omega);have c1:=ha.el k hlt;have c2:=hb.el k hltb;unfold ivF at c1 c2;rw[Ag _ _ _ hlt]at c1;rw[Ag _ _ _ hltb]at c2
   by_cases hq:a[k]=b[k]
   ·have hq2:(a[k] !=b[k])=false:=by simp[hq]
    have HE2:Hid (a.take (k+1)=b.take (k+1)):=Jo hlt hltb HE.out hq;clear hq;go_wp2
    go_quiet (fail)
    go_wp2
    go_roundw
    case rel=>exact⟨k+1,_,by go_num,by omega,HE2.out,rfl⟩
    case measure=>simp[intOf];omega
   ·have hq2:(a[k] !=b[k])=true:=by simp[hq]
    have HF:Hid (decide (a=b)=false):=decide_eq_false (fun e=>hq (by subst e;rfl));clear hq;go_wp2
    go_quiet (fail)
    go_wp2;go_ret;exact⟨Av (by rw[HF.out]),m+nq,by simp[World.drewN,Nat.add_assoc]⟩
  ·obtain rfl:k=a.length:=by omega
   have HF:Hid (decide (a=b)=true):=decide_eq_true (by
    have:=HE.out;rw[List.take_length,HLN.out,List.take_length]at this
    exact this)
   go_wp2;go_ret;exact⟨Av (by rw[HF.out]),m,rfl⟩
theorem Pi(w:World)(va vb:Value)(a b:Ls)(ha:Df w va a)(hb:Df w vb b):
  Calls Tryd.prog 11 #[va,vb] w (AC (.bool (decide (a=b))) w):=by
 obtain⟨x0,x1,rfl,h0,h1⟩:=ha;obtain⟨y0,y1,rfl,k0,k1⟩:=hb;have H0:=Ab (fun(W:World)(hW:Below w.heap.size w W)=>GN W x0 y0 a.stem b.stem (h0.below hW) (k0.below hW));have H1:=Ab (fun(W:World)(hW:Below w.heap.size w W)=>GN W x1 y1 a.loop b.loop (h1.below hW) (k1.below hW));obtain⟨⟨a0,c0,b0,o0,rfl,-⟩,-⟩:=h0;obtain⟨⟨a1,c1,b1,o1,rfl,-⟩,-⟩:=h1;obtain⟨⟨a2,c2,b2,o2,rfl,-⟩,-⟩:=k0;obtain⟨⟨a3,c3,b3,o3,rfl,-⟩,-⟩:=k1
 have HR:Hid (decide (a=b)=(decide (a.stem=b.stem)&&decide (a.loop=b.loop))):=by
  show _=_;obtain⟨a1,a2⟩:=a;obtain⟨b1,b2⟩:=b;simp
 generalize decide (a.stem=b.stem)=r0 at*;generalize decide (a.loop=b.loop)=r1 at*;generalize decide (a=b)=r at*
 go_enter Tryd.func11,Tryd.ntmps11
 go_wp2_with fail
 refine(H0.out _ (by repeat(first|exact Ad|assumption|(refine AF ?_ _)|(refine AE ?_ _)|(refine Below.drew ?_)))).mono ?_;rintro e w' ⟨rfl,n0,rfl⟩
 cases r0 with
 |false=>
  go_wp2;go_ret;exact⟨Av (by rw[HR.out];rfl),(by repeat(first|exact Ad|assumption|(refine AF ?_ _)|(refine AE ?_ _)|(refine Below.drew ?_)))⟩
 |true=>
  go_wp2_with fail
  refine(H1.out _ (by repeat(first|exact Ad|assumption|(refine AF ?_ _)|(refine AE ?_ _)|(refine Below.drew ?_)))).mono ?_;rintro e w' ⟨rfl,n1,rfl⟩;go_wp2;go_ret;exact⟨Av (by rw[HR.out];rfl),(by repeat(first|exact Ad|assumption|(refine AF ?_ _)|(refine AE ?_ _)|(refine Below.drew ?_)))⟩
end Go.Proofs.YtncjeamdkjcebaaDoor
