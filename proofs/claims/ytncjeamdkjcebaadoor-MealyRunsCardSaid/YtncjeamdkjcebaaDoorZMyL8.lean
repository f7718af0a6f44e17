/- The law MealyRuns, with head and the comparison of lists put in. -/
import Derived.Test.YtncjeamdkjcebaaDoorRows
import Derived.ProofKit
import Derived.Lib.SmallJoins
import Derived.Deep.Matrix
import Derived.Deep.Slices
import Derived.Deep.Grids
import Derived.SizedLaws
import Derived.OpenShut
import Derived.LaidMore
import Derived.Test.YtncjeamdkjcebaaDoorZMyL7
import Derived.Test.YtncjeamdkjcebaaDoorZMyH3
set_option linter.all false
namespace Go.Proofs.YtncjeamdkjcebaaDoor
open Go.RowKit
theorem Ns(w:World)(vm va vb:Value)(m:My)(f:Int)(a b:List Int)(hK:Bt w)(hm:By w vm m)(hf:0<=f/\f<=255)(ha:Af w va a)(hb:Af w vb b):
  Calls Tryd.prog 3 #[vm,.int .u8 f,va,vb] w (AC (.bool true) w):=
 Ms (fun W h=>Rc W h) (fun W va vb a b h1 h2=>(GN W va vb a b h1 h2).mono fun _ _ h=>h.calm) w vm va vb m f a b hK hm hf ha hb
end Go.Proofs.YtncjeamdkjcebaaDoor
namespace Go.Proofs.YtncjeamdkjcebaaDoor
set_option maxRecDepth 100000
open Go.ChangeShapes Go.WideShapes Go.ChangeAt Go.RowKit Go.Joins Go.Deep
theorem Ii:Tryd.prog.bytesOf 3=8:=by kernel_rfl
theorem KU:Tryd.prog.bytesOf 25=24:=by kernel_rfl
theorem Ik:Tryd.prog.cellsOf 3=1:=by kernel_rfl
theorem KW:Tryd.prog.cellsOf 25=1:=by kernel_rfl
theorem I6:Tryd.prog.cellsOf 9=1:=by kernel_rfl
section
variable {H:Type} {enc:TypeId×Value->H} {W:World}
theorem Fg{w:World}{a:Addr}{n:Nat}{f:Nat->Value}(h:∀i,i<n->w.cell? (a.add i)=some (f i)):(0<n->some a=some ⟨a.block,a.off,none⟩)/\∀i,i<n->w.cell? ⟨a.block,a.off+i,none⟩=some (f i):=by
 have hs:0<n->a.spot=none:=fun h0=>by
  have h1:=h 0 h0
  have e:a.add 0=a:=by simp[Addr.add]
  rw[e]at h1;unfold World.cell? at h1
  split at h1
  ·cases hsp:a.spot with
   |none=>rfl
   |some x=>rw[hsp]at h1;simp at h1
  ·cases h1
 refine⟨fun h0=>by rw[show a=⟨a.block,a.off,a.spot⟩from rfl,hs h0],fun i hi=> ?_⟩;have h1:=h i hi;unfold Addr.add at h1
 split at h1
 ·rename_i e;subst e
  have e2:a=⟨a.block,a.off+0,none⟩:=by
   have:=hs hi
   cases a;simp at this;simp[this]
  rw[<-e2];exact h1
 ·exact h1
theorem wf_i64{n:Int}(h:(Lit.int .i64 n).wf=true):I64 n:=by
 have:=bounds_i64 h;unfold I64;omega
theorem Sg{n:Int}(h:(Lit.int .u8 n).wf=true):0<=n/\n<=255:=by
 have:=bounds_u8 h;omega
theorem ID{t:TypeId}{fuel:Nat}{v:Value}{x:DataW H×List MemPlace}(ht:Tryd.prog.underlying t=some (.slice 3))(h:DataW.trod enc Tryd.prog W 0 (fun _=>true) true fuel t [v]=some x)
  (hr:∀n∈x.1.weights Tryd.prog t,n<=reachBytes):∃l,Af W v l:=by
 rcases open_ints ht Tryd.underlying3 Ik h with⟨hcs,_⟩|⟨a,len,cap,zs,hcs,_,hl,hm,hz,hx,hcell,hwz⟩
 ·simp at hcs;subst hcs;exact⟨[],⟨none,0,0,0,rfl,Nat.le_refl _,Nat.zero_le _,Nat.zero_le _,fun _=>rfl,(fun h=>absurd h (by simp)),fun j hj=>absurd hj (by simp)⟩,by simp⟩
 ·simp at hcs;subst hcs;simp only[if_true]at hz;have hw:=hr ((zs.take len).length*8+(zs.drop len).length*8) (by rw[hx];simp[DataW.weights,ht,Ii,lits];omega)
  have hlen:(zs.take len).length=len:=by simp;omega
  have hreach:reachBytes=140737488351232:=rfl;obtain⟨h1,h2⟩:=Fg (f:=fun i=>.int .i64 (zs.getD i 0)) hcell;refine⟨zs.take len,⟨some a,cap,a.block,a.off,by rw[hlen],by omega,hm,by simp only[Bg];omega,(fun h=>by cases h),fun h0=>h1 (by omega),fun j hj=> ?_⟩,fun n hn=>wf_i64 (hwz n (List.mem_of_mem_take hn))⟩;rw[h2 j (by omega)];simp[ivF,List.getD,show j<len from by omega]
theorem El{P:Program}{e:TypeId}:∀{l:List (DataW H)}{d:DataW H},d∈l->∀n∈d.weights P e,n∈DataW.weightsAll P e l
 |d'::r,d,hd,n,hn=>by
  simp only[DataW.weightsAll,List.mem_append]
  rcases List.mem_cons.1 hd with rfl|h
  ·exact Or.inl hn
  ·exact Or.inr (El h n hn)
instance:Inhabited Sig:=⟨Hi⟩
theorem IE{t:TypeId}{fuel:Nat}{v:Value}{x:DataW H×List MemPlace}(ht:Tryd.prog.underlying t=some (.slice 25))(h:DataW.trod enc Tryd.prog W 0 (fun _=>true) true fuel t [v]=some x)
  (hr:∀n∈x.1.weights Tryd.prog t,n<=reachBytes):∃l,Ao W v l:=by
 have hreach:reachBytes=140737488351232:=rfl
 rcases open_int_rows ht Tryd.underlying25 Tryd.underlying3 KW Ik h with⟨hcs,_⟩|⟨a,len,cap,A,L,C,Z,hcs,_,hl,hm,hx,hrow⟩
 ·simp at hcs;subst hcs;exact⟨[],fun _=>undef,⟨none,0,0,0,rfl,Nat.le_refl _,Nat.zero_le _,Nat.zero_le _,fun _=>rfl,(fun h=>absurd h (by simp)),fun j hj=>absurd hj (by simp)⟩,fun j hj=>absurd hj (by simp)⟩
 ·simp at hcs;subst hcs;have hw:=hr (cap*24) (by rw[hx];simp[DataW.weights,ht,KU];left;congr 1;omega);obtain⟨h1,h2⟩:=Fg (f:=fun i=>.slice (A i) (L i) (C i)) (fun i hi=>(hrow i hi).1);refine⟨(List.range len).map fun r=>(Z r).take (L r),fun j=>.slice (A j) (L j) (C j),⟨some a,cap,a.block,a.off,by simp,by simpa using hl,hm,by simp only[Bg,List.length_map,List.length_range];omega,(fun h=>by cases h),fun h0=>h1 (by simp at h0;omega),fun j hj=>h2 j (by simp at hj;omega)⟩,fun j hj=> ?_⟩
  have hj':j<len:=by simpa using hj
  have e:((List.range len).map fun r=>(Z r).take (L r)).getD j []=(Z j).take (L j):=by simp[List.getD,hj']
  rw[e];obtain⟨_,r1,r2,r3,r4,r5,r6⟩:=hrow j (by omega)
  have hlen:((Z j).take (L j)).length=L j:=by simp;omega
  cases hA:A j with
  |none=>
   have hc0:=r5 hA
   have hl0:L j=0:=by omega
   have hz0:(Z j).take (L j)=[]:=by rw[hl0];rfl
   rw[hz0];show Af W (.slice (A j) (L j) (C j)) [];rw[hA,hl0,hc0];exact⟨⟨none,0,0,0,rfl,Nat.le_refl _,Nat.zero_le _,Nat.zero_le _,fun _=>rfl,(fun h=>absurd h (by simp)),fun j hj=>absurd hj (by simp)⟩,by simp⟩
  |some a'=>
   obtain⟨_,hcell⟩:=r6 a' hA
   have hw2:=hr (C j*8) (by
    rw[hx];simp only[DataW.weights,ht,List.mem_cons,List.mem_append];refine .inr (.inl (El (d:=intRow .i64 (A j) (L j) (Z j)) (List.mem_map.2 ⟨j,List.mem_range.2 hj',rfl⟩) _ ?_));rw[hA];simp[intRow,DataW.weights,Tryd.underlying25,Ii,lits]
    left;congr 1;omega)
   obtain⟨g1,g2⟩:=Fg (f:=fun i=>.int .i64 ((Z j).getD i 0)) hcell;refine⟨⟨some a',C j,a'.block,a'.off,(by show Value.slice (A j) (L j) (C j)=_;rw[hA,hlen]),by omega,r2,by simp only[Bg];omega,(fun h=>by cases h),fun h0=>g1 (by omega),fun i hi=> ?_⟩,fun n hn=>wf_i64 (r4 n (List.mem_of_mem_take hn))⟩;rw[g2 i (by omega)];simp[ivF,List.getD,show i<L j from by omega]
theorem R6:Tryd.prog.globalNamed "foresight/signal.keys"=some 0:=by kernel_rfl
theorem Sd:(Tryd.prog.globals[0]?).map (·.type)=some 138:=by kernel_rfl
theorem Je{W:World}(h:laidMetH Tryd.prog [("foresight/signal.keys",Rows.laid_foresight_signal_keys)] W):Bt W:=by
 rw[MakeChecks.laidMetH_plain _ _ _ (by kernel_rfl)]at h;obtain⟨ps,⟨g0,t0,cs0,f0,p0,q0,hg0,ht0,hv0,hd0,_,_⟩,_⟩:=h;obtain rfl:=Option.some.inj (R6.symm.trans hg0);obtain rfl:=Option.some.inj (Sd.symm.trans ht0);obtain⟨xs,m1,rfl,hx1,hlen,hn3,hel⟩:=DataW.trod_array Tryd.underlying138 hd0
 have c45:Tryd.prog.cellsOf 138=10:=by kernel_rfl
 intro j hj;have hcell:=World.var?_cell hg0 hv0 j;obtain⟨l0⟩:=cs0;have h1:=hel j hj;simp only[I6,Nat.mul_one]at h1;simp only[Prod.mk.injEq]at hx1;rw[show(⟨0,j,none⟩:Addr)=⟨0,j,none⟩from rfl]at hcell
 have hxs:∀k,k<10->(xs[k]?).map (·.1)=some (.lit (.string (J6.getD k []))):=fun k hk=>by
  have e:=congrArg (fun d=>match d with|DataW.agg parts=>parts[k]? | _=>none) hx1.1;simp only[List.getElem?_map]at e;rw[<-e]
  match k,hk with
  |0,_=>rfl
  |1,_=>rfl
  |2,_=>rfl
  |3,_=>rfl
  |4,_=>rfl
  |5,_=>rfl
  |6,_=>rfl
  |7,_=>rfl
  |8,_=>rfl
  |9,_=>rfl
 have hx2:=hxs j hj
 cases hxj:xs[j]? with
 |none=>rw[hxj]at hx2;simp at hx2
 |some y=>
  rw[hxj]at hx2 h1;simp only[Option.map_some,Option.some.injEq]at hx2;obtain⟨s,e1,hy,_⟩:=DataW.trod_string Tryd.underlying9 h1;rw[hy]at hx2;simp only[DataW.lit.injEq,Lit.string.injEq]at hx2
  have hs:s=Eb j:=by
   unfold Eb;rw[<-hx2]
  rw[hs]at e1
  have e2:l0[j]? =some (.string (Eb j)):=by
   have:=congrArg (fun l=>l[0]?) e1;simpa[List.getElem?_drop]using this
  rw[hcell];simpa using e2
theorem NY(os:Os)(args:Array Value):laidMetH Tryd.prog [("foresight/signal.keys",Rows.laid_foresight_signal_keys)] ((World.doorLaid Tryd.prog 400 os).forCall (fun _ _=>0) ⟨#[],args,[]⟩).memory:=
 laidMetH_of_parts3 (fuel:=8) (laidMet_of_run' 8 (by kernel_rfl) (by kernel_rfl)) (by kernel_rfl) (by kernel_rfl)
theorem Nb{W W':World}(hl:laidOutB Tryd.prog=true){ts:List TypeId}(hts:(ts.all fun t=>Tryd.prog.readableRec t&&decide (t<Tryd.prog.types.size))=true):
  ∀{vs:List Value}{ds:List (DataW H)}{ps:List MemPlace},DataW.TrodAll enc Tryd.prog W 0 (fun _=>true) true ts vs ds ps->Below W.heap.size W W'->(∀x∈ps,x.block<W.heap.size)->
   DataW.TrodAll enc Tryd.prog W' 0 (fun b=>decide (b<W.heap.size)) true ts vs ds ps:=by
 induction ts with
 |nil=>
  intro vs ds ps h hb hlt;obtain⟨rfl,rfl,rfl⟩:=trodAll_nil h;simp[DataW.TrodAll]
 |cons t ts ih=>
  intro vs ds ps h hb hlt;simp only[List.all_cons,Bool.and_eq_true,decide_eq_true_eq]at hts;obtain⟨v,vs',d,ds',p,q,rfl,rfl,rfl,h0,hR⟩:=trodAll_cons h;exact trodAll_cons_mk (Below.trod hl hts.1.1 hts.1.2 h0 hb (fun x hx=>hlt x (by simp[hx]))) (ih hts.2 hR hb (fun x hx=>hlt x (by simp[hx])))
end
set_option maxRecDepth 100000
open Go.ChangeShapes Go.WideShapes Go.ChangeAt Go.RowKit Go.Joins Go.Deep
theorem NR:Tryd.prog.cellsOf 24=5:=by kernel_rfl
theorem Q0{α:Type}{cs:Array α}(h:cs.size=5):∃c0 c1 c2 c3 c4,cs=#[c0,c1,c2,c3,c4]:=by
 obtain⟨l⟩:=cs
 match l,h with
 |[c0,c1,c2,c3,c4],_=>exact⟨c0,c1,c2,c3,c4,rfl⟩
section
variable {H:Type} {enc:TypeId×Value->H} {W:World}
theorem MN{P:Program}{base:Nat}{spare:Nat->Bool}{held:Bool}{r:Reach}{b0:Nat}{t:TypeId}{f0 f1 f2 f3 f4:Field}{v:Value}{d:DataW H}{p:List MemPlace}(hs:P.underlying t=some (.struct #[f0,f1,f2,f3,f4]))(hone:oneCellFields P #[f0,f1,f2,f3,f4]=true)(hC:P.cellsOf t=5)
  (hv:Value.okWide P W r b0 t v) (h:DataW.Trod enc P W base spare held t v d p):
  ∃(v0 v1 v2 v3 v4:Value)(y0 y1 y2 y3 y4:DataW H×List MemPlace)(n:Nat),v=.agg #[v0,v1,v2,v3,v4]/\d=.agg [y0.1,y1.1,y2.1,y3.1,y4.1]/\p=y0.2++(y1.2++(y2.2++(y3.2++y4.2)))/\
   DataW.trod enc P W base spare held n f0.type [v0]=some y0/\DataW.trod enc P W base spare held n f1.type [v1]=some y1/\DataW.trod enc P W base spare held n f2.type [v2]=some y2/\DataW.trod enc P W base spare held n f3.type [v3]=some y3/\DataW.trod enc P W base spare held n f4.type [v4]=some y4:=by
 obtain⟨cs,rfl,hsz⟩:=okWide_struct hs hv;obtain⟨c0,c1,c2,c3,c4,rfl⟩:=Q0 (hsz.trans hC);obtain⟨fuel,hf⟩:=h;obtain⟨xs,n,_,hx,hl,hlen,hf⟩:=DataW.trod_struct hs hf;obtain⟨o0,k0⟩:=hone_of hone 0 f0 rfl;obtain⟨o1,k1⟩:=hone_of hone 1 f1 rfl;obtain⟨o2,k2⟩:=hone_of hone 2 f2 rfl;obtain⟨o3,k3⟩:=hone_of hone 3 f3 rfl;obtain⟨o4,k4⟩:=hone_of hone 4 f4 rfl
 obtain⟨y0,y1,y2,y3,y4,rfl⟩:∃y0 y1 y2 y3 y4,xs=[y0,y1,y2,y3,y4]:=by
  match xs,hlen with
  |[a,b,c,d,e],_=>exact⟨a,b,c,d,e,rfl⟩
 simp only[Prod.mk.injEq]at hx;exact⟨c0,c1,c2,c3,c4,y0,y1,y2,y3,y4,n,rfl,by simpa using hx.1,by simpa using hx.2,by simpa[Value.cells,o0,k0]using hf 0 f0 rfl,by simpa[Value.cells,o1,k1]using hf 1 f1 rfl,by simpa[Value.cells,o2,k2]using hf 2 f2 rfl,by simpa[Value.cells,o3,k3]using hf 3 f3 rfl,by simpa[Value.cells,o4,k4]using hf 4 f4 rfl⟩
theorem Qj{base:Nat}{v:Value}{d:DataW H}{p:List MemPlace}(hv:Value.okWide Tryd.prog W .any base 24 v)(h:DataW.Trod enc Tryd.prog W 0 (fun _=>true) true 24 v d p)
  (hr:∀n∈d.weights Tryd.prog 24,n<=reachBytes):∃m,By W v m:=by
 obtain⟨v0,v1,v2,v3,v4,y0,y1,y2,y3,y4,n,rfl,rfl,rfl,h0,h1,h2,h3,h4⟩:=MN Tryd.underlying24 (by kernel_rfl) NR hv h
 have hw:∀n∈DataW.weightsEach Tryd.prog [3,3,3,22,22] [y0.1,y1.1,y2.1,y3.1,y4.1],n<=reachBytes:=fun n hn=>hr n (by simp only[DataW.weights,Tryd.underlying24];exact hn)
 obtain⟨z0,e0,_,w0⟩:=DataW.trod_int Tryd.underlying3 h0;obtain⟨z1,e1,_,w1⟩:=DataW.trod_int Tryd.underlying3 h1;obtain⟨z2,e2,_,w2⟩:=DataW.trod_int Tryd.underlying3 h2;simp at e0 e1 e2;subst e0 e1 e2;obtain⟨l3,r3⟩:=IE Tryd.underlying22 h3 (fun n hn=>hw n (DataW.weights_mem_each (j:=3) rfl rfl n hn));obtain⟨l4,r4⟩:=IE Tryd.underlying22 h4 (fun n hn=>hw n (DataW.weights_mem_each (j:=4) rfl rfl n hn));exact⟨⟨z0,z1,z2,l3,l4⟩,v3,v4,rfl,⟨wf_i64 w0,wf_i64 w1,wf_i64 w2⟩,r3,r4⟩
end
end Go.Proofs.YtncjeamdkjcebaaDoor
