/- What the walks of chapter 26's laws share, ahead of head. -/
import Derived.Test.YtncjeamdkjcebaaGreatDoorRows
import Derived.ProofKit
import Derived.Lib.SmallJoins
import Derived.Deep.Matrix
import Derived.Deep.Slices
import Derived.Deep.Grids
import Derived.SizedLaws
import Derived.OpenShut
import Derived.LaidMore
import Derived.Test.YtncjeamdkjcebaaGreatDoorZMyH3
set_option linter.all false
namespace Go.Proofs.YtncjeamdkjcebaaGreatDoor
open Go.RowKit
def BW(w W:World):Prop:=Below w.heap.size w W
theorem BW.step{w W W':World}(h:BW w W)(hb:Below W.heap.size W W'):BW w W':=Below.trans h (hb.mono (Below.size h))
theorem Ud{w w':World}{q:Nat}{o:Obj}(hb:BW w w')(h:w.heap[q]? =some o):w'.heap[q]? =some o:=Ae hb h
theorem BM.shp9{w:World}{v:Value}{m:My}(h:BM w v m):∃i o s a n c b k d,v=.agg #[.int .i64 i,.int .i64 o,.int .i64 s,.slice a n c,.slice b k d]:=by
 obtain⟨v3,v4,rfl,-,h0,h1⟩:=h;obtain⟨a0,c0,rfl⟩:=h0.shape;obtain⟨a1,c1,rfl⟩:=h1.shape;exact⟨_,_,_,_,_,_,_,_,_,rfl⟩
theorem Dl.shp9{w:World}{v:Value}{m:Mo}(h:Dl w v m):∃i o s a n c b k d,v=.agg #[.int .i64 i,.int .i64 o,.int .i64 s,.slice a n c,.slice b k d]:=by
 obtain⟨v3,v4,rfl,-,h0,h1⟩:=h;obtain⟨a0,c0,rfl⟩:=h0.shape;obtain⟨a1,c1,rfl⟩:=h1.shape;exact⟨_,_,_,_,_,_,_,_,_,rfl⟩
theorem Nh{m:My}{k:Int}(h:J8 m k=true):(m.out.length:Int)<=k:=by
 unfold J8 at h;rw[Bool.and_eq_true,K3]at h;exact h.1.1
theorem Ar.el{w:World}{a:Option Addr}{n c:Nat}{ll:List (List Int)}(h:Ar w (.slice a n c) ll){q x:Nat}(hq:q<ll.length)(hx:x<(ll.getD q []).length):
  ∃b o b2 o2 n2 c2,a=some ⟨b,o,none⟩/\q<n/\w.cell? ⟨b,o+q,none⟩=some (.slice (some ⟨b2,o2,none⟩) n2 c2)/\x<n2/\w.cell? ⟨b2,o2+x,none⟩=some (.int .i64 ((ll.getD q []).getD x 0)):=by
 obtain⟨a',c',hv⟩:=h.shape
 injection hv with h1 h2 h3
 subst h1 h2 h3;obtain⟨b,o,d,-,f⟩:=h.dat2;obtain⟨ao,cap,f1,f2⟩:=f q hq;obtain⟨b2,o2,d2,-,g⟩:=f2.data;obtain rfl:=d2 (by omega);exact⟨b,o,b2,o2,_,_,d (by omega),hq,f1,hx,g x hx⟩
theorem Ai.el{w:World}{a:Option Addr}{n c:Nat}{l:List Int}(h:Ai w (.slice a n c) l){q:Nat}(hq:q<l.length):
  ∃b o,a=some ⟨b,o,none⟩/\q<n/\w.cell? ⟨b,o+q,none⟩=some (.int .i64 (l.getD q 0)):=by
 obtain⟨a',c',hv⟩:=h.shape
 injection hv with h1 h2 h3
 subst h1 h2 h3;obtain⟨b,o,d,-,f⟩:=h.data;exact⟨b,o,d (by omega),hq,f q hq⟩
theorem BM.vals{w:World}{i o s:Int}{a b:Option Addr}{n c k d:Nat}{m:My}(h:BM w (.agg #[.int .i64 i,.int .i64 o,.int .i64 s,.slice a n c,.slice b k d]) m):
  i=m.ins/\o=m.outs/\s=m.start/\n=m.out.length/\k=m.next.length/\Ar w (.slice a n c) m.out/\Ar w (.slice b k d) m.next:=by
 obtain⟨v3,v4,hv,-,h0,h1⟩:=h;simp only[Value.agg.injEq,Array.mk.injEq,List.cons.injEq,Value.int.injEq,true_and,and_true]at hv;obtain⟨rfl,rfl,rfl,rfl,rfl⟩:=hv;obtain⟨a',c',e0⟩:=h0.shape;obtain⟨b',d',e1⟩:=h1.shape
 injection e0 with _ e0 _
 injection e1 with _ e1 _
 exact⟨rfl,rfl,rfl,e0,e1,h0,h1⟩
theorem Dl.vals{w:World}{i o s:Int}{a b:Option Addr}{n c k d:Nat}{m:Mo}(h:Dl w (.agg #[.int .i64 i,.int .i64 o,.int .i64 s,.slice a n c,.slice b k d]) m):
  i=m.ins/\o=m.outs/\s=m.start/\n=m.inn.length/\k=m.next.length/\Ai w (.slice a n c) m.inn/\Ar w (.slice b k d) m.next:=by
 obtain⟨v3,v4,hv,-,h0,h1⟩:=h;simp only[Value.agg.injEq,Array.mk.injEq,List.cons.injEq,Value.int.injEq,true_and,and_true]at hv;obtain⟨rfl,rfl,rfl,rfl,rfl⟩:=hv;obtain⟨a',c',e0⟩:=h0.shape;obtain⟨b',d',e1⟩:=h1.shape
 injection e0 with _ e0 _
 injection e1 with _ e1 _
 exact⟨rfl,rfl,rfl,e0,e1,h0,h1⟩
theorem Co.shp6{w:World}{v:Value}{l:Ls}(h:Co w v l):∃a n c b k d,v=.agg #[.slice a n c,.slice b k d]:=by
 obtain⟨a0,c0,a1,c1,rfl⟩:=h.shp;exact⟨_,_,_,_,_,_,rfl⟩
theorem Ib(w:World)(vl:Value)(l:List Sig)(hl:AH w vl l):Calls Tryz.prog 8 #[vl] w (Av (.bool (D7 l)) w):=
 (Pc w vl l hl).mono fun e w' h=>⟨h.1,by rw[h.2];exact Ad⟩
theorem L4{st:Nat->Nat}{lt:Nat->Int}{nx:Nat->Nat}{le:Nat->Int}{N:Nat}(hN:∀i,st i<N)(hs:∀i,st (i+1)=nx (st i))(hl:∀i,lt i=le (st i))(hf:0<(GI st lt).loop.length)(i:Nat):atI (GI st lt) i=lt i:=by
 obtain⟨m,n,h,-⟩:=MT hN;rw[Ff h]at hf⊢
 have hcut:AW lt m n=AW (fun i=>le (st i)) m n:=by rw[funext hl]
 unfold IN at hf⊢
 by_cases hF:BV (Cw (AW lt m n))=true
 ·rw[if_pos hF]at hf⊢;rw[Hv (by omega) hF,Int.toNat_natCast,(EH (KX h.1)).2.1,hcut,PD h hs,hl]
 ·rw[if_neg hF]at hf;exact absurd hf (by simp[C9])
def TP(m:My)(e:Mo)(c:Nat):Nat:=
 let q:=c%m.out.length
 let r:=c/m.out.length
 (enI e r (Bg m q (e.inn.getD r 0).toNat).toNat).toNat*m.out.length+(nxI m q (e.inn.getD r 0).toNat).toNat
def TL(l:List Sig)(m:My)(e:Mo)(c:Nat):Int:=
 AO l (e.inn.getD (c/m.out.length) 0) (Bg m (c%m.out.length) (e.inn.getD (c/m.out.length) 0).toNat)
theorem QR{l:List Sig}{m:My}{e:Mo}(hf:Bm l m=true)(he:E6 l e=true)(hw:0<(CR l m e).loop.length)(i:Nat):atI (CR l m e) i=ltP l m e i:=by
 obtain⟨h1,h2,h3,h4⟩:=AN.1 hf;obtain⟨-,k2,k3,k4⟩:=Db.1 he;have hp:PlV m e:=⟨h2,k2,by omega,by omega⟩;unfold CR at hw⊢;rw[if_pos ⟨hf,he⟩]at hw⊢;refine L4 (nx:=TP m e) (le:=TL l m e) (QF hp) (fun i=> ?_) (fun i=> ?_) hw i
 ·unfold TP;obtain⟨e1,e2⟩:=Kt hp i;simp only[e1,e2];rfl
 ·unfold TL;obtain⟨e1,e2⟩:=Kt hp i;simp only[e1,e2];rfl
theorem Qs{l:List Sig}{m:My}{e:Mo}(hf:Bm l m=true)(he:E6 l e=true)(i:Nat):
  (0<=ltP l m e i/\ltP l m e i<64)/\BZ l true (ltP l m e i)=e.inn.getD (prP m e i).2 0/\BZ l false (ltP l m e i)=Bg m (prP m e i).1 (e.inn.getD (prP m e i).2 0).toNat/\
  (prP m e i).1<m.out.length/\(prP m e i).2<e.inn.length/\(0<=e.inn.getD (prP m e i).2 0/\(e.inn.getD (prP m e i).2 0).toNat<(m.out.getD (prP m e i).1 []).length/\(e.inn.getD (prP m e i).2 0).toNat<(m.next.getD (prP m e i).1 []).length)/\
  (0<=Bg m (prP m e i).1 (e.inn.getD (prP m e i).2 0).toNat/\(Bg m (prP m e i).1 (e.inn.getD (prP m e i).2 0).toNat).toNat<(e.next.getD (prP m e i).2 []).length)/\
  nxI m (prP m e i).1 (e.inn.getD (prP m e i).2 0).toNat=((prP m e (i+1)).1:Int)/\enI e (prP m e i).2 (Bg m (prP m e i).1 (e.inn.getD (prP m e i).2 0).toNat).toNat=((prP m e (i+1)).2:Int):=by
 obtain⟨h1,h2,h3,h4⟩:=AN.1 hf;obtain⟨-,k2,k3,k4⟩:=Db.1 he;have hp:PlV m e:=⟨h2,k2,by omega,by omega⟩;obtain⟨a1,a2⟩:=hp.lt i;have hb:=k2.in' a2;have ho:=h2.out' a1 (x:=(e.inn.getD (prP m e i).2 0).toNat) (by omega);have hx:=h2.nx' a1 (x:=(e.inn.getD (prP m e i).2 0).toNat) (by omega);have hy:=k2.nx' a2 (y:=(Bg m (prP m e i).1 (e.inn.getD (prP m e i).2 0).toNat).toNat) (by omega);obtain⟨-,j2,j3⟩:=Cc h1 (i:=e.inn.getD (prP m e i).2 0) (o:=Bg m (prP m e i).1 (e.inn.getD (prP m e i).2 0).toNat) hb.1 (by omega) ho.2.1 (by omega);refine⟨Qd hp hf i,j2,j3,a1,a2,⟨hb.1,ho.1,hx.1⟩,⟨ho.2.1,hy.1⟩, ?_, ?_⟩
 ·show _=(((nxI m _ _).toNat:Nat):Int);omega
 ·show _=(((enI e _ _).toNat:Nat):Int);omega
def TQ(m:My)(w:Ls)(c:Nat):Nat:=
 let q:=c%m.out.length
 let p:=c/m.out.length
 (if p+1=w.stem.length+w.loop.length then w.stem.length else p+1)*m.out.length+(nxI m q ((w.stem++w.loop).getD p 0).toNat).toNat
def TM(l:List Sig)(m:My)(w:Ls)(c:Nat):Int:=
 AO l ((w.stem++w.loop).getD (c/m.out.length) 0) (Bg m (c%m.out.length) ((w.stem++w.loop).getD (c/m.out.length) 0).toNat)
theorem Fg{l:List Sig}{m:My}{ins:Ls}(hf:Bm l m=true)(hv:Bi m.ins ins=true)(hw:0<(BL l m ins).loop.length)(i:Nat):atI (BL l m ins) i=ltW l m ins i:=by
 obtain⟨h1,h2,h3,h4⟩:=AN.1 hf;have hi:=Df hv;unfold BL at hw⊢;rw[if_pos ⟨hf,hv⟩]at hw⊢;refine L4 (nx:=TQ m ins) (le:=TM l m ins) (M0 h2 hi) (fun i=> ?_) (fun i=> ?_) hw i
 ·unfold TQ;obtain⟨e1,e2⟩:=Ku h2 hi i;simp only[e1,e2,ID];rw[<-GZ hi.p];rfl
 ·unfold TM;obtain⟨e1,e2⟩:=Ku h2 hi i;simp only[e1,e2,ID];rfl
theorem OS{l:List Sig}{m:My}{ins:Ls}(hw:0<(BL l m ins).loop.length):Bm l m=true/\Bi m.ins ins=true:=by
 unfold BL at hw
 split at hw
 ·assumption
 ·exact absurd hw (by simp[C9])
theorem GJ{l:List Sig}{m:My}{ins:Ls}(hf:Bm l m=true)(hv:Bi m.ins ins=true)(i:Nat):
  (0<=ltW l m ins i/\ltW l m ins i<64)/\BZ l true (ltW l m ins i)=atL ins i/\BZ l false (ltW l m ins i)=Bg m (qW m ins i) (atL ins i).toNat:=by
 obtain⟨h1,h2,h3,h4⟩:=AN.1 hf;have hi:=Df hv;have hb:=hi.b i;have hq:=Hg h2 hi i;have ho:=h2.out' hq (x:=(atL ins i).toNat) (by omega);obtain⟨-,j2,j3⟩:=Cc h1 (i:=atL ins i) (o:=Bg m (qW m ins i) (atL ins i).toNat) hb.1 (by omega) ho.2.1 (by omega);exact⟨Qe hf hi i,j2,j3⟩
theorem NE{m:My}{u v:Ls}{n:Nat}(h:∀i,i<n->atL u i=atL v i):∀i,i<=n->qW m u i=qW m v i
 |0,_=>rfl
 |i+1,hi=>by
  show(nxI m (qW m u i) (atL u i).toNat).toNat=(nxI m (qW m v i) (atL v i).toNat).toNat;rw[NE h i (by omega),h i (by omega)]
theorem Qf{l:List Sig}{m:My}{u v:Ls}{n:Nat}(h:∀i,i<=n->atL u i=atL v i):ltW l m u n=ltW l m v n:=by
 unfold ltW;rw[NE (n:=n) (fun i hi=>h i (by omega)) n leR,h n leR]
theorem MY{l:List Sig}{m:My}{ins:Ls}(hf:Bm l m=true)(hv:Bi m.ins ins=true){n:Nat}(hn:1<=n/\n<=500):
  ∃r,Kn m m.start (Bt ins n)=((List.range n).map (fun i=>Bg m (qW m ins i) (atL ins i).toNat),r):=by
 obtain⟨h1,h2,h3,h4⟩:=AN.1 hf;have hi:=Df hv
 have hF:BV ins=true:=by
  have h:=hv;unfold Bi at h;rw[Bool.and_eq_true,Bool.and_eq_true]at h;exact h.1.1
 have hp:Bt ins n=(List.range n).map (atL ins):=by
  unfold Bt;rw[if_pos ⟨by omega,by omega,hF⟩,Int.toNat_natCast];rfl
 have hat:∀k,k<n->((List.range n).map (atL ins)).getD k 0=atL ins k:=fun k hk=>by simp[List.getD,hk]
 have hok:Fb m m.start (Bt ins n)=true:=by
  rw[hp,JI];have:=h2.s0;have:=h2.s1
  exact⟨h2,by omega,by omega,fun k hk=>by
   have hk':k<n:=by simpa using hk
   rw[hat k hk'];exact hi.b k⟩
 have hst:∀k,k<=n->stM m m.start.toNat (Bt ins n) k=qW m ins k:=by
  intro k
  induction k with
  |zero=>intro _;rfl
  |succ k ih=>
   intro hk;show(nxI m (stM m m.start.toNat (Bt ins n) k) ((Bt ins n).getD k 0).toNat).toNat=(nxI m (qW m ins k) (atL ins k).toNat).toNat;rw[ih (by omega),hp,hat k (by omega)]
 refine⟨(stM m m.start.toNat (Bt ins n) (Bt ins n).length:Int), ?_⟩;rw[LN hok]
 have hlen:(Bt ins n).length=n:=by rw[hp];simp
 congr 1
 unfold D0;rw[hlen]
 refine List.map_congr_left fun k hk=> ?_
 have hk':=List.mem_range.1 hk;rw[hst k (by omega),hp,hat k hk']
end Go.Proofs.YtncjeamdkjcebaaGreatDoor
namespace Go.Proofs.YtncjeamdkjcebaaGreatDoor
set_option maxRecDepth 100000
open Go.ChangeShapes Go.WideShapes Go.ChangeAt Go.RowKit Go.Joins Go.Deep
theorem Jj:Tryz.prog.bytesOf 3=8:=by kernel_rfl
theorem Mn:Tryz.prog.bytesOf 4=1:=by kernel_rfl
theorem Mp:Tryz.prog.bytesOf 26=24:=by kernel_rfl
theorem N5:Tryz.prog.bytesOf 75=32:=by kernel_rfl
theorem GR:Tryz.prog.cellsOf 3=1:=by kernel_rfl
theorem Ii:Tryz.prog.cellsOf 4=1:=by kernel_rfl
theorem Mr:Tryz.prog.cellsOf 26=1:=by kernel_rfl
theorem KU:Tryz.prog.cellsOf 30=2:=by kernel_rfl
theorem Gp:Tryz.prog.cellsOf 9=1:=by kernel_rfl
theorem Jl:Tryz.prog.cellsOf 75=3:=by kernel_rfl
section
variable {H:Type} {enc:TypeId×Value->H} {W:World}
theorem DM{w:World}{a:Addr}{n:Nat}{f:Nat->Value}(h:∀i,i<n->w.cell? (a.add i)=some (f i)):(0<n->some a=some ⟨a.block,a.off,none⟩)/\∀i,i<n->w.cell? ⟨a.block,a.off+i,none⟩=some (f i):=by
 have hs:0<n->a.spot=none:=fun h0=>by
  have h1:=h 0 h0
  have e:a.add 0=a:=by simp[Addr.add]
  rw[e]at h1;unfold World.cell? at h1
  split at h1
  ·cases hsp:a.spot with
   |none=>rfl
   |some x=>rw[hsp]at h1;simp at h1
  ·cases h1
 refine⟨fun h0=>by rw[show a=⟨a.block,a.off,a.spot⟩from rfl,hs h0],fun i hi=> ?_⟩;have h1:=h i hi;unfold Addr.add at h1
 split at h1
 ·rename_i e;subst e
  have e2:a=⟨a.block,a.off+0,none⟩:=by
   have:=hs hi
   cases a;simp at this;simp[this]
  rw[<-e2];exact h1
 ·exact h1
theorem wf_i64{n:Int}(h:(Lit.int .i64 n).wf=true):I64 n:=by
 have:=bounds_i64 h;unfold I64;omega
theorem G3{t:TypeId}{fuel:Nat}{v:Value}{x:DataW H×List MemPlace}(ht:Tryz.prog.underlying t=some (.slice 3))(h:DataW.trod enc Tryz.prog W 0 (fun _=>true) true fuel t [v]=some x)
  (hr:∀n∈x.1.weights Tryz.prog t,n<=reachBytes):∃l,Ai W v l:=by
 rcases open_ints ht Tryz.underlying3 GR h with⟨hcs,_⟩|⟨a,len,cap,zs,hcs,_,hl,hm,hz,hx,hcell,hwz⟩
 ·simp at hcs;subst hcs;exact⟨[],⟨none,0,0,0,rfl,Nat.le_refl _,Nat.zero_le _,Nat.zero_le _,fun _=>rfl,(fun h=>absurd h (by simp)),fun j hj=>absurd hj (by simp)⟩,by simp⟩
 ·simp at hcs;subst hcs;simp only[if_true]at hz;have hw:=hr ((zs.take len).length*8+(zs.drop len).length*8) (by rw[hx];simp[DataW.weights,ht,Jj,lits];omega)
  have hlen:(zs.take len).length=len:=by simp;omega
  have hreach:reachBytes=140737488351232:=rfl;obtain⟨h1,h2⟩:=DM (f:=fun i=>.int .i64 (zs.getD i 0)) hcell;refine⟨zs.take len,⟨some a,cap,a.block,a.off,by rw[hlen],by omega,hm,by simp only[Bk];omega,(fun h=>by cases h),fun h0=>h1 (by omega),fun j hj=> ?_⟩,fun n hn=>wf_i64 (hwz n (List.mem_of_mem_take hn))⟩;rw[h2 j (by omega)];simp[ivF,List.getD,show j<len from by omega]
theorem Dx{P:Program}{e:TypeId}:∀{l:List (DataW H)}{d:DataW H},d∈l->∀n∈d.weights P e,n∈DataW.weightsAll P e l
 |d'::r,d,hd,n,hn=>by
  simp only[DataW.weightsAll,List.mem_append]
  rcases List.mem_cons.1 hd with rfl|h
  ·exact Or.inl hn
  ·exact Or.inr (Dx h n hn)
instance:Inhabited Sig:=⟨EL⟩
theorem Qx{fuel:Nat}{cs:List Value}{x:DataW H×List MemPlace}(h:DataW.trod enc Tryz.prog W 0 (fun _=>true) true fuel 75 cs=some x):
  ∃s:Sig,cs=[.string s.name,.bool s.inp,.int .i64 s.size]/\I64 s.size/\s.name.data.toList.length∈x.1.weights Tryz.prog 75:=by
 obtain⟨xs,n,_,hx,hlen,hxl,hf⟩:=DataW.trod_struct Tryz.underlying75 h;rw[Jl]at hlen
 obtain⟨c0,c1,c2,rfl⟩:∃c0 c1 c2,cs=[c0,c1,c2]:=by
  match cs,hlen with
  |[a,b,c],_=>exact⟨a,b,c,rfl⟩
 obtain⟨y0,y1,y2,rfl⟩:∃y0 y1 y2,xs=[y0,y1,y2]:=by
  match xs,hxl with
  |[a,b,c],_=>exact⟨a,b,c,rfl⟩
 have h0:DataW.trod enc Tryz.prog W 0 (fun _=>true) true n 9 (([c0,c1,c2].drop 0).take (Tryz.prog.cellsOf 9))=some y0:=hf 0 _ rfl;have h1:DataW.trod enc Tryz.prog W 0 (fun _=>true) true n 4 (([c0,c1,c2].drop 1).take (Tryz.prog.cellsOf 4))=some y1:=hf 1 _ rfl;have h2:DataW.trod enc Tryz.prog W 0 (fun _=>true) true n 3 (([c0,c1,c2].drop 2).take (Tryz.prog.cellsOf 3))=some y2:=hf 2 _ rfl;rw[Gp]at h0;rw[Ii]at h1;rw[GR]at h2;obtain⟨s,e0,hy0,_⟩:=DataW.trod_string Tryz.underlying9 (show DataW.trod enc Tryz.prog W 0 (fun _=>true) true n 9 [c0]=some y0 from h0);obtain⟨b,e1,hy1⟩:=DataW.trod_bool Tryz.underlying4 (show DataW.trod enc Tryz.prog W 0 (fun _=>true) true n 4 [c1]=some y1 from h1);obtain⟨z,e2,hy2,wz⟩:=DataW.trod_int Tryz.underlying3 (show DataW.trod enc Tryz.prog W 0 (fun _=>true) true n 3 [c2]=some y2 from h2);simp at e0 e1 e2;subst e0 e1 e2;refine⟨⟨s,b,z⟩,rfl,wf_i64 wz, ?_⟩;rw[hx,hy0];simp[DataW.weights,Tryz.underlying75,DataW.weightsEach]
theorem G5{t:TypeId}{fuel:Nat}{v:Value}{x:DataW H×List MemPlace}(ht:Tryz.prog.underlying t=some (.slice 75))(h:DataW.trod enc Tryz.prog W 0 (fun _=>true) true fuel t [v]=some x)
  (hr:∀n∈x.1.weights Tryz.prog t,n<=reachBytes):∃l,AH W v l:=by
 have hreach:reachBytes=140737488351232:=rfl
 rcases open_slice ht h with⟨hcs,_⟩|⟨a,len,cap,m,n,D,Pl,hcs,_,hl,hm,hmm,hx,hi⟩
 ·simp at hcs;subst hcs;exact⟨[],none,0,0,0,rfl,Nat.le_refl _,Nat.zero_le _,Nat.zero_le _,fun h=>absurd h (by simp),fun j h=>absurd h (by simp),fun j h=>absurd h (by simp),fun j h=>absurd h (by simp),by simp,by simp⟩
 ·simp at hcs;subst hcs;simp only[if_true]at hmm;subst hmm;have hw:=hr ((len+(m-len))*32) (by rw[hx];simp[DataW.weights,ht,N5])
  obtain⟨S,hS⟩:=choose_lt (α:=Sig) (p:=fun i s=>(∀j,j<3->W.cell? (a.add (i*3+j))=([Value.string s.name,.bool s.inp,.int .i64 s.size]:List Value)[j]?)/\I64 s.size/\s.name.data.toList.length∈(D i).weights Tryz.prog 75) (n:=m) (fun i him=>by
   obtain⟨cs',hc,hd⟩:=hi i him;rw[Jl]at hc;obtain⟨s,rfl,hz,hwt⟩:=Qx hd;obtain⟨_,_,hat⟩:=World.cells?_some hc
   exact⟨s,fun j hj=>by rw[<-Go.Deep.add_add];exact hat j hj,hz,hwt⟩)
  have hcell:∀k,k<m*3->W.cell? (a.add k)=some (([Value.string (S (k/3)).name,.bool (S (k/3)).inp,.int .i64 (S (k/3)).size]:List Value).getD (k%3) undef):=fun k hk=>by
   have h1:=(hS (k/3) (by omega)).1 (k%3) (by omega);rw[show k/3*3+k%3=k by omega]at h1;rw[h1]
   have h3:k%3<3:=by omega
   rcases(by omega:k%3=0\/k%3=1\/k%3=2)with e|e|e<;>rw[e]<;>rfl
  obtain⟨h1,h2⟩:=DM hcell
  have hlen:((List.range len).map S).length=len:=by simp
  refine⟨(List.range len).map S,some a,m,a.block,a.off,by rw[hlen], ?_⟩;refine⟨by omega,hm,by simp only[Bk,hlen];omega,fun h0=>h1 (by omega),fun j hj=> ?_,fun j hj=> ?_,fun j hj=> ?_,fun s hs=> ?_,fun s hs=> ?_⟩
  ·rw[hlen]at hj;rw[h2 (j*3) (by omega),show j*3/3=j by omega,show j*3%3=0 by omega];simp
  ·rw[hlen]at hj;rw[Nat.add_assoc,h2 (j*3+1) (by omega),show(j*3+1)/3=j by omega,show(j*3+1)%3=1 by omega];simp
  ·rw[hlen]at hj;rw[Nat.add_assoc,h2 (j*3+2) (by omega),show(j*3+2)/3=j by omega,show(j*3+2)%3=2 by omega];simp
  ·obtain⟨j,hj,rfl⟩:=List.mem_map.1 hs;exact(hS j (by have:=List.mem_range.1 hj;omega)).2.1
  ·obtain⟨j,hj,rfl⟩:=List.mem_map.1 hs;have hjl:=List.mem_range.1 hj
   have:=hr _ (by
    rw[hx];simp only[DataW.weights,ht,List.mem_cons,List.mem_append]
    exact .inr (.inl (Dx (d:=D j) (List.mem_map.2 ⟨j,hj,rfl⟩) _ (hS j (by omega)).2.2)))
   have e:(S j).name.data.toList.length=(S j).name.size:=Array.length_toList;unfold Bk;omega
theorem G4{t:TypeId}{fuel:Nat}{v:Value}{x:DataW H×List MemPlace}(ht:Tryz.prog.underlying t=some (.slice 26))(h:DataW.trod enc Tryz.prog W 0 (fun _=>true) true fuel t [v]=some x)
  (hr:∀n∈x.1.weights Tryz.prog t,n<=reachBytes):∃l,Ar W v l:=by
 have hreach:reachBytes=140737488351232:=rfl
 rcases open_int_rows ht Tryz.underlying26 Tryz.underlying3 Mr GR h with⟨hcs,_⟩|⟨a,len,cap,A,L,C,Z,hcs,_,hl,hm,hx,hrow⟩
 ·simp at hcs;subst hcs;exact⟨[],fun _=>undef,⟨none,0,0,0,rfl,Nat.le_refl _,Nat.zero_le _,Nat.zero_le _,fun _=>rfl,(fun h=>absurd h (by simp)),fun j hj=>absurd hj (by simp)⟩,fun j hj=>absurd hj (by simp)⟩
 ·simp at hcs;subst hcs;have hw:=hr (cap*24) (by rw[hx];simp[DataW.weights,ht,Mp];left;congr 1;omega);obtain⟨h1,h2⟩:=DM (f:=fun i=>.slice (A i) (L i) (C i)) (fun i hi=>(hrow i hi).1);refine⟨(List.range len).map fun r=>(Z r).take (L r),fun j=>.slice (A j) (L j) (C j),⟨some a,cap,a.block,a.off,by simp,by simpa using hl,hm,by simp only[Bk,List.length_map,List.length_range];omega,(fun h=>by cases h),fun h0=>h1 (by simp at h0;omega),fun j hj=>h2 j (by simp at hj;omega)⟩,fun j hj=> ?_⟩
  have hj':j<len:=by simpa using hj
  have e:((List.range len).map fun r=>(Z r).take (L r)).getD j []=(Z j).take (L j):=by simp[List.getD,hj']
  rw[e];obtain⟨_,r1,r2,r3,r4,r5,r6⟩:=hrow j (by omega)
  have hlen:((Z j).take (L j)).length=L j:=by simp;omega
  cases hA:A j with
  |none=>
   have hc0:=r5 hA
   have hl0:L j=0:=by omega
   have hz0:(Z j).take (L j)=[]:=by rw[hl0];rfl
   rw[hz0];show Ai W (.slice (A j) (L j) (C j)) [];rw[hA,hl0,hc0];exact⟨⟨none,0,0,0,rfl,Nat.le_refl _,Nat.zero_le _,Nat.zero_le _,fun _=>rfl,(fun h=>absurd h (by simp)),fun j hj=>absurd hj (by simp)⟩,by simp⟩
  |some a'=>
   obtain⟨_,hcell⟩:=r6 a' hA
   have hw2:=hr (C j*8) (by
    rw[hx];simp only[DataW.weights,ht,List.mem_cons,List.mem_append];refine .inr (.inl (Dx (d:=intRow .i64 (A j) (L j) (Z j)) (List.mem_map.2 ⟨j,List.mem_range.2 hj',rfl⟩) _ ?_));rw[hA];simp[intRow,DataW.weights,Tryz.underlying26,Jj,lits]
    left;congr 1;omega)
   obtain⟨g1,g2⟩:=DM (f:=fun i=>.int .i64 ((Z j).getD i 0)) hcell;refine⟨⟨some a',C j,a'.block,a'.off,(by show Value.slice (A j) (L j) (C j)=_;rw[hA,hlen]),by omega,r2,by simp only[Bk];omega,(fun h=>by cases h),fun h0=>g1 (by omega),fun i hi=> ?_⟩,fun n hn=>wf_i64 (r4 n (List.mem_of_mem_take hn))⟩;rw[g2 i (by omega)];simp[ivF,List.getD,show i<L j from by omega]
theorem F3{base:Nat}{v:Value}{d:DataW H}{p:List MemPlace}(hv:Value.okWide Tryz.prog W .any base 30 v)(h:DataW.Trod enc Tryz.prog W 0 (fun _=>true) true 30 v d p)
  (hr:∀n∈d.weights Tryz.prog 30,n<=reachBytes):∃l,Co W v l:=by
 obtain⟨v0,v1,y0,y1,n,rfl,rfl,rfl,h0,h1⟩:=open_agg2 Tryz.underlying30 (by kernel_rfl) KU hv h
 have hw:∀n∈DataW.weightsEach Tryz.prog [26,26] [y0.1,y1.1],n<=reachBytes:=fun n hn=>hr n (by simp only[DataW.weights,Tryz.underlying30];exact hn)
 obtain⟨l0,r0⟩:=G3 Tryz.underlying26 h0 (fun n hn=>hw n (DataW.weights_mem_each (j:=0) rfl rfl n hn));obtain⟨l1,r1⟩:=G3 Tryz.underlying26 h1 (fun n hn=>hw n (DataW.weights_mem_each (j:=1) rfl rfl n hn));exact⟨⟨l0,l1⟩,v0,v1,rfl,r0,r1⟩
theorem TI:Tryz.prog.globalNamed "foresight/signal.keys"=some 0:=by kernel_rfl
theorem TS:(Tryz.prog.globals[0]?).map (·.type)=some 161:=by kernel_rfl
theorem Ex{W:World}(h:laidMetH Tryz.prog [("foresight/signal.keys",Rows.laid_foresight_signal_keys)] W):BN W:=by
 rw[MakeChecks.laidMetH_plain _ _ _ (by kernel_rfl)]at h;obtain⟨ps,⟨g0,t0,cs0,f0,p0,q0,hg0,ht0,hv0,hd0,_,_⟩,_⟩:=h;obtain rfl:=Option.some.inj (TI.symm.trans hg0);obtain rfl:=Option.some.inj (TS.symm.trans ht0);obtain⟨xs,m1,rfl,hx1,hlen,hn3,hel⟩:=DataW.trod_array Tryz.underlying161 hd0
 have c45:Tryz.prog.cellsOf 161=10:=by kernel_rfl
 intro j hj;have hcell:=World.var?_cell hg0 hv0 j;obtain⟨l0⟩:=cs0;have h1:=hel j hj;simp only[Gp,Nat.mul_one]at h1;simp only[Prod.mk.injEq]at hx1;rw[show(⟨0,j,none⟩:Addr)=⟨0,j,none⟩from rfl]at hcell
 have hxs:∀k,k<10->(xs[k]?).map (·.1)=some (.lit (.string (Ir.getD k []))):=fun k hk=>by
  have e:=congrArg (fun d=>match d with|DataW.agg parts=>parts[k]? | _=>none) hx1.1;simp only[List.getElem?_map]at e;rw[<-e]
  match k,hk with
  |0,_=>rfl
  |1,_=>rfl
  |2,_=>rfl
  |3,_=>rfl
  |4,_=>rfl
  |5,_=>rfl
  |6,_=>rfl
  |7,_=>rfl
  |8,_=>rfl
  |9,_=>rfl
 have hx2:=hxs j hj
 cases hxj:xs[j]? with
 |none=>rw[hxj]at hx2;simp at hx2
 |some y=>
  rw[hxj]at hx2 h1;simp only[Option.map_some,Option.some.injEq]at hx2;obtain⟨s,e1,hy,_⟩:=DataW.trod_string Tryz.underlying9 h1;rw[hy]at hx2;simp only[DataW.lit.injEq,Lit.string.injEq]at hx2
  have hs:s=BQ j:=by
   unfold BQ;rw[<-hx2]
  rw[hs]at e1
  have e2:l0[j]? =some (.string (BQ j)):=by
   have:=congrArg (fun l=>l[0]?) e1;simpa[List.getElem?_drop]using this
  rw[hcell];simpa using e2
theorem Il(os:Os)(args:Array Value):laidMetH Tryz.prog [("foresight/signal.keys",Rows.laid_foresight_signal_keys)] ((World.doorLaid Tryz.prog 400 os).forCall (fun _ _=>0) ⟨#[],args,[]⟩).memory:=
 laidMetH_of_parts3 (fuel:=8) (laidMet_of_run' 8 (by kernel_rfl) (by kernel_rfl)) (by kernel_rfl) (by kernel_rfl)
theorem G8{W W':World}(hl:laidOutB Tryz.prog=true){ts:List TypeId}(hts:(ts.all fun t=>Tryz.prog.readableRec t&&decide (t<Tryz.prog.types.size))=true):
  ∀{vs:List Value}{ds:List (DataW H)}{ps:List MemPlace},DataW.TrodAll enc Tryz.prog W 0 (fun _=>true) true ts vs ds ps->Below W.heap.size W W'->(∀x∈ps,x.block<W.heap.size)->
   DataW.TrodAll enc Tryz.prog W' 0 (fun b=>decide (b<W.heap.size)) true ts vs ds ps:=by
 induction ts with
 |nil=>
  intro vs ds ps h hb hlt;obtain⟨rfl,rfl,rfl⟩:=trodAll_nil h;simp[DataW.TrodAll]
 |cons t ts ih=>
  intro vs ds ps h hb hlt;simp only[List.all_cons,Bool.and_eq_true,decide_eq_true_eq]at hts;obtain⟨v,vs',d,ds',p,q,rfl,rfl,rfl,h0,hR⟩:=trodAll_cons h;exact trodAll_cons_mk (Below.trod hl hts.1.1 hts.1.2 h0 hb (fun x hx=>hlt x (by simp[hx]))) (ih hts.2 hR hb (fun x hx=>hlt x (by simp[hx])))
end
end Go.Proofs.YtncjeamdkjcebaaGreatDoor
namespace Go.Proofs.YtncjeamdkjcebaaGreatDoor
open Go.ChangeShapes Go.WideShapes Go.ChangeAt Go.RowKit Go.Joins Go.Deep
variable {H:Type} {enc:TypeId×Value->H} {W:World}
theorem MS{t:TypeId}{fuel:Nat}{v:Value}{x:DataW H×List MemPlace}(ht:Tryz.prog.underlying t=some (.slice 4))(h:DataW.trod enc Tryz.prog W 0 (fun _=>true) true fuel t [v]=some x)
  (hr:∀n∈x.1.weights Tryz.prog t,n<=reachBytes):∃l,Bj W v l:=by
 rcases open_bools ht Tryz.underlying4 Ii h with⟨hcs,_⟩|⟨a,len,cap,B,hcs,_,hl,hm,hx,hcell⟩
 ·simp at hcs;subst hcs;exact⟨[],⟨none,0,0,0,rfl,Nat.le_refl _,Nat.zero_le _,Nat.zero_le _,fun _=>rfl,(fun h=>absurd h (by simp)),fun j hj=>absurd hj (by simp)⟩⟩
 ·simp at hcs;subst hcs;have hw:=hr cap (by rw[hx];simp[DataW.weights,boolRow,ht,Mn];omega);have hreach:reachBytes=140737488351232:=rfl;obtain⟨h1,h2⟩:=DM (f:=fun i=>.bool (B i)) hcell;refine⟨(List.range len).map B,⟨some a,cap,a.block,a.off,by simp,by simpa using hl,hm,by simp only[Bk,List.length_map,List.length_range];omega,(fun h=>by cases h),fun h0=>h1 (by simp at h0;omega),fun j hj=> ?_⟩⟩
  have hj':j<len:=by simpa using hj
  rw[h2 j (by omega)];simp[bvF,List.getD,hj']
end Go.Proofs.YtncjeamdkjcebaaGreatDoor
namespace Go.Proofs.YtncjeamdkjcebaaGreatDoor
set_option maxRecDepth 100000
open Go.ChangeShapes Go.WideShapes Go.ChangeAt Go.RowKit Go.Joins Go.Deep
theorem Py:Tryz.prog.cellsOf 25=5:=by kernel_rfl
theorem Px:Tryz.prog.cellsOf 28=5:=by kernel_rfl
theorem SD{α:Type}{cs:Array α}(h:cs.size=5):∃c0 c1 c2 c3 c4,cs=#[c0,c1,c2,c3,c4]:=by
 obtain⟨l⟩:=cs
 match l,h with
 |[c0,c1,c2,c3,c4],_=>exact⟨c0,c1,c2,c3,c4,rfl⟩
section
variable {H:Type} {enc:TypeId×Value->H} {W:World}
theorem Jz{P:Program}{base:Nat}{spare:Nat->Bool}{held:Bool}{r:Reach}{b0:Nat}{t:TypeId}{f0 f1 f2 f3 f4:Field}{v:Value}{d:DataW H}{p:List MemPlace}(hs:P.underlying t=some (.struct #[f0,f1,f2,f3,f4]))(hone:oneCellFields P #[f0,f1,f2,f3,f4]=true)(hC:P.cellsOf t=5)
  (hv:Value.okWide P W r b0 t v) (h:DataW.Trod enc P W base spare held t v d p):
  ∃(v0 v1 v2 v3 v4:Value)(y0 y1 y2 y3 y4:DataW H×List MemPlace)(n:Nat),v=.agg #[v0,v1,v2,v3,v4]/\d=.agg [y0.1,y1.1,y2.1,y3.1,y4.1]/\p=y0.2++(y1.2++(y2.2++(y3.2++y4.2)))/\
   DataW.trod enc P W base spare held n f0.type [v0]=some y0/\DataW.trod enc P W base spare held n f1.type [v1]=some y1/\DataW.trod enc P W base spare held n f2.type [v2]=some y2/\DataW.trod enc P W base spare held n f3.type [v3]=some y3/\DataW.trod enc P W base spare held n f4.type [v4]=some y4:=by
 obtain⟨cs,rfl,hsz⟩:=okWide_struct hs hv;obtain⟨c0,c1,c2,c3,c4,rfl⟩:=SD (hsz.trans hC);obtain⟨fuel,hf⟩:=h;obtain⟨xs,n,_,hx,hl,hlen,hf⟩:=DataW.trod_struct hs hf;obtain⟨o0,k0⟩:=hone_of hone 0 f0 rfl;obtain⟨o1,k1⟩:=hone_of hone 1 f1 rfl;obtain⟨o2,k2⟩:=hone_of hone 2 f2 rfl;obtain⟨o3,k3⟩:=hone_of hone 3 f3 rfl;obtain⟨o4,k4⟩:=hone_of hone 4 f4 rfl
 obtain⟨y0,y1,y2,y3,y4,rfl⟩:∃y0 y1 y2 y3 y4,xs=[y0,y1,y2,y3,y4]:=by
  match xs,hlen with
  |[a,b,c,d,e],_=>exact⟨a,b,c,d,e,rfl⟩
 simp only[Prod.mk.injEq]at hx;exact⟨c0,c1,c2,c3,c4,y0,y1,y2,y3,y4,n,rfl,by simpa using hx.1,by simpa using hx.2,by simpa[Value.cells,o0,k0]using hf 0 f0 rfl,by simpa[Value.cells,o1,k1]using hf 1 f1 rfl,by simpa[Value.cells,o2,k2]using hf 2 f2 rfl,by simpa[Value.cells,o3,k3]using hf 3 f3 rfl,by simpa[Value.cells,o4,k4]using hf 4 f4 rfl⟩
theorem H5{base:Nat}{v:Value}{d:DataW H}{p:List MemPlace}(hv:Value.okWide Tryz.prog W .any base 25 v)(h:DataW.Trod enc Tryz.prog W 0 (fun _=>true) true 25 v d p)
  (hr:∀n∈d.weights Tryz.prog 25,n<=reachBytes):∃m,BM W v m:=by
 obtain⟨v0,v1,v2,v3,v4,y0,y1,y2,y3,y4,n,rfl,rfl,rfl,h0,h1,h2,h3,h4⟩:=Jz Tryz.underlying25 (by kernel_rfl) Py hv h
 have hw:∀n∈DataW.weightsEach Tryz.prog [3,3,3,23,23] [y0.1,y1.1,y2.1,y3.1,y4.1],n<=reachBytes:=fun n hn=>hr n (by simp only[DataW.weights,Tryz.underlying25];exact hn)
 obtain⟨z0,e0,_,w0⟩:=DataW.trod_int Tryz.underlying3 h0;obtain⟨z1,e1,_,w1⟩:=DataW.trod_int Tryz.underlying3 h1;obtain⟨z2,e2,_,w2⟩:=DataW.trod_int Tryz.underlying3 h2;simp at e0 e1 e2;subst e0 e1 e2;obtain⟨l3,r3⟩:=G4 Tryz.underlying23 h3 (fun n hn=>hw n (DataW.weights_mem_each (j:=3) rfl rfl n hn));obtain⟨l4,r4⟩:=G4 Tryz.underlying23 h4 (fun n hn=>hw n (DataW.weights_mem_each (j:=4) rfl rfl n hn));exact⟨⟨z0,z1,z2,l3,l4⟩,v3,v4,rfl,⟨wf_i64 w0,wf_i64 w1,wf_i64 w2⟩,r3,r4⟩
theorem RU{base:Nat}{v:Value}{d:DataW H}{p:List MemPlace}(hv:Value.okWide Tryz.prog W .any base 28 v)(h:DataW.Trod enc Tryz.prog W 0 (fun _=>true) true 28 v d p)
  (hr:∀n∈d.weights Tryz.prog 28,n<=reachBytes):∃m,Dl W v m:=by
 obtain⟨v0,v1,v2,v3,v4,y0,y1,y2,y3,y4,n,rfl,rfl,rfl,h0,h1,h2,h3,h4⟩:=Jz Tryz.underlying28 (by kernel_rfl) Px hv h
 have hw:∀n∈DataW.weightsEach Tryz.prog [3,3,3,26,23] [y0.1,y1.1,y2.1,y3.1,y4.1],n<=reachBytes:=fun n hn=>hr n (by simp only[DataW.weights,Tryz.underlying28];exact hn)
 obtain⟨z0,e0,_,w0⟩:=DataW.trod_int Tryz.underlying3 h0;obtain⟨z1,e1,_,w1⟩:=DataW.trod_int Tryz.underlying3 h1;obtain⟨z2,e2,_,w2⟩:=DataW.trod_int Tryz.underlying3 h2;simp at e0 e1 e2;subst e0 e1 e2;obtain⟨l3,r3⟩:=G3 Tryz.underlying26 h3 (fun n hn=>hw n (DataW.weights_mem_each (j:=3) rfl rfl n hn));obtain⟨l4,r4⟩:=G4 Tryz.underlying23 h4 (fun n hn=>hw n (DataW.weights_mem_each (j:=4) rfl rfl n hn));exact⟨⟨z0,z1,z2,l3,l4⟩,v3,v4,rfl,⟨wf_i64 w0,wf_i64 w1,wf_i64 w2⟩,r3,r4⟩
end
end Go.Proofs.YtncjeamdkjcebaaGreatDoor
