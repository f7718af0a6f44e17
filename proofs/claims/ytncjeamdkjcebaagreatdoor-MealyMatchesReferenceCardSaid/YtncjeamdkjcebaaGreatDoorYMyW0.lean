/- The states of a controller that reads an inf. -/
import Derived.Test.YtncjeamdkjcebaaGreatDoorYMyLs
set_option linter.all false
set_option maxHeartbeats 4000000
set_option maxRecDepth 100000
namespace Go.Proofs.YtncjeamdkjcebaaGreatDoor
open Go.RowKit
theorem QV{w:Ls}(i:Nat):(w.stem++w.loop).getD (Dp w i) 0=atL w i:=by
 unfold Dp atL
 split
 ·rename_i h;rw[List.getD_eq_getElem?_getD,List.getElem?_append_left h,<-List.getD_eq_getElem?_getD]
 ·rw[List.getD_eq_getElem?_getD,List.getElem?_append_right (by omega),Nat.add_sub_cancel_left,<-List.getD_eq_getElem?_getD]
def qW(m:My)(w:Ls):Nat->Nat
 |0=>m.start.toNat
 |k+1=>(nxI m (qW m w k) (atL w k).toNat).toNat
def stW(m:My)(w:Ls)(k:Nat):Nat:=Dp w k*m.out.length+qW m w k
def ltW(l:List Sig)(m:My)(w:Ls)(k:Nat):Int:=AI l (atL w k) (Bt m (qW m w k) (atL w k).toNat)
structure InV(n:Int)(w:Ls):Prop where
 p:0<w.loop.length
 s:w.stem.length<=60
 l:w.loop.length<=40
 b:∀k,0<=atL w k/\atL w k<n
theorem G3{m:My}(hm:MyV m){w:Ls}(hw:InV m.ins w):∀k,qW m w k<m.out.length
 |0=>by have:=hm.s0;have:=hm.s1;show m.start.toNat<_;omega
 |k+1=>by
  have h1:=hw.b k;have h2:=hm.nx' (G3 hm hw k) (x:=(atL w k).toNat) (by omega);show(nxI m (qW m w k) (atL w k).toNat).toNat<_;omega
theorem Q7{m:My}(hm:MyV m){w:Ls}(hw:InV m.ins w)(k:Nat):stW m w k<m.out.length*(w.stem.length+w.loop.length):=by
 have h1:=G3 hm hw k;have h2:=FQ hw.p k;unfold stW
 calc Dp w k*m.out.length+qW m w k<Dp w k*m.out.length+m.out.length:=by omega
  _=(Dp w k+1)*m.out.length:=by rw[Nat.add_mul,Nat.one_mul]
  _<=(w.stem.length+w.loop.length)*m.out.length:=Nat.mul_le_mul_right _ h2
  _=m.out.length*(w.stem.length+w.loop.length):=Nat.mul_comm _ _
theorem KY{m:My}(hm:MyV m){w:Ls}(hw:InV m.ins w)(k:Nat):stW m w k/m.out.length=Dp w k/\stW m w k%m.out.length=qW m w k:=by
 have h1:=G3 hm hw k;unfold stW
 constructor
 ·rw[Nat.mul_comm,Nat.mul_add_div (by omega),Nat.div_eq_of_lt h1,Nat.add_zero]
 ·rw[Nat.mul_comm,Nat.mul_add_mod,Nat.mod_eq_of_lt h1]
theorem BT{l:List Sig}{m:My}:BH l m=true↔As l=true/\MyV m/\m.ins=Al l/\m.outs=Ai l:=by
 unfold BH;rw[Bool.and_eq_true,Bool.and_eq_true,Bool.and_eq_true,decide_eq_true_eq,decide_eq_true_eq,Fd];exact⟨fun⟨⟨⟨h1,h2⟩,h3⟩,h4⟩=>⟨h1,h2,h3,h4⟩,fun⟨h1,h2,h3,h4⟩=>⟨⟨⟨h1,h2⟩,h3⟩,h4⟩⟩
theorem LD{l:List Sig}{x o:Nat}(hx:(x:Int)<Al l)(ho:(o:Int)<Ai l):x<(Ap l).length/\o<((Ap l).getD x []).length/\((Ap l).getD x []).getD o 0=AI l (x:Int) (o:Int):=by
 have h1:x<(Al l).toNat:=by omega
 have h2:o<(Ai l).toNat:=by omega
 have hl:x<(Ap l).length:=by simpa[Ap]using h1
 have e:(Ap l).getD x []=(List.range (Ai l).toNat).map fun(o:Nat)=>AI l (x:Int) (o:Int):=by
  rw[Ae _ _ _ hl];simp only[Ap,List.getElem_map,List.getElem_range]
 rw[e];exact⟨hl,by simpa using h2,by simp[List.getD,h2]⟩
theorem LC{l:List Sig}(hv:As l=true){x o:Int}(hx:0<=x/\x<Al l)(ho:0<=o/\o<Ai l):0<=AI l x o/\AI l x o<64:=by
 have h1:=(DP hv hx.1 hx.2 ho.1 ho.2).1;have h2:=E7 hv;omega
theorem QJ{l:List Sig}{m:My}(hf:BH l m=true){w:Ls}(hw:InV m.ins w)(k:Nat):0<=ltW l m w k/\ltW l m w k<64:=by
 obtain⟨h1,h2,h3,h4⟩:=BT.1 hf;have hb:=hw.b k;have ho:=h2.out' (G3 h2 hw k) (x:=(atL w k).toNat) (by omega);exact LC h1 ⟨hb.1,by omega⟩ ⟨ho.2.1,by omega⟩
structure PJ(W:World)(p1 p2 p3 p4 p5:Nat)(l:List Sig)(m:My)(ins:Ls):Prop where
 c1:W.cell? ⟨p1,0,none⟩=some (.int .i64 (m.out.length:Int))
 c2:∃v,W.cell? ⟨p2,0,none⟩=some v/\Ah W v (ins.stem++ins.loop)
 c3:W.cell? ⟨p3,0,none⟩=some (.int .i64 (ins.stem.length:Int))
 c4:∃v,W.cell? ⟨p4,0,none⟩=some v/\Ar W v (Ap l)
 c5:∃v3 v4,W.heap[p5]? =some (.cells #[.int .i64 m.ins,.int .i64 m.outs,.int .i64 m.start,v3,v4] 25 (0,0))/\Ar W v3 m.out/\Ar W v4 m.next
theorem PJ.below{W W':World}{p1 p2 p3 p4 p5:Nat}{l:List Sig}{m:My}{ins:Ls}(h:PJ W p1 p2 p3 p4 p5 l m ins)(hb:Below W.heap.size W W'):PJ W' p1 p2 p3 p4 p5 l m ins:=by
 obtain⟨v2,h2,i2⟩:=h.c2;obtain⟨v4,h4,i4⟩:=h.c4;obtain⟨v5,v6,h5,i5,i6⟩:=h.c5;exact⟨Ag hb h.c1,⟨v2,Ag hb h2,i2.below hb⟩,Ag hb h.c3,⟨v4,Ag hb h4,i4.below hb⟩,⟨v5,v6,B8 hb h5,i5.below hb,i6.below hb⟩⟩
theorem RG(W:World)(p1 p2 p3 p4 p5:Nat)(l:List Sig)(m:My)(ins:Ls)(k:Nat)(h:PJ W p1 p2 p3 p4 p5 l m ins)(hf:BH l m=true)(hv:InV m.ins ins):
  Calls Tryz.prog 58 #[.int .i64 (stW m ins k:Int),.pointer (some ⟨p1,0,none⟩),.pointer (some ⟨p2,0,none⟩),.pointer (some ⟨p3,0,none⟩),.pointer (some ⟨p4,0,none⟩),.pointer (some ⟨p5,0,none⟩)] W
   (fun e W'=>e=.returned (.tuple #[.int .i64 (ltW l m ins k),.int .i64 (stW m ins (k+1):Int)])/\Below W.heap.size W W'):=by
 obtain⟨ac,hm,hi,ho⟩:=BT.1 hf;obtain⟨f,i⟩:=KY hm hv k;have hq:=G3 hm hv k;have hp:=FQ hv.p k;have hA:=Q7 hm hv k;have hb:=hv.b k;obtain⟨x,hx⟩:∃x:Nat,atL ins k=(x:Int):=⟨(atL ins k).toNat,by omega⟩;obtain⟨o1,o2,o3⟩:=hm.out' hq (x:=x) (by omega);obtain⟨n1,n2,n3⟩:=hm.nx' hq (x:=x) (by omega);obtain⟨y,hy⟩:∃y:Nat,Bt m (qW m ins k) x=(y:Int):=⟨(Bt m (qW m ins k) x).toNat,by omega⟩;obtain⟨t,ht⟩:∃t:Nat,nxI m (qW m ins k) x=(t:Int):=⟨(nxI m (qW m ins k) x).toNat,by omega⟩;obtain⟨j1,j2,j3⟩:=LD (l:=l) (x:=x) (o:=y) (by omega) (by omega)
 have hlt:ltW l m ins k=AI l (x:Int) (y:Int):=by unfold ltW;rw[hx,Int.toNat_natCast,hy]
 have z:qW m ins (k+1)=t:=by show(nxI m (qW m ins k) (atL ins k).toNat).toNat=t;rw[hx,Int.toNat_natCast,ht,Int.toNat_natCast]
 have w:=OV hv.p k
 have aa:stW m ins (k+1)=Dp ins (k+1)*m.out.length+t:=by unfold stW;rw[z]
 rw[aa,hlt]
 have r:(ins.stem++ins.loop).length=ins.stem.length+ins.loop.length:=by simp
 obtain⟨v2,h2,i2⟩:=h.c2;obtain⟨v4,h4,i4⟩:=h.c4;obtain⟨v5,v6,h5,i5,i6⟩:=h.c5;have ai:=hv.s;have ah:=hv.l;have u:=hm.n;have v:=hm.nl;have c1:=h.c1;have c3:=h.c3;obtain⟨a2,d2,rfl⟩:=i2.shape;obtain⟨b2,s2,e2,-,f2⟩:=i2.data;obtain⟨a4,d4,rfl⟩:=i4.shape;obtain⟨b4,s4,e4,-,f4⟩:=i4.dat2;obtain⟨a5,d5,rfl⟩:=i5.shape;obtain⟨b5,s5,e5,-,f5⟩:=i5.dat2;obtain⟨a6,d6,rfl⟩:=i6.shape;obtain⟨b6,s6,e6,-,f6⟩:=i6.dat2;rw[r]at*;obtain rfl:=e2 (by omega);obtain rfl:=e4 (by omega);obtain rfl:=e5 (by omega);obtain rfl:=e6 (by omega);have g2:=f2 _ hp;rw[QV,hx]at g2;obtain⟨r4,z4,k4,q4⟩:=f4 x j1;obtain⟨u4,w4,y4,-,g4⟩:=q4.data;obtain rfl:=y4 (by omega);replace g4:=g4 y j2;rw[j3]at g4;obtain⟨r5,z5,k5,q5⟩:=f5 (qW m ins k) hq;obtain⟨u5,w5,y5,-,g5⟩:=q5.data;obtain rfl:=y5 (by omega);replace g5:=g5 x o1;rw[show(m.out.getD (qW m ins k) []).getD x 0=(y:Int)from hy]at g5;obtain⟨r6,z6,k6,q6⟩:=f6 (qW m ins k) (by omega);obtain⟨u6,w6,y6,-,g6⟩:=q6.data;obtain rfl:=y6 (by omega);replace g6:=g6 x n1;rw[show(m.next.getD (qW m ins k) []).getD x 0=(t:Int)from ht]at g6;have m3:=Aa 3 h5;have m4:=Aa 4 h5
 have ax:y<64:=by have:=hm.o2;omega
 have ao:t<m.out.length:=by omega
 clear f2 f4 f5 f6 q4 q5 q6 y4 y5 y6 i2 i4 i5 i6 e2 e4 e5 e6 j3 aa z hlt h h5 hf ac hx hy ht hi ho o2 o3 n2 n3 hb;generalize AI l (x:Int) (y:Int)=J at*;generalize(Ap l).length=li at*;generalize((Ap l).getD x []).length=l4 at*;generalize(m.out.getD (qW m ins k) []).length=l5 at*;generalize(m.next.getD (qW m ins k) []).length=l6 at*;generalize qW m ins k=q at*;generalize stW m ins k=A at*;generalize Dp ins (k+1)=p' at*;generalize Dp ins k=p at*;generalize ins.stem.length=S at*;generalize ins.loop.length=Lo at*;rw[v]at*;generalize m.out.length=n at*
 have aj:¬n=0:=by omega
 have af:((A:Int)/(n:Int))=(p:Int):=by rw[<-f];rfl
 have ag:((A:Int)%(n:Int))=(q:Int):=by rw[<-i];rfl
 have ay:(A:Int).tdiv (n:Int)=(p:Int):=by rw[Int.tdiv_eq_ediv_of_nonneg (by omega)];exact af
 have az:(A:Int).tmod (n:Int)=(q:Int):=by rw[Int.tmod_eq_emod_of_nonneg (by omega)];exact ag
 have ak:(0:Int)<=(p:Int):=by omega
 have al:(p:Int)<((S+Lo:Nat):Int):=by omega
 have ap:(0:Int)<=(x:Int):=by omega
 have aq:(x:Int)<(li:Int):=by omega
 have ar:(x:Int)<(l5:Int):=by omega
 have au:(x:Int)<(l6:Int):=by omega
 have av:(0:Int)<=(y:Int):=by omega
 have aw:(y:Int)<(l4:Int):=by omega
 have am:(0:Int)<=(q:Int):=by omega
 have an:(q:Int)<(n:Int):=by omega
 have d:=Ab w;clear w f i hA v
 by_cases hc:p+1=S+Lo
 ·have c:p'=S:=by rw[d.out];exact if_pos hc
  have hE:((p'*n+t:Nat):Int)=((S:Int))*(n:Int)+(t:Int):=by rw[c];simp
  rw[hE];have j:S*n<=100*3000:=Nat.mul_le_mul (by omega) u
  have a:((S:Int))*(n:Int)=((S*n:Nat):Int):=by simp
  have ad:IntKind.i64.wrap (((S:Int))*(n:Int))=((S:Int))*(n:Int):=IntWalk.i64_in _ ⟨by rw[a];omega,by rw[a];omega⟩;have ae:IntKind.i64.wrap (((S:Int))*(n:Int)+(t:Int))=((S:Int))*(n:Int)+(t:Int):=IntWalk.i64_in _ ⟨by rw[a];omega,by rw[a];omega⟩
  have tA:((p:Int)+1==((S+Lo:Nat):Int))=true:=by simp;omega
  have ab:=Ab a;clear a c hE d j
  go_enter Tryz.func58,Tryz.ntmps58
  go_upto_region 1 with(fail)
  go_quiet (fail)
  go_upto_region 6 with(fail)
  go_quiet (fail)
  go_wp2;go_ret2;exact⟨rfl,Aj _ _ _⟩
 ·have c:p'=(p+1):=by rw[d.out];exact if_neg hc
  have hE:((p'*n+t:Nat):Int)=((p:Int)+1)*(n:Int)+(t:Int):=by rw[c];simp
  rw[hE];have j:(p+1)*n<=100*3000:=Nat.mul_le_mul (by omega) u
  have a:((p:Int)+1)*(n:Int)=(((p+1)*n:Nat):Int):=by simp
  have ad:IntKind.i64.wrap (((p:Int)+1)*(n:Int))=((p:Int)+1)*(n:Int):=IntWalk.i64_in _ ⟨by rw[a];omega,by rw[a];omega⟩;have ae:IntKind.i64.wrap (((p:Int)+1)*(n:Int)+(t:Int))=((p:Int)+1)*(n:Int)+(t:Int):=IntWalk.i64_in _ ⟨by rw[a];omega,by rw[a];omega⟩
  have tA:((p:Int)+1==((S+Lo:Nat):Int))=false:=by simp;omega
  have ab:=Ab a;clear a c hE d j
  go_enter Tryz.func58,Tryz.ntmps58
  go_upto_region 1 with(fail)
  go_quiet (fail)
  go_upto_region 6 with(fail)
  go_quiet (fail)
  go_wp2;go_ret2;exact⟨rfl,Aj _ _ _⟩
theorem RP{w:Ls}{x:Int}(h:x∈w.stem\/x∈w.loop):∃i,atL w i=x:=by
 rcases h with h|h
 ·obtain⟨i,hi,e⟩:=List.getElem_of_mem h;refine⟨i, ?_⟩;unfold atL;rw[if_pos hi,Ae _ _ _ hi,e]
 ·obtain⟨i,hi,e⟩:=List.getElem_of_mem h;refine⟨w.stem.length+i, ?_⟩;unfold atL;rw[if_neg (by omega),Nat.add_sub_cancel_left,Nat.mod_eq_of_lt hi,Ae _ _ _ hi,e]
theorem LL{s l:List Int}(h0:0<l.length)(h:∀i,Do (atL ⟨s,l⟩ i)=true):Bh s l=EC ⟨s,l⟩:=by
 obtain⟨h1,h2,h3,h4⟩:=Gr (w:=⟨s,l⟩) h0
 have hm:∀x,x∈(BC ⟨s,l⟩).stem\/x∈(BC ⟨s,l⟩).loop->Do x=true:=fun x hx=>by
  obtain⟨i,rfl⟩:=RP hx;rw[h2];exact h i
 have hp:1<=(BC ⟨s,l⟩).loop.length:=h1.pos;unfold Bh EC
 by_cases hc:(BC ⟨s,l⟩).stem.length<=60/\(BC ⟨s,l⟩).loop.length<=40
 ·rw[if_pos hc,if_pos ((DD _).2 ⟨hc.1,hp,hc.2,fun x hx=>hm x (.inl hx),fun x hx=>hm x (.inr hx)⟩)]
 ·rw[if_neg hc,if_neg fun hf=>hc ⟨((DD _).1 hf).1,((DD _).1 hf).2.2.1⟩]
theorem RO(lt:Nat->Int)(m n:Nat)(h:m<n)(i:Nat):∃k,atL (A7 lt m n) i=lt k:=by
 unfold atL A7
 split
 ·rename_i h1;simp only[List.length_map,List.length_range]at h1;exact⟨i,LH h1⟩
 ·simp only[List.length_map,List.length_range];have:(i-m)%(n-m)<n-m:=Nat.mod_lt _ (by omega);refine⟨m+(i-m)%(n-m), ?_⟩;simp[List.getD,this]
noncomputable def He (st:Nat->Nat) (lt:Nat->Int):Ls:=
 open Classical in if h:∃p:Nat×Nat,Dw st p.1 p.2 then EC (A7 lt h.choose.1 h.choose.2)else C7
theorem EY{st:Nat->Nat}{lt:Nat->Int}{m n:Nat}(h:Dw st m n):He st lt=EC (A7 lt m n):=by
 have hx:∃p:Nat×Nat,Dw st p.1 p.2:=⟨(m,n),h⟩;unfold He;rw[dif_pos hx];obtain⟨h1,h2⟩:=hx.choose_spec.unique h;rw[h1,h2]
theorem Ih{st:Nat->Nat}{lt:Nat->Int}{m n:Nat}(h:Dw st m n)(hlt:∀k,0<=lt k/\lt k<64):Bh (A7 lt m n).stem (A7 lt m n).loop=He st lt:=by
 rw[EY h]
 refine LL (Qb h.1) fun i=> ?_
 obtain⟨k,e⟩:=RO lt m n h.1 i;show Do (atL (A7 lt m n) i)=true;rw[e,ER];exact hlt k
noncomputable def CY (l:List Sig) (m:My) (ins:Ls):Ls:=if BH l m=true/\Ch m.ins ins=true then He (stW m ins) (ltW l m ins)else C7
theorem Jo{n:Int}{w:Ls}(h:Ch n w=true):InV n w:=by
 have h':=h;rw[H7]at h';unfold Ch at h;rw[Bool.and_eq_true,Bool.and_eq_true,List.all_eq_true,List.all_eq_true]at h;obtain⟨⟨h1,h2⟩,h3⟩:=h;obtain⟨f1,f2,f3,f4,f5⟩:=(DD _).1 h1;refine⟨f2,f1,f3,fun k=> ?_⟩;unfold atL
 split
 ·rename_i hk;rw[Ae _ _ _ hk];have a:=(ER _).1 (f4 _ (List.getElem_mem hk));have b:=h2 _ (List.getElem_mem hk);simp at b;omega
 ·have hk:(k-w.stem.length)%w.loop.length<w.loop.length:=Nat.mod_lt _ f2;rw[Ae _ _ _ hk];have a:=(ER _).1 (f5 _ (List.getElem_mem hk));have b:=h3 _ (List.getElem_mem hk);simp at b;omega
theorem Q8{m:My}{ins:Ls}:stW m ins 0=m.start.toNat:=by
 unfold stW qW
 have:Dp ins 0=0:=by
  unfold Dp
  split
  ·rfl
  ·rename_i h
   have:ins.stem.length=0:=by omega
   rw[this];simp
 rw[this];simp
theorem Dz.zero{l:Ls}(h:l=C7){w w':World}(hb:Below w.heap.size w w'):Dz l w (.returned (.agg #[.slice none 0 0,.slice none 0 0])) w':=by
 rw[h];exact⟨_,rfl,⟨_,_,rfl,CZ _,CZ _⟩,hb⟩
def TG(l:List Int)(n k:Nat):Prop:=∀i,n+i<k->l.getD (n+i) 0=l.getD i 0
theorem O1(w:World)(vl:Value)(l:List Int)(n:Nat)(hl:Ah w vl l)(h0:0<n)(hn:n<=l.length)(f:l.length<=100000):
  Calls Tryz.prog 124 #[vl,.int .i64 (n:Int)] w (DZ (.bool (Ca l n)) w):=by
 obtain⟨⟨ao,j,b,ae,rfl,hl⟩,-⟩:=hl;have p:=hl.nb;obtain rfl:=hl.ad (by omega);have a:=Ab (fun k(hk:k<l.length)=>hl.el k hk);clear hl
 have ht:(l.length:Int).tmod (n:Int)=((l.length%n:Nat):Int):=by rw[Int.tmod_eq_emod_of_nonneg (by omega)];omega
 have e:IntKind.i64.wrap ((l.length%n:Nat):Int)=((l.length%n:Nat):Int):=by
  have:=Nat.mod_lt l.length h0;exact IntWalk.i64_in _ ⟨by omega,by omega⟩
 have hz:¬(n:Int)=0:=by omega
 have ac:¬n=0:=by omega
 have HR:Hid (Ca l n=true↔l.length%n=0/\TG l n l.length):=Dl;generalize Ca l n=r at*
 by_cases hm:l.length%n=0
 ·have ab:(l.length:Int).tmod (n:Int)=0:=by rw[ht,hm];rfl
  have o:(l.length:Int)%(n:Int)=0:=by omega
  have HM:=Ab hm;clear ht e hm
  go_enter Tryz.func124,Tryz.ntmps124
  go_wp2
  go_loopw [5] (fun i wr=>∃k m:Nat,i=.int .i64 k/\wr=w.drewN m/\n<=k/\k<=l.length/\Hid (TG l n k)) (fun i _=>l.length-(intOf i).toNat)
  case atStart=>exact⟨n,0,rfl,rfl,by omega,hn,fun i hi=>by omega⟩
  case round=>
   obtain⟨k,m,rfl,rfl,s,hk,HA⟩:=hrel
   by_cases hlt:k<l.length
   ·have e1:=a.out k hlt;have e2:=a.out (k-n) (by omega);unfold ivF at e1 e2;have u:IntKind.i64.wrap ((k:Int)-n)=(k:Int)-n:=IntWalk.i64_in _ ⟨by omega,by omega⟩
    have v:((k:Int)-n).toNat=k-n:=by omega
    have z:0<=(k:Int)-n:=by omega
    have aa:(k:Int)-n<l.length:=by omega
    have HY:Hid (l.getD k 0=l.getD (k-n) 0->TG l n (k+1)):=fun h i hi=>by
     rcases Nat.lt_or_ge (n+i) k with h3|h3
     ·exact HA.out i h3
     ·obtain rfl:k=n+i:=by omega
      rw[h];congr 1;omega
    have HN:Hid (l.getD k 0≠l.getD (k-n) 0->r=false):=fun h=>by
     cases r with
     |false=>rfl
     |true=>
      have:=(HR.out.1 rfl).2 (k-n) (by omega);rw[show n+(k-n)=k by omega]at this;exact absurd this h
    generalize l.getD k 0=x at*;generalize l.getD (k-n) 0=y at*
    by_cases hxy:x=y
    ·have d:=Ab (HY.out hxy)
     have hq:(x !=y)=false:=by simp[hxy]
     clear hxy HY HN;go_wp2
     go_quiet (fail)
     go_wp2
     go_roundw
     case rel=>exact⟨k+1,m+nq,by go_num,by simp[World.drewN],by omega,by omega,d.out⟩
     case measure=>simp[intOf];omega
    ·have c:=Ab (HN.out hxy)
     have hq:(x !=y)=true:=by simp[hxy]
     clear hxy HY HN;go_wp2
     go_quiet (fail)
     go_wp2;go_ret;exact⟨Ak c.out.symm,m+nq,by simp[World.drewN,Nat.add_assoc]⟩
   ·obtain rfl:k=l.length:=by omega
    have HY:Hid (r=true):=HR.out.2 ⟨HM.out,HA.out⟩;go_wp2;go_ret;exact⟨Ak HY.out.symm,m,rfl⟩
 ·have HN:Hid (r=false):=by
   show _=_
   cases r with
   |false=>rfl
   |true=>exact absurd (HR.out.1 rfl).1 hm
  generalize l.length%n=q at*
  have hq:((q:Int) !=0)=true:=by simp;omega
  go_enter Tryz.func124,Tryz.ntmps124
  go_wp2
  all_goals(try(exfalso;omega))
  go_ret;exact⟨Ak HN.out.symm,0,rfl⟩
theorem Cn.mk{w:World}{l:Ls}{x y:Value}(h0:Ah w x l.stem)(h1:Ah w y l.loop):Cn w (.agg #[x,y]) l:=⟨_,_,rfl,h0,h1⟩
theorem Mt(W:World)(x:Int):OI (W.alloc (.cells #[.int .i64 x] 3)).drew W.heap.size (.slice (some ⟨W.heap.size,0,none⟩) 1 1) [x]:=
 (show(W.alloc (.cells #[.int .i64 x] 3)).ownsRow W.heap.size 3 1 (.slice (some ⟨W.heap.size,0,none⟩) 1 1) 1 [.int .i64 x]from⟨by simp,.inr ⟨W.heap.size,1,_,rfl,Nat.le_refl _,heap_alloc_new W _,Nat.le_refl _,by simp[maxLen],by simp,by simp⟩⟩)
theorem Bl.turn'{w:Ls}{s l:List Int}(h:Bl w s l)(h0:0<s.length)(he:s.getD (s.length-1) 0=l.getD (l.length-1) 0):
  Bl w (s.take (s.length-1)) (l.getD (l.length-1) 0::l.take (l.length-1)):=by
 have e:s=s.take (s.length-1)++[l.getD (l.length-1) 0]:=by
  conv=>lhs;rw[<-List.take_append_drop (s.length-1) s]
  congr 1
  rw[List.drop_eq_getElem_cons (by omega),<-he,show s.length-1+1=s.length by omega,List.drop_length];simp[List.getD,show s.length-1<s.length by omega]
 rw[e]at h;have:=h.turn rfl
 rwa [List.dropLast_eq_take]at this
theorem Bl.done'{w:Ls}{s l:List Int}(hw:0<w.loop.length)(h:Bl w s l)(he:s.length=0\/s.getD (s.length-1) 0≠l.getD (l.length-1) 0):(⟨s,l⟩:Ls)=BC w:=by
 refine LO hw (h.done ?_) h.word
 rcases he with he|he
 ·exact .inl (List.eq_nil_of_length_eq_zero he)
 ·by_cases h0:s=[]
  ·exact .inl h0
  ·refine .inr fun e=>he ?_
   have hl:l≠[]:=by intro hl;have:=h.pos;rw[hl]at this;simp at this
   rw[BM _ h0,BM _ hl]at e;exact Option.some.inj e
theorem Mv(w:World)(v:Value)(l:Ls)(hl:Cn w v l)(hp:0<l.loop.length)(cz:l.stem.length<=100000)(cc:l.loop.length<=100000):
  Calls Tryz.prog 100 #[v] w (Dz (BC l) w):=by
 obtain⟨v0,v1,rfl,h0,h1⟩:=hl;have ao:=Ab (fun(W:World)(hW:Below w.heap.size w W)(k:Nat)(h0:0<k)(hk:k<=l.loop.length)=>O1 W v1 l.loop k (h1.below hW) h0 hk cc)
 have HE:Hid (∀k,0<k->Ca l.loop k=true->(∀r,0<r->r<k->Ca l.loop r=false)->AX l.loop=k):=fun k h1 h2 h3=>KN hp h1 h2 h3
 have ab:Hid (Ca l.loop l.loop.length=true):=Hw;have ah:=Ab (Bl.start hp)
 have ax:Hid (∀s lo,Bl l s lo->(s.length=0\/s.getD (s.length-1) 0≠lo.getD (lo.length-1) 0)->(⟨s,lo⟩:Ls)=BC l):=fun s lo h he=>h.done' hp he
 have a2:=Ab (fun(W:World)(hW:Below w.heap.size w W)=>h0.below hW);obtain⟨⟨a0,c0,b0,o0,rfl,g0⟩,r0⟩:=h0;obtain⟨⟨a1,c1,b1,o1,rfl,g1⟩,r1⟩:=h1;have b5:=Ab (fun(W:World)(hW:Below w.heap.size w W)(k:Nat)(hk:k<=l.loop.length)=>(Ah.take g1 r1 k hk).below hW);have bw:=Ab r0;have bx:=Ab r1;have cs:=g1.lc;have c2:=g0.nb;have c3:=g1.nb;clear g0 g1 r0 r1;generalize BC l=nl at*;generalize hpl:AX l.loop=pl at*;clear hpl
 go_enter Tryz.func100,Tryz.ntmps100
 go_upto_region 1 with(fail)
 (have ai:Below w.heap.size w ((w.alloc (Obj.cells #[Value.slice a0 l.stem.length c0,Value.slice a1 l.loop.length c1] 30)).alloc (Obj.cells #[Value.slice none 0 0,Value.slice none 0 0] 30)):=(by repeat(first|exact Ad|assumption|apply AE|apply AB)));(have cA:((w.alloc (Obj.cells #[Value.slice a0 l.stem.length c0,Value.slice a1 l.loop.length c1] 30)).alloc (Obj.cells #[Value.slice none 0 0,Value.slice none 0 0] 30)).cell? ⟨w.heap.size,0,none⟩=some (Value.slice a0 l.stem.length c0):=C9 0 (Ao _) rfl);(have cB:((w.alloc (Obj.cells #[Value.slice a0 l.stem.length c0,Value.slice a1 l.loop.length c1] 30)).alloc (Obj.cells #[Value.slice none 0 0,Value.slice none 0 0] 30)).cell? ⟨w.heap.size,1,none⟩=some (Value.slice a1 l.loop.length c1):=C9 1 (Ao _) rfl);(have cR:((w.alloc (Obj.cells #[Value.slice a0 l.stem.length c0,Value.slice a1 l.loop.length c1] 30)).alloc (Obj.cells #[Value.slice none 0 0,Value.slice none 0 0] 30)).heap[w.heap.size+1]? =some (Obj.cells #[Value.slice none 0 0,Value.slice none 0 0] 30):=(by have:=heap_alloc_new (w.alloc (Obj.cells #[Value.slice a0 l.stem.length c0,Value.slice a1 l.loop.length c1] 30)) (Obj.cells #[Value.slice none 0 0,Value.slice none 0 0] 30);simpa using this));(have ci:w.heap.size+1<((w.alloc (Obj.cells #[Value.slice a0 l.stem.length c0,Value.slice a1 l.loop.length c1] 30)).alloc (Obj.cells #[Value.slice none 0 0,Value.slice none 0 0] 30)).heap.size:=(ltE cR));generalize((w.alloc (Obj.cells #[Value.slice a0 l.stem.length c0,Value.slice a1 l.loop.length c1] 30)).alloc (Obj.cells #[Value.slice none 0 0,Value.slice none 0 0] 30))=w1 at*
 go_wp2_with fail
 go_loopw [3] (fun i wr=>∃k m:Nat,i=.int .i64 k/\wr=w1.drewN m/\0<k/\k<=l.loop.length/\Hid (∀r,0<r->r<k->Ca l.loop r=false)) (fun i _=>l.loop.length-(intOf i).toNat)
 case atStart=>exact⟨1,0,rfl,rfl,by omega,by omega,fun r h1 h2=>by omega⟩
 case round=>
  obtain⟨n,m,rfl,rfl,av,hn,HA⟩:=hrel;have bh:=Ab (ao.out (w1.drewN m) (AB ai m) n av hn)
  have ar:Hid (Ca l.loop n=true->pl=n):=fun h=>HE.out n av h HA.out
  have bc:Hid (Ca l.loop n=false->n<l.loop.length/\∀r,0<r->r<n+1->Ca l.loop r=false):=fun h=>by
   refine⟨?_,fun r h1 h2=> ?_⟩
   ·rcases Nat.lt_or_ge n l.loop.length with h3|h3
    ·exact h3
    ·obtain rfl:n=l.loop.length:=by omega
     rw[ab.out]at h;cases h
   ·rcases Nat.lt_or_ge r n with h3|h3
    ·exact HA.out r h1 h3
    ·obtain rfl:r=n:=by omega
     exact h
  generalize hrn:Ca l.loop n=rn at*;clear hrn HA;have dA:(w1.drewN m).cell? ⟨w.heap.size,0,none⟩=some (Value.slice a0 l.stem.length c0):=cA;have dB:(w1.drewN m).cell? ⟨w.heap.size,1,none⟩=some (Value.slice a1 l.loop.length c1):=cB
  go_wp2_with fail
  refine bh.out.mono ?_;rintro e w3 ⟨rfl,n3,rfl⟩
  cases rn with
  |false=>
   have a7:=bc.out (by trivial);have hlt:=a7.1;have bv:=Ab a7.2;clear a7 dA dB;go_wp2
   go_roundw
   case rel=>exact⟨n+1,m+n3,by go_num,by simp[World.drewN],by omega,by omega,bv.out⟩
   case measure=>simp[intOf];omega
  |true=>
   obtain rfl:=ar.out (by trivial)
   have au:(l.loop.take pl).length=pl:=by rw[List.length_take];omega
   have aa:=Ab au;have a3:Below w.heap.size w ((w1.drewN m).drewN n3):=AB (AB ai _) _;have ak:Below w1.heap.size w1 ((w1.drewN m).drewN n3):=(Aj _ _ _).trans (Aj _ _ _);have eA:((w1.drewN m).drewN n3).cell? ⟨w.heap.size,0,none⟩=some (Value.slice a0 l.stem.length c0):=cA;have eB:((w1.drewN m).drewN n3).cell? ⟨w.heap.size,1,none⟩=some (Value.slice a1 l.loop.length c1):=cB;clear ar bc bh ao HE ab au dA dB;generalize(w1.drewN m).drewN n3=w2 at*
   have cv:pl<=c1:=by omega
   have da:w.heap.size<w2.heap.size:=by have:=ak.size;omega
   go_upto_region 5 with(at_builtin;refine IM rfl _ _ rfl w2.heap.size _ _ [] _ (Hh w2) rfl (b5.out _ (by repeat(first|exact Ad|assumption|apply AE|apply AB)) pl hn) rfl (by simp;omega) (by simp) ?_;intro v3 w3 ae bm _;have bd:=Ab ae;have a9:=Ab bm;clear ae bm)
   have ac:Below w2.heap.size w2 w3:=(Ao _).grown a9.out (by simp) (fun g h=>by simp[Value.ownBlock]at h;omega);have O3:OI w3 w2.heap.size v3 (l.loop.take pl):=bd.out;obtain⟨la,lc,bq⟩:=O3.slice;rw[aa.out]at bq;subst bq;have I3:=O3.is (by rw[aa.out];unfold Bg;omega) (fun x hx=>bx.out x (List.mem_of_mem_take hx));have b8:=Ag ac eA
   have db:w.heap.size<w3.heap.size:=by have:=ac.size;omega
   have aj:=a3.trans (ac.mono a3.size);have o:=ak.trans (ac.mono ak.size);clear bd a9 O3 eA eB;have bj:=Ab (a2.out (w3.alloc (Obj.cells #[] 3)) (AE aj _));have bi:=Ab I3;clear I3
   go_wp2_with (at_builtin;refine IM rfl _ _ rfl w3.heap.size _ _ [] _ (Hh w3) rfl bj.out rfl (by simp;omega) (by simp) ?_;intro v4 w4 af bn _;have be:=Ab af;have ba:=Ab bn;clear af bn)
   have al:Below w3.heap.size w3 w4:=(Ao _).grown ba.out (by simp) (fun g h=>by simp[Value.ownBlock]at h;omega);have O4:OI w4 w3.heap.size v4 l.stem:=be.out;obtain⟨sa,sc,cj⟩:=O4.slice;subst cj;have I4:=Ab (O4.is (by unfold Bg;omega) bw.out);have I3:=Ab (bi.out.below al);have b9:=aj.trans (al.mono aj.size);have bl:=o.trans (al.mono o.size);clear be ba O4 b8 bj bi ac al aj o ak a3
   go_loopg [4,5] l.stem.length (fun gh v4 v5 wr=>∃(s lo:List Int)(la:Option Addr)(lc:Nat)(sa:Option Addr)(sc:Nat),gh=s.length/\v4=.slice la pl lc/\v5=.slice sa s.length sc/\s.length<=l.stem.length/\Hid (lo.length=pl)/\Hid (Ah wr (.slice la pl lc) lo)/\Hid (Ah wr (.slice sa s.length sc) s)/\Hid (Bl l s lo)/\Below w1.heap.size w1 wr)
   case atStart=>exact⟨l.stem,l.loop.take pl,la,lc,sa,sc,rfl,rfl,rfl,by omega,aa,I3,I4,ah,bl⟩
   case round=>
    obtain⟨s,lo,la,lc,sa,sc,rfl,rfl,rfl,hs,c,I3,I4,HN,hc⟩:=hrel;clear bl b9;have bz:=I3.out;have b2:=I4.out;obtain⟨⟨ck,cl,lb,bs,h3,g3⟩,r3⟩:=bz;obtain⟨⟨cm,cn,sb,so,h4,g4⟩,r4⟩:=b2
    obtain⟨rfl,-,rfl⟩:la=ck/\pl=lo.length/\lc=cl:=by simpa using h3
    obtain⟨rfl,rfl⟩:sa=cm/\sc=cn:=by simpa using h4
    rw[c.out]at g3;have ay:=Ab (fun k(hk:k<s.length)=>g4.el k hk);have u:=Ab (fun k(hk:k<pl)=>g3.el k hk);have bu:=Ab g4.ad;have a8:=Ab g3.ad;have cy:=g3.lc;have c9:=g4.lc
    have f:Hid (0<s.length->s.getD (s.length-1) 0=lo.getD (pl-1) 0->Bl l (s.take (s.length-1)) (lo.getD (pl-1) 0::lo.take (pl-1))):=fun h0 he=>by
     have:=HN.out.turn' h0 (by rw[c.out];exact he)
     rwa [c.out]at this
    have p:Hid (s.length=0\/s.getD (s.length-1) 0≠lo.getD (pl-1) 0->(⟨s,lo⟩:Ls)=nl):=fun h=>ax.out s lo HN.out (by rw[c.out];exact h)
    have aq:Hid (Ah wr (.slice sa (s.length-1) sc) (s.take (s.length-1))):=Ah.take g4 r4 (s.length-1) (by omega);have ap:Hid (Ah wr (.slice la (pl-1) lc) (lo.take (pl-1))):=Ah.take (by rw[c.out];exact g3) r3 (pl-1) (by have:=c.out;omega);have bg:=Ab r3;clear h3 h4 g3 g4 r3 r4;obtain⟨q,hq⟩:∃q,q=(decide (0<s.length)&&(s.getD (s.length-1) 0==lo.getD (pl-1) 0)):=⟨_,rfl⟩;have HQ:=Ab hq;clear hq
    go_upto_region 6 with(fail)
    go_cut [39] (fun b wx=>(∃m2,wx=wr.drewN m2)/\b=.bool q)
    case first=>
     by_cases hk0:s.length=0
     ·have am:decide (0<s.length)=false:=decide_eq_false (by omega)
      have az:Hid (q=false):=by show _=_;rw[HQ.out,am];rfl
      have cd:=List.eq_nil_of_length_eq_zero hk0;subst cd;clear hk0 HQ am;go_wp2;refine wp_region_quiet_lit (by kernel_rfl) (by kernel_rfl) ?_
      ((repeat(go_big_quiet_step (fail)));refine wpQuiet_nil ?_;rintro _ ⟨nq,rfl⟩)
      go_wp2
      go_meet
      case rel=>exact⟨⟨_,rfl⟩,by rw[az.out]⟩
     ·obtain rfl:=bu.out (by omega);obtain rfl:=a8.out (by omega);have e0:=ay.out (s.length-1) (by omega);have e1:=u.out (pl-1) (by omega);unfold ivF at e0 e1;have am:decide (0<s.length)=true:=decide_eq_true (by omega)
      have az:Hid (q=(s.getD (s.length-1) 0==lo.getD (pl-1) 0)):=by show _=_;rw[HQ.out,am];rfl
      have c4:IntKind.i64.wrap ((s.length:Int)-1)=(s.length:Int)-1:=IntWalk.i64_in _ ⟨by omega,by omega⟩
      have c5:((s.length:Int)-1).toNat=s.length-1:=by omega
      have ce:IntKind.i64.wrap ((pl:Int)-1)=(pl:Int)-1:=IntWalk.i64_in _ ⟨by omega,by omega⟩
      have cf:((pl:Int)-1).toNat=pl-1:=by omega
      have c7:0<=(s.length:Int)-1:=by omega
      have cg:0<=(pl:Int)-1:=by omega
      have c8:(s.length:Int)-1<s.length:=by omega
      have ch:(pl:Int)-1<pl:=by omega
      have ct:0<s.length:=by omega
      have cu:1<=s.length:=by omega
      generalize s.getD (s.length-1) 0=x at*;generalize lo.getD (pl-1) 0=y at*;go_wp2;refine wp_region_quiet_lit (by kernel_rfl) (by kernel_rfl) ?_
      ((repeat(go_big_quiet_step (fail)));refine wpQuiet_nil ?_;rintro _ ⟨nq,rfl⟩)
      go_wp2
      go_meet
      case rel=>exact⟨⟨_,rfl⟩,by rw[az.out]⟩
    case rest=>
     obtain⟨⟨m2,rfl⟩,rfl⟩:=hcut
     cases q with
     |true=>
      have an:0<s.length/\s.getD (s.length-1) 0=lo.getD (pl-1) 0:=by have:=HQ.out;simpa[Bool.and_eq_true]using this.symm
      have cw:=an.1;have b4:=Ab (f.out an.1 an.2);obtain rfl:=a8.out (by omega);have e1:=u.out (pl-1) (by omega);unfold ivF at e1
      have aw:I64 (lo.getD (pl-1) 0):=by
       have hl:=c.out;rw[Ae _ _ _ (by omega)];exact bg.out _ (List.getElem_mem _)
      have HX:=Ab aw
      have a5:(lo.take (pl-1)).length=pl-1:=by have:=c.out;rw[List.length_take];omega
      have b3:=Ab a5
      have d:Hid ((lo.getD (pl-1) 0::lo.take (pl-1)).length=pl):=by show _=_;rw[List.length_cons,a5];omega
      have bp:(s.take (s.length-1)).length=s.length-1:=by rw[List.length_take];omega
      have ag:=Ab bp;clear an aw a5 bp f p HQ HN;generalize lo.getD (pl-1) 0=x at*;have e2:(wr.drewN m2).cell? ⟨lb,bs+(pl-1),none⟩=some (.int .i64 x):=e1;have bk:Below w1.heap.size w1 (wr.drewN m2):=AB hc m2;have J4:=Ab (show Ah (wr.drewN m2) (.slice sa (s.length-1) sc) (s.take (s.length-1))from aq.out.below (Aj _ _ _));have J3:=Ab (show Ah (wr.drewN m2) (.slice (some ⟨lb,bs,none⟩) (pl-1) lc) (lo.take (pl-1))from ap.out.below (Aj _ _ _));clear aq ap I3 I4 e1 hc;generalize wr.drewN m2=w5 at*
      go_upto_region 8 with(fail)
      have ce:IntKind.i64.wrap ((pl:Int)-1)=(pl:Int)-1:=IntWalk.i64_in _ ⟨by omega,by omega⟩
      have cf:((pl:Int)-1).toNat=pl-1:=by omega
      have cg:0<=(pl:Int)-1:=by omega
      have ch:(pl:Int)-1<pl:=by omega
      have cq:1<=(pl:Int):=by omega
      have cr:1<=pl:=by omega
      have co:pl-1<=lc:=by omega
      have cp:(pl:Int)-1<=lc:=by omega
      have cx:lb<w5.heap.size:=World.block_lt_of_cell? w5 _ e2
      go_region_law ((rw[if_pos (by rfl)];refine FF _ _ _ (by rfl) w5.heap.size _ _ [x] (lo.take (pl-1)) (by rfl) (Mt w5 x) (by rfl) (J3.out.below (by repeat(first|exact Ad|assumption|(refine AE ?_ _)|(refine AB ?_ _)|(refine Below.drew ?_)))) (by rw[b3.out];simp;omega) (by simp) ?_;intro v6 w6 j bo;obtain⟨a6,c6,br⟩:=j.slice;rw[show([x]++lo.take (pl-1)).length=pl from d.out]at br;subst br;have bf:=Ab j;have bb:=Ab bo;clear j bo))
      all_goals
       have a4:Below w5.heap.size w5 w6:=(Ao _).drew.grown bb.out (by simp) (fun g h=>by simp[Value.ownBlock]at h;omega)
       have I6:=Ab (show Ah w6 (.slice a6 pl c6) (x::lo.take (pl-1))from bf.out.is (by rw[show([x]++lo.take (pl-1)).length=pl from d.out];unfold Bg;omega) (fun z hz=>by
        rcases List.mem_cons.1 hz with rfl|hz
        ·exact HX.out
        ·exact bg.out z (List.mem_of_mem_take hz)))
       have J6:=Ab (J4.out.below a4);have cb:=bk.trans (a4.mono bk.size);clear bf bb a4 J3 J4 e2;go_wp2
       go_roundg (s.length-1)
       case rel=>exact⟨s.take (s.length-1),x::lo.take (pl-1),a6,c6,sa,sc,ag.out.symm,rfl,by rw[ag.out],by rw[ag.out];omega,d,I6,by rw[ag.out];exact J6,b4,cb⟩
       case measure=>omega
     |false=>
      have HF:Hid ((⟨s,lo⟩:Ls)=nl):=p.out (by
       have:=HQ.out
       rcases Nat.eq_zero_or_pos s.length with h|h
       ·exact .inl h
       ·refine .inr fun e=> ?_
        rw[decide_eq_true h,e,beq_self_eq_true]at this
        cases this)
      have dc:w.heap.size+1<(wr.drewN m2).heap.size:=by have:=hc.size;show _<wr.heap.size;omega
      have HC:Hid ((wr.drewN m2).heap[w.heap.size+1]? =some (Obj.cells #[Value.slice none 0 0,Value.slice none 0 0] 30 (0,0))):=(hc.block _ ci).trans cR;have ca:Below w.heap.size w (wr.drewN m2):=AB (ai.trans (hc.mono ai.size)) m2;have J3:=Ab (show Ah (wr.drewN m2) (.slice la pl lc) lo from I3.out.below (Aj _ _ _));have J4:=Ab (show Ah (wr.drewN m2) (.slice sa s.length sc) s from I4.out.below (Aj _ _ _));obtain⟨x0,x1,y0,y1⟩:=ME HC.out;clear cA cB cR f p HQ;generalize wr.drewN m2=w5 at*
      go_wp2_with fail
      (have o:=Bq (a:=.slice sa s.length sc) (b:=.slice la pl lc) HC.out);(have b6:=Aa 0 o);(have b7:=Aa 1 o);(refine bodyPost_ret (v:=.agg #[.slice sa s.length sc,.slice la pl lc]) (by simp[results,Tryz.results100,go_sem,b6,b7]) rfl ?_)
      rw[<-HF.out];exact If HC.out J4.out J3.out ca (by omega)
end Go.Proofs.YtncjeamdkjcebaaGreatDoor
