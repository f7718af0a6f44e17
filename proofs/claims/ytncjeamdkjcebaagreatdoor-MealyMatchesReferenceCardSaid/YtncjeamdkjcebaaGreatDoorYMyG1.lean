/- The play of a controller against an environm. -/
import Derived.Test.YtncjeamdkjcebaaGreatDoorYMyW3
set_option linter.all false
set_option maxHeartbeats 4000000
set_option maxRecDepth 100000
namespace Go.Proofs.YtncjeamdkjcebaaGreatDoor
open Go.RowKit
def enI(e:Mo)(r y:Nat):Int:=(e.next.getD r []).getD y 0
def prP(m:My)(e:Mo):Nat->Nat×Nat
 |0=>(m.start.toNat,e.start.toNat)
 |k+1=>((nxI m (prP m e k).1 (e.inn.getD (prP m e k).2 0).toNat).toNat,(enI e (prP m e k).2 (Bt m (prP m e k).1 (e.inn.getD (prP m e k).2 0).toNat).toNat).toNat)
def stP(m:My)(e:Mo)(k:Nat):Nat:=(prP m e k).2*m.out.length+(prP m e k).1
def ltP(l:List Sig)(m:My)(e:Mo)(k:Nat):Int:=AI l (e.inn.getD (prP m e k).2 0) (Bt m (prP m e k).1 (e.inn.getD (prP m e k).2 0).toNat)
structure PlV(m:My)(e:Mo):Prop where
 mv:MyV m
 ev:MoV e
 i:e.ins=m.ins
 o:e.outs=m.outs
theorem MoV.in'{e:Mo}(h:MoV e){r:Nat}(hr:r<e.inn.length):0<=e.inn.getD r 0/\e.inn.getD r 0<e.ins:=h.inn r hr
theorem MoV.nx'{e:Mo}(h:MoV e){r y:Nat}(hr:r<e.inn.length)(hy:(y:Int)<e.outs):y<(e.next.getD r []).length/\0<=enI e r y/\enI e r y<e.inn.length:=by
 obtain⟨h1,h2⟩:=h.nxt r hr
 have:y<(e.next.getD r []).length:=by omega
 exact⟨this,h2 y this⟩
theorem PlV.lt{m:My}{e:Mo}(h:PlV m e):∀k,(prP m e k).1<m.out.length/\(prP m e k).2<e.inn.length
 |0=>by
  have h1:=h.mv.s0;have h2:=h.mv.s1;have h3:=h.ev.s0;have h4:=h.ev.s1;show m.start.toNat<_/\e.start.toNat<_;omega
 |k+1=>by
  obtain⟨h1,h2⟩:=h.lt k;have h3:=h.ev.in' h2;have h4:=h.mv.out' h1 (x:=(e.inn.getD (prP m e k).2 0).toNat) (by have:=h.i;omega);have h5:=h.mv.nx' h1 (x:=(e.inn.getD (prP m e k).2 0).toNat) (by have:=h.i;omega);have h6:=h.ev.nx' h2 (y:=(Bt m (prP m e k).1 (e.inn.getD (prP m e k).2 0).toNat).toNat) (by have:=h.o;omega);show(nxI m _ _).toNat<_/\(enI e _ _).toNat<_;omega
theorem Q5{m:My}{e:Mo}(h:PlV m e)(k:Nat):stP m e k<m.out.length*e.inn.length:=by
 obtain⟨h1,h2⟩:=h.lt k;unfold stP
 calc(prP m e k).2*m.out.length+(prP m e k).1<(prP m e k).2*m.out.length+m.out.length:=by omega
  _=((prP m e k).2+1)*m.out.length:=by rw[Nat.add_mul,Nat.one_mul]
  _<=e.inn.length*m.out.length:=Nat.mul_le_mul_right _ h2
  _=m.out.length*e.inn.length:=Nat.mul_comm _ _
theorem KX{m:My}{e:Mo}(h:PlV m e)(k:Nat):stP m e k/m.out.length=(prP m e k).2/\stP m e k%m.out.length=(prP m e k).1:=by
 obtain⟨h1,h2⟩:=h.lt k;unfold stP
 constructor
 ·rw[Nat.mul_comm,Nat.mul_add_div (by omega),Nat.div_eq_of_lt h1,Nat.add_zero]
 ·rw[Nat.mul_comm,Nat.mul_add_mod,Nat.mod_eq_of_lt h1]
theorem QI{l:List Sig}{m:My}{e:Mo}(h:PlV m e)(hf:BH l m=true)(k:Nat):0<=ltP l m e k/\ltP l m e k<64:=by
 obtain⟨h1,h2,h3,h4⟩:=BT.1 hf;obtain⟨q1,q2⟩:=h.lt k;have hb:=h.ev.in' q2;have hi:=h.i;have ho:=h2.out' q1 (x:=(e.inn.getD (prP m e k).2 0).toNat) (by omega);exact LC h1 ⟨hb.1,by omega⟩ ⟨ho.2.1,by omega⟩
structure Pq(W:World)(p1 p2 p3 p4:Nat)(l:List Sig)(m:My)(e:Mo):Prop where
 c1:W.cell? ⟨p1,0,none⟩=some (.int .i64 (m.out.length:Int))
 c2:∃v3 v4,W.heap[p2]? =some (.cells #[.int .i64 e.ins,.int .i64 e.outs,.int .i64 e.start,v3,v4] 28 (0,0))/\Ah W v3 e.inn/\Ar W v4 e.next
 c3:∃v3 v4,W.heap[p3]? =some (.cells #[.int .i64 m.ins,.int .i64 m.outs,.int .i64 m.start,v3,v4] 25 (0,0))/\Ar W v3 m.out/\Ar W v4 m.next
 c4:∃v,W.cell? ⟨p4,0,none⟩=some v/\Ar W v (Ap l)
theorem Pq.below{W W':World}{p1 p2 p3 p4:Nat}{l:List Sig}{m:My}{e:Mo}(h:Pq W p1 p2 p3 p4 l m e)(hb:Below W.heap.size W W'):Pq W' p1 p2 p3 p4 l m e:=by
 obtain⟨v3,v4,h2,i3,i4⟩:=h.c2;obtain⟨v5,v6,h3,i5,i6⟩:=h.c3;obtain⟨v7,h4,i7⟩:=h.c4;exact⟨Ag hb h.c1,⟨v3,v4,B8 hb h2,i3.below hb,i4.below hb⟩,⟨v5,v6,B8 hb h3,i5.below hb,i6.below hb⟩,⟨v7,Ag hb h4,i7.below hb⟩⟩
theorem Rt(W:World)(p1 p2 p3 p4:Nat)(l:List Sig)(m:My)(e:Mo)(k:Nat)(h:Pq W p1 p2 p3 p4 l m e)(hf:BH l m=true)(hv:PlV m e):
  Calls Tryz.prog 62 #[.int .i64 (stP m e k:Int),.pointer (some ⟨p1,0,none⟩),.pointer (some ⟨p2,0,none⟩),.pointer (some ⟨p3,0,none⟩),.pointer (some ⟨p4,0,none⟩)] W
   (fun en W'=>en=.returned (.tuple #[.int .i64 (ltP l m e k),.int .i64 (stP m e (k+1):Int)])/\Below W.heap.size W W'):=by
 obtain⟨z,hm,hi,ho⟩:=BT.1 hf;obtain⟨b,c⟩:=KX hv k;obtain⟨hq,hr⟩:=hv.lt k;have hb:=hv.ev.in' hr;have p:=hv.i;have u:=hv.o;obtain⟨x,hx⟩:∃x:Nat,e.inn.getD (prP m e k).2 0=(x:Int):=⟨(e.inn.getD (prP m e k).2 0).toNat,by omega⟩;obtain⟨o1,o2,o3⟩:=hm.out' hq (x:=x) (by omega);obtain⟨n1,n2,n3⟩:=hm.nx' hq (x:=x) (by omega);obtain⟨y,hy⟩:∃y:Nat,Bt m (prP m e k).1 x=(y:Int):=⟨(Bt m (prP m e k).1 x).toNat,by omega⟩;obtain⟨t,ht⟩:∃t:Nat,nxI m (prP m e k).1 x=(t:Int):=⟨(nxI m (prP m e k).1 x).toNat,by omega⟩;obtain⟨l1,l2,l3⟩:=hv.ev.nx' hr (y:=y) (by omega);obtain⟨s,hs⟩:∃s:Nat,enI e (prP m e k).2 y=(s:Int):=⟨(enI e (prP m e k).2 y).toNat,by omega⟩;obtain⟨j1,j2,j3⟩:=LD (l:=l) (x:=x) (o:=y) (by omega) (by omega)
 have hlt:ltP l m e k=AI l (x:Int) (y:Int):=by unfold ltP;rw[hx,Int.toNat_natCast,hy]
 have j:stP m e (k+1)=s*m.out.length+t:=by
  unfold stP;show(enI e _ (Bt m _ (e.inn.getD (prP m e k).2 0).toNat).toNat).toNat*_+(nxI m _ (e.inn.getD (prP m e k).2 0).toNat).toNat=_;rw[hx,Int.toNat_natCast,hy,Int.toNat_natCast,hs,Int.toNat_natCast,ht,Int.toNat_natCast]
 rw[j,hlt];obtain⟨v3,v4,h2,i3,i4⟩:=h.c2;obtain⟨v5,v6,h3,i5,i6⟩:=h.c3;obtain⟨v7,h4,i7⟩:=h.c4;have w:=hm.n;have f:=hm.nl;have d:=hv.ev.nl;have ae:=hv.ev.n;have c1:=h.c1;obtain⟨a3,d3,rfl⟩:=i3.shape;obtain⟨b3,s3,e3,-,f3⟩:=i3.data;obtain⟨a4,d4,rfl⟩:=i4.shape;obtain⟨b4,s4,e4,-,f4⟩:=i4.dat2;obtain⟨a5,d5,rfl⟩:=i5.shape;obtain⟨b5,s5,e5,-,f5⟩:=i5.dat2;obtain⟨a6,d6,rfl⟩:=i6.shape;obtain⟨b6,s6,e6,-,f6⟩:=i6.dat2;obtain⟨a7,d7,rfl⟩:=i7.shape;obtain⟨b7,s7,e7,-,f7⟩:=i7.dat2;obtain rfl:=e3 (by omega);obtain rfl:=e4 (by omega);obtain rfl:=e5 (by omega);obtain rfl:=e6 (by omega);obtain rfl:=e7 (by omega);have g3:=f3 _ hr;rw[hx]at g3;obtain⟨r4,z4,k4,q4⟩:=f4 (prP m e k).2 (by omega);obtain⟨u4,w4,y4,-,g4⟩:=q4.data;obtain rfl:=y4 (by omega);replace g4:=g4 y l1;rw[show(e.next.getD (prP m e k).2 []).getD y 0=(s:Int)from hs]at g4;obtain⟨r5,z5,k5,q5⟩:=f5 (prP m e k).1 hq;obtain⟨u5,w5,y5,-,g5⟩:=q5.data;obtain rfl:=y5 (by omega);replace g5:=g5 x o1;rw[show(m.out.getD (prP m e k).1 []).getD x 0=(y:Int)from hy]at g5;obtain⟨r6,z6,k6,q6⟩:=f6 (prP m e k).1 (by omega);obtain⟨u6,w6,y6,-,g6⟩:=q6.data;obtain rfl:=y6 (by omega);replace g6:=g6 x n1;rw[show(m.next.getD (prP m e k).1 []).getD x 0=(t:Int)from ht]at g6;obtain⟨r7,z7,k7,q7⟩:=f7 x j1;obtain⟨u7,w7,y7,-,g7⟩:=q7.data;obtain rfl:=y7 (by omega);replace g7:=g7 y j2;rw[j3]at g7;have m3:=Aa 3 h3;have m4:=Aa 4 h3;have w3:=Aa 3 h2;have az:=Aa 4 h2
 have ak:s<e.inn.length:=by omega
 have al:t<m.out.length:=by omega
 have ac:x<64:=by have:=hm.i2;omega
 have ad:y<64:=by have:=hm.o2;omega
 clear f3 f4 f5 f6 f7 q4 q5 q6 q7 y4 y5 y6 y7 i3 i4 i5 i6 i7 e3 e4 e5 e6 e7 j3 j hlt h h2 h3 hf z hx hy ht hs hi ho o2 o3 n2 n3 hb l2 l3 p u;generalize AI l (x:Int) (y:Int)=J at*;generalize(Ap l).length=li at*;generalize((Ap l).getD x []).length=l7 at*;generalize(m.out.getD (prP m e k).1 []).length=l5 at*;generalize(m.next.getD (prP m e k).1 []).length=l6 at*;generalize(e.next.getD (prP m e k).2 []).length=l4 at*;generalize(prP m e k).1=q at*;generalize(prP m e k).2=r at*;generalize stP m e k=A at*;rw[f]at*;rw[d]at*;generalize m.out.length=n at*;generalize e.inn.length=ne at*
 have af:¬n=0:=by omega
 have aa:((A:Int)/(n:Int))=(r:Int):=by rw[<-b];rfl
 have ab:((A:Int)%(n:Int))=(q:Int):=by rw[<-c];rfl
 have ax:(A:Int).tdiv (n:Int)=(r:Int):=by rw[Int.tdiv_eq_ediv_of_nonneg (by omega)];exact aa
 have ay:(A:Int).tmod (n:Int)=(q:Int):=by rw[Int.tmod_eq_emod_of_nonneg (by omega)];exact ab
 have ai:(0:Int)<=(r:Int):=by omega
 have aj:(r:Int)<(ne:Int):=by omega
 have ao:(0:Int)<=(x:Int):=by omega
 have ap:(x:Int)<(li:Int):=by omega
 have aq:(x:Int)<(l5:Int):=by omega
 have ar:(x:Int)<(l6:Int):=by omega
 have au:(0:Int)<=(y:Int):=by omega
 have av:(y:Int)<(l7:Int):=by omega
 have aw:(y:Int)<(l4:Int):=by omega
 have ag:(0:Int)<=(q:Int):=by omega
 have ah:(q:Int)<(n:Int):=by omega
 have hE:((s*n+t:Nat):Int)=(s:Int)*(n:Int)+(t:Int):=by simp
 rw[hE];have v:s*n<=3000*3000:=Nat.mul_le_mul (by omega) w
 have a:(s:Int)*(n:Int)=((s*n:Nat):Int):=by simp
 have am:IntKind.i64.wrap ((s:Int)*(n:Int))=(s:Int)*(n:Int):=IntWalk.i64_in _ ⟨by rw[a];omega,by rw[a];omega⟩;have an:IntKind.i64.wrap ((s:Int)*(n:Int)+(t:Int))=(s:Int)*(n:Int)+(t:Int):=IntWalk.i64_in _ ⟨by rw[a];omega,by rw[a];omega⟩;clear b c f d a hE v
 go_enter Tryz.func62,Tryz.ntmps62
 go_upto_region 1 with(fail)
 go_quiet (fail)
 go_upto_region 4 with(fail)
 go_quiet (fail)
 go_wp2;go_ret2;exact⟨rfl,(Aj _ _ _).trans (Aj _ _ _)⟩
noncomputable def Cs (l:List Sig) (m:My) (e:Mo):Ls:=if BH l m=true/\F7 l e=true then He (stP m e) (ltP l m e)else C7
theorem FM{l:List Sig}{m:Mo}:F7 l m=true↔As l=true/\MoV m/\m.ins=Al l/\m.outs=Ai l:=by
 unfold F7;rw[Bool.and_eq_true,Bool.and_eq_true,Bool.and_eq_true,decide_eq_true_eq,decide_eq_true_eq,Fc];exact⟨fun⟨⟨⟨h1,h2⟩,h3⟩,h4⟩=>⟨h1,h2,h3,h4⟩,fun⟨h1,h2,h3,h4⟩=>⟨⟨⟨h1,h2⟩,h3⟩,h4⟩⟩
theorem Q6{m:My}{e:Mo}:stP m e 0=e.start.toNat*m.out.length+m.start.toNat:=rfl
theorem Km(w:World)(vl vm vi:Value)(l:List Sig)(m:My)(e:Mo)(hK:B7 w)(hl:AD w vl l)(hm:BB w vm m)(hi:Dy w vi e):
  Calls Tryz.prog 25 #[vl,vm,vi] w (Dz (Cs l m e) w):=by
 have ai:Hid (∀W,Below w.heap.size w W->Calls Tryz.prog 47 #[vl,vm] W (Av (.bool (BH l m)) W)):=fun W h=>KA W _ _ l m (hK.below h) (hl.below h) (hm.below h)
 have an:Hid (∀W,Below w.heap.size w W->Calls Tryz.prog 20 #[vi] W (Av (.bool (Bw e)) W)):=fun W h=>IJ W _ e (hi.below h)
 have am:Hid (As l=true->∀W,Below w.heap.size w W->Calls Tryz.prog 56 #[vl] W (EZ (Ap l) W)):=fun hv W h=>MS W _ l (hK.below h) (hl.below h) hv
 obtain⟨v3,v4,rfl,⟨-,-,ba⟩,i3,i4⟩:=hm;obtain⟨s3,s4,rfl,⟨-,-,bb⟩,j3,j4⟩:=hi
 have ay:Hid (∀W,Below w.heap.size w W->Ar W v3 m.out):=fun W h=>i3.below h
 have az:Hid (∀W,Below w.heap.size w W->Ar W v4 m.next):=fun W h=>i4.below h
 have a1:Hid (∀W,Below w.heap.size w W->Ah W s3 e.inn):=fun W h=>j3.below h
 have a2:Hid (∀W,Below w.heap.size w W->Ar W s4 e.next):=fun W h=>j4.below h
 obtain⟨a3,c3,rfl⟩:=i3.shape;obtain⟨a4,c4,rfl⟩:=i4.shape;obtain⟨d0,f0,rfl⟩:=j3.shape;obtain⟨d1,f1,rfl⟩:=j4.shape;clear hK hl i3 i4 j3 j4
 go_enter Tryz.func25,Tryz.ntmps25
 go_upto_region 1 with(fail)
 obtain⟨f,-,ap⟩:=Aw (w0:=w) Ad leR #[.int .i64 m.ins,.int .i64 m.outs,.int .i64 m.start,(.slice a3 m.out.length c3),(.slice a4 m.next.length c4)] 25
 have ag:(w.alloc (.cells #[.int .i64 m.ins,.int .i64 m.outs,.int .i64 m.start,(.slice a3 m.out.length c3),(.slice a4 m.next.length c4)] 25)).heap.size=w.heap.size+1:=by simp
 generalize w.alloc (.cells #[.int .i64 m.ins,.int .i64 m.outs,.int .i64 m.start,(.slice a3 m.out.length c3),(.slice a4 m.next.length c4)] 25)=w1 at*;obtain⟨j,-,aq⟩:=Aw (w0:=w) ap (by omega) #[.int .i64 e.ins,.int .i64 e.outs,.int .i64 e.start,.slice d0 e.inn.length f0,.slice d1 e.next.length f1] 28
 have ah:(w1.alloc (.cells #[.int .i64 e.ins,.int .i64 e.outs,.int .i64 e.start,.slice d0 e.inn.length f0,.slice d1 e.next.length f1] 28)).heap.size=w.heap.size+1+1:=by simp[ag]
 have ad:=(Dm w1 (.cells #[.int .i64 e.ins,.int .i64 e.outs,.int .i64 e.start,.slice d0 e.inn.length f0,.slice d1 e.next.length f1] 28) (r:=w.heap.size) (by omega)).trans f;generalize w1.alloc (.cells #[.int .i64 e.ins,.int .i64 e.outs,.int .i64 e.start,.slice d0 e.inn.length f0,.slice d1 e.next.length f1] 28)=w2 at*;obtain⟨d,-,c⟩:=Aw (w0:=w) aq (by omega) #[.slice none 0 0,.slice none 0 0] 30
 have a9:(w2.alloc (.cells #[.slice none 0 0,.slice none 0 0] 30)).heap.size=w.heap.size+1+1+1:=by simp[ah]
 have f:=(Dm w2 (.cells #[.slice none 0 0,.slice none 0 0] 30) (r:=w.heap.size) (by omega)).trans ad;have j:=(Dm w2 (.cells #[.slice none 0 0,.slice none 0 0] 30) (r:=w1.heap.size) (by omega)).trans j;generalize w2.alloc (.cells #[.slice none 0 0,.slice none 0 0] 30)=w3 at*;clear ad ap aq;rw[ag]at j;rw[ah]at d;have k0:=Aa 0 f;have k1:=Aa 1 f;have k2:=Aa 2 f;have k3:=Aa 3 f;have k4:=Aa 4 f
 go_wp2_with fail
 refine(ai.out _ c).mono ?_;rintro ee w4 ⟨rfl,hb⟩;replace f:=(hb.block _ (by omega)).trans f;replace j:=(hb.block _ (by omega)).trans j;replace d:=(hb.block _ (by omega)).trans d;replace c:=c.trans (hb.mono c.size)
 have aw:w.heap.size+1+1+1<=w4.heap.size:=by have:=hb.size;omega
 clear hb a9 k0 k1 k2 k3 k4 ag ah;have q0:=Aa 0 d;have q1:=Aa 1 d;have k0:=Aa 0 f;have u0:=Aa 0 j;have u1:=Aa 1 j;have u2:=Aa 2 j;have u3:=Aa 3 j;have u4:=Aa 4 j
 cases hf:BH l m with
 |false=>
  have hE:Cs l m e=C7:=if_neg (by rw[hf];simp);have HE:=Ab hE;have fz:=At 0 d;have ao:=At 1 d;clear hE;go_wp2;rw[HE.out]
  (have o:=Bq (a:=.slice none 0 0) (b:=.slice none 0 0) d);(have q:=Aa 0 o);(have s:=Aa 1 o);(refine bodyPost_ret (v:=.agg #[.slice none 0 0,.slice none 0 0]) (by simp[results,Tryz.results25,go_sem,q,s]) rfl ?_)
  exact CR c (by omega)
 |true=>
 go_wp2_with fail
 refine(an.out _ c).mono ?_;rintro ee w5 ⟨rfl,hb⟩;replace f:=(hb.block _ (by omega)).trans f;replace j:=(hb.block _ (by omega)).trans j;replace d:=(hb.block _ (by omega)).trans d;replace c:=c.trans (hb.mono c.size)
 replace aw:w.heap.size+1+1+1<=w5.heap.size:=by have:=hb.size;omega
 clear hb q0 q1 k0 u0 u1 u2 u3 u4;have q0:=Aa 0 d;have q1:=Aa 1 d;have fz:=At 0 d;have ao:=At 1 d;have k0:=Aa 0 f;have k1:=Aa 1 f;have u0:=Aa 0 j;have u1:=Aa 1 j;obtain⟨af,au,y,z⟩:=BT.1 hf
 cases hv:Bw e with
 |false=>
  have HE:Hid (Cs l m e=C7):=if_neg (by unfold F7;rw[hv];simp);clear k0 k1 u0 u1;go_wp2;rw[HE.out]
  (have o:=Bq (a:=.slice none 0 0) (b:=.slice none 0 0) d);(have q:=Aa 0 o);(have s:=Aa 1 o);(refine bodyPost_ret (v:=.agg #[.slice none 0 0,.slice none 0 0]) (by simp[results,Tryz.results25,go_sem,q,s]) rfl ?_)
  exact CR c (by omega)
 |true=>
 by_cases hei:e.ins=m.ins
 case neg=>
  have HE:Hid (Cs l m e=C7):=if_neg (fun h=>hei ((FM.1 h.2).2.2.1.trans y.symm))
  have tA:(e.ins !=m.ins)=true:=by simp[hei]
  clear y z;go_wp2;rw[HE.out]
  (have o:=Bq (a:=.slice none 0 0) (b:=.slice none 0 0) d);(have q:=Aa 0 o);(have s:=Aa 1 o);(refine bodyPost_ret (v:=.agg #[.slice none 0 0,.slice none 0 0]) (by simp[results,Tryz.results25,go_sem,q,s]) rfl ?_)
  exact CR c (by omega)
 by_cases heo:e.outs=m.outs
 case neg=>
  have HE:Hid (Cs l m e=C7):=if_neg (fun h=>heo ((FM.1 h.2).2.2.2.trans z.symm))
  have tA:(e.ins !=m.ins)=false:=by simp[hei]
  have tB:(e.outs !=m.outs)=true:=by simp[heo]
  clear y z;go_wp2;rw[HE.out]
  (have o:=Bq (a:=.slice none 0 0) (b:=.slice none 0 0) d);(have q:=Aa 0 o);(have s:=Aa 1 o);(refine bodyPost_ret (v:=.agg #[.slice none 0 0,.slice none 0 0]) (by simp[results,Tryz.results25,go_sem,q,s]) rfl ?_)
  exact CR c (by omega)
 have ar:F7 l e=true:=FM.2 ⟨af,Fc.1 hv,hei.trans y,heo.trans z⟩;have HE:Hid (Cs l m e=He (stP m e) (ltP l m e)):=if_pos ⟨hf,ar⟩;have HJ:=Ab (am.out af);have p:Hid (PlV m e):=⟨au,Fc.1 hv,hei,heo⟩;have HF:=Ab hf
 have tA:(e.ins !=m.ins)=false:=by simp[hei]
 have tB:(e.outs !=m.outs)=false:=by simp[heo]
 clear hf hv am ai an y z au af ar hei heo
 go_wp2_with fail
 refine(HJ.out _ c).mono ?_;rintro ee w6 ⟨vj,rfl,ij,hb⟩;replace f:=(hb.block _ (by omega)).trans f;replace j:=(hb.block _ (by omega)).trans j;replace d:=(hb.block _ (by omega)).trans d;replace c:=c.trans (hb.mono c.size)
 replace aw:w.heap.size+1+1+1<=w6.heap.size:=by have:=hb.size;omega
 have a0:Hid (∀W,Below w6.heap.size w6 W->Ar W vj (Ap l)):=fun W h=>ij.below h
 obtain⟨aj,cj,rfl⟩:=ij.shape;clear hb ij q0 q1 fz ao k0 k1 u0 u1 tA tB
 go_upto_region 4 with(fail)
 obtain⟨ab,-,x⟩:=Aw (w0:=w6) Ad leR #[.slice aj (Ap l).length cj] 23
 have ax:(w6.alloc (.cells #[.slice aj (Ap l).length cj] 23)).heap.size=w6.heap.size+1:=by simp
 generalize w6.alloc (.cells #[.slice aj (Ap l).length cj] 23)=w8 at*;have ak:=Ab (a0.out _ x);replace f:=(x.block _ (by omega)).trans f;replace j:=(x.block _ (by omega)).trans j;replace d:=(x.block _ (by omega)).trans d;replace c:=c.trans (x.mono c.size);have k3:=Aa 3 f
 have l5:w.heap.size<w8.heap.size:=by omega
 have l6:w.heap.size<w8.heap.size+1:=by omega
 go_upto_region 5 with(fail)
 obtain⟨ac,-,u⟩:=Aw (w0:=w8) Ad leR #[.int .i64 (m.out.length:Int)] 3;generalize w8.alloc (.cells #[.int .i64 (m.out.length:Int)] 3)=wc at*;have al:=Ab (ak.out.below u);replace f:=(u.block _ (by omega)).trans f;replace j:=(u.block _ (by omega)).trans j;replace d:=(u.block _ (by omega)).trans d;replace ab:=(u.block _ (by omega)).trans ab;replace c:=c.trans (u.mono c.size);have bd:=u.size;rw[ax]at ac;have hE:Pq wc (w6.heap.size+1) (w.heap.size+1) w.heap.size w6.heap.size l m e:=⟨Aa 0 ac,⟨_,_,j,a1.out _ c,a2.out _ c⟩,⟨_,_,f,ay.out _ c,az.out _ c⟩,⟨_,Aa 0 ab,al.out⟩⟩
 have hst:∀i,stP m e i<m.out.length*e.inn.length:=fun i=>Q5 p.out i
 have a5:=p.out.mv.n;have a6:=p.out.ev.n;have a7:=p.out.mv.s0;have bc:=p.out.mv.s1;have av:=p.out.ev.s0;have be:=p.out.ev.s1;have hN:m.out.length*e.inn.length<=3000*3000:=Nat.mul_le_mul a5 a6;obtain⟨mm,nn,hrep,hnn⟩:=Q0 hst
 have hlt:=fun k=>QI p.out HF.out k
 have hR:Cs l m e=Bh (A7 (ltP l m e) mm nn).stem (A7 (ltP l m e) mm nn).loop:=by rw[HE.out,Ih hrep hlt]
 have aa:e.start*(m.out.length:Int)+m.start=((stP m e 0:Nat):Int):=by rw[Q6,Int.natCast_add,Int.natCast_mul,Int.toNat_of_nonneg av,Int.toNat_of_nonneg a7]
 have a8:stP m e 0<9000001:=by have:=hst 0;omega
 have ae:Hid (Calls Tryz.prog 57 #[.int .i64 ((m.out.length*e.inn.length:Nat):Int),.int .i64 (e.start*(m.out.length:Int)+m.start),.func (.func 62) #[] #[.pointer (some ⟨w6.heap.size+1,0,none⟩),.pointer (some ⟨w.heap.size+1,0,none⟩),.pointer (some ⟨w.heap.size,0,none⟩),.pointer (some ⟨w6.heap.size,0,none⟩)]] wc (Dz (Cs l m e) wc)):=by
  rw[aa,hR];exact NT wc 62 _ (enters_of Tryz.func62 (by kernel_rfl) rfl) (stP m e) (ltP l m e) _ mm nn (by omega) hst hrep hnn (fun W k hW _=>Rt W _ _ _ _ l m e k (hE.below hW) HF.out p.out) (fun k=>⟨(hlt k).1,by have:=(hlt k).2;omega⟩)
 have hw:=IntWalk.i64_in (((m.out.length*e.inn.length:Nat):Int)) ⟨by omega,by omega⟩;rw[Int.natCast_mul]at hw;have bf:=IntWalk.i64_in (e.start*(m.out.length:Int)+m.start) ⟨by rw[aa];omega,by rw[aa];omega⟩;have bg:=IntWalk.i64_in (e.start*(m.out.length:Int)) ⟨by have:=Int.mul_nonneg av (show(0:Int)<=(m.out.length:Int)by omega);omega,by omega⟩;rw[show((m.out.length*e.inn.length:Nat):Int)=(m.out.length:Int)*(e.inn.length:Int)by rw[Int.natCast_mul]]at ae;have k2:=Aa 2 f;have u2:=Aa 2 j;have u3:=Aa 3 j;have k9:=Aa 0 ac;clear hrep hst hlt hR aa hE hnn hN a8 k3 l5 l6
 try rw[ax]
 go_upto_region 5 with(fail)
 go_wp2_with fail
 refine ae.out.mono ?_;rintro ee bh ⟨v,rfl,⟨x0,x1,rfl,i0,i1⟩,hb⟩;replace d:=(hb.block _ (by omega)).trans d;replace c:=c.trans (hb.mono c.size);clear hb f j ab ac ae k2 u2 u3 k9;obtain⟨y0,z0,rfl⟩:=i0.shape;obtain⟨y1,z1,rfl⟩:=i1.shape;obtain⟨g0,g1,g2,g3⟩:=ME d;have H0:=Ab i0;have H1:=Ab i1;clear i0 i1;go_wp2
 (have o:=Bq (a:=.slice y0 (Cs l m e).stem.length z0) (b:=.slice y1 (Cs l m e).loop.length z1) d);(have q:=Aa 0 o);(have s:=Aa 1 o);(refine bodyPost_ret (v:=.agg #[.slice y0 (Cs l m e).stem.length z0,.slice y1 (Cs l m e).loop.length z1]) (by simp[results,Tryz.results25,go_sem,q,s]) rfl ?_)
 exact If d H0.out H1.out c (by omega)
def stQ(m:My)(e:Mo)(k:Nat):Nat:=(prP m e k).1*3000+(prP m e k).2
theorem Oc{m:My}{e:Mo}(h:PlV m e)(i j:Nat):stQ m e i=stQ m e j↔stP m e i=stP m e j:=by
 obtain⟨a1,a2⟩:=h.lt i;obtain⟨b1,b2⟩:=h.lt j;have hn:=h.ev.n;obtain⟨c1,c2⟩:=KX h i;obtain⟨d1,d2⟩:=KX h j
 constructor
 ·intro hh;unfold stQ at hh
  have e1:(prP m e i).1=(prP m e j).1:=by omega
  have e2:(prP m e i).2=(prP m e j).2:=by omega
  unfold stP;rw[e1,e2]
 ·intro hh;rw[hh]at c1 c2;unfold stQ;rw[<-c1,<-c2,d1,d2]
theorem PC(w:World)(vl vm vi:Value)(l:List Sig)(m:My)(e:Mo)(hl:AD w vl l)(hm:BB w vm m)(hi:Dy w vi e)(a9:m.out.length<=100)(a7:e.inn.length<=100):
  Calls Tryz.prog 26 #[vl,vm,vi] w (Dz (Cs l m e) w):=by
 have au:Hid (∀W,Below w.heap.size w W->Calls Tryz.prog 27 #[vl,vm] W (Av (.bool (BH l m)) W)):=fun W h=>GJ W _ _ l m (hl.below h) (hm.below h)
 have az:Hid (∀W,Below w.heap.size w W->Calls Tryz.prog 31 #[vl,vi] W (Av (.bool (F7 l e)) W)):=fun W h=>PB W _ _ l e (hl.below h) (hi.below h)
 have aw:Hid (∀W i o,I64 i->I64 o->Below w.heap.size w W->Calls Tryz.prog 61 #[vl,.int .i64 i,.int .i64 o] W (Av (.int .i64 (AI l i o)) W)):=fun W i o h1 h2 h=>Kq W _ l i o h1 h2 (hl.below h)
 obtain⟨v3,v4,rfl,⟨-,-,bx⟩,i3,i4⟩:=hm;obtain⟨s3,s4,rfl,⟨-,-,bz⟩,j3,j4⟩:=hi
 have bi:Hid (∀W,Below w.heap.size w W->Ar W v3 m.out):=fun W h=>i3.below h
 have bj:Hid (∀W,Below w.heap.size w W->Ar W v4 m.next):=fun W h=>i4.below h
 have bk:Hid (∀W,Below w.heap.size w W->Ah W s3 e.inn):=fun W h=>j3.below h
 have bm:Hid (∀W,Below w.heap.size w W->Ar W s4 e.next):=fun W h=>j4.below h
 obtain⟨a3,c3,rfl⟩:=i3.shape;obtain⟨a4,c4,rfl⟩:=i4.shape;obtain⟨d0,f0,rfl⟩:=j3.shape;obtain⟨d1,f1,rfl⟩:=j4.shape;clear hl i3 i4 j3 j4
 go_enter Tryz.func26,Tryz.ntmps26
 go_upto_region 1 with(fail)
 obtain⟨n,-,a2⟩:=Aw (w0:=w) Ad leR #[.int .i64 m.ins,.int .i64 m.outs,.int .i64 m.start,(.slice a3 m.out.length c3),(.slice a4 m.next.length c4)] 25
 have aq:(w.alloc (.cells #[.int .i64 m.ins,.int .i64 m.outs,.int .i64 m.start,(.slice a3 m.out.length c3),(.slice a4 m.next.length c4)] 25)).heap.size=w.heap.size+1:=by simp
 generalize w.alloc (.cells #[.int .i64 m.ins,.int .i64 m.outs,.int .i64 m.start,(.slice a3 m.out.length c3),(.slice a4 m.next.length c4)] 25)=w1 at*;obtain⟨p,-,a5⟩:=Aw (w0:=w) a2 (by omega) #[.int .i64 e.ins,.int .i64 e.outs,.int .i64 e.start,.slice d0 e.inn.length f0,.slice d1 e.next.length f1] 28
 have ar:(w1.alloc (.cells #[.int .i64 e.ins,.int .i64 e.outs,.int .i64 e.start,.slice d0 e.inn.length f0,.slice d1 e.next.length f1] 28)).heap.size=w.heap.size+1+1:=by simp[aq]
 have al:=(Dm w1 (.cells #[.int .i64 e.ins,.int .i64 e.outs,.int .i64 e.start,.slice d0 e.inn.length f0,.slice d1 e.next.length f1] 28) (r:=w.heap.size) (by omega)).trans n;generalize w1.alloc (.cells #[.int .i64 e.ins,.int .i64 e.outs,.int .i64 e.start,.slice d0 e.inn.length f0,.slice d1 e.next.length f1] 28)=w2 at*;obtain⟨c,-,f⟩:=Aw (w0:=w) a5 (by omega) #[.slice none 0 0,.slice none 0 0] 30
 have cg:(w2.alloc (.cells #[.slice none 0 0,.slice none 0 0] 30)).heap.size=w.heap.size+1+1+1:=by simp[ar]
 have n:=(Dm w2 (.cells #[.slice none 0 0,.slice none 0 0] 30) (r:=w.heap.size) (by omega)).trans al;have p:=(Dm w2 (.cells #[.slice none 0 0,.slice none 0 0] 30) (r:=w1.heap.size) (by omega)).trans p;generalize w2.alloc (.cells #[.slice none 0 0,.slice none 0 0] 30)=w3 at*;clear al a2 a5;rw[aq]at p;rw[ar]at c;have k0:=Aa 0 n;have k1:=Aa 1 n;have k2:=Aa 2 n;have k3:=Aa 3 n;have k4:=Aa 4 n
 go_wp2_with fail
 refine(au.out _ f).mono ?_;rintro ee w4 ⟨rfl,hb⟩;replace n:=(hb.block _ (by omega)).trans n;replace p:=(hb.block _ (by omega)).trans p;replace c:=(hb.block _ (by omega)).trans c;replace f:=f.trans (hb.mono f.size)
 have cf:w.heap.size+1+1+1<=w4.heap.size:=by have:=hb.size;omega
 clear hb cg k0 k1 k2 k3 k4 aq ar;have q0:=Aa 0 c;have q1:=Aa 1 c;have k0:=Aa 0 n;have u0:=Aa 0 p;have u1:=Aa 1 p;have u2:=Aa 2 p;have u3:=Aa 3 p;have u4:=Aa 4 p
 cases hf:BH l m with
 |false=>
  have hE:Cs l m e=C7:=if_neg (by rw[hf];simp);have HE:=Ab hE;have fz:=At 0 c;have bw:=At 1 c;clear hE;go_wp2;rw[HE.out]
  (have aa:=Bq (a:=.slice none 0 0) (b:=.slice none 0 0) c);(have ad:=Aa 0 aa);(have ae:=Aa 1 aa);(refine bodyPost_ret (v:=.agg #[.slice none 0 0,.slice none 0 0]) (by simp[results,Tryz.results26,go_sem,ad,ae]) rfl ?_)
  exact CR f (by omega)
 |true=>
 go_wp2_with fail
 refine(az.out _ f).mono ?_;rintro ee w5 ⟨rfl,hb⟩;replace n:=(hb.block _ (by omega)).trans n;replace p:=(hb.block _ (by omega)).trans p;replace c:=(hb.block _ (by omega)).trans c;replace f:=f.trans (hb.mono f.size)
 replace cf:w.heap.size+1+1+1<=w5.heap.size:=by have:=hb.size;omega
 clear hb q0 q1 k0 u0 u1 u2 u3 u4
 cases hv:F7 l e with
 |false=>
  have hE:Cs l m e=C7:=if_neg (by rw[hv];simp);have HE:=Ab hE;have q0:=Aa 0 c;have q1:=Aa 1 c;have fz:=At 0 c;have bw:=At 1 c;clear hE;go_wp2;rw[HE.out]
  (have aa:=Bq (a:=.slice none 0 0) (b:=.slice none 0 0) c);(have ad:=Aa 0 aa);(have ae:=Aa 1 aa);(refine bodyPost_ret (v:=.agg #[.slice none 0 0,.slice none 0 0]) (by simp[results,Tryz.results26,go_sem,ad,ae]) rfl ?_)
  exact CR f (by omega)
 |true=>
 have HE:Hid (Cs l m e=He (stP m e) (ltP l m e)):=if_pos ⟨hf,hv⟩
 have d:Hid (PlV m e):=by
  obtain⟨cl,b3,b2,b4⟩:=BT.1 hf;obtain⟨-,b1,ao,ap⟩:=FM.1 hv;exact⟨b3,b1,ao.trans b2.symm,ap.trans b4.symm⟩
 have HF:=Ab hf
 have cc:Hid (∀i,stQ m e i<=300000):=fun i=>by obtain⟨h1,h2⟩:=d.out.lt i;show(prP m e i).1*3000+(prP m e i).2<=_;omega
 have bf:Hid (∀i,stP m e i<m.out.length*e.inn.length):=fun i=>Q5 d.out i
 have ck:m.out.length*e.inn.length<=100*100:=Nat.mul_le_mul a9 a7
 have ay:Hid (∀mm nn,Dw (stQ m e) mm nn->Cs l m e=EC (A7 (ltP l m e) mm nn)):=fun mm nn h=>by
  rw[HE.out,EY (h.congr (Oc d.out))]
 clear hf hv au az HE;generalize hN:m.out.length*e.inn.length=N at*;clear hN;have k2:=Aa 2 n;have u2:=Aa 2 p
 have bc:m.start=(((prP m e 0).1:Nat):Int):=by have:=d.out.mv.s0;show _=((m.start.toNat:Nat):Int);omega
 have bd:e.start=(((prP m e 0).2:Nat):Int):=by have:=d.out.ev.s0;show _=((e.start.toNat:Nat):Int);omega
 have a0:Hid (∀W,Below w5.heap.size w5 W->W.heap[w.heap.size]? =some (.cells #[.int .i64 m.ins,.int .i64 m.outs,.int .i64 m.start,.slice a3 m.out.length c3,.slice a4 m.next.length c4] 25 (0,0))):=fun W h=>(h.block _ (by omega)).trans n
 have a1:Hid (∀W,Below w5.heap.size w5 W->W.heap[w.heap.size+1]? =some (.cells #[.int .i64 e.ins,.int .i64 e.outs,.int .i64 e.start,.slice d0 e.inn.length f0,.slice d1 e.next.length f1] 28 (0,0))):=fun W h=>(h.block _ (by omega)).trans p
 have bv:Hid (∀W,Below w5.heap.size w5 W->W.heap[w.heap.size+1+1]? =some (.cells #[.slice none 0 0,.slice none 0 0] 30 (0,0))):=fun W h=>(h.block _ (by omega)).trans c
 have ac:Hid (∀W,Below w5.heap.size w5 W->Below w.heap.size w W):=fun W h=>f.trans (h.mono f.size)
 have br:=Ab bc;have bs:=Ab bd;clear bc bd n p c f bx bz
 go_wp2_with fail
 go_loopg [7,8,9,10] N (fun gh sv lv qv rv wr=>∃k:Nat,gh=N-k/\qv=.int .i64 (((prP m e k).1:Nat):Int)/\rv=.int .i64 (((prP m e k).2:Nat):Int)/\Hid (SK w5 (stQ m e) (ltP l m e) sv lv k k wr/\k<=N/\∀i j,i<j->j<k->stQ m e i≠stQ m e j))
 case atStart=>exact⟨0,rfl,by rw[br.out],by rw[bs.out],SK.zero _ _ _,Nat.zero_le _,fun i j h1 h2=>absurd h2 (by omega)⟩
 case round=>
  clear k2 u2;obtain⟨k,a8,rfl,rfl,HK⟩:=hrel;have bh:=Ab a8;have z:=Ab HK.out.1;have cm:=HK.out.2.1;have HD:=Ab HK.out.2.2;clear a8 HK;obtain⟨aS,cS,aL,cL,rfl,rfl⟩:=z.out.slices;obtain⟨hq,hr⟩:=d.out.lt k;have ch:=cc.out k
  have be:((stQ m e k:Nat):Int)=(((prP m e k).1:Nat):Int)*3000+(((prP m e k).2:Nat):Int):=by unfold stQ;rw[Int.natCast_add,Int.natCast_mul];rfl
  have cd:IntKind.i64.wrap ((((prP m e k).1:Nat):Int)*3000)=(((prP m e k).1:Nat):Int)*3000:=IntWalk.i64_in _ ⟨by omega,by omega⟩
  have ce:IntKind.i64.wrap ((((prP m e k).1:Nat):Int)*3000+(((prP m e k).2:Nat):Int))=((stQ m e k:Nat):Int):=by rw[<-be];exact IntWalk.i64_in _ ⟨by omega,by omega⟩
  have bu:Hid ((C6 (stQ m e) k).length<=10000000):=by show _<=_;unfold C6;rw[AO];omega
  have cn:k<=100000:=by omega
  clear be
  go_wp2_with fail
  refine(II wr w5.heap.size _ (C6 (stQ m e) k) ((stQ m e k:Nat):Int) z.out.s z.out.bl.size bu.out).mono ?_;rintro ee w7 ⟨v',rfl,ho,hg,ag⟩;clear cd ce
  rcases Kc HD.out with⟨mb,ak,af,ca,ab⟩|⟨an,af,ab⟩
  ·rw[ab]at ho;rw[af];have q:=Ab (z.out.seen ho hg ag);clear ab af ho hg ag z
   have i1:(mb:Int)<(k:Int):=by omega
   have c:=bv.out _ q.out.bl;have f:=ac.out _ q.out.bl
   have av:Hid (Calls Tryz.prog 59 #[.slice aL k cL,.int .i64 (mb:Int)] w7 (Dz (Cs l m e) w7)):=by
    have h:=Nr w7 _ _ mb (q.out.ints (fun j=>QI d.out HF.out j) (by omega)) (by rw[AO];exact ca) (by rw[AO];omega);rw[Ie (by omega),<-ay.out mb k ak]at h;exact h
   clear ak
   go_wp2_with fail
   refine av.out.mono ?_;rintro ee w9 ⟨v,rfl,⟨x0,x1,rfl,i0,i2⟩,hb⟩;replace c:=B8 hb c;replace f:=f.trans (hb.mono f.size);clear hb av;obtain⟨y0,z0,rfl⟩:=i0.shape;obtain⟨y1,z1,rfl⟩:=i2.shape;obtain⟨g0,g1,g2,g3⟩:=ME c;have H0:=Ab i0;have H1:=Ab i2;clear i0 i2;go_wp2
   (have aa:=Bq (a:=.slice y0 (Cs l m e).stem.length z0) (b:=.slice y1 (Cs l m e).loop.length z1) c);(have ad:=Aa 0 aa);(have ae:=Aa 1 aa);(refine bodyPost_ret (v:=.agg #[.slice y0 (Cs l m e).stem.length z0,.slice y1 (Cs l m e).loop.length z1]) (by simp[results,Tryz.results26,go_sem,ad,ae]) rfl ?_)
   exact If c H0.out H1.out f (by omega)
  ·rw[ab]at ho;rw[af];have q:=Ab (z.out.seen ho hg ag);have bg:=Ab an;have b9:k+1<=N:=KC (fun i _=>bf.out i) (fun i j h1 h2 h3=>an i j h1 h2 ((Oc d.out i j).2 h3));clear ab af ho hg ag z an
   have i1:¬(k:Int)<(k:Int):=by omega
   have hb:=d.out.ev.in' hr;have ao:=d.out.i;have ap:=d.out.o;obtain⟨x,hx⟩:∃x:Nat,e.inn.getD (prP m e k).2 0=(x:Int):=⟨(e.inn.getD (prP m e k).2 0).toNat,by omega⟩;obtain⟨o1,o2,o3⟩:=d.out.mv.out' hq (x:=x) (by omega);obtain⟨n1,n2,n3⟩:=d.out.mv.nx' hq (x:=x) (by omega);obtain⟨y,hy⟩:∃y:Nat,Bt m (prP m e k).1 x=(y:Int):=⟨(Bt m (prP m e k).1 x).toNat,by omega⟩;obtain⟨t,ht⟩:∃t:Nat,nxI m (prP m e k).1 x=(t:Int):=⟨(nxI m (prP m e k).1 x).toNat,by omega⟩;obtain⟨l1,l2,l3⟩:=d.out.ev.nx' hr (y:=y) (by omega);obtain⟨s,hs⟩:∃s:Nat,enI e (prP m e k).2 y=(s:Int):=⟨(enI e (prP m e k).2 y).toNat,by omega⟩
   have ba:(prP m e (k+1)).1=t:=by show(nxI m _ (e.inn.getD (prP m e k).2 0).toNat).toNat=t;rw[hx,Int.toNat_natCast,ht,Int.toNat_natCast]
   have bb:(prP m e (k+1)).2=s:=by show(enI e _ (Bt m _ (e.inn.getD (prP m e k).2 0).toNat).toNat).toNat=s;rw[hx,Int.toNat_natCast,hy,Int.toNat_natCast,hs,Int.toNat_natCast]
   have hlt:ltP l m e k=AI l (x:Int) (y:Int):=by unfold ltP;rw[hx,Int.toNat_natCast,hy]
   have i5:=bi.out _ (ac.out _ Ad);have i6:=bj.out _ (ac.out _ Ad);have i7:=bk.out _ (ac.out _ Ad);have i8:=bm.out _ (ac.out _ Ad);obtain⟨b5,s5,e5,-,f5⟩:=i5.dat2;obtain⟨b6,s6,e6,-,f6⟩:=i6.dat2;obtain⟨b7,s7,e7,-,f7⟩:=i7.data;obtain⟨b8,s8,e8,-,f8⟩:=i8.dat2;have cb:=d.out.mv.nl;have b0:=d.out.ev.nl;obtain rfl:=e5 (by omega);obtain rfl:=e6 (by omega);obtain rfl:=e7 (by omega);obtain rfl:=e8 (by omega);obtain⟨r5,z5,k5,q5⟩:=f5 (prP m e k).1 hq;obtain⟨u5,c0,y5,-,g5⟩:=q5.data;obtain rfl:=y5 (by omega);replace g5:=g5 x o1;rw[show(m.out.getD (prP m e k).1 []).getD x 0=(y:Int)from hy]at g5;obtain⟨r6,z6,k6,q6⟩:=f6 (prP m e k).1 (by omega);obtain⟨u6,c1,y6,-,g6⟩:=q6.data;obtain rfl:=y6 (by omega);replace g6:=g6 x n1;rw[show(m.next.getD (prP m e k).1 []).getD x 0=(t:Int)from ht]at g6;have g7:=f7 _ hr;rw[hx]at g7;obtain⟨r8,z8,k8,q8⟩:=f8 (prP m e k).2 (by omega);obtain⟨cx,c2,y8,-,g8⟩:=q8.data;obtain rfl:=y8 (by omega);replace g8:=g8 y l1;rw[show(e.next.getD (prP m e k).2 []).getD y 0=(s:Int)from hs]at g8;have K5:=Ab k5;have K6:=Ab k6;have K8:=Ab k8;have G5:=Ab g5;have G6:=Ab g6;have G7:=Ab g7;have G8:=Ab g8
   have ci:x<64:=by have:=d.out.mv.i2;omega
   have cj:y<64:=by have:=d.out.mv.o2;omega
   have ax:Hid (∀W,Below w.heap.size w W->Calls Tryz.prog 61 #[vl,.int .i64 (x:Int),.int .i64 (y:Int)] W (Av (.int .i64 (ltP l m e k)) W)):=fun W h=>by
    rw[hlt];exact aw.out W _ _ (by unfold I64;omega) (by unfold I64;omega) h
   have bo:Hid (AV (ltP l m e) k++[ltP l m e k]=AV (ltP l m e) (k+1)):=(DK _ _).symm
   have bn:Hid ((AV (ltP l m e) k).length<17592186043904):=by show _<_;rw[AO];omega
   have bp:=Ab ba;have bq:=Ab bb;clear i5 i6 i7 i8 f5 f6 f7 f8 q5 q6 q8 k5 k6 k8 g5 g6 g7 g8 y5 y6 y8 e5 e6 e7 e8 hy ht hx hs hb o2 o3 n2 n3 l2 l3 ba bb hlt aw ao ap;generalize(m.out.getD (prP m e k).1 []).length=l5 at*;generalize(m.next.getD (prP m e k).1 []).length=l6 at*;generalize(e.next.getD (prP m e k).2 []).length=l8 at*;rw[cb]at*;rw[b0]at*;have k3:=Aa 3 (a0.out _ q.out.bl);have j3:=Aa 3 (a1.out _ q.out.bl);have k5:=Ag q.out.bl K5.out;have g5:=Ag q.out.bl G5.out;have g7:=Ag q.out.bl G7.out
   have cs:(0:Int)<=(x:Int):=by omega
   have ct:(x:Int)<(l5:Int):=by omega
   have cu:(x:Int)<(l6:Int):=by omega
   have cv:(0:Int)<=(y:Int):=by omega
   have cw:(y:Int)<(l8:Int):=by omega
   have co:(0:Int)<=(((prP m e k).1:Nat):Int):=by omega
   have cp:(((prP m e k).1:Nat):Int)<(m.out.length:Int):=by omega
   have cq:(0:Int)<=(((prP m e k).2:Nat):Int):=by omega
   have cr:(((prP m e k).2:Nat):Int)<(e.inn.length:Int):=by omega
   go_wp2_with fail
   refine(ax.out _ (ac.out _ q.out.bl)).mono ?_;rintro ee w9 ⟨rfl,a6⟩;have am:=Ab (q.out.below a6);clear a6 q k3 k5 j3 g5 g7 ax i1
   go_wp2_with (at_builtin;refine C8 rfl _ _ (ltP l m e k) rfl w5.heap.size _ _ am.out.l rfl _ (by simp) rfl bn.out am.out.bl.size ?_;intro cy cz aj ah ai;have u:=Ab (am.out.lett (bo.out▸aj) ah ai);clear aj ah ai;have k4:=Aa 4 (a0.out _ u.out.bl);have k6:=Ag u.out.bl K6.out;have g6:=Ag u.out.bl G6.out;have j4:=Aa 4 (a1.out _ u.out.bl);have k8:=Ag u.out.bl K8.out;have g8:=Ag u.out.bl G8.out)
   go_roundg (N-(k+1))
   case measure=>have:=bh.out;omega
   case rel=>exact⟨k+1,rfl,by rw[bp.out],by rw[bq.out],u.out,b9,bg.out⟩
end Go.Proofs.YtncjeamdkjcebaaGreatDoor
namespace Go.Proofs.YtncjeamdkjcebaaGreatDoor
open Go.RowKit Go.Maps Go.WideMaps
def Gg(w:World)(b:Nat)(l:List Int):Prop:=∃D:DataW Unit,w.ownsMap Tryz.prog 3 (plainElem Tryz.prog 3) b l.length D/\IsMap D/\
 ((∀y,I64 y->Maps.has D (.int .i64 y)=decide (y∈l))/\∀y,I64 y->y∈l->D.atKey (.int .i64 y) (.lit (.int .i64 0))=.lit (.int .i64 (l.idxOf y)))/\Maps.size D=l.length
theorem Gg.num{w:World}{b:Nat}{l:List Int}(h:Gg w b l):DA w b l:=by
 obtain⟨D,h1,h2,h3,-⟩:=h;exact⟨D,h1,h2,h3⟩
theorem Gg.kept{w w':World}{b:Nat}{l:List Int}{row:Option Nat}(h:Gg w b l)(hg:w.grownBy w' row)(a:some b≠row):Gg w' b l:=by
 obtain⟨D,h1,h2⟩:=h;exact⟨D,h1.kept hg a,h2⟩
theorem Gg.made(w:World):Gg (w.alloc (.map #[] 0)) w.heap.size []:=
 ⟨_,World.ownsMap_made w Tryz.prog 3 _,isMap_empty,⟨fun y _=>by simp[Maps.has],fun y _ hy=>absurd hy (by simp)⟩,rfl⟩
theorem Gg.len{w:World}{b:Nat}{l:List Int}(h:Gg w b l)(ty:TypeId):(Builtin.len_ #[134] ty #[.map (some b)]).run Tryz.prog w=.ok (.int .i64 (l.length:Int)) w:=by
 obtain⟨D,h1,-,-,h4⟩:=h;rw[<-h4];exact h1.len Tryz.underlying134 ty
theorem Gg.upd{w:World}{b:Nat}{l:List Int}(h:Gg w b l){y:Int}(hy:I64 y)(hn:y∉l)(hl:l.length<=3000):
  ∃w',(Instr.mapUpdate 134 (.map (some b)) (.int .i64 y) (.int .i64 (l.length:Int))).run Tryz.prog w=.ok () w'/\Gg w' b (l++[y])/\w.grownBy w' (some b):=by
 obtain⟨D,h1,h2,h3,h4⟩:=h;obtain⟨w',d,r1,r2⟩:=h1.update Fx Tryz.underlying134 (by simp only[maxLen];omega) (KE hy) (plainElem_int Tryz.underlying3 (q:=.i64) (a:=(l.length:Int)) (EA (by unfold I64;omega)));refine⟨w',d, ?_,r2⟩;refine⟨_,by rw[List.length_append,List.length_singleton];exact r1,h2.put _ _,⟨fun z hz=> ?_,fun z hz hzl=> ?_⟩, ?_⟩
 ·by_cases e:z=y
  ·subst e;rw[has_put_same h2 (GW hz)];simp
  ·rw[has_put_other (fun k=>e (by injection k)),h3.1 z hz];simp[e]
 ·by_cases e:z=y
  ·subst e;rw[Lw hn,atKey_put_same h2 (GW hz)]
  ·have c:z∈l:=by
    rcases List.mem_append.1 hzl with h|h
    ·exact h
    ·exact absurd (List.mem_singleton.1 h) e
   rw[atKey_put_other (fun k=>e (by injection k)),h3.2 z hz c,Lx c]
 ·rw[Maps.size_put (h1.tidy Fx),h3.1 y hy,decide_eq_false hn,h4];simp
end Go.Proofs.YtncjeamdkjcebaaGreatDoor
namespace Go.Proofs.YtncjeamdkjcebaaGreatDoor
open Go.RowKit
theorem OI.cut{w:World}{B g n a:Nat}{l:List Int}(h:OI w B (.slice (some ⟨g,0,none⟩) n a) l){k:Nat}(hk:k<=l.length):OI w B (.slice (some ⟨g,0,none⟩) k a) (l.take k):=by
 have hl:(l.take k).length=k:=by rw[List.length_take];omega
 unfold OI at h⊢;rw[hl];refine⟨by simp;omega, ?_⟩
 rcases h.2 with⟨h',_⟩|⟨g',b,c,hv,hb,hg,f,d,e,ht⟩
 ·cases h'
 ·refine .inr ⟨g',b,c, ?_,hb,hg,by omega,d,e, ?_⟩
  ·injection hv with h1 h2 h3
   rw[h1,h3]
  ·rw[Nat.mul_one]at ht⊢;rw[List.map_take,<-ht,List.take_take,Nat.min_eq_left hk]
def AY(l:List Nat):List Int:=l.map Int.ofNat
theorem AT(l:List Nat):(AY l).length=l.length:=by simp[AY]
theorem Hm(a b:List Nat):AY (a++b)=AY a++AY b:=by simp[AY]
theorem JI(x:Nat):AY [x]=[(x:Int)]:=rfl
theorem Hn{l:List Nat}{x:Nat}:(x:Int)∈AY l↔x∈l:=by
 unfold AY;rw[List.mem_map];refine⟨fun⟨y,h1,h2⟩=> ?_,fun h=>⟨x,h,rfl⟩⟩;have e:y=x:=Int.ofNat.inj h2;exact e▸h1
theorem Ov(l:List Nat)(x:Nat):(AY l).idxOf (x:Int)=l.idxOf x:=by
 induction l with
 |nil=>rfl
 |cons y l ih=>
  show List.idxOf (x:Int) ((y:Int)::AY l)=_;rw[List.idxOf_cons,List.idxOf_cons,ih]
  by_cases e:y=x
  ·subst e;simp
  ·have h1:((y:Int)==(x:Int))=false:=by rw[beq_eq_false_iff_ne];omega
   have h2:(y==x)=false:=by simpa using e
   rw[h1,h2]
theorem FK{l:List Nat}{n:Nat}(h:∀v∈l,v<n)(hn:n<=100000):∀x∈AY l,I64 x:=fun x hx=>by
 obtain⟨v,hv,rfl⟩:=List.mem_map.1 hx;have:=h v hv;show I64 (v:Int);unfold I64;omega
theorem IS(l:List Nat)(k:Nat):AY (l.drop k)=(AY l).drop k:=by simp[AY]
theorem MH(l:List Nat)(k:Nat):AY (l.take k)=(AY l).take k:=by simp[AY]
theorem D7{l:List Nat}{k:Nat}(hk:k<l.length):(AY l).getD k 0=((l.getD k 0:Nat):Int):=by simp[AY,List.getD,hk]
structure Va where
 zo:Nat
 mb:Nat
 zs:Nat
 zr:Nat
 zv:Nat
 za:Nat
 gb:Nat
 nb:Nat
 ob:Nat
 n:Nat
 V:Nat->Value
def EE(D:Va)(vs va:Value)(B k:Nat):Prop:=k=D.mb\/k=D.zs\/k=D.za\/k=D.ob\/vs.ownBlock=some k\/va.ownBlock=some k\/B<=k
def Va.fn(D:Va):Value:=.func (.func 131) #[] #[.pointer (some ⟨D.zo,0,none⟩),.pointer (some ⟨D.zs,0,none⟩),.pointer (some ⟨D.zr,0,none⟩),.pointer (some ⟨D.zv,0,none⟩),.pointer (some ⟨D.za,0,none⟩)]
structure T0(D:Va)(W:World)(vp:Value)(prio:List Int)(nx:List (List Int))(cs:List (List Nat))(vals:List Value):Prop where
 o:W.heap[D.zo]? =some (.cells #[.map (some D.mb)] 134 (0,0))
 r:W.heap[D.zr]? =some (.cells #[.pointer (some ⟨D.gb,0,none⟩)] 127 (0,0))
 v:W.heap[D.zv]? =some (.cells #[D.fn] 170 (0,0))
 g:GrC W D.gb D.nb D.ob D.n D.V vp prio nx
 c:∀j,j<cs.length->Ah W (vals.getD j undef) (AY (cs.getD j []))
structure VS(D:Va)(B:Nat)(W:World)(vp:Value)(prio:List Int)(nx:List (List Int))(ord stk:List Nat)(opn:List Bool)(cs:List (List Nat))(vs va:Value)(vals:List Value):Prop where
 con:∀W',Af (EE D vs va W.heap.size) W W'->T0 D W' vp prio nx cs vals
 num:Gg W D.mb (AY ord)
 bs:W.heap[D.zs]? =some (.cells #[vs] 26 (0,0))
 os:OI W B vs (AY stk)
 ba:W.heap[D.za]? =some (.cells #[va] 23 (0,0))
 oa:W.ownsRow B 26 1 va cs.length vals
 oo:OB W 0 (.slice (some ⟨D.ob,0,none⟩) D.n D.n) opn
 ap:AR vs va
 lt:D.mb<B/\D.zs<B/\D.za<B/\D.ob<B
 ne:D.mb≠D.zs/\D.mb≠D.za/\D.mb≠D.ob/\D.zs≠D.za/\D.zs≠D.ob/\D.za≠D.ob
 hB:B<=W.heap.size
section
variable {D:Va} {B:Nat} {W W1:World} {vp:Value} {prio:List Int} {nx:List (List Int)} {ord stk:List Nat} {opn:List Bool} {cs:List (List Nat)} {vs va vs' va':Value} {vals:List Value}
theorem VS.now(h:VS D B W vp prio nx ord stk opn cs vs va vals):T0 D W vp prio nx cs vals:=h.con W (Af.refl _ _)
theorem VS.hot(ho:Af (EE D vs va W.heap.size) W W1)(h1:∀k,vs'.ownBlock=some k->vs.ownBlock=some k\/W.heap.size<=k)(h2:∀k,va'.ownBlock=some k->va.ownBlock=some k\/W.heap.size<=k){W':World}
  (hW:Af (EE D vs' va' W1.heap.size) W1 W'):Af (EE D vs va W.heap.size) W W':=by
 refine ho.trans (hW.mono fun k _ hk=> ?_)
 rcases hk with h|h|h|h|h|h|h
 ·exact .inl h
 ·exact .inr (.inl h)
 ·exact .inr (.inr (.inl h))
 ·exact .inr (.inr (.inr (.inl h)))
 ·rcases h1 k h with e|e
  ·exact .inr (.inr (.inr (.inr (.inl e))))
  ·exact .inr (.inr (.inr (.inr (.inr (.inr e)))))
 ·rcases h2 k h with e|e
  ·exact .inr (.inr (.inr (.inr (.inr (.inl e)))))
  ·exact .inr (.inr (.inr (.inr (.inr (.inr e)))))
 ·exact .inr (.inr (.inr (.inr (.inr (.inr (Nat.le_trans ho.size h))))))
theorem VS.sge(h:VS D B W vp prio nx ord stk opn cs vs va vals):∀k,vs.ownBlock=some k->B<=k/\k<W.heap.size:=fun k hk=>⟨h.os.ge k hk,h.os.lt' k hk⟩
theorem VS.age(h:VS D B W vp prio nx ord stk opn cs vs va vals):∀k,va.ownBlock=some k->B<=k/\k<W.heap.size:=fun k hk=>World.ownsRow.lt h.oa k hk
theorem VS.below(h:VS D B W vp prio nx ord stk opn cs vs va vals)(hb:Below W.heap.size W W1):VS D B W1 vp prio nx ord stk opn cs vs va vals:=
 {h with
  con:=fun W' hW=>h.con W' (VS.hot (Af.of_below hb) (fun _=>.inl) (fun _=>.inl) hW)
  num:=h.num.kept (AW hb) (by simp)
  bs:=(hb.block _ (Array.getElem?_eq_some_iff.1 h.bs).1).trans h.bs
  os:=h.os.below hb
  ba:=(hb.block _ (Array.getElem?_eq_some_iff.1 h.ba).1).trans h.ba
  oa:=Ax h.oa (S:=fun _=>False) (Af.of_below hb) (fun _ _=>id)
  oo:=h.oo.below hb
  hB:=Nat.le_trans h.hB hb.size}
theorem VS.number(h:VS D B W vp prio nx ord stk opn cs vs va vals){v:Nat}(hn:Gg W1 D.mb (AY (ord++[v])))(hg:W.grownBy W1 (some D.mb)):
  VS D B W1 vp prio nx (ord++[v]) stk opn cs vs va vals/\Af (EE D vs va W.heap.size) W W1:=by
 have a:Af (fun k=>k=D.mb) W W1:=(Af.of_grown hg).mono fun k _ e=>(Option.some.inj e).symm
 have ho:Af (EE D vs va W.heap.size) W W1:=a.mono fun k _ e=>.inl e
 have hlt:=h.lt;have b:=h.ne
 refine⟨{h with
  con:=fun W' hW=>h.con W' (VS.hot ho (fun _=>.inl) (fun _=>.inl) hW)
  num:=hn
  bs:=(a.block _ (Array.getElem?_eq_some_iff.1 h.bs).1 (by omega)).trans h.bs
  os:=h.os.only a fun k hk e=>by have:=(h.sge k hk).1;omega
  ba:=(a.block _ (Array.getElem?_eq_some_iff.1 h.ba).1 (by omega)).trans h.ba
  oa:=Ax h.oa a fun k hk e=>by have:=(h.age k hk).1;omega
  oo:=h.oo.only a fun k hk e=>by
   have:D.ob=k:=by simpa[Value.ownBlock]using hk
   omega
  hB:=Nat.le_trans h.hB hg.size},ho⟩
theorem VS.push(h:VS D B W vp prio nx ord stk opn cs vs va vals){v:Nat}(h1:OI W1 B vs' (AY stk++[(v:Int)]))(hg:W.grownBy W1 vs.ownBlock)(hm:AS W vs vs'):
  VS D B (W1.setCell ⟨D.zs,0,none⟩ vs') vp prio nx ord (stk++[v]) opn cs vs' va vals/\Af (EE D vs va W.heap.size) W (W1.setCell ⟨D.zs,0,none⟩ vs')/\W1.heap[D.zs]? =some (.cells #[vs] 26 (0,0)):=by
 have a:Af (fun k=>vs.ownBlock=some k) W W1:=Af.of_grown hg;have b:Af (fun k=>k=D.zs) W1 (W1.setCell ⟨D.zs,0,none⟩ vs'):=Af.set _ _ _ rfl;have hlt:=h.lt;have d:=h.ne;have hs:=h.sge;have ha:=h.age;have ho:Af (EE D vs va W.heap.size) W (W1.setCell ⟨D.zs,0,none⟩ vs'):=(a.mono fun k _ e=>.inr (.inr (.inr (.inr (.inl e))))).trans (b.mono fun k _ e=>.inr (.inl e));have c:W1.heap[D.zs]? =some (.cells #[vs] 26 (0,0)):=(a.block _ (Array.getElem?_eq_some_iff.1 h.bs).1 fun e=>by have:=hs _ e;omega).trans h.bs
 refine⟨{h with
  con:=fun W' hW=>h.con W' (VS.hot ho hm (fun _=>.inl) hW)
  num:=(h.num.kept hg fun e=>by have:=hs _ e.symm;omega).kept (CK _ _ _ _) (by simp;omega)
  bs:=Iy c
  os:=by
   rw[Hm,JI]
   exact h1.only b fun k hk e=>by have:=h1.ge k hk;omega
  ba:=(b.block _ (by have:=(Array.getElem?_eq_some_iff.1 h.ba).1;have:=hg.size;omega) (by omega)).trans ((a.block _ (Array.getElem?_eq_some_iff.1 h.ba).1 fun e=>by have:=hs _ e;omega).trans h.ba)
  oa:=Ax (Ax h.oa a fun k hk e=>h.ap k e hk) b fun k hk e=>by have:=ha k hk;omega
  oo:=(h.oo.only a fun k hk e=>by
   have:D.ob=k:=by simpa[Value.ownBlock]using hk
   have:=hs k e;omega).only b fun k hk e=>by
   have:D.ob=k:=by simpa[Value.ownBlock]using hk
   omega
  ap:=(h.ap.symm.moved hm fun k hk=>(ha k hk).2).symm
  hB:=Nat.le_trans h.hB ho.size},ho,c⟩
theorem VS.shut(h:VS D B W vp prio nx ord stk opn cs vs va vals)(j:Nat)(b:Bool)(hl:opn.length=D.n):
  VS D B (W.setCell ⟨D.ob,j,none⟩ (.bool b)) vp prio nx ord stk (opn.set j b) cs vs va vals/\Af (EE D vs va W.heap.size) W (W.setCell ⟨D.ob,j,none⟩ (.bool b)):=by
 have a:Af (fun k=>k=D.ob) W (W.setCell ⟨D.ob,j,none⟩ (.bool b)):=Af.set _ _ _ rfl
 have ho:Af (EE D vs va W.heap.size) W (W.setCell ⟨D.ob,j,none⟩ (.bool b)):=a.mono fun k _ e=>.inr (.inr (.inr (.inl e)))
 have hlt:=h.lt;have c:=h.ne
 refine⟨{h with
  con:=fun W' hW=>h.con W' (VS.hot ho (fun _=>.inl) (fun _=>.inl) hW)
  num:=h.num.kept (CK _ _ _ _) (by simp;omega)
  bs:=(a.block _ (Array.getElem?_eq_some_iff.1 h.bs).1 (by omega)).trans h.bs
  os:=h.os.only a fun k hk e=>by have:=(h.sge k hk).1;omega
  ba:=(a.block _ (Array.getElem?_eq_some_iff.1 h.ba).1 (by omega)).trans h.ba
  oa:=Ax h.oa a fun k hk e=>by have:=(h.age k hk).1;omega
  oo:=h.oo.set hl.symm j b
  hB:=Nat.le_trans h.hB ho.size},ho⟩
theorem VS.comp(h:VS D B W vp prio nx ord stk opn cs vs va vals){u:Value}{c:List Nat}(h1:W1.ownsRow B 26 1 va' (cs.length+1) (vals++[u]))(hg:W.grownBy W1 va.ownBlock)(hm:AS W va va')
  (hu:∀W',Af (EE D vs va W.heap.size) W W'->Ah W' u (AY c)):
  VS D B (W1.setCell ⟨D.za,0,none⟩ va') vp prio nx ord stk opn (cs++[c]) vs va' (vals++[u])/\Af (EE D vs va W.heap.size) W (W1.setCell ⟨D.za,0,none⟩ va')/\W1.heap[D.za]? =some (.cells #[va] 23 (0,0)):=by
 have a:Af (fun k=>va.ownBlock=some k) W W1:=Af.of_grown hg;have b:Af (fun k=>k=D.za) W1 (W1.setCell ⟨D.za,0,none⟩ va'):=Af.set _ _ _ rfl;have hlt:=h.lt;have i:=h.ne;have hs:=h.sge;have ha:=h.age;have ho:Af (EE D vs va W.heap.size) W (W1.setCell ⟨D.za,0,none⟩ va'):=(a.mono fun k _ e=>.inr (.inr (.inr (.inr (.inr (.inl e)))))).trans (b.mono fun k _ e=>.inr (.inr (.inl e)));have f:W1.heap[D.za]? =some (.cells #[va] 23 (0,0)):=(a.block _ (Array.getElem?_eq_some_iff.1 h.ba).1 fun e=>by have:=ha _ e;omega).trans h.ba
 have hl:vals.length=cs.length:=by have:=h.oa.1;simpa using this
 refine⟨{h with
  con:=fun W' hW=>by
   have d:=VS.hot ho (fun _=>.inl) hm hW;have k:=h.con W' d;refine {k with c:=fun j hj=> ?_};rw[List.length_append,List.length_singleton]at hj
   by_cases e:j<cs.length
   ·have:=k.c j e;rw[show(vals++[u]).getD j undef=vals.getD j undef by simp[List.getD,List.getElem?_append_left (show j<vals.length by omega)],show(cs++[c]).getD j []=cs.getD j []by simp[List.getD,List.getElem?_append_left e]];exact this
   ·obtain rfl:j=cs.length:=by omega
    rw[show(vals++[u]).getD cs.length undef=u by simp[List.getD,<-hl],show(cs++[c]).getD cs.length []=c by simp[List.getD]];exact hu W' d
  num:=(h.num.kept hg fun e=>by have:=ha _ e.symm;omega).kept (CK _ _ _ _) (by simp;omega)
  bs:=(b.block _ (by have:=(Array.getElem?_eq_some_iff.1 h.bs).1;have:=hg.size;omega) (by omega)).trans ((a.block _ (Array.getElem?_eq_some_iff.1 h.bs).1 fun e=>by have:=ha _ e;omega).trans h.bs)
  os:=(h.os.only a fun k hk e=>h.ap k hk e).only b fun k hk e=>by have:=hs k hk;omega
  ba:=Iy f
  oa:=by
   rw[List.length_append,List.length_singleton]
   exact Ax h1 b fun k hk e=>by have:=World.ownsRow.lt h1 k hk;omega
  oo:=(h.oo.only a fun k hk e=>by
   have:D.ob=k:=by simpa[Value.ownBlock]using hk
   have:=ha k e;omega).only b fun k hk e=>by
   have:D.ob=k:=by simpa[Value.ownBlock]using hk
   omega
  ap:=h.ap.moved hm fun k hk=>(hs k hk).2
  hB:=Nat.le_trans h.hB ho.size},ho,f⟩
theorem VS.pop(h:VS D B W vp prio nx ord stk opn cs vs va vals){k:Nat}(h1:OI W B vs' (AY (stk.take k)))(hv:vs'.ownBlock=vs.ownBlock):
  VS D B (W.setCell ⟨D.zs,0,none⟩ vs') vp prio nx ord (stk.take k) opn cs vs' va vals/\Af (EE D vs va W.heap.size) W (W.setCell ⟨D.zs,0,none⟩ vs'):=by
 have a:Af (fun k=>k=D.zs) W (W.setCell ⟨D.zs,0,none⟩ vs'):=Af.set _ _ _ rfl;have hlt:=h.lt;have b:=h.ne;have hs:=h.sge;have ha:=h.age
 have ho:Af (EE D vs va W.heap.size) W (W.setCell ⟨D.zs,0,none⟩ vs'):=a.mono fun k _ e=>.inr (.inl e)
 refine⟨{h with
  con:=fun W' hW=>h.con W' (VS.hot ho (fun k hk=>.inl (hv▸hk)) (fun _=>.inl) hW)
  num:=h.num.kept (CK _ _ _ _) (by simp;omega)
  bs:=Iy h.bs
  os:=h1.only a fun k hk e=>by have:=h1.ge k hk;omega
  ba:=(a.block _ (Array.getElem?_eq_some_iff.1 h.ba).1 (by omega)).trans h.ba
  oa:=Ax h.oa a fun k hk e=>by have:=ha k hk;omega
  oo:=h.oo.only a fun k hk e=>by
   have:D.ob=k:=by simpa[Value.ownBlock]using hk
   omega
  ap:=fun k h1 h2=>h.ap k (hv▸h1) h2
  hB:=Nat.le_trans h.hB ho.size},ho⟩
end
end Go.Proofs.YtncjeamdkjcebaaGreatDoor
