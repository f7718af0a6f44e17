/- The word of a controller, the reference's: the walk. -/
import Derived.Test.YtncjeamdkjcebaaGreatDoorZMyX6
set_option linter.all false
set_option maxHeartbeats 4000000
set_option maxRecDepth 100000
namespace Go.Proofs.YtncjeamdkjcebaaGreatDoor
open Go.RowKit
def Sf(f:Nat->Nat)(k:Nat):List Int:=Bz (fun i=>(f i:Int)) k
theorem Dm.congr{f g:Nat->Nat}(h:∀i j,f i=f j↔g i=g j){m n:Nat}(hr:Dm f m n):Dm g m n:=⟨hr.1,(h _ _).1 hr.2.1,fun i j h1 h2 e=>hr.2.2 i j h1 h2 ((h _ _).2 e)⟩
structure SK(w5:World)(st:Nat->Nat)(lt:Nat->Int)(sv lv:Value)(ks kl:Nat)(wr:World):Prop where
 bl:Below w5.heap.size w5 wr
 s:OI wr w5.heap.size sv (Sf st ks)
 l:OI wr w5.heap.size lv (Bz lt kl)
 ap:AQ sv lv
theorem SK.zero(w5:World)(st:Nat->Nat)(lt:Nat->Int):SK w5 st lt (.slice none 0 0) (.slice none 0 0) 0 0 w5:=
 ⟨Ad,BC _ _,BC _ _,fun g h=>by cases h⟩
section
variable {w5 wr w':World} {st:Nat->Nat} {lt:Nat->Int} {sv lv v':Value} {ks kl:Nat}
theorem SK.below(h:SK w5 st lt sv lv ks kl wr)(hb:Below wr.heap.size wr w'):SK w5 st lt sv lv ks kl w':=
 ⟨h.bl.trans (hb.mono h.bl.size),h.s.below hb,h.l.below hb,h.ap⟩
theorem SK.slices(h:SK w5 st lt sv lv ks kl wr):∃a c b d,sv=.slice a ks c/\lv=.slice b kl d:=by
 obtain⟨a,c,h1⟩:=h.s.slice;obtain⟨b,d,h2⟩:=h.l.slice;have e1:(Sf st ks).length=ks:=Cp _ _;rw[e1]at h1;rw[Cp]at h2;exact⟨a,c,b,d,h1,h2⟩
end
def enI(e:Mo)(r y:Nat):Int:=(e.next.getD r []).getD y 0
def prP(m:My)(e:Mo):Nat->Nat×Nat
 |0=>(m.start.toNat,e.start.toNat)
 |k+1=>((nxI m (prP m e k).1 (e.inn.getD (prP m e k).2 0).toNat).toNat,(enI e (prP m e k).2 (Bg m (prP m e k).1 (e.inn.getD (prP m e k).2 0).toNat).toNat).toNat)
def stP(m:My)(e:Mo)(k:Nat):Nat:=(prP m e k).2*m.out.length+(prP m e k).1
def ltP(l:List Sig)(m:My)(e:Mo)(k:Nat):Int:=AO l (e.inn.getD (prP m e k).2 0) (Bg m (prP m e k).1 (e.inn.getD (prP m e k).2 0).toNat)
structure PlV(m:My)(e:Mo):Prop where
 mv:MyV m
 ev:MoV e
 i:e.ins=m.ins
 o:e.outs=m.outs
theorem MoV.in'{e:Mo}(h:MoV e){r:Nat}(hr:r<e.inn.length):0<=e.inn.getD r 0/\e.inn.getD r 0<e.ins:=h.inn r hr
theorem MoV.nx'{e:Mo}(h:MoV e){r y:Nat}(hr:r<e.inn.length)(hy:(y:Int)<e.outs):y<(e.next.getD r []).length/\0<=enI e r y/\enI e r y<e.inn.length:=by
 obtain⟨h1,h2⟩:=h.nxt r hr
 have:y<(e.next.getD r []).length:=by omega
 exact⟨this,h2 y this⟩
theorem PlV.lt{m:My}{e:Mo}(h:PlV m e):∀k,(prP m e k).1<m.out.length/\(prP m e k).2<e.inn.length
 |0=>by
  have h1:=h.mv.s0;have h2:=h.mv.s1;have h3:=h.ev.s0;have h4:=h.ev.s1;show m.start.toNat<_/\e.start.toNat<_;omega
 |k+1=>by
  obtain⟨h1,h2⟩:=h.lt k;have h3:=h.ev.in' h2;have h4:=h.mv.out' h1 (x:=(e.inn.getD (prP m e k).2 0).toNat) (by have:=h.i;omega);have h5:=h.mv.nx' h1 (x:=(e.inn.getD (prP m e k).2 0).toNat) (by have:=h.i;omega);have h6:=h.ev.nx' h2 (y:=(Bg m (prP m e k).1 (e.inn.getD (prP m e k).2 0).toNat).toNat) (by have:=h.o;omega);show(nxI m _ _).toNat<_/\(enI e _ _).toNat<_;omega
theorem QF{m:My}{e:Mo}(h:PlV m e)(k:Nat):stP m e k<m.out.length*e.inn.length:=by
 obtain⟨h1,h2⟩:=h.lt k;unfold stP
 calc(prP m e k).2*m.out.length+(prP m e k).1<(prP m e k).2*m.out.length+m.out.length:=by omega
  _=((prP m e k).2+1)*m.out.length:=by rw[Nat.add_mul,Nat.one_mul]
  _<=e.inn.length*m.out.length:=Nat.mul_le_mul_right _ h2
  _=m.out.length*e.inn.length:=Nat.mul_comm _ _
theorem Kt{m:My}{e:Mo}(h:PlV m e)(k:Nat):stP m e k/m.out.length=(prP m e k).2/\stP m e k%m.out.length=(prP m e k).1:=by
 obtain⟨h1,h2⟩:=h.lt k;unfold stP
 constructor
 ·rw[Nat.mul_comm,Nat.mul_add_div (by omega),Nat.div_eq_of_lt h1,Nat.add_zero]
 ·rw[Nat.mul_comm,Nat.mul_add_mod,Nat.mod_eq_of_lt h1]
theorem Qd{l:List Sig}{m:My}{e:Mo}(h:PlV m e)(hf:Bm l m=true)(k:Nat):0<=ltP l m e k/\ltP l m e k<64:=by
 obtain⟨h1,h2,h3,h4⟩:=AN.1 hf;obtain⟨q1,q2⟩:=h.lt k;have hb:=h.ev.in' q2;have hi:=h.i;have ho:=h2.out' q1 (x:=(e.inn.getD (prP m e k).2 0).toNat) (by omega);exact Li h1 ⟨hb.1,by omega⟩ ⟨ho.2.1,by omega⟩
structure O0(W:World)(p1 p2 p3 p4:Nat)(l:List Sig)(m:My)(e:Mo):Prop where
 c1:W.cell? ⟨p1,0,none⟩=some (.int .i64 (m.out.length:Int))
 c2:∃v3 v4,W.heap[p2]? =some (.cells #[.int .i64 e.ins,.int .i64 e.outs,.int .i64 e.start,v3,v4] 28 (0,0))/\Ai W v3 e.inn/\Ar W v4 e.next
 c3:∃v3 v4,W.heap[p3]? =some (.cells #[.int .i64 m.ins,.int .i64 m.outs,.int .i64 m.start,v3,v4] 25 (0,0))/\Ar W v3 m.out/\Ar W v4 m.next
 c4:∃v,W.cell? ⟨p4,0,none⟩=some v/\Ar W v (Aq l)
theorem O0.below{W W':World}{p1 p2 p3 p4:Nat}{l:List Sig}{m:My}{e:Mo}(h:O0 W p1 p2 p3 p4 l m e)(hb:Below W.heap.size W W'):O0 W' p1 p2 p3 p4 l m e:=by
 obtain⟨v3,v4,h2,i3,i4⟩:=h.c2;obtain⟨v5,v6,h3,i5,i6⟩:=h.c3;obtain⟨v7,h4,i7⟩:=h.c4;exact⟨Ah hb h.c1,⟨v3,v4,Ae hb h2,i3.below hb,i4.below hb⟩,⟨v5,v6,Ae hb h3,i5.below hb,i6.below hb⟩,⟨v7,Ah hb h4,i7.below hb⟩⟩
theorem Q4(W:World)(p1 p2 p3 p4:Nat)(l:List Sig)(m:My)(e:Mo)(k:Nat)(h:O0 W p1 p2 p3 p4 l m e)(hf:Bm l m=true)(hv:PlV m e):
  Calls Tryz.prog 62 #[.int .i64 (stP m e k:Int),.pointer (some ⟨p1,0,none⟩),.pointer (some ⟨p2,0,none⟩),.pointer (some ⟨p3,0,none⟩),.pointer (some ⟨p4,0,none⟩)] W
   (fun en W'=>en=.returned (.tuple #[.int .i64 (ltP l m e k),.int .i64 (stP m e (k+1):Int)])/\Below W.heap.size W W'):=by
 obtain⟨hvs,hm,hi,ho⟩:=AN.1 hf;obtain⟨hdiv,hmod⟩:=Kt hv k;obtain⟨hq,hr⟩:=hv.lt k;have hb:=hv.ev.in' hr;have hei:=hv.i;have heo:=hv.o;obtain⟨x,hx⟩:∃x:Nat,e.inn.getD (prP m e k).2 0=(x:Int):=⟨(e.inn.getD (prP m e k).2 0).toNat,by omega⟩;obtain⟨o1,o2,o3⟩:=hm.out' hq (x:=x) (by omega);obtain⟨n1,n2,n3⟩:=hm.nx' hq (x:=x) (by omega);obtain⟨y,hy⟩:∃y:Nat,Bg m (prP m e k).1 x=(y:Int):=⟨(Bg m (prP m e k).1 x).toNat,by omega⟩;obtain⟨t,ht⟩:∃t:Nat,nxI m (prP m e k).1 x=(t:Int):=⟨(nxI m (prP m e k).1 x).toNat,by omega⟩;obtain⟨l1,l2,l3⟩:=hv.ev.nx' hr (y:=y) (by omega);obtain⟨s,hs⟩:∃s:Nat,enI e (prP m e k).2 y=(s:Int):=⟨(enI e (prP m e k).2 y).toNat,by omega⟩;obtain⟨j1,j2,j3⟩:=Lj (l:=l) (x:=x) (o:=y) (by omega) (by omega)
 have hlt:ltP l m e k=AO l (x:Int) (y:Int):=by unfold ltP;rw[hx,Int.toNat_natCast,hy]
 have hst:stP m e (k+1)=s*m.out.length+t:=by
  unfold stP;show(enI e _ (Bg m _ (e.inn.getD (prP m e k).2 0).toNat).toNat).toNat*_+(nxI m _ (e.inn.getD (prP m e k).2 0).toNat).toNat=_;rw[hx,Int.toNat_natCast,hy,Int.toNat_natCast,hs,Int.toNat_natCast,ht,Int.toNat_natCast]
 rw[hst,hlt];obtain⟨v3,v4,h2,i3,i4⟩:=h.c2;obtain⟨v5,v6,h3,i5,i6⟩:=h.c3;obtain⟨v7,h4,i7⟩:=h.c4;have hn3:=hm.n;have hnl:=hm.nl;have hel:=hv.ev.nl;have hen:=hv.ev.n;have c1:=h.c1;obtain⟨a3,d3,rfl⟩:=i3.shape;obtain⟨b3,s3,e3,-,f3⟩:=i3.data;obtain⟨a4,d4,rfl⟩:=i4.shape;obtain⟨b4,s4,e4,-,f4⟩:=i4.dat2;obtain⟨a5,d5,rfl⟩:=i5.shape;obtain⟨b5,s5,e5,-,f5⟩:=i5.dat2;obtain⟨a6,d6,rfl⟩:=i6.shape;obtain⟨b6,s6,e6,-,f6⟩:=i6.dat2;obtain⟨a7,d7,rfl⟩:=i7.shape;obtain⟨b7,s7,e7,-,f7⟩:=i7.dat2;obtain rfl:=e3 (by omega);obtain rfl:=e4 (by omega);obtain rfl:=e5 (by omega);obtain rfl:=e6 (by omega);obtain rfl:=e7 (by omega);have g3:=f3 _ hr;rw[hx]at g3;obtain⟨r4,z4,k4,q4⟩:=f4 (prP m e k).2 (by omega);obtain⟨u4,w4,y4,-,g4⟩:=q4.data;obtain rfl:=y4 (by omega);replace g4:=g4 y l1;rw[show(e.next.getD (prP m e k).2 []).getD y 0=(s:Int)from hs]at g4;obtain⟨r5,z5,k5,q5⟩:=f5 (prP m e k).1 hq;obtain⟨u5,w5,y5,-,g5⟩:=q5.data;obtain rfl:=y5 (by omega);replace g5:=g5 x o1;rw[show(m.out.getD (prP m e k).1 []).getD x 0=(y:Int)from hy]at g5;obtain⟨r6,z6,k6,q6⟩:=f6 (prP m e k).1 (by omega);obtain⟨u6,w6,y6,-,g6⟩:=q6.data;obtain rfl:=y6 (by omega);replace g6:=g6 x n1;rw[show(m.next.getD (prP m e k).1 []).getD x 0=(t:Int)from ht]at g6;obtain⟨r7,z7,k7,q7⟩:=f7 x j1;obtain⟨u7,w7,y7,-,g7⟩:=q7.data;obtain rfl:=y7 (by omega);replace g7:=g7 y j2;rw[j3]at g7;have m3:=Aa 3 h3;have m4:=Aa 4 h3;have w3:=Aa 3 h2;have w4':=Aa 4 h2
 have hs2:s<e.inn.length:=by omega
 have ht2:t<m.out.length:=by omega
 have hx64:x<64:=by have:=hm.i2;omega
 have hy64:y<64:=by have:=hm.o2;omega
 clear f3 f4 f5 f6 f7 q4 q5 q6 q7 y4 y5 y6 y7 i3 i4 i5 i6 i7 e3 e4 e5 e6 e7 j3 hst hlt h h2 h3 hf hvs hx hy ht hs hi ho o2 o3 n2 n3 hb l2 l3 hei heo;generalize AO l (x:Int) (y:Int)=J at*;generalize(Aq l).length=li at*;generalize((Aq l).getD x []).length=l7 at*;generalize(m.out.getD (prP m e k).1 []).length=l5 at*;generalize(m.next.getD (prP m e k).1 []).length=l6 at*;generalize(e.next.getD (prP m e k).2 []).length=l4 at*;generalize(prP m e k).1=q at*;generalize(prP m e k).2=r at*;generalize stP m e k=A at*;rw[hnl]at*;rw[hel]at*;generalize m.out.length=n at*;generalize e.inn.length=ne at*
 have hn0:¬n=0:=by omega
 have hz1:((A:Int)/(n:Int))=(r:Int):=by rw[<-hdiv];rfl
 have hz2:((A:Int)%(n:Int))=(q:Int):=by rw[<-hmod];rfl
 have hz3:(A:Int).tdiv (n:Int)=(r:Int):=by rw[Int.tdiv_eq_ediv_of_nonneg (by omega)];exact hz1
 have hz4:(A:Int).tmod (n:Int)=(q:Int):=by rw[Int.tmod_eq_emod_of_nonneg (by omega)];exact hz2
 have hr0:(0:Int)<=(r:Int):=by omega
 have hr1:(r:Int)<(ne:Int):=by omega
 have hx0:(0:Int)<=(x:Int):=by omega
 have hx1:(x:Int)<(li:Int):=by omega
 have hx2:(x:Int)<(l5:Int):=by omega
 have hx3:(x:Int)<(l6:Int):=by omega
 have hy0:(0:Int)<=(y:Int):=by omega
 have hy1:(y:Int)<(l7:Int):=by omega
 have hy2:(y:Int)<(l4:Int):=by omega
 have hq0:(0:Int)<=(q:Int):=by omega
 have hq1:(q:Int)<(n:Int):=by omega
 have hE:((s*n+t:Nat):Int)=(s:Int)*(n:Int)+(t:Int):=by simp
 rw[hE];have hmb:s*n<=3000*3000:=Nat.mul_le_mul (by omega) hn3
 have hmi:(s:Int)*(n:Int)=((s*n:Nat):Int):=by simp
 have hw1:IntKind.i64.wrap ((s:Int)*(n:Int))=(s:Int)*(n:Int):=IntWalk.i64_in _ ⟨by rw[hmi];omega,by rw[hmi];omega⟩;have hw2:IntKind.i64.wrap ((s:Int)*(n:Int)+(t:Int))=(s:Int)*(n:Int)+(t:Int):=IntWalk.i64_in _ ⟨by rw[hmi];omega,by rw[hmi];omega⟩;clear hdiv hmod hnl hel hmi hE hmb
 go_enter Tryz.func62,Tryz.ntmps62
 go_upto_region 1 with(fail)
 go_quiet (fail)
 go_upto_region 4 with(fail)
 go_quiet (fail)
 go_wp2;go_ret2;exact⟨rfl,(Am _ _ _).trans (Am _ _ _)⟩
noncomputable def CR (l:List Sig) (m:My) (e:Mo):Ls:=if Bm l m=true/\E6 l e=true then GI (stP m e) (ltP l m e)else C9
theorem Db{l:List Sig}{m:Mo}:E6 l m=true↔At l=true/\MoV m/\m.ins=Ap l/\m.outs=Aj l:=by
 unfold E6;rw[Bool.and_eq_true,Bool.and_eq_true,Bool.and_eq_true,decide_eq_true_eq,decide_eq_true_eq,EM];exact⟨fun⟨⟨⟨h1,h2⟩,h3⟩,h4⟩=>⟨h1,h2,h3,h4⟩,fun⟨h1,h2,h3,h4⟩=>⟨⟨⟨h1,h2⟩,h3⟩,h4⟩⟩
theorem QG{m:My}{e:Mo}:stP m e 0=e.start.toNat*m.out.length+m.start.toNat:=rfl
theorem JS(w:World)(vl vm vi:Value)(l:List Sig)(m:My)(e:Mo)(hK:BN w)(hl:AH w vl l)(hm:BM w vm m)(hi:Dl w vi e):
  Calls Tryz.prog 25 #[vl,vm,vi] w (Fx (CR l m e) w):=by
 have HF0:Hid (∀W,Below w.heap.size w W->Calls Tryz.prog 47 #[vl,vm] W (Av (.bool (Bm l m)) W)):=fun W h=>J9 W _ _ l m (hK.below h) (hl.below h) (hm.below h)
 have HV0:Hid (∀W,Below w.heap.size w W->Calls Tryz.prog 20 #[vi] W (Av (.bool (Bq e)) W)):=fun W h=>KJ W _ e (hi.below h)
 have HJ0:Hid (At l=true->∀W,Below w.heap.size w W->Calls Tryz.prog 56 #[vl] W (Et (Aq l) W)):=fun hv W h=>MB W _ l (hK.below h) (hl.below h) hv
 obtain⟨v3,v4,rfl,⟨-,-,hI3⟩,i3,i4⟩:=hm;obtain⟨s3,s4,rfl,⟨-,-,hJ3⟩,j3,j4⟩:=hi
 have HI3:Hid (∀W,Below w.heap.size w W->Ar W v3 m.out):=fun W h=>i3.below h
 have HI4:Hid (∀W,Below w.heap.size w W->Ar W v4 m.next):=fun W h=>i4.below h
 have HJ1:Hid (∀W,Below w.heap.size w W->Ai W s3 e.inn):=fun W h=>j3.below h
 have HJ2:Hid (∀W,Below w.heap.size w W->Ar W s4 e.next):=fun W h=>j4.below h
 obtain⟨a3,c3,rfl⟩:=i3.shape;obtain⟨a4,c4,rfl⟩:=i4.shape;obtain⟨d0,f0,rfl⟩:=j3.shape;obtain⟨d1,f1,rfl⟩:=j4.shape;clear hK hl i3 i4 j3 j4
 go_enter Tryz.func25,Tryz.ntmps25
 go_upto_region 1 with(fail)
 obtain⟨hx5,-,hB5⟩:=Az (w0:=w) Ad leR #[.int .i64 m.ins,.int .i64 m.outs,.int .i64 m.start,(.slice a3 m.out.length c3),(.slice a4 m.next.length c4)] 25
 have hz5:(w.alloc (.cells #[.int .i64 m.ins,.int .i64 m.outs,.int .i64 m.start,(.slice a3 m.out.length c3),(.slice a4 m.next.length c4)] 25)).heap.size=w.heap.size+1:=by simp
 generalize w.alloc (.cells #[.int .i64 m.ins,.int .i64 m.outs,.int .i64 m.start,(.slice a3 m.out.length c3),(.slice a4 m.next.length c4)] 25)=w1 at*;obtain⟨hx6,-,hB6⟩:=Az (w0:=w) hB5 (by omega) #[.int .i64 e.ins,.int .i64 e.outs,.int .i64 e.start,.slice d0 e.inn.length f0,.slice d1 e.next.length f1] 28
 have hz6:(w1.alloc (.cells #[.int .i64 e.ins,.int .i64 e.outs,.int .i64 e.start,.slice d0 e.inn.length f0,.slice d1 e.next.length f1] 28)).heap.size=w.heap.size+1+1:=by simp[hz5]
 have hx5':=(Dt w1 (.cells #[.int .i64 e.ins,.int .i64 e.outs,.int .i64 e.start,.slice d0 e.inn.length f0,.slice d1 e.next.length f1] 28) (r:=w.heap.size) (by omega)).trans hx5;generalize w1.alloc (.cells #[.int .i64 e.ins,.int .i64 e.outs,.int .i64 e.start,.slice d0 e.inn.length f0,.slice d1 e.next.length f1] 28)=w2 at*;obtain⟨hx7,-,hB7⟩:=Az (w0:=w) hB6 (by omega) #[.slice none 0 0,.slice none 0 0] 30
 have hz7:(w2.alloc (.cells #[.slice none 0 0,.slice none 0 0] 30)).heap.size=w.heap.size+1+1+1:=by simp[hz6]
 have hx5:=(Dt w2 (.cells #[.slice none 0 0,.slice none 0 0] 30) (r:=w.heap.size) (by omega)).trans hx5';have hx6:=(Dt w2 (.cells #[.slice none 0 0,.slice none 0 0] 30) (r:=w1.heap.size) (by omega)).trans hx6;generalize w2.alloc (.cells #[.slice none 0 0,.slice none 0 0] 30)=w3 at*;clear hx5' hB5 hB6;rw[hz5]at hx6;rw[hz6]at hx7;have k0:=Aa 0 hx5;have k1:=Aa 1 hx5;have k2:=Aa 2 hx5;have k3:=Aa 3 hx5;have k4:=Aa 4 hx5
 go_wp2_with fail
 refine(HF0.out _ hB7).mono ?_;rintro ee w4 ⟨rfl,hb⟩;replace hx5:=(hb.block _ (by omega)).trans hx5;replace hx6:=(hb.block _ (by omega)).trans hx6;replace hx7:=(hb.block _ (by omega)).trans hx7;replace hB7:=hB7.trans (hb.mono hB7.size)
 have hz4:w.heap.size+1+1+1<=w4.heap.size:=by have:=hb.size;omega
 clear hb hz7 k0 k1 k2 k3 k4 hz5 hz6;have q0:=Aa 0 hx7;have q1:=Aa 1 hx7;have k0:=Aa 0 hx5;have u0:=Aa 0 hx6;have u1:=Aa 1 hx6;have u2:=Aa 2 hx6;have u3:=Aa 3 hx6;have u4:=Aa 4 hx6
 cases hf:Bm l m with
 |false=>
  have hE:CR l m e=C9:=if_neg (by rw[hf];simp);have HE:=Ab hE;have fz:=Ay 0 hx7;have fz1:=Ay 1 hx7;clear hE;go_wp2;rw[HE.out]
  (have hc3:=CG (a:=.slice none 0 0) (b:=.slice none 0 0) hx7);(have cc0:=Aa 0 hc3);(have cc1:=Aa 1 hc3);(refine bodyPost_ret (v:=.agg #[.slice none 0 0,.slice none 0 0]) (by simp[results,Tryz.results25,go_sem,cc0,cc1]) rfl ?_)
  exact DC hB7 (by omega)
 |true=>
 go_wp2_with fail
 refine(HV0.out _ hB7).mono ?_;rintro ee w5 ⟨rfl,hb⟩;replace hx5:=(hb.block _ (by omega)).trans hx5;replace hx6:=(hb.block _ (by omega)).trans hx6;replace hx7:=(hb.block _ (by omega)).trans hx7;replace hB7:=hB7.trans (hb.mono hB7.size)
 replace hz4:w.heap.size+1+1+1<=w5.heap.size:=by have:=hb.size;omega
 clear hb q0 q1 k0 u0 u1 u2 u3 u4;have q0:=Aa 0 hx7;have q1:=Aa 1 hx7;have fz:=Ay 0 hx7;have fz1:=Ay 1 hx7;have k0:=Aa 0 hx5;have k1:=Aa 1 hx5;have u0:=Aa 0 hx6;have u1:=Aa 1 hx6;obtain⟨hfv,hfm,hfi,hfo⟩:=AN.1 hf
 cases hv:Bq e with
 |false=>
  have HE:Hid (CR l m e=C9):=if_neg (by unfold E6;rw[hv];simp);clear k0 k1 u0 u1;go_wp2;rw[HE.out]
  (have hc3:=CG (a:=.slice none 0 0) (b:=.slice none 0 0) hx7);(have cc0:=Aa 0 hc3);(have cc1:=Aa 1 hc3);(refine bodyPost_ret (v:=.agg #[.slice none 0 0,.slice none 0 0]) (by simp[results,Tryz.results25,go_sem,cc0,cc1]) rfl ?_)
  exact DC hB7 (by omega)
 |true=>
 by_cases hei:e.ins=m.ins
 case neg=>
  have HE:Hid (CR l m e=C9):=if_neg (fun h=>hei ((Db.1 h.2).2.2.1.trans hfi.symm))
  have tA:(e.ins !=m.ins)=true:=by simp[hei]
  clear hfi hfo;go_wp2;rw[HE.out]
  (have hc3:=CG (a:=.slice none 0 0) (b:=.slice none 0 0) hx7);(have cc0:=Aa 0 hc3);(have cc1:=Aa 1 hc3);(refine bodyPost_ret (v:=.agg #[.slice none 0 0,.slice none 0 0]) (by simp[results,Tryz.results25,go_sem,cc0,cc1]) rfl ?_)
  exact DC hB7 (by omega)
 by_cases heo:e.outs=m.outs
 case neg=>
  have HE:Hid (CR l m e=C9):=if_neg (fun h=>heo ((Db.1 h.2).2.2.2.trans hfo.symm))
  have tA:(e.ins !=m.ins)=false:=by simp[hei]
  have tB:(e.outs !=m.outs)=true:=by simp[heo]
  clear hfi hfo;go_wp2;rw[HE.out]
  (have hc3:=CG (a:=.slice none 0 0) (b:=.slice none 0 0) hx7);(have cc0:=Aa 0 hc3);(have cc1:=Aa 1 hc3);(refine bodyPost_ret (v:=.agg #[.slice none 0 0,.slice none 0 0]) (by simp[results,Tryz.results25,go_sem,cc0,cc1]) rfl ?_)
  exact DC hB7 (by omega)
 have hfe:E6 l e=true:=Db.2 ⟨hfv,EM.1 hv,hei.trans hfi,heo.trans hfo⟩;have HE:Hid (CR l m e=GI (stP m e) (ltP l m e)):=if_pos ⟨hf,hfe⟩;have HJ:=Ab (HJ0.out hfv);have HPV:Hid (PlV m e):=⟨hfm,EM.1 hv,hei,heo⟩;have HF:=Ab hf
 have tA:(e.ins !=m.ins)=false:=by simp[hei]
 have tB:(e.outs !=m.outs)=false:=by simp[heo]
 clear hf hv HJ0 HF0 HV0 hfi hfo hfm hfv hfe hei heo
 go_wp2_with fail
 refine(HJ.out _ hB7).mono ?_;rintro ee w6 ⟨vj,rfl,ij,hb⟩;replace hx5:=(hb.block _ (by omega)).trans hx5;replace hx6:=(hb.block _ (by omega)).trans hx6;replace hx7:=(hb.block _ (by omega)).trans hx7;replace hB7:=hB7.trans (hb.mono hB7.size)
 replace hz4:w.heap.size+1+1+1<=w6.heap.size:=by have:=hb.size;omega
 have HIJ:Hid (∀W,Below w6.heap.size w6 W->Ar W vj (Aq l)):=fun W h=>ij.below h
 obtain⟨aj,cj,rfl⟩:=ij.shape;clear hb ij q0 q1 fz fz1 k0 k1 u0 u1 tA tB
 go_upto_region 4 with(fail)
 obtain⟨hx8,-,hB8⟩:=Az (w0:=w6) Ad leR #[.slice aj (Aq l).length cj] 23
 have hz8:(w6.alloc (.cells #[.slice aj (Aq l).length cj] 23)).heap.size=w6.heap.size+1:=by simp
 generalize w6.alloc (.cells #[.slice aj (Aq l).length cj] 23)=w8 at*;have HIJ8:=Ab (HIJ.out _ hB8);replace hx5:=(hB8.block _ (by omega)).trans hx5;replace hx6:=(hB8.block _ (by omega)).trans hx6;replace hx7:=(hB8.block _ (by omega)).trans hx7;replace hB7:=hB7.trans (hB8.mono hB7.size);have k3:=Aa 3 hx5
 have l5:w.heap.size<w8.heap.size:=by omega
 have l6:w.heap.size<w8.heap.size+1:=by omega
 go_upto_region 5 with(fail)
 obtain⟨hx9,-,hB9⟩:=Az (w0:=w8) Ad leR #[.int .i64 (m.out.length:Int)] 3;generalize w8.alloc (.cells #[.int .i64 (m.out.length:Int)] 3)=wc at*;have HIJC:=Ab (HIJ8.out.below hB9);replace hx5:=(hB9.block _ (by omega)).trans hx5;replace hx6:=(hB9.block _ (by omega)).trans hx6;replace hx7:=(hB9.block _ (by omega)).trans hx7;replace hx8:=(hB9.block _ (by omega)).trans hx8;replace hB7:=hB7.trans (hB9.mono hB7.size);have hsz:=hB9.size;rw[hz8]at hx9;have hE:O0 wc (w6.heap.size+1) (w.heap.size+1) w.heap.size w6.heap.size l m e:=⟨Aa 0 hx9,⟨_,_,hx6,HJ1.out _ hB7,HJ2.out _ hB7⟩,⟨_,_,hx5,HI3.out _ hB7,HI4.out _ hB7⟩,⟨_,Aa 0 hx8,HIJC.out⟩⟩
 have hst:∀i,stP m e i<m.out.length*e.inn.length:=fun i=>QF HPV.out i
 have hn3:=HPV.out.mv.n;have hr3:=HPV.out.ev.n;have hs0:=HPV.out.mv.s0;have hs1:=HPV.out.mv.s1;have ht0:=HPV.out.ev.s0;have ht1:=HPV.out.ev.s1;have hN:m.out.length*e.inn.length<=3000*3000:=Nat.mul_le_mul hn3 hr3;obtain⟨mm,nn,hrep,hnn⟩:=MT hst
 have hlt:=fun k=>Qd HPV.out HF.out k
 have hR:CR l m e=Bc (AW (ltP l m e) mm nn).stem (AW (ltP l m e) mm nn).loop:=by rw[HE.out,Hi hrep hlt]
 have hm0:e.start*(m.out.length:Int)+m.start=((stP m e 0:Nat):Int):=by rw[QG,Int.natCast_add,Int.natCast_mul,Int.toNat_of_nonneg ht0,Int.toNat_of_nonneg hs0]
 have hs2:stP m e 0<9000001:=by have:=hst 0;omega
 have HLC:Hid (Calls Tryz.prog 57 #[.int .i64 ((m.out.length*e.inn.length:Nat):Int),.int .i64 (e.start*(m.out.length:Int)+m.start),.func (.func 62) #[] #[.pointer (some ⟨w6.heap.size+1,0,none⟩),.pointer (some ⟨w.heap.size+1,0,none⟩),.pointer (some ⟨w.heap.size,0,none⟩),.pointer (some ⟨w6.heap.size,0,none⟩)]] wc (Fx (CR l m e) wc)):=by
  rw[hm0,hR];exact Nu wc 62 _ (enters_of Tryz.func62 (by kernel_rfl) rfl) (stP m e) (ltP l m e) _ mm nn (by omega) hst hrep hnn (fun W k hW _=>Q4 W _ _ _ _ l m e k (hE.below hW) HF.out HPV.out) (fun k=>⟨(hlt k).1,by have:=(hlt k).2;omega⟩)
 have hw:=IntWalk.i64_in (((m.out.length*e.inn.length:Nat):Int)) ⟨by omega,by omega⟩;rw[Int.natCast_mul]at hw;have hw2:=IntWalk.i64_in (e.start*(m.out.length:Int)+m.start) ⟨by rw[hm0];omega,by rw[hm0];omega⟩;have hw3:=IntWalk.i64_in (e.start*(m.out.length:Int)) ⟨by have:=Int.mul_nonneg ht0 (show(0:Int)<=(m.out.length:Int)by omega);omega,by omega⟩;rw[show((m.out.length*e.inn.length:Nat):Int)=(m.out.length:Int)*(e.inn.length:Int)by rw[Int.natCast_mul]]at HLC;have k2:=Aa 2 hx5;have u2:=Aa 2 hx6;have u3:=Aa 3 hx6;have k9:=Aa 0 hx9;clear hrep hst hlt hR hm0 hE hnn hN hs2 k3 l5 l6
 try rw[hz8]
 go_upto_region 5 with(fail)
 go_wp2_with fail
 refine HLC.out.mono ?_;rintro ee w12 ⟨v,rfl,⟨x0,x1,rfl,i0,i1⟩,hb⟩;replace hx7:=(hb.block _ (by omega)).trans hx7;replace hB7:=hB7.trans (hb.mono hB7.size);clear hb hx5 hx6 hx8 hx9 HLC k2 u2 u3 k9;obtain⟨y0,z0,rfl⟩:=i0.shape;obtain⟨y1,z1,rfl⟩:=i1.shape;obtain⟨g0,g1,g2,g3⟩:=SF hx7;have H0:=Ab i0;have H1:=Ab i1;clear i0 i1;go_wp2
 (have hc3:=CG (a:=.slice y0 (CR l m e).stem.length z0) (b:=.slice y1 (CR l m e).loop.length z1) hx7);(have cc0:=Aa 0 hc3);(have cc1:=Aa 1 hc3);(refine bodyPost_ret (v:=.agg #[.slice y0 (CR l m e).stem.length z0,.slice y1 (CR l m e).loop.length z1]) (by simp[results,Tryz.results25,go_sem,cc0,cc1]) rfl ?_)
 exact Nv hx7 H0.out H1.out hB7 (by omega)
end Go.Proofs.YtncjeamdkjcebaaGreatDoor
namespace Go.Proofs.YtncjeamdkjcebaaGreatDoor
open Go.RowKit Go.Maps Go.WideMaps
def FM(w:World)(b:Nat)(l:List Int):Prop:=∃D:DataW Unit,w.ownsMap Tryz.prog 3 (plainElem Tryz.prog 3) b l.length D/\IsMap D/\
 ((∀y,I64 y->Maps.has D (.int .i64 y)=decide (y∈l))/\∀y,I64 y->y∈l->D.atKey (.int .i64 y) (.lit (.int .i64 0))=.lit (.int .i64 (l.idxOf y)))/\Maps.size D=l.length
theorem FM.num{w:World}{b:Nat}{l:List Int}(h:FM w b l):Da w b l:=by
 obtain⟨D,h1,h2,h3,-⟩:=h;exact⟨D,h1,h2,h3⟩
theorem FM.kept{w w':World}{b:Nat}{l:List Int}{row:Option Nat}(h:FM w b l)(hg:w.grownBy w' row)(hne:some b≠row):FM w' b l:=by
 obtain⟨D,h1,h2⟩:=h;exact⟨D,h1.kept hg hne,h2⟩
theorem FM.made(w:World):FM (w.alloc (.map #[] 0)) w.heap.size []:=
 ⟨_,World.ownsMap_made w Tryz.prog 3 _,isMap_empty,⟨fun y _=>by simp[Maps.has],fun y _ hy=>absurd hy (by simp)⟩,rfl⟩
theorem FM.len{w:World}{b:Nat}{l:List Int}(h:FM w b l)(ty:TypeId):(Builtin.len_ #[134] ty #[.map (some b)]).run Tryz.prog w=.ok (.int .i64 (l.length:Int)) w:=by
 obtain⟨D,h1,-,-,h4⟩:=h;rw[<-h4];exact h1.len Tryz.underlying134 ty
theorem FM.upd{w:World}{b:Nat}{l:List Int}(h:FM w b l){y:Int}(hy:I64 y)(hn:y∉l)(hl:l.length<=3000):
  ∃w',(Instr.mapUpdate 134 (.map (some b)) (.int .i64 y) (.int .i64 (l.length:Int))).run Tryz.prog w=.ok () w'/\FM w' b (l++[y])/\w.grownBy w' (some b):=by
 obtain⟨D,h1,h2,h3,h4⟩:=h;obtain⟨w',hrun,r1,r2⟩:=h1.update E7 Tryz.underlying134 (by simp only[maxLen];omega) (Kb hy) (plainElem_int Tryz.underlying3 (q:=.i64) (a:=(l.length:Int)) (D5 (by unfold I64;omega)));refine⟨w',hrun, ?_,r2⟩;refine⟨_,by rw[List.length_append,List.length_singleton];exact r1,h2.put _ _,⟨fun z hz=> ?_,fun z hz hzl=> ?_⟩, ?_⟩
 ·by_cases e:z=y
  ·subst e;rw[has_put_same h2 (Gx hz)];simp
  ·rw[has_put_other (fun k=>e (by injection k)),h3.1 z hz];simp[e]
 ·by_cases e:z=y
  ·subst e;rw[Lb hn,atKey_put_same h2 (Gx hz)]
  ·have hzl':z∈l:=by
    rcases List.mem_append.1 hzl with h|h
    ·exact h
    ·exact absurd (List.mem_singleton.1 h) e
   rw[atKey_put_other (fun k=>e (by injection k)),h3.2 z hz hzl',Lc hzl']
 ·rw[Maps.size_put (h1.tidy E7),h3.1 y hy,decide_eq_false hn,h4];simp
end Go.Proofs.YtncjeamdkjcebaaGreatDoor
namespace Go.Proofs.YtncjeamdkjcebaaGreatDoor
open Go.RowKit
theorem OI.cut{w:World}{B g n cap:Nat}{l:List Int}(h:OI w B (.slice (some ⟨g,0,none⟩) n cap) l){k:Nat}(hk:k<=l.length):OI w B (.slice (some ⟨g,0,none⟩) k cap) (l.take k):=by
 have hl:(l.take k).length=k:=by rw[List.length_take];omega
 unfold OI at h⊢;rw[hl];refine⟨by simp;omega, ?_⟩
 rcases h.2 with⟨h',_⟩|⟨g',cap',cur,hv,hb,hg,hnc,hcm,hcs,ht⟩
 ·cases h'
 ·refine .inr ⟨g',cap',cur, ?_,hb,hg,by omega,hcm,hcs, ?_⟩
  ·injection hv with h1 h2 h3
   rw[h1,h3]
  ·rw[Nat.mul_one]at ht⊢;rw[List.map_take,<-ht,List.take_take,Nat.min_eq_left hk]
def AX(l:List Nat):List Int:=l.map Int.ofNat
theorem AR(l:List Nat):(AX l).length=l.length:=by simp[AX]
theorem GP(a b:List Nat):AX (a++b)=AX a++AX b:=by simp[AX]
theorem Jk(x:Nat):AX [x]=[(x:Int)]:=rfl
theorem GQ{l:List Nat}{x:Nat}:(x:Int)∈AX l↔x∈l:=by
 unfold AX;rw[List.mem_map];refine⟨fun⟨y,h1,h2⟩=> ?_,fun h=>⟨x,h,rfl⟩⟩;have e:y=x:=Int.ofNat.inj h2;exact e▸h1
theorem N6(l:List Nat)(x:Nat):(AX l).idxOf (x:Int)=l.idxOf x:=by
 induction l with
 |nil=>rfl
 |cons y l ih=>
  show List.idxOf (x:Int) ((y:Int)::AX l)=_;rw[List.idxOf_cons,List.idxOf_cons,ih]
  by_cases e:y=x
  ·subst e;simp
  ·have h1:((y:Int)==(x:Int))=false:=by rw[beq_eq_false_iff_ne];omega
   have h2:(y==x)=false:=by simpa using e
   rw[h1,h2]
theorem Fm{l:List Nat}{n:Nat}(h:∀v∈l,v<n)(hn:n<=100000):∀x∈AX l,I64 x:=fun x hx=>by
 obtain⟨v,hv,rfl⟩:=List.mem_map.1 hx;have:=h v hv;show I64 (v:Int);unfold I64;omega
theorem Ih(l:List Nat)(k:Nat):AX (l.drop k)=(AX l).drop k:=by simp[AX]
theorem Mq(l:List Nat)(k:Nat):AX (l.take k)=(AX l).take k:=by simp[AX]
theorem DD{l:List Nat}{k:Nat}(hk:k<l.length):(AX l).getD k 0=((l.getD k 0:Nat):Int):=by simp[AX,List.getD,hk]
structure Va where
 zo:Nat
 mb:Nat
 zs:Nat
 zr:Nat
 zv:Nat
 za:Nat
 gb:Nat
 nb:Nat
 ob:Nat
 n:Nat
 V:Nat->Value
def D8(D:Va)(vs va:Value)(B k:Nat):Prop:=k=D.mb\/k=D.zs\/k=D.za\/k=D.ob\/vs.ownBlock=some k\/va.ownBlock=some k\/B<=k
def Va.fn(D:Va):Value:=.func (.func 131) #[] #[.pointer (some ⟨D.zo,0,none⟩),.pointer (some ⟨D.zs,0,none⟩),.pointer (some ⟨D.zr,0,none⟩),.pointer (some ⟨D.zv,0,none⟩),.pointer (some ⟨D.za,0,none⟩)]
structure Tn(D:Va)(W:World)(vp:Value)(prio:List Int)(nx:List (List Int))(cs:List (List Nat))(vals:List Value):Prop where
 o:W.heap[D.zo]? =some (.cells #[.map (some D.mb)] 134 (0,0))
 r:W.heap[D.zr]? =some (.cells #[.pointer (some ⟨D.gb,0,none⟩)] 127 (0,0))
 v:W.heap[D.zv]? =some (.cells #[D.fn] 170 (0,0))
 g:GrC W D.gb D.nb D.ob D.n D.V vp prio nx
 c:∀j,j<cs.length->Ai W (vals.getD j undef) (AX (cs.getD j []))
structure VS(D:Va)(B:Nat)(W:World)(vp:Value)(prio:List Int)(nx:List (List Int))(ord stk:List Nat)(opn:List Bool)(cs:List (List Nat))(vs va:Value)(vals:List Value):Prop where
 con:∀W',Ag (D8 D vs va W.heap.size) W W'->Tn D W' vp prio nx cs vals
 num:FM W D.mb (AX ord)
 bs:W.heap[D.zs]? =some (.cells #[vs] 26 (0,0))
 os:OI W B vs (AX stk)
 ba:W.heap[D.za]? =some (.cells #[va] 23 (0,0))
 oa:W.ownsRow B 26 1 va cs.length vals
 oo:OB W 0 (.slice (some ⟨D.ob,0,none⟩) D.n D.n) opn
 ap:AQ vs va
 lt:D.mb<B/\D.zs<B/\D.za<B/\D.ob<B
 ne:D.mb≠D.zs/\D.mb≠D.za/\D.mb≠D.ob/\D.zs≠D.za/\D.zs≠D.ob/\D.za≠D.ob
 hB:B<=W.heap.size
section
variable {D:Va} {B:Nat} {W W1:World} {vp:Value} {prio:List Int} {nx:List (List Int)} {ord stk:List Nat} {opn:List Bool} {cs:List (List Nat)} {vs va vs' va':Value} {vals:List Value}
theorem VS.now(h:VS D B W vp prio nx ord stk opn cs vs va vals):Tn D W vp prio nx cs vals:=h.con W (Ag.refl _ _)
theorem VS.hot(ho:Ag (D8 D vs va W.heap.size) W W1)(h1:∀k,vs'.ownBlock=some k->vs.ownBlock=some k\/W.heap.size<=k)(h2:∀k,va'.ownBlock=some k->va.ownBlock=some k\/W.heap.size<=k){W':World}
  (hW:Ag (D8 D vs' va' W1.heap.size) W1 W'):Ag (D8 D vs va W.heap.size) W W':=by
 refine ho.trans (hW.mono fun k _ hk=> ?_)
 rcases hk with h|h|h|h|h|h|h
 ·exact .inl h
 ·exact .inr (.inl h)
 ·exact .inr (.inr (.inl h))
 ·exact .inr (.inr (.inr (.inl h)))
 ·rcases h1 k h with e|e
  ·exact .inr (.inr (.inr (.inr (.inl e))))
  ·exact .inr (.inr (.inr (.inr (.inr (.inr e)))))
 ·rcases h2 k h with e|e
  ·exact .inr (.inr (.inr (.inr (.inr (.inl e)))))
  ·exact .inr (.inr (.inr (.inr (.inr (.inr e)))))
 ·exact .inr (.inr (.inr (.inr (.inr (.inr (Nat.le_trans ho.size h))))))
theorem VS.sge(h:VS D B W vp prio nx ord stk opn cs vs va vals):∀k,vs.ownBlock=some k->B<=k/\k<W.heap.size:=fun k hk=>⟨h.os.ge k hk,h.os.lt' k hk⟩
theorem VS.age(h:VS D B W vp prio nx ord stk opn cs vs va vals):∀k,va.ownBlock=some k->B<=k/\k<W.heap.size:=fun k hk=>World.ownsRow.lt h.oa k hk
theorem VS.below(h:VS D B W vp prio nx ord stk opn cs vs va vals)(hb:Below W.heap.size W W1):VS D B W1 vp prio nx ord stk opn cs vs va vals:=
 {h with
  con:=fun W' hW=>h.con W' (VS.hot (Ag.of_below hb) (fun _=>.inl) (fun _=>.inl) hW)
  num:=h.num.kept (AV hb) (by simp)
  bs:=(hb.block _ (Array.getElem?_eq_some_iff.1 h.bs).1).trans h.bs
  os:=h.os.below hb
  ba:=(hb.block _ (Array.getElem?_eq_some_iff.1 h.ba).1).trans h.ba
  oa:=Ax h.oa (S:=fun _=>False) (Ag.of_below hb) (fun _ _=>id)
  oo:=h.oo.below hb
  hB:=Nat.le_trans h.hB hb.size}
theorem VS.number(h:VS D B W vp prio nx ord stk opn cs vs va vals){v:Nat}(hn:FM W1 D.mb (AX (ord++[v])))(hg:W.grownBy W1 (some D.mb)):
  VS D B W1 vp prio nx (ord++[v]) stk opn cs vs va vals/\Ag (D8 D vs va W.heap.size) W W1:=by
 have ho1:Ag (fun k=>k=D.mb) W W1:=(Ag.of_grown hg).mono fun k _ e=>(Option.some.inj e).symm
 have ho:Ag (D8 D vs va W.heap.size) W W1:=ho1.mono fun k _ e=>.inl e
 have hlt:=h.lt;have hne:=h.ne
 refine⟨{h with
  con:=fun W' hW=>h.con W' (VS.hot ho (fun _=>.inl) (fun _=>.inl) hW)
  num:=hn
  bs:=(ho1.block _ (Array.getElem?_eq_some_iff.1 h.bs).1 (by omega)).trans h.bs
  os:=h.os.only ho1 fun k hk e=>by have:=(h.sge k hk).1;omega
  ba:=(ho1.block _ (Array.getElem?_eq_some_iff.1 h.ba).1 (by omega)).trans h.ba
  oa:=Ax h.oa ho1 fun k hk e=>by have:=(h.age k hk).1;omega
  oo:=h.oo.only ho1 fun k hk e=>by
   have:D.ob=k:=by simpa[Value.ownBlock]using hk
   omega
  hB:=Nat.le_trans h.hB hg.size},ho⟩
theorem VS.push(h:VS D B W vp prio nx ord stk opn cs vs va vals){v:Nat}(h1:OI W1 B vs' (AX stk++[(v:Int)]))(hg:W.grownBy W1 vs.ownBlock)(hm:A7 W vs vs'):
  VS D B (W1.setCell ⟨D.zs,0,none⟩ vs') vp prio nx ord (stk++[v]) opn cs vs' va vals/\Ag (D8 D vs va W.heap.size) W (W1.setCell ⟨D.zs,0,none⟩ vs')/\W1.heap[D.zs]? =some (.cells #[vs] 26 (0,0)):=by
 have ho1:Ag (fun k=>vs.ownBlock=some k) W W1:=Ag.of_grown hg;have ho2:Ag (fun k=>k=D.zs) W1 (W1.setCell ⟨D.zs,0,none⟩ vs'):=Ag.set _ _ _ rfl;have hlt:=h.lt;have hne:=h.ne;have hs:=h.sge;have ha:=h.age;have ho:Ag (D8 D vs va W.heap.size) W (W1.setCell ⟨D.zs,0,none⟩ vs'):=(ho1.mono fun k _ e=>.inr (.inr (.inr (.inr (.inl e))))).trans (ho2.mono fun k _ e=>.inr (.inl e));have hbs:W1.heap[D.zs]? =some (.cells #[vs] 26 (0,0)):=(ho1.block _ (Array.getElem?_eq_some_iff.1 h.bs).1 fun e=>by have:=hs _ e;omega).trans h.bs
 refine⟨{h with
  con:=fun W' hW=>h.con W' (VS.hot ho hm (fun _=>.inl) hW)
  num:=(h.num.kept hg fun e=>by have:=hs _ e.symm;omega).kept (CC _ _ _ _) (by simp;omega)
  bs:=Hy hbs
  os:=by
   rw[GP,Jk]
   exact h1.only ho2 fun k hk e=>by have:=h1.ge k hk;omega
  ba:=(ho2.block _ (by have:=(Array.getElem?_eq_some_iff.1 h.ba).1;have:=hg.size;omega) (by omega)).trans ((ho1.block _ (Array.getElem?_eq_some_iff.1 h.ba).1 fun e=>by have:=hs _ e;omega).trans h.ba)
  oa:=Ax (Ax h.oa ho1 fun k hk e=>h.ap k e hk) ho2 fun k hk e=>by have:=ha k hk;omega
  oo:=(h.oo.only ho1 fun k hk e=>by
   have:D.ob=k:=by simpa[Value.ownBlock]using hk
   have:=hs k e;omega).only ho2 fun k hk e=>by
   have:D.ob=k:=by simpa[Value.ownBlock]using hk
   omega
  ap:=(h.ap.symm.moved hm fun k hk=>(ha k hk).2).symm
  hB:=Nat.le_trans h.hB ho.size},ho,hbs⟩
theorem VS.shut(h:VS D B W vp prio nx ord stk opn cs vs va vals)(j:Nat)(b:Bool)(hl:opn.length=D.n):
  VS D B (W.setCell ⟨D.ob,j,none⟩ (.bool b)) vp prio nx ord stk (opn.set j b) cs vs va vals/\Ag (D8 D vs va W.heap.size) W (W.setCell ⟨D.ob,j,none⟩ (.bool b)):=by
 have ho1:Ag (fun k=>k=D.ob) W (W.setCell ⟨D.ob,j,none⟩ (.bool b)):=Ag.set _ _ _ rfl
 have ho:Ag (D8 D vs va W.heap.size) W (W.setCell ⟨D.ob,j,none⟩ (.bool b)):=ho1.mono fun k _ e=>.inr (.inr (.inr (.inl e)))
 have hlt:=h.lt;have hne:=h.ne
 refine⟨{h with
  con:=fun W' hW=>h.con W' (VS.hot ho (fun _=>.inl) (fun _=>.inl) hW)
  num:=h.num.kept (CC _ _ _ _) (by simp;omega)
  bs:=(ho1.block _ (Array.getElem?_eq_some_iff.1 h.bs).1 (by omega)).trans h.bs
  os:=h.os.only ho1 fun k hk e=>by have:=(h.sge k hk).1;omega
  ba:=(ho1.block _ (Array.getElem?_eq_some_iff.1 h.ba).1 (by omega)).trans h.ba
  oa:=Ax h.oa ho1 fun k hk e=>by have:=(h.age k hk).1;omega
  oo:=h.oo.set hl.symm j b
  hB:=Nat.le_trans h.hB ho.size},ho⟩
theorem VS.comp(h:VS D B W vp prio nx ord stk opn cs vs va vals){u:Value}{c:List Nat}(h1:W1.ownsRow B 26 1 va' (cs.length+1) (vals++[u]))(hg:W.grownBy W1 va.ownBlock)(hm:A7 W va va')
  (hu:∀W',Ag (D8 D vs va W.heap.size) W W'->Ai W' u (AX c)):
  VS D B (W1.setCell ⟨D.za,0,none⟩ va') vp prio nx ord stk opn (cs++[c]) vs va' (vals++[u])/\Ag (D8 D vs va W.heap.size) W (W1.setCell ⟨D.za,0,none⟩ va')/\W1.heap[D.za]? =some (.cells #[va] 23 (0,0)):=by
 have ho1:Ag (fun k=>va.ownBlock=some k) W W1:=Ag.of_grown hg;have ho2:Ag (fun k=>k=D.za) W1 (W1.setCell ⟨D.za,0,none⟩ va'):=Ag.set _ _ _ rfl;have hlt:=h.lt;have hne:=h.ne;have hs:=h.sge;have ha:=h.age;have ho:Ag (D8 D vs va W.heap.size) W (W1.setCell ⟨D.za,0,none⟩ va'):=(ho1.mono fun k _ e=>.inr (.inr (.inr (.inr (.inr (.inl e)))))).trans (ho2.mono fun k _ e=>.inr (.inr (.inl e)));have hba:W1.heap[D.za]? =some (.cells #[va] 23 (0,0)):=(ho1.block _ (Array.getElem?_eq_some_iff.1 h.ba).1 fun e=>by have:=ha _ e;omega).trans h.ba
 have hl:vals.length=cs.length:=by have:=h.oa.1;simpa using this
 refine⟨{h with
  con:=fun W' hW=>by
   have hW2:=VS.hot ho (fun _=>.inl) hm hW;have k:=h.con W' hW2;refine {k with c:=fun j hj=> ?_};rw[List.length_append,List.length_singleton]at hj
   by_cases e:j<cs.length
   ·have:=k.c j e;rw[show(vals++[u]).getD j undef=vals.getD j undef by simp[List.getD,List.getElem?_append_left (show j<vals.length by omega)],show(cs++[c]).getD j []=cs.getD j []by simp[List.getD,List.getElem?_append_left e]];exact this
   ·obtain rfl:j=cs.length:=by omega
    rw[show(vals++[u]).getD cs.length undef=u by simp[List.getD,<-hl],show(cs++[c]).getD cs.length []=c by simp[List.getD]];exact hu W' hW2
  num:=(h.num.kept hg fun e=>by have:=ha _ e.symm;omega).kept (CC _ _ _ _) (by simp;omega)
  bs:=(ho2.block _ (by have:=(Array.getElem?_eq_some_iff.1 h.bs).1;have:=hg.size;omega) (by omega)).trans ((ho1.block _ (Array.getElem?_eq_some_iff.1 h.bs).1 fun e=>by have:=ha _ e;omega).trans h.bs)
  os:=(h.os.only ho1 fun k hk e=>h.ap k hk e).only ho2 fun k hk e=>by have:=hs k hk;omega
  ba:=Hy hba
  oa:=by
   rw[List.length_append,List.length_singleton]
   exact Ax h1 ho2 fun k hk e=>by have:=World.ownsRow.lt h1 k hk;omega
  oo:=(h.oo.only ho1 fun k hk e=>by
   have:D.ob=k:=by simpa[Value.ownBlock]using hk
   have:=ha k e;omega).only ho2 fun k hk e=>by
   have:D.ob=k:=by simpa[Value.ownBlock]using hk
   omega
  ap:=h.ap.moved hm fun k hk=>(hs k hk).2
  hB:=Nat.le_trans h.hB ho.size},ho,hba⟩
theorem VS.pop(h:VS D B W vp prio nx ord stk opn cs vs va vals){k:Nat}(h1:OI W B vs' (AX (stk.take k)))(hv:vs'.ownBlock=vs.ownBlock):
  VS D B (W.setCell ⟨D.zs,0,none⟩ vs') vp prio nx ord (stk.take k) opn cs vs' va vals/\Ag (D8 D vs va W.heap.size) W (W.setCell ⟨D.zs,0,none⟩ vs'):=by
 have ho2:Ag (fun k=>k=D.zs) W (W.setCell ⟨D.zs,0,none⟩ vs'):=Ag.set _ _ _ rfl;have hlt:=h.lt;have hne:=h.ne;have hs:=h.sge;have ha:=h.age
 have ho:Ag (D8 D vs va W.heap.size) W (W.setCell ⟨D.zs,0,none⟩ vs'):=ho2.mono fun k _ e=>.inr (.inl e)
 refine⟨{h with
  con:=fun W' hW=>h.con W' (VS.hot ho (fun k hk=>.inl (hv▸hk)) (fun _=>.inl) hW)
  num:=h.num.kept (CC _ _ _ _) (by simp;omega)
  bs:=Hy h.bs
  os:=h1.only ho2 fun k hk e=>by have:=h1.ge k hk;omega
  ba:=(ho2.block _ (Array.getElem?_eq_some_iff.1 h.ba).1 (by omega)).trans h.ba
  oa:=Ax h.oa ho2 fun k hk e=>by have:=ha k hk;omega
  oo:=h.oo.only ho2 fun k hk e=>by
   have:D.ob=k:=by simpa[Value.ownBlock]using hk
   omega
  ap:=fun k h1 h2=>h.ap k (hv▸h1) h2
  hB:=Nat.le_trans h.hB ho.size},ho⟩
end
end Go.Proofs.YtncjeamdkjcebaaGreatDoor
