/- What the walks of chapter 26's laws share, ahead of head. -/
import Derived.Test.YtncjeamdkjcebaaDoorZMyV2
set_option linter.all false
set_option maxHeartbeats 8000000
set_option maxRecDepth 100000
namespace Go.Proofs.YtncjeamdkjcebaaDoor
open Go.RowKit
def BW(w W:World):Prop:=Below w.heap.size w W
theorem BW.step{w W W':World}(h:BW w W)(hb:Below W.heap.size W W'):BW w W':=Below.trans h (hb.mono (Below.size h))
theorem By.shp9{w:World}{v:Value}{m:My}(h:By w v m):∃i o s a n c b k d,v=.agg #[.int .i64 i,.int .i64 o,.int .i64 s,.slice a n c,.slice b k d]:=by
 obtain⟨v3,v4,rfl,-,h0,h1⟩:=h;obtain⟨a0,c0,rfl⟩:=h0.shape;obtain⟨a1,c1,rfl⟩:=h1.shape;exact⟨_,_,_,_,_,_,_,_,_,rfl⟩
theorem DI.shp9{w:World}{v:Value}{m:Mo}(h:DI w v m):∃i o s a n c b k d,v=.agg #[.int .i64 i,.int .i64 o,.int .i64 s,.slice a n c,.slice b k d]:=by
 obtain⟨v3,v4,rfl,-,h0,h1⟩:=h;obtain⟨a0,c0,rfl⟩:=h0.shape;obtain⟨a1,c1,rfl⟩:=h1.shape;exact⟨_,_,_,_,_,_,_,_,_,rfl⟩
theorem Ao.el{w:World}{a:Option Addr}{n c:Nat}{ll:List (List Int)}(h:Ao w (.slice a n c) ll){q x:Nat}(hq:q<ll.length)(hx:x<(ll.getD q []).length):
  ∃b o b2 o2 n2 c2,a=some ⟨b,o,none⟩/\q<n/\w.cell? ⟨b,o+q,none⟩=some (.slice (some ⟨b2,o2,none⟩) n2 c2)/\x<n2/\w.cell? ⟨b2,o2+x,none⟩=some (.int .i64 ((ll.getD q []).getD x 0)):=by
 obtain⟨a',c',hv⟩:=h.shape
 injection hv with h1 h2 h3
 subst h1 h2 h3;obtain⟨b,o,d,-,f⟩:=h.dat2;obtain⟨ao,cap,f1,f2⟩:=f q hq;obtain⟨b2,o2,d2,-,g⟩:=f2.data;obtain rfl:=d2 (by omega);exact⟨b,o,b2,o2,_,_,d (by omega),hq,f1,hx,g x hx⟩
theorem Af.el{w:World}{a:Option Addr}{n c:Nat}{l:List Int}(h:Af w (.slice a n c) l){q:Nat}(hq:q<l.length):
  ∃b o,a=some ⟨b,o,none⟩/\q<n/\w.cell? ⟨b,o+q,none⟩=some (.int .i64 (l.getD q 0)):=by
 obtain⟨a',c',hv⟩:=h.shape
 injection hv with h1 h2 h3
 subst h1 h2 h3;obtain⟨b,o,d,-,f⟩:=h.data;exact⟨b,o,d (by omega),hq,f q hq⟩
theorem By.vals{w:World}{i o s:Int}{a b:Option Addr}{n c k d:Nat}{m:My}(h:By w (.agg #[.int .i64 i,.int .i64 o,.int .i64 s,.slice a n c,.slice b k d]) m):
  i=m.ins/\o=m.outs/\s=m.start/\n=m.out.length/\k=m.next.length/\Ao w (.slice a n c) m.out/\Ao w (.slice b k d) m.next:=by
 obtain⟨v3,v4,hv,-,h0,h1⟩:=h;simp only[Value.agg.injEq,Array.mk.injEq,List.cons.injEq,Value.int.injEq,true_and,and_true]at hv;obtain⟨rfl,rfl,rfl,rfl,rfl⟩:=hv;obtain⟨a',c',e0⟩:=h0.shape;obtain⟨b',d',e1⟩:=h1.shape
 injection e0 with _ e0 _
 injection e1 with _ e1 _
 exact⟨rfl,rfl,rfl,e0,e1,h0,h1⟩
theorem DI.vals{w:World}{i o s:Int}{a b:Option Addr}{n c k d:Nat}{m:Mo}(h:DI w (.agg #[.int .i64 i,.int .i64 o,.int .i64 s,.slice a n c,.slice b k d]) m):
  i=m.ins/\o=m.outs/\s=m.start/\n=m.inn.length/\k=m.next.length/\Af w (.slice a n c) m.inn/\Ao w (.slice b k d) m.next:=by
 obtain⟨v3,v4,hv,-,h0,h1⟩:=h;simp only[Value.agg.injEq,Array.mk.injEq,List.cons.injEq,Value.int.injEq,true_and,and_true]at hv;obtain⟨rfl,rfl,rfl,rfl,rfl⟩:=hv;obtain⟨a',c',e0⟩:=h0.shape;obtain⟨b',d',e1⟩:=h1.shape
 injection e0 with _ e0 _
 injection e1 with _ e1 _
 exact⟨rfl,rfl,rfl,e0,e1,h0,h1⟩
def BM(m:My)(q x:Nat):Int:=(m.out.getD q []).getD x 0
def nxI(m:My)(q x:Nat):Int:=(m.next.getD q []).getD x 0
def stM(m:My)(q:Nat)(ins:List Int):Nat->Nat
 |0=>q
 |k+1=>(nxI m (stM m q ins k) (ins.getD k 0).toNat).toNat
def Bu(m:My)(q:Nat)(ins:List Int)(n:Nat):List Int:=(List.range n).map fun k=>BM m (stM m q ins k) (ins.getD k 0).toNat
def EB(m:My)(q:Int)(ins:List Int):Bool:=A9 m&&(decide (0<=q)&&decide (q<m.out.length))&&Ca ins.length m.ins ins
def CP(m:My)(q:Int)(ins:List Int):List Int×Int:=if EB m q ins=true then(Bu m q.toNat ins ins.length,(stM m q.toNat ins ins.length:Int))else([],0)
theorem Kt{m:My}{q:Int}{ins:List Int}(h:EB m q ins=true):CP m q ins=(Bu m q.toNat ins ins.length,(stM m q.toNat ins ins.length:Int)):=if_pos h
theorem Mg{m:My}{q:Int}{ins:List Int}(h:¬EB m q ins=true):CP m q ins=([],0):=if_neg h
theorem IL{m:My}{q:Int}{ins:List Int}:EB m q ins=true↔MyV m/\0<=q/\q<m.out.length/\∀k,k<ins.length->0<=ins.getD k 0/\ins.getD k 0<m.ins:=by
 unfold EB;rw[Bool.and_eq_true,Bool.and_eq_true,Bool.and_eq_true,Ei,BS,decide_eq_true_eq,decide_eq_true_eq]
 constructor
 ·rintro⟨⟨h1,h2,h3⟩,-,h4⟩;exact⟨h1,h2,h3,h4⟩
 ·rintro⟨h1,h2,h3,h4⟩;exact⟨⟨h1,h2,h3⟩,rfl,h4⟩
theorem MyV.out'{m:My}(h:MyV m){q x:Nat}(hq:q<m.out.length)(hx:(x:Int)<m.ins):x<(m.out.getD q []).length/\0<=BM m q x/\BM m q x<m.outs:=by
 obtain⟨h1,h2⟩:=h.out q hq
 have:x<(m.out.getD q []).length:=by omega
 exact⟨this,h2 x this⟩
theorem MyV.nx'{m:My}(h:MyV m){q x:Nat}(hq:q<m.out.length)(hx:(x:Int)<m.ins):x<(m.next.getD q []).length/\0<=nxI m q x/\nxI m q x<m.out.length:=by
 obtain⟨h1,h2⟩:=h.nxt q hq
 have:x<(m.next.getD q []).length:=by omega
 exact⟨this,h2 x this⟩
theorem MyV.st{m:My}(h:MyV m){q:Nat}{ins:List Int}(hq:q<m.out.length)(hi:∀k,k<ins.length->0<=ins.getD k 0/\ins.getD k 0<m.ins):∀k,k<=ins.length->stM m q ins k<m.out.length:=fun k hk=>by
 induction k with
 |zero=>exact hq
 |succ k ih=>
  have h1:=hi k (by omega);have h2:=h.nx' (ih (by omega)) (x:=(ins.getD k 0).toNat) (by omega);show(nxI m (stM m q ins k) (ins.getD k 0).toNat).toNat<_;omega
theorem BP{m:My}{q:Nat}{ins:List Int}{n:Nat}:(Bu m q ins n).length=n:=by simp[Bu]
theorem D1{m:My}{q:Nat}{ins:List Int}{n k:Nat}(h:k<n):(Bu m q ins n).getD k 0=BM m (stM m q ins k) (ins.getD k 0).toNat:=by simp[Bu,List.getD,h]
def LF(ll:List Int)(r:Int)(w:World)(e:Ending)(w':World):Prop:=∃v,e=.returned (.tuple #[v,.int .i64 r])/\Af w' v ll/\Below w.heap.size w w'
theorem Cw(w:World):Af w (.slice none 0 0) []:=⟨⟨none,0,0,0,rfl,Nat.le_refl _,Nat.zero_le _,Nat.zero_le _,fun _=>rfl,(fun h=>absurd h (by simp)),fun j hj=>absurd hj (by simp)⟩,by simp⟩
theorem FS{Q:List Int×Int}(h:Q=([],0)){w w':World}(hb:Below w.heap.size w w'):LF Q.1 Q.2 w (.returned (.tuple #[.slice none 0 0,.int .i64 0])) w':=by
 rw[h];exact⟨_,rfl,Cw _,hb⟩
theorem MC{Q:List Int×Int}{l:List Int}{r:Int}(h:Q=(l,r)){w w':World}{v:Value}(hv:Af w' v l)(hb:Below w.heap.size w w'):LF Q.1 Q.2 w (.returned (.tuple #[v,.int .i64 r])) w':=by
 rw[h];exact⟨_,rfl,hv,hb⟩
theorem LN{l f:List Int}(hl:l.length=f.length)(h:∀j,j<f.length->l.getD j 0=f.getD j 0):l=f:=by
 apply List.ext_getElem hl
 intro i h1 h2;have:=h i h2
 rwa [Ag _ _ _ h1,Ag _ _ _ h2]at this
theorem LI(w:World)(vm vi:Value)(m:My)(q:Int)(ins:List Int)(hm:By w vm m)(hi:Af w vi ins)(hl:ins.length<=1000):
  Calls Tryd.prog 7 #[vm,.int .i64 q,vi] w (LF (CP m q ins).1 (CP m q ins).2 w):=by
 have HIN:=Ab hi
 have HV0:Hid (∀W,Below w.heap.size w W->Calls Tryd.prog 20 #[vm] W (AC (.bool (A9 m)) W)):=fun W h=>FH W _ _ (hm.below h)
 obtain⟨ai,ci,rfl⟩:=hi.shape;obtain⟨bi,oi,di,ni,fi⟩:=hi.data;have HFI:=Ab fi;have HNo:Hid (¬EB m q ins=true->CP m q ins=([],0)):=Mg;have HYes:Hid (EB m q ins=true->CP m q ins=(Bu m q.toNat ins ins.length,(stM m q.toNat ins ins.length:Int))):=Kt;have HR0:Hid (EB m q ins=(A9 m&&(decide (0<=q)&&decide (q<m.out.length))&&Ca ins.length m.ins ins)):=rfl;have HIff:Hid (EB m q ins=true↔MyV m/\0<=q/\q<m.out.length/\∀k,k<ins.length->0<=ins.getD k 0/\ins.getD k 0<m.ins):=IL;obtain⟨v3,v4,rfl,hI,h3,h4⟩:=hm;obtain⟨a3,c3,rfl⟩:=h3.shape;obtain⟨a4,c4,rfl⟩:=h4.shape;obtain⟨b3,o3,d3,m3,f3⟩:=h3.dat2;obtain⟨b4,o4,d4,m4,f4⟩:=h4.dat2;have HF3:=Ab f3;have HF4:=Ab f4;clear f3 f4 h3 h4 fi hi;generalize hQ:CP m q ins=Q at*;clear hQ;generalize hK:EB m q ins=K at*;clear hK;have HLo:=Ab (rfl:m.out.length=m.out.length)
 go_enter Tryd.func7,Tryd.ntmps7
 go_upto_region 1 with(fail)
 obtain⟨hx,-,hB⟩:=AA (w0:=w) Ad leR #[.int .i64 m.ins,.int .i64 m.outs,.int .i64 m.start,.slice a3 m.out.length c3,.slice a4 m.next.length c4] 24;generalize w.alloc (.cells #[.int .i64 m.ins,.int .i64 m.outs,.int .i64 m.start,.slice a3 m.out.length c3,.slice a4 m.next.length c4] 24)=w1 at*;have k0:=Aa 0 hx;have k1:=Aa 1 hx;have k2:=Aa 2 hx;have k3:=Aa 3 hx;have k4:=Aa 4 hx
 go_wp2_with fail
 refine(HV0.out _ hB).mono ?_;rintro e w2 ⟨rfl,hb⟩;replace hx:=Am hb hx;replace hB:=hB.trans (hb.mono hB.size);clear hb k0 k1 k2 k3 k4;have k0:=Aa 0 hx;have k3:=Aa 3 hx
 cases hv:A9 m with
 |false=>
  have HQ:=Ab (HNo.out (by rw[HR0.out,hv];simp));clear hv;go_wp2;go_ret2;exact FS HQ.out hB
 |true=>
 by_cases hq0:q<0
 ·have HQ:=Ab (HNo.out (by rw[HR0.out,decide_eq_false (show ¬0<=q by omega)];simp));clear hv;go_wp2;go_ret2;exact FS HQ.out hB
 by_cases hq1:(m.out.length:Int)<=q
 ·have HQ:=Ab (HNo.out (by rw[HR0.out,decide_eq_false (show ¬q<(m.out.length:Int)by omega)];simp));clear hv;go_wp2;go_ret2;exact FS HQ.out hB
 have HV:=Ab hv;clear hv
 go_wp2_with fail
 refine(Hg _ _ _ _ _ (Ks (HIN.out.below hB))).mono ?_;rintro e w3 ⟨rfl,hb⟩;rw[show BT (ins.length:Int) m.ins [ins]=Ca ins.length m.ins ins by simp[BT]];replace hb:=(Ap (w:=w2) _).trans (hb.mono (Ap (w:=w2) _).size);replace hx:=Am hb hx;replace hB:=hB.trans (hb.mono hB.size);clear hb k0 k3
 cases hrb:Ca ins.length m.ins ins with
 |false=>
  have HQ:=Ab (HNo.out (by rw[HR0.out,hrb];simp));clear hrb;go_wp2;go_ret2;exact FS HQ.out hB
 |true=>
 have hK:K=true:=by rw[HR0.out,HV.out,hrb,decide_eq_true hq0,decide_eq_true hq1];rfl
 have HQ:=Ab (HYes.out hK);have HI4:=Ab (HIff.out.1 hK);obtain⟨qn,rfl⟩:∃qn:Nat,q=(qn:Int):=⟨q.toNat,by omega⟩;rw[Int.toNat_natCast]at HQ;clear hK HNo HYes HR0 HIff hrb HV hI HV0 HIN K;obtain rfl:=d3 (by omega);have hnl:=HI4.out.1.nl;obtain rfl:=d4 (by omega);have HX:=Ab hx;have HBW:=Ab hB;clear hx hB hnl
 go_upto_region 4 with(at_make;refine Fq rfl _ _ _ Tryd.underlying25 rfl w3.heap.size (ins.length:Int) ins.length rfl rfl rfl (by omega) leR ?_;intro wm hown hgr)
 have hbm:Below w3.heap.size w3 wm:=Ad.grown hgr leR (fun k hk=>by cases hk);obtain⟨ZB,hZB⟩:∃z,z=w3.heap.size:=⟨_,rfl⟩;rw[<-hZB]at hown hbm⊢;have HZB:=Ab hZB;clear hgr hZB;have HS0:=Ab hown;have HB0:=Ab hbm;clear hown hbm;generalize hnn:ins.length=n at*
 go_wp2_with fail
 go_loopg [1,40] n (fun gh q i wr=>∃(k s:Nat)(L:List Int),gh=n-k/\q=.int .i64 (s:Int)/\i=.int .i64 (k:Int)/\k<=n/\s<m.out.length/\Hid (s=stM m qn ins k)/\Hid (L.length=n)/\Hid (∀j,j<k->L.getD j 0=(Bu m qn ins n).getD j 0)/\Hid (OI wr ZB (.slice (some ⟨ZB,0,none⟩) n n) L)/\Hid (Below ZB w3 wr))
 case atStart=>exact⟨0,qn,_,rfl,rfl,rfl,by omega,by omega,rfl,by show _=_;simp,fun j hj=>absurd hj (by omega),HS0,HB0⟩
 case round=>
  obtain⟨k,s,L,hgk,rfl,rfl,hk,hs,HS,HL,HA,HO,HB⟩:=hrel;have HGK:=Ab hgk;clear hgk
  by_cases hlt:k<n
  ·obtain rfl:=di (by omega)
   have hi0:(0:Int)<=(k:Int):=by omega
   have hi1:(k:Int)<(n:Int):=by omega
   have hs0:(0:Int)<=(s:Int):=by omega
   have hs1:(s:Int)<(m.out.length:Int):=by omega
   have hs2:(s:Int)<(m.next.length:Int):=by have:=HI4.out.1.nl;omega
   have hbx:Below w3.heap.size w3 wr:=by have:=HB.out;rwa [HZB.out]at this
   have HBX:=Ab hbx;have HWB:=Ab (HBW.out.trans (hbx.mono HBW.out.size));have cI:=Aj HWB.out (HFI.out k hlt);have hx2:=HI4.out.2.2.2 k hlt;obtain⟨x,hx⟩:∃x:Nat,ins.getD k 0=(x:Int):=⟨(ins.getD k 0).toNat,by omega⟩;have HX0:=Ab hx;rw[hx]at cI hx2;obtain⟨v1,v2,v3⟩:=HI4.out.1.out' hs hx2.2;obtain⟨u1,u2,u3⟩:=HI4.out.1.nx' hs hx2.2;obtain⟨a1,e1,c1,r1⟩:=HF3.out s hs;obtain⟨a2,d2,c2,r2⟩:=HF4.out s (by omega);obtain⟨p1,y1,z1,-,g1⟩:=r1.data;obtain⟨p2,y2,z2,-,g2⟩:=r2.data;obtain rfl:=z1 (by omega);obtain rfl:=z2 (by omega);replace g2:=g2 x u1
   have HQ3:Hid (∀W,Below w3.heap.size w3 W->W.cell? ⟨w.heap.size,4,none⟩=some (.slice (some ⟨b4,o4,none⟩) m.next.length c4)/\W.cell? ⟨b4,o4+s,none⟩=some (.slice (some ⟨p2,y2,none⟩) (m.next.getD s []).length d2)/\W.cell? ⟨p2,y2+x,none⟩=some (.int .i64 ((m.next.getD s []).getD x 0))):=fun W h=>⟨Aa 4 ((h.block _ (Array.getElem?_eq_some_iff.1 HX.out).1).trans HX.out),Aj (HBW.out.trans (h.mono HBW.out.size)) c2,Aj (HBW.out.trans (h.mono HBW.out.size)) g2⟩
   replace g1:=Aj HWB.out (g1 x v1);replace c1:=Aj HWB.out c1;have q:=(hbx.block _ (Array.getElem?_eq_some_iff.1 HX.out).1).trans HX.out;have q3:=Aa 3 q;have e2:=HO.out.at' HL.out.symm k (by rw[HL.out];exact hlt);have f2:=HO.out.fz HL.out.symm k
   have hX0:(0:Int)<=(x:Int):=by omega
   have hX1:(x:Int)<((m.out.getD s []).length:Int):=by omega
   have hX2:(x:Int)<((m.next.getD s []).length:Int):=by omega
   have HE1:Hid ((m.out.getD s []).getD x 0=(Bu m qn ins n).getD k 0):=by
    show _=_;rw[D1 hlt,<-HS.out,HX0.out];rfl
   have HE2:Hid (((m.next.getD s []).getD x 0).toNat=stM m qn ins (k+1)):=by
    show _=(nxI m (stM m qn ins k) (ins.getD k 0).toNat).toNat;rw[<-HS.out,HX0.out];rfl
   obtain⟨t,ht⟩:∃t:Nat,(m.next.getD s []).getD x 0=(t:Int):=⟨((m.next.getD s []).getD x 0).toNat,by have:0<=(m.next.getD s []).getD x 0:=u2;omega⟩
   have ht3:t<m.out.length:=by have:(m.next.getD s []).getD x 0<m.out.length:=u3;omega
   rw[ht]at HQ3;clear g2 c2
   have HE3:Hid (t=stM m qn ins (k+1)):=by
    show _=_;rw[<-HE2.out,ht];simp
   generalize(m.out.getD s []).getD x 0=y at*;generalize(m.out.getD s []).length=l1 at*;generalize(m.next.getD s []).length=l2 at*;clear HE2 ht hx u2 u3 v2 v3 r1 r2 z1 z2 q hx2;have HO2:=Ab (HO.out.set HL.out.symm k y)
   have HB2:Hid (Below ZB w3 (wr.setCell ⟨ZB,k,none⟩ (.int .i64 y))):=by
    show Below _ _ _;have:=HBX.out;rw[HZB.out];exact BB this leR
   have HL2:Hid ((L.set k y).length=n):=by show _=_;rw[List.length_set];exact HL.out
   have HA2:Hid (∀j,j<k+1->(L.set k y).getD j 0=(Bu m qn ins n).getD j 0):=fun j hj=>by
    by_cases hjk:j=k
    ·subst hjk;rw[<-HE1.out]
     have:j<L.length:=by rw[HL.out];exact hlt
     simp[List.getD,this]
    ·have:=HA.out j (by omega);rw[<-this];simp[List.getD,List.getElem?_set_ne (Ne.symm hjk)]
   go_upto_region 8 with(fail)
   clear e2 f2 cI q3 g1 c1 HO HB HA HL hbx HBX HE1 HS HWB;generalize wr.setCell ⟨ZB,k,none⟩ (.int .i64 y)=wx at*
   have hbx:Below w3.heap.size w3 wx:=by have:=HB2.out;rwa [HZB.out]at this
   obtain⟨q4,c2,g2⟩:=HQ3.out wx hbx;clear hbx HQ3;go_wp2
   go_roundg (n-(k+1))
   case measure=>have:=HGK.out;omega
   case rel=>exact⟨k+1,t,_,rfl,rfl,by go_num,by omega,ht3,HE3,HL2,HA2,HO2,HB2⟩
  ·have hi1:¬(k:Int)<(n:Int):=by omega
   have HEq:Hid (L=Bu m qn ins n):=LN (by rw[HL.out,BP]) fun j hj=>HA.out j (by rw[BP]at hj;omega)
   have HSt:Hid (Q=(Bu m qn ins n,(s:Int))):=by show _=_;rw[HQ.out,HS.out,show k=n by omega]
   have HBF:Hid (Below w.heap.size w wr):=by
    show Below _ _ _;have:=HB.out;rw[HZB.out]at this;exact HBW.out.trans (this.mono HBW.out.size)
   have HIs:Hid (Af wr (.slice (some ⟨ZB,0,none⟩) n n) (Bu m qn ins n)):=by
    show Af _ _ _;have h1:=HO.out;rw[HEq.out]at h1
    refine h1.is (by rw[BP];unfold Bg;omega) fun y hy=> ?_
    obtain⟨j,hj,rfl⟩:=List.mem_iff_getElem.1 hy
    have hj2:j<n:=by rw[BP]at hj;exact hj
    rw[<-Ag _ 0 j hj,D1 hj2];have hq:=HI4.out.1.st (q:=qn) (ins:=ins) (by omega) (fun k hk=>HI4.out.2.2.2 k (by omega)) j (by omega);have hx:=HI4.out.2.2.2 j hj2;have h3:=HI4.out.1.out' hq (x:=(ins.getD j 0).toNat) (by omega);have h4:=HI4.out.1.o2
    constructor<;>omega
   clear HO HA HL HS HB HQ HEq;go_wp2;go_ret2;exact MC HSt.out HIs.out HBF.out
def InR(m:My)(a:List Int):Prop:=∀k,k<a.length->0<=a.getD k 0/\a.getD k 0<m.ins
theorem DT{a b:List Int}{k:Nat}(h:k<a.length):(a++b).getD k 0=a.getD k 0:=by
 simp[List.getD,List.getElem?_append_left h]
theorem DU{a b:List Int}{k:Nat}:(a++b).getD (a.length+k) 0=b.getD k 0:=by
 simp[List.getD,List.getElem?_append_right (Nat.le_add_right _ _)]
theorem InR.app{m:My}{a b:List Int}:InR m (a++b)↔InR m a/\InR m b:=by
 constructor
 ·intro h;refine⟨fun k hk=> ?_,fun k hk=> ?_⟩
  ·have:=h k (by rw[List.length_append];omega)
   rwa [DT hk]at this
  ·have:=h (a.length+k) (by rw[List.length_append];omega)
   rwa [DU]at this
 ·rintro⟨h1,h2⟩ k hk;rw[List.length_append]at hk
  by_cases h:k<a.length
  ·rw[DT h];exact h1 k h
  ·obtain⟨j,rfl⟩:∃j,k=a.length+j:=⟨k-a.length,by omega⟩;rw[DU];exact h2 j (by omega)
theorem Ku{m:My}{q:Nat}{a:List Int}(hv:MyV m)(hq:q<m.out.length):EB m q a=true↔InR m a:=by
 rw[IL];exact⟨fun h=>h.2.2.2,fun h=>⟨hv,by omega,by omega,h⟩⟩
theorem Fv{m:My}{q:Nat}{a:List Int}(hv:MyV m)(hq:q<m.out.length)(h:InR m a):CP m q a=(Bu m q a a.length,(stM m q a a.length:Int)):=by
 have:=Kt ((Ku hv hq).2 h)
 rwa [Int.toNat_natCast]at this
theorem ER{m:My}{q:Nat}{a:List Int}(hv:MyV m)(hq:q<m.out.length)(h:¬InR m a):CP m q a=([],0):=Mg fun e=>h ((Ku hv hq).1 e)
theorem OE{m:My}{a:List Int}(h:¬InR m a):0<a.length:=by
 rcases Nat.eq_zero_or_pos a.length with e|e
 ·exact absurd (fun k hk=>by omega) h
 ·exact e
theorem Hj{m:My}{q:Nat}{a b:List Int}:∀k,k<=a.length->stM m q (a++b) k=stM m q a k
 |0,_=>rfl
 |k+1,h=>by
  show(nxI m (stM m q (a++b) k) ((a++b).getD k 0).toNat).toNat=(nxI m (stM m q a k) (a.getD k 0).toNat).toNat;rw[Hj k (by omega),DT (by omega)]
theorem Hk{m:My}{q:Nat}{a b:List Int}:∀k,stM m q (a++b) (a.length+k)=stM m (stM m q a a.length) b k
 |0=>Hj _ leR
 |k+1=>by
  show(nxI m (stM m q (a++b) (a.length+k)) ((a++b).getD (a.length+k) 0).toNat).toNat=(nxI m (stM m (stM m q a a.length) b k) (b.getD k 0).toNat).toNat;rw[Hk k,DU]
theorem MO{m:My}{q:Nat}{a b:List Int}:Bu m q (a++b) (a++b).length=Bu m q a a.length++Bu m (stM m q a a.length) b b.length:=by
 refine LN (by simp[BP]) fun j hj=> ?_
 rw[List.length_append,BP,BP]at hj;rw[D1 (by rw[List.length_append];exact hj)]
 by_cases h:j<a.length
 ·have e:(Bu m q a a.length++Bu m (stM m q a a.length) b b.length).getD j 0=(Bu m q a a.length).getD j 0:=DT (by rw[BP];exact h);rw[e,D1 h,Hj j (by omega),DT h]
 ·obtain⟨i,rfl⟩:∃i,j=a.length+i:=⟨j-a.length,by omega⟩
  have e:(Bu m q a a.length++Bu m (stM m q a a.length) b b.length).getD (a.length+i) 0=(Bu m (stM m q a a.length) b b.length).getD i 0:=by
   have:=DU (a:=Bu m q a a.length) (b:=Bu m (stM m q a a.length) b b.length) (k:=i)
   rwa [BP]at this
  rw[e,D1 (by omega),Hk,DU]
theorem OV{m:My}{q:Nat}{a b:List Int}(hv:MyV m)(hq:q<m.out.length)(h:¬((CP m q a).1.length=a.length/\(CP m (CP m q a).2 b).1.length=b.length)):
  ((CP m q a).1.length=0\/(CP m (CP m q a).2 b).1.length=0)/\CP m q (a++b)=([],0):=by
 by_cases h1:InR m a
 ·rw[Fv hv hq h1]at h⊢;have hr:=hv.st hq h1 a.length leR
  by_cases h2:InR m b
  ·rw[Fv hv hr h2]at h;exact absurd ⟨BP,BP⟩ h
  ·rw[ER hv hr h2];exact⟨.inr rfl,ER hv hq fun e=>h2 (InR.app.1 e).2⟩
 ·rw[ER hv hq h1];exact⟨.inl rfl,ER hv hq fun e=>h1 (InR.app.1 e).1⟩
structure RG(m:My)(q:Nat)(a b:List Int):Prop where
 ia:InR m a
 ib:InR m b
 ra:CP m q a=(Bu m q a a.length,(stM m q a a.length:Int))
 rb:CP m (CP m q a).2 b=(Bu m (stM m q a a.length) b b.length,(stM m (stM m q a a.length) b b.length:Int))
 rz:CP m q (a++b)=(Bu m q a a.length++Bu m (stM m q a a.length) b b.length,(stM m (stM m q a a.length) b b.length:Int))
 st:∀k,k<=a.length->stM m q a k<m.out.length
theorem Ql{m:My}{q:Nat}{a b:List Int}(hv:MyV m)(hq:q<m.out.length)(h:(CP m q a).1.length=a.length/\(CP m (CP m q a).2 b).1.length=b.length):RG m q a b:=by
 have h1:InR m a:=Classical.byContradiction fun e=>by
  have:=OE e;rw[ER hv hq e]at h;have:=h.1;simp at this;omega
 have hr:=hv.st hq h1 a.length leR
 have h2:InR m b:=Classical.byContradiction fun e=>by
  have:=OE e;rw[Fv hv hq h1,ER hv hr e]at h;have:=h.2;simp at this;omega
 refine⟨h1,h2,Fv hv hq h1,by rw[Fv hv hq h1];exact Fv hv hr h2, ?_,hv.st hq h1⟩;rw[Fv hv hq (InR.app.2 ⟨h1,h2⟩),MO,List.length_append,Hk]
end Go.Proofs.YtncjeamdkjcebaaDoor
namespace Go.Proofs.YtncjeamdkjcebaaDoor
open Go Go.RowKit
section
variable {P:Program} {ops:Array Oper} {Q:Exit->Act->World->Prop}
theorem Ky(R:Nat->Value->World->Prop)(u:Nat->Option Nat)(L:List (Nat×Nat))(A:(Nat->Value)->Act){w:World}(hb:Dc .any ops=true)(hw:Mm ops L=true)
  (hstep:∀i o,ops[i]? =some o->Nu P Q ops R u L A w i o) (hfin:∀vs W,Below w.heap.size w W->(∀i,i<ops.size->u i=none->R i (vs i) W)->Q .normal (A vs) W):
  ∀(fuel:Nat)(listed:Array Bool)(vs:Nat->Value)(W:World),listed.size=ops.size->listed.toList.count false<=fuel->KJ ops listed->RH R u w listed vs W->wpAny P .any ops Q fuel listed (A vs) W
 |0,listed,vs,W,hs,hc,hcl,hinv=>by
  have hno:∀j,¬listed.getD j true=false:=fun j h=>by
   obtain⟨_,h2⟩:=Cs h;have:0<listed.toList.count false:=List.count_pos_iff.2 (List.mem_of_getElem? h2);omega
  have hr:Region.ready .any ops listed=[]:=List.eq_nil_iff_forall_not_mem.2 fun j hj=>hno j (mem_ready.1 hj).1
  exact⟨hr,hfin vs W hinv.1 fun i hi hu=>hinv.2 i (BF hb hs hr i hi) fun j hj=>by rw[hu]at hj;cases hj⟩
 |fuel+1,listed,vs,W,hs,hc,hcl,hinv=>by
  refine⟨fun hr=>hfin vs W hinv.1 (fun i hi hu=>hinv.2 i (BF hb hs hr i hi) (fun j hj=>(by rw[hu]at hj;cases hj))),fun i hi=> ?_⟩;obtain⟨hli,o,ho,hall⟩:=mem_ready.1 hi;have hilt:=(ltE ho)
  refine wpOp_step ho fun K hK=> ?_
  refine hstep i o ho vs W K hinv.1 (fun e he hbd hu=>hinv.2 _ (hall e he hbd) fun j hj=> ?_) fun v W' hbl hr hkeep=>hK _ _ ?_
  ·rcases hu with hu|hu
   ·rw[hu]at hj;cases hj
   ·rw[hu]at hj;cases hj;exact JS hli
  refine Ky R u L A hb hw hstep hfin fuel _ (upd vs i v) W' (by simpa using hs) (CT hli hc) (fun j o' hj ho' e he hbd=> ?_) ⟨hbl,fun j hj hcons=> ?_⟩
  ·have h1:listed.getD e.on false=true:=by
    by_cases hji:j=i
    ·subst hji;rw[ho]at ho';cases ho';exact hall e he hbd
    ·rw[EC hji]at hj;exact hcl j o' hj ho' e he hbd
   by_cases hei:e.on=i
   ·rw[hei];exact Fa (by omega)
   ·rw[EC hei];exact h1
  by_cases hji:j=i
  ·subst hji;simpa[upd]using hr
  ·rw[EC hji]at hj;simp only[upd,if_neg hji]
   have hne:u j≠some i:=fun he=>by
    have:=hcons i he;rw[Fa (by omega)]at this;cases this
   refine hkeep j _ hji hne (fun k hk hL=> ?_) (fun hL=> ?_) (hinv.2 j hj fun k hk=> ?_)
   ·obtain⟨o2,ho2,e,he,hbd,h2⟩:=Ho hw hL;rw[ho]at ho2;cases ho2
    have h3:=hall e he hbd
    have h4:listed.getD k false=true:=by
     rcases h2 with rfl|h2
     ·exact h3
     ·exact hcl.wait hb hw _ h3 h2
    have h5:=hcons k hk
    have hki:k≠i:=fun hh=>hne (hh▸hk)
    rw[EC hki,h4]at h5;cases h5
   ·have h4:=hcl.wait hb hw j hj hL;rw[JS hli]at h4;cases h4
   have h1:=hcons k hk
   by_cases hki:k=i
   ·subst hki;exact absurd hk hne
   ·rwa [EC hki]at h1
theorem Kq{id:Nat}{a:Act}{w:World}(hm:P.follows .mixedOrders=true)(R:Nat->Value->World->Prop)(u:Nat->Option Nat)(L:List (Nat×Nat))(A:(Nat->Value)->Act)(vs:Nat->Value)(ha:a=A vs)(hb:Dc .any ops=true)(hw:Mm ops L=true)
  (hstep:∀i o,ops[i]? =some o->Nu P Q ops R u L A w.drew i o) (hfin:∀vs W,Below w.drew.heap.size w.drew W->(∀i,i<ops.size->u i=none->R i (vs i) W)->Q .normal (A vs) W):(Code.region id ops true).wp P Q a w:=by
 subst ha
 have hno:∀i,(Array.replicate ops.size false).getD i false=false:=fun i=>by
  rcases Nat.lt_or_ge i ops.size with h|h
  ·simp[Array.getD,h]
  ·simp[Array.getD,Nat.not_lt.2 h]
 refine wp_region_any hm (Ky R u L A hb hw hstep hfin ops.size _ vs w.drew (by simp) (by simp) (fun j o hj=> ?_) ⟨Ad,fun i hi=> ?_⟩)
 ·rw[hno j]at hj;cases hj
 ·rw[hno i]at hi;cases hi
theorem CD{o:Oper}{R:Nat->Value->World->Prop}{u:Nat->Option Nat}{vs:Nat->Value}{W:World}{i:Nat}(hD:∀e∈o.after,Region.binds .any e=true->(u e.on=none\/u e.on=some i)->R e.on (vs e.on) W)(j:Nat)(h:(o.after.toList.any fun e=>Region.binds .any e&&e.on==j)=true)(hu:u j=none\/u j=some i):R j (vs j) W:=by
 obtain⟨e,he,h2⟩:=List.any_eq_true.1 h;simp only[Bool.and_eq_true,beq_iff_eq]at h2;obtain⟨h3,rfl⟩:=h2;exact hD e (by simpa using he) h3 hu
theorem BX{R:Nat->Value->World->Prop}{u:Nat->Option Nat}{L:List (Nat×Nat)}{w W:World}{i:Nat}{C:Value->World->Prop}(hR:∀i v W W',R i v W->Below W.heap.size W W'->R i v W')(hB:Below w.heap.size w W)
  (hK:∀v W',Below w.heap.size w W'->R i v W'->(∀j x,j≠i->u j≠some i->(∀k,u j=some k->(i,k)∉L)->(j,i)∉L->R j x W->R j x W')->C v W'):∀v W',Below W.heap.size W W'->R i v W'->C v W':=
 fun v W' hb hr=>hK v W' (hB.trans (hb.mono hB.size)) hr fun j x _ _ _ _ h=>hR j x W W' h hb
end
end Go.Proofs.YtncjeamdkjcebaaDoor
