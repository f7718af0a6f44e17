/- The law MealyRuns: its walk. -/
import Derived.Test.YtncjeamdkjcebaaDoorZMyLd
import Derived.Test.YtncjeamdkjcebaaDoorZArS
set_option linter.all false
set_option maxHeartbeats 16000000
set_option maxRecDepth 100000
namespace Go.Proofs.YtncjeamdkjcebaaDoor
open Go.RowKit
theorem KN(w:World):OI (w.alloc (.cells #[] 3)) w.heap.size (.slice (some ⟨w.heap.size,0,none⟩) 0 0) []:=
 World.ownsRow_made w #[] 0 leR (by simp[maxLen]) rfl
theorem OI.lowR{w:World}{B B':Nat}{v:Value}{l:List Int}(h:OI w B v l)(hb:B'<=B):OI w B' v l:=⟨h.1,h.2.imp_right fun⟨g0,cap,cur,e,h1,h2⟩=>⟨g0,cap,cur,e,Nat.le_trans hb h1,h2⟩⟩
theorem Ib{ops:Array Oper}{rest:List Oper}{o:Oper}{a:Act}{Q:Exit->Act->World->Prop}{w:World}(hw:Region.wanted o (yielded ops a.tmps)=true)(s x:Operand)
  (ho:o.op=.call {callee:=.builtin .append,args:=#[s,x],argTypes:=#[25,25]})
  (base:Nat) (v v2:Value) (l l2:List Int) (hs:a.eval s=v) (hown:OI w base v l) (hx:a.eval x=v2) (hsrc:Af w v2 l2)
  (hn:l.length+l2.length<=17592186043904) (hbase:base<=w.heap.size)
  (h:∀v' w',OI w' base v' (l++l2)->w.grownBy w' v.ownBlock->wpList Tryd.prog ops Q rest (a.put o.dst v') w'):wpList Tryd.prog ops Q (o::rest) a w:=by
 unfold wpList;rw[if_pos hw];exact .inl (C6 w s x ho base v v2 l l2 hs hown hx hsrc hn hbase h)
def RN7(B:Nat)(M:Value)(q:Nat)(aa ab:Option Addr)(ca cb:Nat)(a b Z:List Int)(t:Int)(ix:Nat)(u:Value)(W:World):Prop:=
 match ix with
 |0=>u=M
 |1=>u=.int .i64 (q:Int)
 |2=>OI W B u []
 |3=>u=.slice aa a.length ca
 |4=>OI W B u a
 |5=>u=.slice ab b.length cb
 |6=>OI W B u (a++b)
 |7=>∃v,u=.tuple #[v,.int .i64 t]/\Af W v Z
 |8=>∃v,u=.tuple #[v,.int .i64 t]/\Af W v Z
 |9=>Af W u Z
 |10=>u=.int .i64 t
 |11=>Af W u Z
 |12=>u=.int .i64 t
 | _=>True
theorem RN7.mono(B:Nat)(M:Value)(q:Nat)(aa ab:Option Addr)(ca cb:Nat)(a b Z:List Int)(t:Int)(ix:Nat)(u:Value)(W W':World)(h:RN7 B M q aa ab ca cb a b Z t ix u W)(hb:Below W.heap.size W W'):RN7 B M q aa ab ca cb a b Z t ix u W':=by
 unfold RN7 at*
 split at h
 ·exact h
 ·exact h
 ·exact OI.below h hb
 ·exact h
 ·exact OI.below h hb
 ·exact h
 ·exact OI.below h hb
 ·obtain⟨v,h1,h2⟩:=h;exact⟨v,h1,h2.below hb⟩
 ·obtain⟨v,h1,h2⟩:=h;exact⟨v,h1,h2.below hb⟩
 ·exact Af.below h hb
 ·exact h
 ·exact Af.below h hb
 ·exact h
 ·trivial
def Sf(i:Nat):Option Nat:=match i with|2=>some 4|4=>some 6| _=>none
theorem RN7.app{B:Nat}{M:Value}{q:Nat}{aa ab:Option Addr}{ca cb:Nat}{a b Z:List Int}{t:Int}{W W':World}(k:Nat)(x:Value)(h2:k≠2)(h4:k≠4)(h6:k≠6)(h7:k≠7)(h8:k≠8)(h9:k≠9)(h11:k≠11)(hx:RN7 B M q aa ab ca cb a b Z t k x W):RN7 B M q aa ab ca cb a b Z t k x W':=by
 unfold RN7 at*
 split at hx
 ·exact hx
 ·exact hx
 ·exact absurd rfl h2
 ·exact hx
 ·exact absurd rfl h4
 ·exact hx
 ·exact absurd rfl h6
 ·exact absurd rfl h7
 ·exact absurd rfl h8
 ·exact absurd rfl h9
 ·exact hx
 ·exact absurd rfl h11
 ·exact hx
 ·trivial
theorem Ms(hH:∀W,Bt W->Calls Tryd.prog 4 #[] W (AC (.bool true) W))(hI:∀(W:World)(va vb:Value)(a b:List Int),Af W va a->Af W vb b->Calls Tryd.prog 8 #[va,vb] W (AC (.bool (decide (a=b))) W))(w:World)(vm va vb:Value)(m:My)(f:Int)(a b:List Int)(hK:Bt w)(hm:By w vm m)(hf:0<=f/\f<=255)(ha:Af w va a)(hbi:Af w vb b):
  Calls Tryd.prog 3 #[vm,.int .u8 f,va,vb] w (AC (.bool true) w):=by
 obtain⟨aa,ca,rfl⟩:=ha.shape;obtain⟨ab,cb,rfl⟩:=hbi.shape;obtain⟨f,rfl⟩:∃n:Nat,f=(n:Int):=⟨f.toNat,by omega⟩;have HF:=Ab hf;clear hf;generalize han:a.length=an at*;generalize hbn:b.length=bn at*;have HAN:=Ab han;have HBN:=Ab hbn;clear han hbn;obtain⟨m0,m1,m2,ma,mn,mc,mb,mk,md,rfl⟩:=hm.shp9;have hB:BW w w:=Ad
 have hmx:Tryd.prog.follows .mixedOrders=true:=by kernel_rfl
 go_enter Tryd.func3,Tryd.ntmps3
 go_upto_region 1 with(fail)
 have hb:Below w.heap.size w (w.alloc (.cells #[.int .i64 m0,.int .i64 m1,.int .i64 m2,.slice ma mn mc,.slice mb mk md] 24)):=(by repeat(first|exact Ad|assumption|apply AF|apply AE));have xm:(w.alloc (.cells #[.int .i64 m0,.int .i64 m1,.int .i64 m2,.slice ma mn mc,.slice mb mk md] 24)).heap[w.heap.size]? =some (.cells #[.int .i64 m0,.int .i64 m1,.int .i64 m2,.slice ma mn mc,.slice mb mk md] 24 (0,0)):=(by(repeat(rw[Ak];first|rw[if_pos (by first|simp;done|simp;omega)]|rw[if_neg (by first|simp;done|simp;omega)]));(try rfl));generalize(w.alloc (.cells #[.int .i64 m0,.int .i64 m1,.int .i64 m2,.slice ma mn mc,.slice mb mk md] 24))=w1 at*;replace hK:=hK.below hb;replace hm:=hm.below hb;replace ha:=ha.below hb;replace hbi:=hbi.below hb;replace hB:=hB.step hb;clear hb;generalize w.heap.size=qxm at*
 go_wp2_with fail
 refine(hH _ hK).mono ?_;rintro e w2 ⟨rfl,hb⟩;replace xm:=Am hb xm;replace hK:=hK.below hb;replace hm:=hm.below hb;replace ha:=ha.below hb;replace hbi:=hbi.below hb;replace hB:=hB.step hb;clear hb;clear hK;have k0:=Aa 0 xm;have k1:=Aa 1 xm;have k2:=Aa 2 xm;have k3:=Aa 3 xm;have k4:=Aa 4 xm
 go_wp2_with fail
 clear k0 k1 k2 k3 k4;refine(Ry _ _ m 12 hm).mono ?_;rintro e w3 ⟨rfl,hb⟩;replace xm:=Am hb xm;replace hm:=hm.below hb;replace ha:=ha.below hb;replace hbi:=hbi.below hb;replace hB:=hB.step hb;clear hb
 cases hf1:PO m 12 with
 |false=>
  clear hf1
  go_wp2_with fail
  go_ret;exact⟨rfl,hB⟩
 |true=>
 clear hf1
 by_cases hla:80<an
 ·have i0:(80:Int)<(an:Int):=by omega
  have i1:decide ((80:Int)<(an:Int))=true:=decide_eq_true i0
  go_wp2_with fail
  go_ret;exact⟨rfl,hB⟩
 have ian:¬(80:Int)<(an:Int):=by omega
 have jan:decide ((80:Int)<(an:Int))=false:=decide_eq_false ian
 by_cases hlb:80<bn
 ·have i0:(80:Int)<(bn:Int):=by omega
  have i1:decide ((80:Int)<(bn:Int))=true:=decide_eq_true i0
  go_wp2_with fail
  go_ret;exact⟨rfl,hB⟩
 have ibn:¬(80:Int)<(bn:Int):=by omega
 have jbn:decide ((80:Int)<(bn:Int))=false:=decide_eq_false ibn;have k0:=Aa 0 xm;have k1:=Aa 1 xm;have k2:=Aa 2 xm;have k3:=Aa 3 xm;have k4:=Aa 4 xm
 go_wp2_with fail
 clear k0 k1 k2 k3 k4;refine(Mr _ _ m hm).mono ?_;rintro e w4 ⟨rfl,hb⟩;replace xm:=Am hb xm;replace hm:=hm.below hb;replace ha:=ha.below hb;replace hbi:=hbi.below hb;replace hB:=hB.step hb;clear hb
 cases hv:A9 m with
 |false=>
  clear hv
  go_wp2_with fail
  go_ret;exact⟨rfl,hB⟩
 |true=>
 clear ian jan ibn jbn;obtain⟨e0,-,-,e3,e4,-⟩:=hm.vals;have hV:=Ei.1 hv
 have hnl:mk=mn:=by rw[e3,e4];exact hV.nl
 have hn0:0<mn:=by
  have h1:=hV.s0;have h2:=hV.s1;omega
 subst hnl
 have hmk:mk<=1000000:=by
  have:=hV.n;omega
 have HV:=Ab hV;have HE3:=Ab e3;have HE4:=Ab e4;clear hv hV e0 e3 e4
 have d0:¬(mk:Int)=0:=by omega
 have d0b:((mk:Int)==0)=false:=beq_false_of_ne d0;have d1:IntKind.i64.wrap (f:Int)=(f:Int):=IntWalk.i64_in _ ⟨by omega,by have:=HF.out;omega⟩;have hq:f%mk<mk:=Nat.mod_lt _ hn0
 have d2:(f:Int).tmod (mk:Int)=((f%mk:Nat):Int):=by rw[Int.tmod_eq_emod_of_nonneg (by omega)];rfl
 have d2':(f:Int)%(mk:Int)=((f%mk:Nat):Int):=rfl;have d3:IntKind.i64.wrap ((f%mk:Nat):Int)=((f%mk:Nat):Int):=IntWalk.i64_in _ ⟨by omega,by omega⟩;generalize f%mk=q at*;have k0:=Aa 0 xm;have k1:=Aa 1 xm;have k2:=Aa 2 xm;have k3:=Aa 3 xm;have k4:=Aa 4 xm
 go_upto_region 5 with(fail)
 clear d0 d0b d1 d2 d2' d3 HF;obtain⟨X,r,hRA⟩:∃X r,CP m (q:Int) a=(X,r):=⟨_,_,rfl⟩;obtain⟨Y,t1,hRB⟩:∃Y s,CP m r b=(Y,s):=⟨_,_,rfl⟩;obtain⟨Z,t2,hRZ⟩:∃Z t,CP m (q:Int) (a++b)=(Z,t):=⟨_,_,rfl⟩;have hout:=OV (m:=m) (q:=q) (a:=a) (b:=b) HV.out (by rw[<-HE3.out];exact hq);have hin:=Ql (m:=m) (q:=q) (a:=a) (b:=b) HV.out (by rw[<-HE3.out];exact hq);rw[hRA]at hout hin;simp only[hRB,hRZ]at hout hin;have HOUT:=Ab hout;have HIN:=Ab hin;have HRA:=Ab hRA;have HRB:=Ab hRB;have HRZ:=Ab hRZ;clear hout hin hRA hRB hRZ
 go_wp2_with fail
 clear k0 k1 k2 k3 k4;have hq1:=LI _ _ _ m (q:Int) a hm ha (by rw[HAN.out];omega);rw[HRA.out]at hq1;refine(hq1).mono ?_;rintro e w5 ⟨v,rfl,hx,hb⟩;replace xm:=Am hb xm;replace hm:=hm.below hb;replace ha:=ha.below hb;replace hbi:=hbi.below hb;replace hB:=hB.step hb;clear hb;obtain⟨xa,xc,rfl⟩:=hx.shape;clear hq1
 go_upto_region 6 with(fail)
 have k0:=Aa 0 xm;have k1:=Aa 1 xm;have k2:=Aa 2 xm;have k3:=Aa 3 xm;have k4:=Aa 4 xm
 go_wp2_with fail
 clear k0 k1 k2 k3 k4;have hq2:=LI _ _ _ m r b hm hbi (by rw[HBN.out];omega);rw[HRB.out]at hq2;refine(hq2).mono ?_;rintro e w6 ⟨v,rfl,hy,hb⟩;replace xm:=Am hb xm;replace hm:=hm.below hb;replace ha:=ha.below hb;replace hbi:=hbi.below hb;replace hx:=hx.below hb;replace hB:=hB.step hb;clear hb;obtain⟨ya,yc,rfl⟩:=hy.shape;clear hq2
 go_upto_region 7 with(fail)
 have HD:Hid (∀W,Below w6.drew.heap.size w6.drew W->Below w6.heap.size w6 W):=fun W h=>(Below.drew Ad).trans h
 have HMM:Hid (∀W,Below w6.heap.size w6 W->By W (.agg #[.int .i64 m0,.int .i64 m1,.int .i64 m2,.slice ma mk mc,.slice mb mk md]) m):=fun W h=>hm.below h
 have HXM:Hid (∀W,Below w6.heap.size w6 W->W.heap[qxm]? =some (.cells #[.int .i64 m0,.int .i64 m1,.int .i64 m2,.slice ma mk mc,.slice mb mk md] 24 (0,0))):=fun W h=>Am h xm
 have HSA:Hid (∀W,Below w6.heap.size w6 W->Af W (.slice aa a.length ca) a):=fun W h=>by rw[HAN.out];exact ha.below h
 have HSB:Hid (∀W,Below w6.heap.size w6 W->Af W (.slice ab b.length cb) b):=fun W h=>by rw[HBN.out];exact hbi.below h
 have HRI:Hid (∀x∈a++b,I64 x):=fun x hx=>(List.mem_append.1 hx).elim (ha.2 x) (hbi.2 x)
 go_cut [15,16] (fun p p2 wx=>∃wd za zc,p=.slice za Z.length zc/\p2=.int .i64 t2/\wd=wx/\Below w6.heap.size w6 wd/\Hid (Af wd (.slice za Z.length zc) Z))
 case first=>
  refine Kq hmx (RN7 w6.drew.heap.size (.agg #[.int .i64 m0,.int .i64 m1,.int .i64 m2,.slice ma mk mc,.slice mb mk md]) q aa ab ca cb a b Z t2) Sf [(6,4),(7,4),(8,4),(9,4),(11,4),(7,6),(8,6),(9,6),(11,6)] (fun vs=>{tmps:=(_::_::_::_::_::_::_::_::_::_::_::_::_::_::_::vs 11::vs 12::_::_::_::_::_::_::_::_::_::_::_::_::_::_::_::_::_::_::_::_::_::_::_::_::_::_::_::_::_::_::_::_::_::_::_::_::_::_::_::_::_::vs 8::vs 0::vs 1::vs 2::vs 3::vs 4::vs 5::vs 6::vs 7::vs 9::vs 10::_::_::_::_::_::_::_::_::_::_::_::_::_::_::_::_::_::_::_::_::_::_::_::_::_::_::_::_::_::_::_::_::_::_::_::_::_::_::_::_::_::_::_::_::_::_::_::_::_::_::_::_::_::_::_::_::_::_::_::_::_::_::_::_::_::_::_::_::_::_::_::_::_::_::_::_::_::_::_::[]).toArray,defers:=[]}) (fun _=>undef) rfl (by kernel_rfl) (by kernel_rfl) ?step ?fin
  case step=>
   intro ix o ho
   match ix,ho with
   |0,ho=>
    obtain rfl:=osI ho;intro vs W K hB hD hK;have HK:=Ab (BX (RN7.mono w6.drew.heap.size (.agg #[.int .i64 m0,.int .i64 m1,.int .i64 m2,.slice ma mk mc,.slice mb mk md]) q aa ab ca cb a b Z t2) hB hK);have y:=HXM.out W (HD.out W hB);have k0:=Aa 0 y;have k1:=Aa 1 y;have k2:=Aa 2 y;have k3:=Aa 3 y;have k4:=Aa 4 y;clear hK hD ho;dsimp only;go_simp;have h:=HK.out _ _ Ad rfl;simp only[upd,Nat.reduceEqDiff,reduceIte]at h;exact h
   |1,ho=>
    obtain rfl:=osI ho;intro vs W K hB hD hK;have HK:=Ab (BX (RN7.mono w6.drew.heap.size (.agg #[.int .i64 m0,.int .i64 m1,.int .i64 m2,.slice ma mk mc,.slice mb mk md]) q aa ab ca cb a b Z t2) hB hK);clear hK hD ho;dsimp only;go_simp;have h:=HK.out _ _ Ad rfl;simp only[upd,Nat.reduceEqDiff,reduceIte]at h;exact h
   |2,ho=>
    obtain rfl:=osI ho;intro vs W K hB hD hK;have HK:=Ab (BX (RN7.mono w6.drew.heap.size (.agg #[.int .i64 m0,.int .i64 m1,.int .i64 m2,.slice ma mk mc,.slice mb mk md]) q aa ab ca cb a b Z t2) hB hK);clear hK hD ho;dsimp only;go_simp;have h:=HK.out _ _ (Ap _) (OI.lowR (KN W) hB.size);simp only[upd,Nat.reduceEqDiff,reduceIte]at h;exact h
   |3,ho=>
    obtain rfl:=osI ho;intro vs W K hB hD hK;have HK:=Ab (BX (RN7.mono w6.drew.heap.size (.agg #[.int .i64 m0,.int .i64 m1,.int .i64 m2,.slice ma mk mc,.slice mb mk md]) q aa ab ca cb a b Z t2) hB hK);clear hK hD ho;dsimp only;go_simp;have h:=HK.out _ _ Ad (by show _=Value.slice aa a.length ca;rw[HAN.out]);simp only[upd,Nat.reduceEqDiff,reduceIte]at h;exact h
   |4,ho=>
    obtain rfl:=osI ho;intro vs W K hB hD hK;have HK:=Ab hK;have d0:OI W w6.drew.heap.size (vs 2) []:=CD hD 2 (by rfl) (.inr rfl);have e3:vs 3=.slice aa a.length ca:=CD hD 3 (by rfl) (.inl rfl);have hsrc:=HSA.out W (HD.out W hB);clear hK hD ho;rw[if_pos (by rfl)];refine C6 W (.tmp 61) (.tmp 62) (by rfl) w6.drew.heap.size (vs 2) (.slice aa a.length ca) [] a (by rfl) d0 ((by rfl:_=vs 3).trans e3) hsrc (by simp only[List.length_nil,HAN.out,HBN.out];omega) hB.size ?_;intro v' w' hown hg;have h:=HK.out v' w' (hB.grown hg hB.size (fun g h=>d0.ge g h)) hown (fun j x h1 h2 h3 h4 hx=>RN7.app j x (fun e=>by subst e;exact h2 rfl) (fun e=>by subst e;exact h1 rfl) (fun e=>by subst e;exact h4 (by simp)) (fun e=>by subst e;exact h4 (by simp)) (fun e=>by subst e;exact h4 (by simp)) (fun e=>by subst e;exact h4 (by simp)) (fun e=>by subst e;exact h4 (by simp)) hx);simp only[upd,Nat.reduceEqDiff,reduceIte]at h;exact h
   |5,ho=>
    obtain rfl:=osI ho;intro vs W K hB hD hK;have HK:=Ab (BX (RN7.mono w6.drew.heap.size (.agg #[.int .i64 m0,.int .i64 m1,.int .i64 m2,.slice ma mk mc,.slice mb mk md]) q aa ab ca cb a b Z t2) hB hK);clear hK hD ho;dsimp only;go_simp;have h:=HK.out _ _ Ad (by show _=Value.slice ab b.length cb;rw[HBN.out]);simp only[upd,Nat.reduceEqDiff,reduceIte]at h;exact h
   |6,ho=>
    obtain rfl:=osI ho;intro vs W K hB hD hK;have HK:=Ab hK;have d0:OI W w6.drew.heap.size (vs 4) a:=CD hD 4 (by rfl) (.inr rfl);have e5:vs 5=.slice ab b.length cb:=CD hD 5 (by rfl) (.inl rfl);have hsrc:=HSB.out W (HD.out W hB);clear hK hD ho;rw[if_pos (by rfl)];refine C6 W (.tmp 63) (.tmp 64) (by rfl) w6.drew.heap.size (vs 4) (.slice ab b.length cb) a b (by rfl) d0 ((by rfl:_=vs 5).trans e5) hsrc (by simp only[List.length_nil,HAN.out,HBN.out];omega) hB.size ?_;intro v' w' hown hg;have h:=HK.out v' w' (hB.grown hg hB.size (fun g h=>d0.ge g h)) hown (fun j x h1 h2 h3 h4 hx=>RN7.app j x (fun e=>by subst e;exact h3 4 rfl (by simp)) (fun e=>by subst e;exact h2 rfl) (fun e=>by subst e;exact h1 rfl) (fun e=>by subst e;exact h4 (by simp)) (fun e=>by subst e;exact h4 (by simp)) (fun e=>by subst e;exact h4 (by simp)) (fun e=>by subst e;exact h4 (by simp)) hx);simp only[upd,Nat.reduceEqDiff,reduceIte]at h;exact h
   |7,ho=>
    obtain rfl:=osI ho;intro vs W K hB hD hK;have HK:=Ab (BX (RN7.mono w6.drew.heap.size (.agg #[.int .i64 m0,.int .i64 m1,.int .i64 m2,.slice ma mk mc,.slice mb mk md]) q aa ab ca cb a b Z t2) hB hK);have e0:vs 0=(.agg #[.int .i64 m0,.int .i64 m1,.int .i64 m2,.slice ma mk mc,.slice mb mk md]):=CD hD 0 (by rfl) (.inl rfl);have e1:vs 1=.int .i64 (q:Int):=CD hD 1 (by rfl) (.inl rfl);have d6:OI W w6.drew.heap.size (vs 6) (a++b):=CD hD 6 (by rfl) (.inl rfl);have hq3:=LI W _ _ m (q:Int) (a++b) (HMM.out W (HD.out W hB)) (d6.is (by rw[List.length_append,HAN.out,HBN.out];unfold Bg;omega) HRI.out) (by rw[List.length_append,HAN.out,HBN.out];omega);rw[HRZ.out]at hq3;have HQ3:=Ab hq3;clear hq3;clear hK hD ho;dsimp only;go_simp;refine HQ3.out.mono ?_;rintro e W' ⟨v,rfl,hz,hb⟩;have h:=HK.out _ _ hb ⟨v,rfl,hz⟩;simp only[upd,Nat.reduceEqDiff,reduceIte,e0,e1]at h;exact h
   |8,ho=>
    obtain rfl:=osI ho;intro vs W K hB hD hK;have HK:=Ab (BX (RN7.mono w6.drew.heap.size (.agg #[.int .i64 m0,.int .i64 m1,.int .i64 m2,.slice ma mk mc,.slice mb mk md]) q aa ab ca cb a b Z t2) hB hK);obtain⟨v,e7,hz⟩:∃v,vs 7=.tuple #[v,.int .i64 t2]/\Af W v Z:=CD hD 7 (by rfl) (.inl rfl);have HZ:=Ab hz;clear hz;clear hK hD ho;dsimp only;go_simp;have h:=HK.out _ _ Ad ⟨v,rfl,HZ.out⟩;simp only[upd,Nat.reduceEqDiff,reduceIte,e7]at h;exact h
   |9,ho=>
    obtain rfl:=osI ho;intro vs W K hB hD hK;have HK:=Ab (BX (RN7.mono w6.drew.heap.size (.agg #[.int .i64 m0,.int .i64 m1,.int .i64 m2,.slice ma mk mc,.slice mb mk md]) q aa ab ca cb a b Z t2) hB hK);obtain⟨v,e8,hz⟩:∃v,vs 8=.tuple #[v,.int .i64 t2]/\Af W v Z:=CD hD 8 (by rfl) (.inl rfl);have HZ:=Ab hz;clear hz;clear hK hD ho;dsimp only;go_simp;have h:=HK.out _ _ Ad HZ.out;simp only[upd,Nat.reduceEqDiff,reduceIte,e8]at h;exact h
   |10,ho=>
    obtain rfl:=osI ho;intro vs W K hB hD hK;have HK:=Ab (BX (RN7.mono w6.drew.heap.size (.agg #[.int .i64 m0,.int .i64 m1,.int .i64 m2,.slice ma mk mc,.slice mb mk md]) q aa ab ca cb a b Z t2) hB hK);obtain⟨v,e8,hz⟩:∃v,vs 8=.tuple #[v,.int .i64 t2]/\Af W v Z:=CD hD 8 (by rfl) (.inl rfl);have HZ:=Ab hz;clear hz;clear hK hD ho;dsimp only;go_simp;have h:=HK.out _ _ Ad rfl;simp only[upd,Nat.reduceEqDiff,reduceIte,e8]at h;exact h
   |11,ho=>
    obtain rfl:=osI ho;intro vs W K hB hD hK;have HK:=Ab (BX (RN7.mono w6.drew.heap.size (.agg #[.int .i64 m0,.int .i64 m1,.int .i64 m2,.slice ma mk mc,.slice mb mk md]) q aa ab ca cb a b Z t2) hB hK);have hz:Af W (vs 9) Z:=CD hD 9 (by rfl) (.inl rfl);have HZ:=Ab hz;clear hz;clear hK hD ho;dsimp only;go_simp;have h:=HK.out _ _ Ad HZ.out;simp only[upd,Nat.reduceEqDiff,reduceIte]at h;exact h
   |12,ho=>
    obtain rfl:=osI ho;intro vs W K hB hD hK;have HK:=Ab (BX (RN7.mono w6.drew.heap.size (.agg #[.int .i64 m0,.int .i64 m1,.int .i64 m2,.slice ma mk mc,.slice mb mk md]) q aa ab ca cb a b Z t2) hB hK);have e10:vs 10=.int .i64 t2:=CD hD 10 (by rfl) (.inl rfl);clear hK hD ho;dsimp only;go_simp;have h:=HK.out _ _ Ad rfl;simp only[upd,Nat.reduceEqDiff,reduceIte,e10]at h;exact h
   |n+13,ho=>exact absurd ho (by simp)
  case fin=>
   intro vs wz hB hall;have e11:Af wz (vs 11) Z:=hall 11 (by decide) rfl;have e12:vs 12=.int .i64 t2:=hall 12 (by decide) rfl;have HBZ:=Ab (HD.out wz hB);obtain⟨za,zc,e11s⟩:=e11.shape;rw[e11s]at e11;have HZ:=Ab e11;clear hall hB e11;rw[e11s,e12];clear e11s e12;generalize vs 0=q_0,vs 1=q_1,vs 2=q_2,vs 3=q_3,vs 4=q_4,vs 5=q_5,vs 6=q_6,vs 7=q_7,vs 8=q_8,vs 9=q_9,vs 10=q_10;clear vs
   go_wp2_with fail
   go_meet
   case rel=>exact⟨_,za,zc,rfl,rfl,rfl,HBZ.out,HZ⟩
 case rest=>
  obtain⟨wd,za,zc,rfl,rfl,rfl,hb,hz⟩:=hcut;replace hz:=hz.out;replace xm:=Am hb xm;replace hm:=hm.below hb;replace ha:=ha.below hb;replace hbi:=hbi.below hb;replace hx:=hx.below hb;replace hy:=hy.below hb;replace hB:=hB.step hb;clear hb HD HMM HXM HSA HSB HRI;generalize hxn:X.length=xn at*;generalize hyn:Y.length=yn at*;generalize hzn:Z.length=zn at*;have HXN:=Ab hxn;have HYN:=Ab hyn;have HZN:=Ab hzn;clear hxn hyn hzn
  by_cases hxy:xn=an/\yn=bn
  case neg=>
   have HXY:=Ab hxy;clear hxy;have hoo:=HOUT.out (by rw[HAN.out,HBN.out];exact HXY.out)
   have hz0:((zn:Int)==0)=true:=by
    have h1:Z=[]:=congrArg Prod.fst hoo.2;have h2:=HZN.out;rw[h1]at h2;have:zn=0:=h2.symm;simp[this]
   have p0:(xn:Int)*(yn:Int)=0:=by
    rcases hoo.1 with h|h
    ·rw[h];simp
    ·rw[h];simp
   have p1:IntKind.i64.wrap ((xn:Int)*(yn:Int))=0:=by rw[p0];decide
   have p2:wrap64 ((xn:Int)*(yn:Int))=0:=by unfold wrap64;rw[p0];decide
   clear hoo p0
   by_cases e1:xn=an
   ·have e2:¬yn=bn:=fun h=>HXY.out ⟨e1,h⟩
    subst e1
    have c1:((xn:Int)==(xn:Int))=true:=by simp
    have c2:((yn:Int)==(bn:Int))=false:=beq_false_of_ne (by omega)
    have c3:¬(yn:Int)=(bn:Int):=by omega
    go_wp2_with fail
    go_ret;exact⟨rfl,hB⟩
   ·have c1:((xn:Int)==(an:Int))=false:=beq_false_of_ne (by omega)
    have c3:¬(xn:Int)=(an:Int):=by omega
    go_wp2_with fail
    go_ret;exact⟨rfl,hB⟩
  obtain⟨rfl,rfl⟩:=hxy;have hRH:=HIN.out ⟨HAN.out.symm,HBN.out.symm⟩;have hXe:X=Bu m q a a.length:=(congrArg Prod.fst (HRA.out.symm.trans hRH.ra));have hre:r=(stM m q a a.length:Int):=(congrArg Prod.snd (HRA.out.symm.trans hRH.ra))
  have hRB2:CP m (CP m (q:Int) a).2 b=(Y,t1):=by rw[HRA.out];exact HRB.out
  have hYe:Y=Bu m (stM m q a a.length) b b.length:=(congrArg Prod.fst (hRB2.symm.trans hRH.rb));have ht1:t1=(stM m (stM m q a a.length) b b.length:Int):=(congrArg Prod.snd (hRB2.symm.trans hRH.rb));have hZe:Z=X++Y:=(congrArg Prod.fst (HRZ.out.symm.trans hRH.rz)).trans (by rw[hXe,hYe]);have ht2:t1=t2:=ht1.trans (congrArg Prod.snd (HRZ.out.symm.trans hRH.rz)).symm;have HZE:=Ab hZe
  have HRE:Hid (r=(stM m q a xn:Int)):=by show r=_;rw[hre,HAN.out]
  subst ht2
  have HXI:Hid (∀k,k<xn->∃c:Nat,a.getD k 0=(c:Int)/\X.getD k 0=BM m (stM m q a k) c/\c<(m.out.getD (stM m q a k) []).length/\c<(m.next.getD (stM m q a k) []).length/\nxI m (stM m q a k) c=((stM m q a (k+1):Nat):Int)/\stM m q a k<m.out.length):=fun k hk=>by
   have hk':k<a.length:=by rw[HAN.out];exact hk
   obtain⟨h1,h2⟩:=hRH.ia k hk';have h3:=hRH.st k (by omega);obtain⟨c,hc⟩:∃c:Nat,a.getD k 0=(c:Int):=⟨_,(Int.toNat_of_nonneg h1).symm⟩
   have hcm:(c:Int)<m.ins:=by omega
   have h4:=HV.out.out' h3 hcm;have h5:=HV.out.nx' h3 hcm;refine⟨c,hc, ?_,h4.1,h5.1, ?_,h3⟩
   ·rw[hXe,D1 hk',hc,Int.toNat_natCast]
   ·show _=(((nxI m (stM m q a k) (a.getD k 0).toNat).toNat:Nat):Int);rw[hc,Int.toNat_natCast];omega
  have HNL:Hid (m.next.length=m.out.length):=HV.out.nl
  have c1:((xn:Int)==(xn:Int))=true:=by simp
  have c2:((yn:Int)==(yn:Int))=true:=by simp
  clear hRH hXe hre hRB2 hYe ht1 hZe HOUT HIN HRA HRB HRZ HV;obtain⟨-,-,-,-,-,hmO,hmN⟩:=hm.vals;have HMO:=Ab hmO;have HMN:=Ab hmN;have HA:=Ab ha;have HX:=Ab hx;have HY:=Ab hy;have HZ:=Ab hz;have HXM:=Ab xm;have HBB:=Ab hB;clear hmO hmN ha hbi hx hy hz xm hB hm
  go_wp2_with fail
  clear c1 c2
  go_loopg [10,17] xn (fun gh q10 q17 wr=>∃k:Nat,gh=xn-k/\q17=.int .i64 (k:Int)/\k<=xn/\q10=.int .i64 ((stM m q a k:Nat):Int)/\Hid (Below wd.heap.size wd wr))
  case atStart=>exact⟨0,rfl,rfl,by omega,rfl,Ad⟩
  case round=>as_aux_lemma=>
   obtain⟨k,hgk,rfl,hk,rfl,HBx⟩:=hrel;have HGK:=Ab hgk;clear hgk
   by_cases hlt:k<xn
   ·have i1:(k:Int)<(xn:Int):=by omega
    have i2:decide ((k:Int)<(xn:Int))=true:=decide_eq_true i1;obtain⟨c,hc,hxo,hco,hcn,hnx,hst⟩:=HXI.out k hlt;have hmO:=HMO.out.below HBx.out;have hmN:=HMN.out.below HBx.out;have ha:=HA.out.below HBx.out;have hx:=HX.out.below HBx.out;have xm:=(HBx.out.block _ (Array.getElem?_eq_some_iff.1 HXM.out).1).trans HXM.out;obtain⟨z1,o1,rfl,u1,y1⟩:=hx.el (q:=k) (by rw[HXN.out];exact hlt);obtain⟨z2,o2,rfl,u2,y2⟩:=ha.el (q:=k) (by rw[HAN.out];exact hlt);obtain⟨z3,o3,z4,o4,n4,c4,rfl,u3,y3,u4,y4⟩:=hmO.el hst hco;obtain⟨z5,o5,z6,o6,n6,c6,rfl,u5,y5,u6,y6⟩:=hmN.el (q:=stM m q a k) (by rw[HNL.out];exact hst) hcn;rw[hxo]at y1;rw[hc]at y2;rw[show(m.out.getD (stM m q a k) []).getD c 0=BM m (stM m q a k) c from rfl]at y4;rw[show(m.next.getD (stM m q a k) []).getD c 0=nxI m (stM m q a k) c from rfl,hnx]at y6;generalize BM m (stM m q a k) c=d at*;generalize hs1:stM m q a (k+1)=s1 at*;generalize stM m q a k=s0 at*
    have v2:(s0:Int)<(mk:Int):=by omega
    have v3:(c:Int)<(n4:Int):=by omega
    have v5:(c:Int)<(n6:Int):=by omega
    have HS1:=Ab hs1;clear hs1 hmO hmN ha hx hc hxo hco hcn hnx hst u1 u2;have k0:=Aa 0 xm;have k1:=Aa 1 xm;have k2:=Aa 2 xm;have k3:=Aa 3 xm;have k4:=Aa 4 xm;clear xm;go_wp2
    go_quiet (fail)
    go_wp2
    go_quiet (fail)
    go_wp2
    go_roundg (xn-(k+1))
    case measure=>have:=HGK.out;omega
    case rel=>exact⟨k+1,rfl,by go_num,by omega,by rw[HS1.out],AE HBx.out _⟩
   ·have i1:¬(k:Int)<(xn:Int):=by omega
    have i2:decide ((k:Int)<(xn:Int))=false:=decide_eq_false i1
    obtain rfl:xn=k:=by omega
    have hx:=HX.out.below HBx.out;have hy:=HY.out.below HBx.out;have hz:=HZ.out.below HBx.out;have hB:=HBB.out.step HBx.out;have HXv:=Ab hx;have HYv:=Ab hy;have HZv:=Ab hz;have HBv:=Ab hB;have HRX:Hid (∀x∈X,I64 x):=hx.2
    have HRY:Hid (∀x∈X++Y,I64 x):=fun x h=>(List.mem_append.1 h).elim (hx.2 x) (hy.2 x)
    clear hx hy hz hB;have tok1:True:=trivial
    have r1:((t1:Int)==t1)=true:=by simp
    have r2:(((stM m q a xn:Nat):Int)==r)=true:=by rw[HRE.out];simp
    generalize stM m q a xn=s0 at*
    go_wp2_with (first
     |(at_builtin;have _t:=tok1;clear _t tok1;refine Ib (by rfl) _ _ rfl wr.heap.size _ _ [] X rfl (KN wr) rfl (HXv.out.below (Ap _)) (by simp only[List.length_nil,HXN.out];omega) (by simp) ?_;intro v4 w4 hown4 hg4;have HO4:=Ab hown4;have HB4:Hid (Below wr.heap.size wr w4):=(Ap _).grown hg4 (by simp) (fun g h=>(KN wr).ge g h);clear hown4 hg4)
     |(at_builtin;refine Ib (by rfl) _ _ rfl wr.heap.size _ _ X Y rfl HO4.out rfl (HYv.out.below HB4.out) (by simp only[HXN.out,HYN.out];omega) HB4.out.size ?_;intro v5 w5 hown5 hg5;have HO5:=Ab hown5;have HB5:Hid (Below wr.heap.size wr w5):=HB4.out.grown hg5 HB4.out.size (fun g h=>HO4.out.ge g h);clear hown5 hg5))
    have hin:Af w5 v5 (X++Y):=HO5.out.is (by rw[List.length_append,HXN.out,HYN.out];unfold Bg;omega) HRY.out;refine(hI w5 _ _ (X++Y) Z hin (HZv.out.below HB5.out)).mono ?_;rintro e w6 ⟨rfl,hb⟩;have h6:decide (X++Y=Z)=true:=decide_eq_true HZE.out.symm;rw[h6];have HB6:Hid (BW w w6):=(HBv.out.step HB5.out).step hb;clear hin h6 hb
    go_wp2_with fail
    go_ret;exact⟨rfl,HB6.out⟩
end Go.Proofs.YtncjeamdkjcebaaDoor
