/- What the reference's ValidEnv, sameRows and. -/
import Derived.Test.YtncjeamdkjcebaaGreatDoorYMyV2
import Derived.Test.YtncjeamdkjcebaaGreatDoorYAr4
set_option linter.all false
set_option maxHeartbeats 8000000
set_option maxRecDepth 100000
namespace Go.Proofs.YtncjeamdkjcebaaGreatDoor
open Go.RowKit
def RVe(z k n3 b4 o4 c4 l2 e2:Nat)(a2:Option Addr)(mo:Int)(r2:Bool)(ix:Nat)(u:Value)(_:World):Prop:=
 match ix with
 |0=>u=.pointer (some ⟨z,4,none⟩)
 |1=>u=.slice (some ⟨b4,o4,none⟩) n3 c4
 |2=>u=.int .i64 (k:Int)
 |3=>u=.pointer (some ⟨b4,o4+k,none⟩)
 |4=>u=.slice a2 l2 e2
 |5=>u=.pointer (some ⟨z,1,none⟩)
 |6=>u=.int .i64 mo
 |7=>u=.int .i64 (n3:Int)
 |8|9=>u=.bool r2
 | _=>True
def RSr(k n b3 o3 b4 o4 c3 c4 l1 l2 e1 e2:Nat)(a1 a2:Option Addr)(r:Bool)(ix:Nat)(u:Value)(_:World):Prop:=
 match ix with
 |0=>u=.slice (some ⟨b3,o3,none⟩) n c3
 |1|5=>u=.int .i64 (k:Int)
 |2=>u=.pointer (some ⟨b3,o3+k,none⟩)
 |3=>u=.slice a1 l1 e1
 |4=>u=.slice (some ⟨b4,o4,none⟩) n c4
 |6=>u=.pointer (some ⟨b4,o4+k,none⟩)
 |7=>u=.slice a2 l2 e2
 |8=>u=.bool r
 |9=>u=.bool (!r)
 | _=>True
theorem Jz(w:World)(v:Value)(m:Mo)(hm:Dy w v m):Calls Tryz.prog 21 #[v] w (Av (.bool (Bw m)) w):=by
 have al:Tryz.prog.follows .mixedOrders=true:=by kernel_rfl
 obtain⟨v3,v4,rfl,hI,h3,h4⟩:=hm;obtain⟨a3,c3,rfl⟩:=h3.shape;obtain⟨a4,c4,rfl⟩:=h4.shape;obtain⟨b3,o3,d3,m3,f3⟩:=h3.data;obtain⟨b4,o4,d4,m4,f4⟩:=h4.dat2;have b:=Ab f3;have c:=Ab f4;have H3:=Ab h3;clear f3 f4 h3 h4;have HI:Hid (Bw m=true↔MoV m):=Fc
 have a:Hid (¬MoV m->Bw m=false):=fun h=>by
  cases hb:Bw m with
  |false=>rfl
  |true=>exact absurd (HI.out.1 hb) h
 by_cases g0:1<=m.ins
 case neg=>
  have HR:=Ab (a.out fun h=>by exact g0 h.i1)
  replace g0:m.ins<1:=by omega
  clear HI a b c H3;generalize Bw m=R at*;generalize m.inn.length=n3 at*;generalize m.next.length=n4 at*;generalize m.ins=mi at*;generalize m.outs=mo at*;generalize m.start=ms at*
  go_enter Tryz.func21,Tryz.ntmps21
  go_upto_region 1 with(fail)
  obtain⟨hx,-,hB⟩:=Aw (w0:=w) Ad leR #[.int .i64 mi,.int .i64 mo,.int .i64 ms,.slice a3 n3 c3,.slice a4 n4 c4] 28;generalize w.alloc (.cells #[.int .i64 mi,.int .i64 mo,.int .i64 ms,.slice a3 n3 c3,.slice a4 n4 c4] 28)=w1 at*;have k0:=Aa 0 hx;have k1:=Aa 1 hx;have k2:=Aa 2 hx;have k3:=Aa 3 hx;have k4:=Aa 4 hx
  go_wp2_with fail
  go_ret;exact⟨Aq HR.out,hB⟩
 have am:¬m.ins<1:=by omega
 by_cases g1:m.ins<=64
 case neg=>
  have HR:=Ab (a.out fun h=>by exact g1 h.i2)
  replace g1:64<m.ins:=by omega
  clear HI a b c H3;generalize Bw m=R at*;generalize m.inn.length=n3 at*;generalize m.next.length=n4 at*;generalize m.ins=mi at*;generalize m.outs=mo at*;generalize m.start=ms at*
  go_enter Tryz.func21,Tryz.ntmps21
  go_upto_region 1 with(fail)
  obtain⟨hx,-,hB⟩:=Aw (w0:=w) Ad leR #[.int .i64 mi,.int .i64 mo,.int .i64 ms,.slice a3 n3 c3,.slice a4 n4 c4] 28;generalize w.alloc (.cells #[.int .i64 mi,.int .i64 mo,.int .i64 ms,.slice a3 n3 c3,.slice a4 n4 c4] 28)=w1 at*;have k0:=Aa 0 hx;have k1:=Aa 1 hx;have k2:=Aa 2 hx;have k3:=Aa 3 hx;have k4:=Aa 4 hx
  go_wp2_with fail
  go_ret;exact⟨Aq HR.out,hB⟩
 have an:¬64<m.ins:=by omega
 by_cases g2:1<=m.outs
 case neg=>
  have HR:=Ab (a.out fun h=>by exact g2 h.o1)
  replace g2:m.outs<1:=by omega
  clear HI a b c H3;generalize Bw m=R at*;generalize m.inn.length=n3 at*;generalize m.next.length=n4 at*;generalize m.ins=mi at*;generalize m.outs=mo at*;generalize m.start=ms at*
  go_enter Tryz.func21,Tryz.ntmps21
  go_upto_region 1 with(fail)
  obtain⟨hx,-,hB⟩:=Aw (w0:=w) Ad leR #[.int .i64 mi,.int .i64 mo,.int .i64 ms,.slice a3 n3 c3,.slice a4 n4 c4] 28;generalize w.alloc (.cells #[.int .i64 mi,.int .i64 mo,.int .i64 ms,.slice a3 n3 c3,.slice a4 n4 c4] 28)=w1 at*;have k0:=Aa 0 hx;have k1:=Aa 1 hx;have k2:=Aa 2 hx;have k3:=Aa 3 hx;have k4:=Aa 4 hx
  go_wp2_with fail
  go_ret;exact⟨Aq HR.out,hB⟩
 have ao:¬m.outs<1:=by omega
 by_cases g3:m.outs<=64
 case neg=>
  have HR:=Ab (a.out fun h=>by exact g3 h.o2)
  replace g3:64<m.outs:=by omega
  clear HI a b c H3;generalize Bw m=R at*;generalize m.inn.length=n3 at*;generalize m.next.length=n4 at*;generalize m.ins=mi at*;generalize m.outs=mo at*;generalize m.start=ms at*
  go_enter Tryz.func21,Tryz.ntmps21
  go_upto_region 1 with(fail)
  obtain⟨hx,-,hB⟩:=Aw (w0:=w) Ad leR #[.int .i64 mi,.int .i64 mo,.int .i64 ms,.slice a3 n3 c3,.slice a4 n4 c4] 28;generalize w.alloc (.cells #[.int .i64 mi,.int .i64 mo,.int .i64 ms,.slice a3 n3 c3,.slice a4 n4 c4] 28)=w1 at*;have k0:=Aa 0 hx;have k1:=Aa 1 hx;have k2:=Aa 2 hx;have k3:=Aa 3 hx;have k4:=Aa 4 hx
  go_wp2_with fail
  go_ret;exact⟨Aq HR.out,hB⟩
 have ap:¬64<m.outs:=by omega
 by_cases g4:1<=m.next.length
 case neg=>
  have HR:=Ab (a.out fun h=>by have:=h.s1;have:=h.s0;have:=h.nl;omega)
  have aa:(m.next.length:Int)<1:=by omega
  clear HI a b c H3;generalize Bw m=R at*;generalize m.inn.length=n3 at*;generalize m.next.length=n4 at*;generalize m.ins=mi at*;generalize m.outs=mo at*;generalize m.start=ms at*
  go_enter Tryz.func21,Tryz.ntmps21
  go_upto_region 1 with(fail)
  obtain⟨hx,-,hB⟩:=Aw (w0:=w) Ad leR #[.int .i64 mi,.int .i64 mo,.int .i64 ms,.slice a3 n3 c3,.slice a4 n4 c4] 28;generalize w.alloc (.cells #[.int .i64 mi,.int .i64 mo,.int .i64 ms,.slice a3 n3 c3,.slice a4 n4 c4] 28)=w1 at*;have k0:=Aa 0 hx;have k1:=Aa 1 hx;have k2:=Aa 2 hx;have k3:=Aa 3 hx;have k4:=Aa 4 hx
  go_wp2_with fail
  go_ret;exact⟨Aq HR.out,hB⟩
 by_cases g5:m.next.length<=3000
 case neg=>
  have HR:=Ab (a.out fun h=>by have:=h.n;have:=h.nl;omega)
  have aj:3000<(m.next.length:Int):=by omega
  have aa:¬(m.next.length:Int)<1:=by omega
  clear HI a b c H3;generalize Bw m=R at*;generalize m.inn.length=n3 at*;generalize m.next.length=n4 at*;generalize m.ins=mi at*;generalize m.outs=mo at*;generalize m.start=ms at*
  go_enter Tryz.func21,Tryz.ntmps21
  go_upto_region 1 with(fail)
  obtain⟨hx,-,hB⟩:=Aw (w0:=w) Ad leR #[.int .i64 mi,.int .i64 mo,.int .i64 ms,.slice a3 n3 c3,.slice a4 n4 c4] 28;generalize w.alloc (.cells #[.int .i64 mi,.int .i64 mo,.int .i64 ms,.slice a3 n3 c3,.slice a4 n4 c4] 28)=w1 at*;have k0:=Aa 0 hx;have k1:=Aa 1 hx;have k2:=Aa 2 hx;have k3:=Aa 3 hx;have k4:=Aa 4 hx
  go_wp2_with fail
  go_ret;exact⟨Aq HR.out,hB⟩
 have aa:¬(m.next.length:Int)<1:=by omega
 have aj:¬3000<(m.next.length:Int):=by omega
 by_cases g7:0<=m.start/\m.start<m.next.length
 case neg=>
  have HR:=Ab (a.out fun h=>g7 ⟨h.s0,by have:=h.s1;have:=h.nl;omega⟩)
  have hd:(decide (0<=m.start)&&decide (m.start<(m.next.length:Int)))=false:=by rw[Bool.and_eq_false_iff,decide_eq_false_iff_not,decide_eq_false_iff_not];omega
  clear HI a b c H3 g7;generalize Bw m=R at*;generalize m.inn.length=n3 at*;generalize m.next.length=n4 at*;generalize m.ins=mi at*;generalize m.outs=mo at*;generalize m.start=ms at*
  go_enter Tryz.func21,Tryz.ntmps21
  go_upto_region 1 with(fail)
  obtain⟨hx,-,hB⟩:=Aw (w0:=w) Ad leR #[.int .i64 mi,.int .i64 mo,.int .i64 ms,.slice a3 n3 c3,.slice a4 n4 c4] 28;generalize w.alloc (.cells #[.int .i64 mi,.int .i64 mo,.int .i64 ms,.slice a3 n3 c3,.slice a4 n4 c4] 28)=w1 at*;have k0:=Aa 0 hx;have k1:=Aa 1 hx;have k2:=Aa 2 hx;have k3:=Aa 3 hx;have k4:=Aa 4 hx
  go_wp2_with fail
  refine(DI _ ms n4).mono ?_;rintro e w' ⟨rfl,rfl⟩;rw[hd]
  go_wp2_with fail
  go_ret;exact⟨Aq HR.out,hB⟩
 have hd:(decide (0<=m.start)&&decide (m.start<(m.next.length:Int)))=true:=by simp[g7.1,g7.2]
 have HV:Hid (BG m.next.length m.ins m.inn=true->(∀i,i<m.next.length->BG m.outs m.next.length (m.next.getD i [])=true)->Bw m=true):=fun h1 h=>by
  have h2:=BA.1 h1
  have hl:m.next.length=m.inn.length:=by omega
  exact HI.out.2 ⟨by omega,by omega,by omega,by omega,by omega,g7.1,by omega,hl,h2.2,fun i hi=>by rw[<-hl];exact BA.1 (h i (by omega))⟩
 have u:Hid (∀i,i<m.next.length->¬BG m.outs m.next.length (m.next.getD i [])=true->Bw m=false):=fun i hi hno=>by
  refine a.out fun h=>hno (BA.2 ?_)
  have hl:=h.nl;rw[hl];exact h.nxt i (by omega)
 have j:Hid (BG m.next.length m.ins m.inn=false->Bw m=false):=fun hno=>by
  refine a.out fun h=> ?_
  have:=BA.2 (⟨by rw[h.nl],h.inn⟩:(m.inn.length:Int)=(m.next.length:Int)/\_);rw[hno]at this;exact absurd this (by decide)
 have x:Hid (∀W,Below w.heap.size w W->Calls Tryz.prog 55 #[.slice a3 m.inn.length c3,.int .i64 (m.next.length:Int),.int .i64 m.ins] W (Av (.bool (BG m.next.length m.ins m.inn)) W)):=fun W hb=>N6 W _ _ _ _ (H3.out.below hb)
 clear HI a H3 g7 b;generalize Bw m=R at*;generalize BG m.next.length m.ins m.inn=r1 at*;generalize m.inn.length=n3 at*;generalize m.next.length=n4 at*;generalize m.ins=mi at*;generalize m.outs=mo at*;generalize m.start=ms at*
 go_enter Tryz.func21,Tryz.ntmps21
 go_upto_region 1 with(fail)
 obtain⟨hx,-,hB⟩:=Aw (w0:=w) Ad leR #[.int .i64 mi,.int .i64 mo,.int .i64 ms,.slice a3 n3 c3,.slice a4 n4 c4] 28;generalize w.alloc (.cells #[.int .i64 mi,.int .i64 mo,.int .i64 ms,.slice a3 n3 c3,.slice a4 n4 c4] 28)=w1 at*;have k0:=Aa 0 hx;have k1:=Aa 1 hx;have k2:=Aa 2 hx;have k3:=Aa 3 hx;have k4:=Aa 4 hx
 go_wp2_with fail
 refine(DI _ ms n4).mono ?_;rintro e w' ⟨rfl,rfl⟩;rw[hd]
 go_wp2_with fail
 refine(x.out _ hB).mono ?_;rintro e w2 ⟨rfl,hb⟩;replace hx:=B8 hb hx;replace hB:=hB.trans (hb.mono hB.size);clear hb hd k0 k1 k2 k3 k4 x g0 g1 g2 g3 g4 g5
 cases r1 with
 |false=>
  have HR:=Ab (j.out rfl)
  go_wp2_with fail
  go_ret;exact⟨Aq HR.out,hB⟩
 |true=>
 have ai:=Ab (HV.out rfl);clear HV j;have HX:=Ab hx;have f:=Ab hB;clear hx hB
 go_wp2_with fail
 go_loopg [4] n4 (fun gh i wr=>∃k:Nat,gh=n4-k/\i=.int .i64 (k:Int)/\k<=n4/\Hid (∀i,i<k->BG mo n4 (m.next.getD i [])=true)/\Hid (Below w2.heap.size w2 wr))
 case atStart=>exact⟨0,rfl,rfl,by omega,fun i hi=>absurd hi (by omega),Ad⟩
 case round=>
  obtain⟨k,ab,rfl,hk,HA,HB⟩:=hrel;have ah:=Ab ab;clear ab
  by_cases hlt:k<n4
  ·obtain rfl:=d4 (by omega)
   have aq:(0:Int)<=(k:Int):=by omega
   have ak:(k:Int)<(n4:Int):=by omega
   obtain⟨a2,e2,l,ac⟩:=c.out k hlt;have r:=Ab (f.out.trans (HB.out.mono f.out.size));replace l:=Ag r.out l;have q:=(HB.out.block _ (Array.getElem?_eq_some_iff.1 HX.out).1).trans HX.out;have q1:=Aa 1 q;have q4:=Aa 4 q
   have d:Hid (∀W,Below wr.drew.heap.size wr.drew W->Below wr.heap.size wr W):=fun W h=>(Below.drew (B:=wr.heap.size) Ad).trans h
   have z:Hid (∀W,Below wr.drew.heap.size wr.drew W->Calls Tryz.prog 55 #[.slice a2 (m.next.getD k []).length e2,.int .i64 mo,.int .i64 (n4:Int)] W (Av (.bool (BG mo n4 (m.next.getD k []))) W)):=fun W h=>N6 W _ _ _ _ (ac.below (r.out.trans ((d.out W h).mono r.out.size)))
   have ag:=Ab (u.out k hlt)
   have ae:Hid (BG mo n4 (m.next.getD k [])=true->∀i,i<k+1->BG mo n4 (m.next.getD i [])=true):=fun h i hi=>by
    rcases Nat.lt_or_ge i k with h1|h1
    ·exact HA.out i h1
    ·obtain rfl:i=k:=by omega
     exact h
   clear ac q;generalize BG mo n4 (m.next.getD k [])=r2 at*;generalize(m.next.getD k []).length=l2 at*
   have y:Hid (∀W,Below wr.drew.heap.size wr.drew W->W.cell? ⟨w.heap.size,1,none⟩=some (.int .i64 mo)/\W.cell? ⟨w.heap.size,4,none⟩=some (.slice (some ⟨b4,o4,none⟩) n4 c4)/\W.cell? ⟨b4,o4+k,none⟩=some (.slice a2 l2 e2)):=fun W h=>⟨Ag (d.out W h) q1,Ag (d.out W h) q4,Ag (d.out W h) l⟩
   clear q1 q4 l
   go_upto_region 7 with(fail)
   refine Be al (RVe w.heap.size k n4 b4 o4 c4 l2 e2 a2 mo r2) (fun vs=>{tmps:=(_::_::_::_::_::vs 9::_::_::_::_::_::_::_::_::_::_::_::_::_::_::_::_::_::_::_::_::_::_::_::_::_::_::_::_::_::_::_::_::_::_::_::_::_::_::_::_::_::_::_::_::_::_::_::_::_::_::vs 0::vs 1::vs 2::vs 3::vs 4::vs 5::vs 6::vs 7::vs 8::_::_::[]).toArray,defers:=_}) (fun n=>[u56,u57,u58,u59,u60,u61,u62,u63,u64,u5].getD n undef) rfl (by kernel_rfl) (fun _ _ _ _ h _=>h) ?step ?fin
   case step=>
    intro ix o ho
    match ix,ho with
    |0,ho|2,ho|3,ho|5,ho|7,ho|9,ho=>
     obtain rfl:=osI ho;intro vs W K hB hD hK;have HK:=Ab hK
     try have e1:vs 1=.slice (some ⟨b4,o4,none⟩) n4 c4:=Ac hD 1 rfl
     try have e2:vs 2=.int .i64 (k:Int):=Ac hD 2 rfl
     try have e8:vs 8=.bool r2:=Ac hD 8 rfl
     clear hK hD ho;dsimp only;go_simp;have h:=HK.out _ _ Ad rfl;simp only[upd,Nat.reduceEqDiff,reduceIte, *]at h;exact h
    |1,ho|4,ho|6,ho=>
     obtain rfl:=osI ho;intro vs W K hB hD hK;have HK:=Ab hK
     try have e0:vs 0=.pointer (some ⟨w.heap.size,4,none⟩):=Ac hD 0 rfl
     try have e3:vs 3=.pointer (some ⟨b4,o4+k,none⟩):=Ac hD 3 rfl
     try have e5:vs 5=.pointer (some ⟨w.heap.size,1,none⟩):=Ac hD 5 rfl
     obtain⟨d0,d1,d2⟩:=y.out W hB;clear hK hD ho;dsimp only;go_simp;have h:=HK.out _ _ Ad rfl;simp only[upd,Nat.reduceEqDiff,reduceIte, *]at h;exact h
    |8,ho=>
     obtain rfl:=osI ho;intro vs W K hB hD hK;have HK:=Ab hK;have e4:vs 4=.slice a2 l2 e2:=Ac hD 4 rfl;have e6:vs 6=.int .i64 mo:=Ac hD 6 rfl;have e7:vs 7=.int .i64 (n4:Int):=Ac hD 7 rfl;clear hK hD ho;dsimp only;go_simp;refine(z.out W hB).mono ?_;rintro e W' ⟨rfl,hb⟩;have h:=HK.out _ _ hb rfl;simp only[upd,Nat.reduceEqDiff,reduceIte,e4,e6,e7]at h;exact h
    |q+10,ho=>exact absurd ho (by simp)
   case fin=>
    intro vs wz hB p;have el:vs 9=.bool r2:=p 9 (by decide);have s:=Ab (d.out wz hB);clear p hB d y z;rw[el];clear el;generalize vs 0=ar,vs 1=au,vs 2=av,vs 3=aw,vs 4=ax,vs 5=ay,vs 6=az,vs 7=a0,vs 8=a1;clear vs
    cases r2 with
    |false=>
     have HR:=Ab (ag.out (by decide));go_wp2;go_ret;exact⟨Aq HR.out,f.out.trans ((HB.out.trans (s.out.mono HB.out.size)).mono f.out.size)⟩
    |true=>
     have ad:=Ab (ae.out rfl);have af:=Ab (HB.out.trans (s.out.mono HB.out.size));go_wp2
     go_roundg (n4-(k+1))
     case measure=>have:=ah.out;omega
     case rel=>exact⟨k+1,rfl,by go_num,by omega,ad,af⟩
  ·have ak:¬(k:Int)<(n4:Int):=by omega
   have HR:=Ab (ai.out fun i hi=>HA.out i (by omega));go_wp2;go_ret;exact⟨Du HR.out,f.out.trans (HB.out.mono f.out.size)⟩
theorem Sv{a b:List (List Int)}(hl:a.length=b.length)(h:∀i,i<a.length->a.getD i []=b.getD i []):a=b:=by
 apply List.ext_getElem hl
 intro i h1 h2;have:=h i h1
 rwa [Ae _ _ _ h1,Ae _ _ _ h2]at this
theorem Jl(w:World)(va vb:Value)(a b:List (List Int))(ha:Ar w va a)(hb:Ar w vb b):Calls Tryz.prog 53 #[va,vb] w (Av (.bool (decide (a=b))) w):=by
 have ah:Tryz.prog.follows .mixedOrders=true:=by kernel_rfl
 obtain⟨a3,c3,rfl⟩:=ha.shape;obtain⟨a4,c4,rfl⟩:=hb.shape;obtain⟨b3,o3,d3,m3,f3⟩:=ha.dat2;obtain⟨b4,o4,d4,m4,f4⟩:=hb.dat2;have v:=Ab f3;have x:=Ab f4;clear f3 f4 ha hb
 by_cases hn:a.length=b.length
 case neg=>
  have HR:Hid (decide (a=b)=false):=decide_eq_false fun h=>hn (by rw[h])
  have tn:((a.length:Int) !=(b.length:Int))=true:=by simp;omega
  clear v x hn;generalize decide (a=b)=R at*;generalize a.length=n3 at*;generalize b.length=n4 at*
  go_enter Tryz.func53,Tryz.ntmps53
  go_wp2;go_ret;exact⟨Aq HR.out,(by repeat(first|exact Ad|assumption|apply AE|apply AB))⟩
 have z:Hid ((∀i,i<a.length->a.getD i []=b.getD i [])->decide (a=b)=true):=fun h=>decide_eq_true (Sv hn h)
 have p:Hid (∀i,i<a.length->a.getD i []≠b.getD i []->decide (a=b)=false):=fun i _ h=>decide_eq_false fun e=>h (by rw[e])
 have tn:((a.length:Int) !=(b.length:Int))=false:=by simp;omega
 generalize decide (a=b)=R at*;generalize a.length=n at*;generalize b.length=n4 at*;subst hn
 go_enter Tryz.func53,Tryz.ntmps53
 go_wp2_with fail
 go_loopg [5] n (fun gh i wr=>∃k:Nat,gh=n-k/\i=.int .i64 (k:Int)/\k<=n/\Hid (∀i,i<k->a.getD i []=b.getD i [])/\Hid (Below w.heap.size w wr))
 case atStart=>exact⟨0,rfl,rfl,by omega,fun i hi=>absurd hi (by omega),Ad⟩
 case round=>
  obtain⟨k,aa,rfl,hk,HA,HB⟩:=hrel;have af:=Ab aa;clear aa
  by_cases hlt:k<n
  ·obtain rfl:=d3 (by omega);obtain rfl:=d4 (by omega)
   have ai:(0:Int)<=(k:Int):=by omega
   have ag:(k:Int)<(n:Int):=by omega
   obtain⟨a1,e1,c1,ab⟩:=v.out k hlt;obtain⟨a2,e2,c2,ac⟩:=x.out k hlt;replace c1:=Ag HB.out c1;replace c2:=Ag HB.out c2
   have c:Hid (∀W,Below wr.drew.heap.size wr.drew W->Below wr.heap.size wr W):=fun W h=>(Below.drew (B:=wr.heap.size) Ad).trans h
   have y:Hid (∀W,Below wr.drew.heap.size wr.drew W->Calls Tryz.prog 16 #[.slice a1 (a.getD k []).length e1,.slice a2 (b.getD k []).length e2] W (Av (.bool (decide (a.getD k []=b.getD k []))) W)):=fun W h=>(Kl W _ _ _ _ (ab.below (HB.out.trans ((c.out W h).mono HB.out.size))) (ac.below (HB.out.trans ((c.out W h).mono HB.out.size)))).mono fun _ _ h=>h.calm
   have s:=Ab (p.out k hlt)
   have j:Hid (a.getD k []=b.getD k []->∀i,i<k+1->a.getD i []=b.getD i []):=fun h i hi=>by
    rcases Nat.lt_or_ge i k with h1|h1
    ·exact HA.out i h1
    ·obtain rfl:i=k:=by omega
     exact h
   have u:Hid (decide (a.getD k []=b.getD k [])=false->R=false):=fun h=>s.out (of_decide_eq_false h)
   have l:Hid (decide (a.getD k []=b.getD k [])=true->∀i,i<k+1->a.getD i []=b.getD i []):=fun h=>j.out (of_decide_eq_true h)
   clear ab ac s j;generalize decide (a.getD k []=b.getD k [])=r at*;generalize(a.getD k []).length=l1 at*;generalize(b.getD k []).length=l2 at*
   have f:Hid (∀W,Below wr.drew.heap.size wr.drew W->W.cell? ⟨b3,o3+k,none⟩=some (.slice a1 l1 e1)/\W.cell? ⟨b4,o4+k,none⟩=some (.slice a2 l2 e2)):=fun W h=>⟨Ag (c.out W h) c1,Ag (c.out W h) c2⟩
   clear c1 c2
   go_upto_region 6 with(fail)
   refine Be ah (RSr k n b3 o3 b4 o4 c3 c4 l1 l2 e1 e2 a1 a2 r) (fun vs=>{tmps:=(_::_::_::_::_::_::_::_::_::_::_::_::_::_::_::_::_::vs 0::vs 1::vs 2::vs 3::vs 4::vs 5::vs 6::vs 7::vs 8::vs 9::[]).toArray,defers:=_}) (fun n=>[u17,u18,u19,u20,u21,u22,u23,u24,u25,u26].getD n undef) rfl (by kernel_rfl) (fun _ _ _ _ h _=>h) ?step ?fin
   case step=>
    intro ix o ho
    match ix,ho with
    |0,ho|1,ho|2,ho|4,ho|5,ho|6,ho|9,ho=>
     obtain rfl:=osI ho;intro vs W K hB hD hK;have HK:=Ab hK
     try have e0:vs 0=.slice (some ⟨b3,o3,none⟩) n c3:=Ac hD 0 rfl
     try have e1:vs 1=.int .i64 (k:Int):=Ac hD 1 rfl
     try have e4:vs 4=.slice (some ⟨b4,o4,none⟩) n c4:=Ac hD 4 rfl
     try have e5:vs 5=.int .i64 (k:Int):=Ac hD 5 rfl
     try have e8:vs 8=.bool r:=Ac hD 8 rfl
     clear hK hD ho;dsimp only;go_simp;have h:=HK.out _ _ Ad rfl;simp only[upd,Nat.reduceEqDiff,reduceIte, *]at h;exact h
    |3,ho=>
     obtain rfl:=osI ho;intro vs W K hB hD hK;have HK:=Ab hK;have e2:vs 2=.pointer (some ⟨b3,o3+k,none⟩):=Ac hD 2 rfl;have q:=(f.out W hB).1;clear hK hD ho;dsimp only;go_simp;have h:=HK.out _ _ Ad rfl;simp only[upd,Nat.reduceEqDiff,reduceIte,e2]at h;exact h
    |7,ho=>
     obtain rfl:=osI ho;intro vs W K hB hD hK;have HK:=Ab hK;have e6:vs 6=.pointer (some ⟨b4,o4+k,none⟩):=Ac hD 6 rfl;have q:=(f.out W hB).2;clear hK hD ho;dsimp only;go_simp;have h:=HK.out _ _ Ad rfl;simp only[upd,Nat.reduceEqDiff,reduceIte,e6]at h;exact h
    |8,ho=>
     obtain rfl:=osI ho;intro vs W K hB hD hK;have HK:=Ab hK;have e3:vs 3=.slice a1 l1 e1:=Ac hD 3 rfl;have e7:vs 7=.slice a2 l2 e2:=Ac hD 7 rfl;clear hK hD ho;dsimp only;go_simp;refine(y.out W hB).mono ?_;rintro e W' ⟨rfl,hb⟩;have h:=HK.out _ _ hb rfl;simp only[upd,Nat.reduceEqDiff,reduceIte,e3,e7]at h;exact h
    |q+10,ho=>exact absurd ho (by simp)
   case fin=>
    intro vs wz hB d;have el:vs 9=.bool (!r):=d 9 (by decide);have m:=Ab (c.out wz hB);clear d hB c f y;rw[el];clear el;generalize vs 0=aj,vs 1=ak,vs 2=al,vs 3=am,vs 4=an,vs 5=ao,vs 6=ap,vs 7=aq,vs 8=ar;clear vs
    cases r with
    |false=>
     have HR:=Ab (u.out rfl);go_wp2;go_ret;exact⟨Aq HR.out,HB.out.trans (m.out.mono HB.out.size)⟩
    |true=>
     have ad:=Ab (l.out rfl);have ae:=Ab (HB.out.trans (m.out.mono HB.out.size));go_wp2
     go_roundg (n-(k+1))
     case measure=>have:=af.out;omega
     case rel=>exact⟨k+1,rfl,by go_num,by omega,ad,ae⟩
  ·have ag:¬(k:Int)<(n:Int):=by omega
   have HR:=Ab (z.out fun i hi=>HA.out i (by omega));go_wp2;go_ret;exact⟨Du HR.out,HB.out⟩
theorem Nt(w:World)(va vb:Value)(a b:My)(ha:BB w va a)(hb:BB w vb b):Calls Tryz.prog 17 #[va,vb] w (Av (.bool (decide (a=b))) w):=by
 obtain⟨u3,u4,rfl,hI,h3,h4⟩:=ha;obtain⟨v3,v4,rfl,m,f,i⟩:=hb;obtain⟨ai,ao,az,aa,an⟩:=a;obtain⟨bi,bo,bs,ba,bn⟩:=b;dsimp only at*;obtain⟨p3,c3,rfl⟩:=h3.shape;obtain⟨p4,c4,rfl⟩:=h4.shape;obtain⟨q3,e3,rfl⟩:=f.shape;obtain⟨q4,e4,rfl⟩:=i.shape
 have j:Hid (∀W,Below w.heap.size w W->Calls Tryz.prog 53 #[.slice p3 aa.length c3,.slice q3 ba.length e3] W (Av (.bool (decide (aa=ba))) W)):=fun W h=>Jl W _ _ _ _ (h3.below h) (f.below h)
 have k:Hid (∀W,Below w.heap.size w W->Calls Tryz.prog 53 #[.slice p4 an.length c4,.slice q4 bn.length e4] W (Av (.bool (decide (an=bn))) W)):=fun W h=>Jl W _ _ _ _ (h4.below h) (i.below h)
 have HV:Hid (decide ((⟨ai,ao,az,aa,an⟩:My)=⟨bi,bo,bs,ba,bn⟩)=((ai==bi)&&(ao==bo)&&(az==bs)&&decide (aa=ba)&&decide (an=bn))):=by
  show _=_;rw[Bool.eq_iff_iff];simp[and_assoc]
 clear h3 h4 f i hI m;generalize decide ((⟨ai,ao,az,aa,an⟩:My)=⟨bi,bo,bs,ba,bn⟩)=R at*;generalize decide (aa=ba)=R1 at*;generalize decide (an=bn)=R2 at*;generalize aa.length=n3 at*;generalize an.length=n4 at*;generalize ba.length=m3 at*;generalize bn.length=m4 at*
 go_enter Tryz.func17,Tryz.ntmps17
 go_upto_region 1 with(fail)
 obtain⟨hx,-,hB⟩:=Aw (w0:=w) Ad leR #[.int .i64 ai,.int .i64 ao,.int .i64 az,.slice p3 n3 c3,.slice p4 n4 c4] 25
 have hs:(w.alloc (.cells #[.int .i64 ai,.int .i64 ao,.int .i64 az,.slice p3 n3 c3,.slice p4 n4 c4] 25)).heap.size=w.heap.size+1:=by simp
 generalize w.alloc (.cells #[.int .i64 ai,.int .i64 ao,.int .i64 az,.slice p3 n3 c3,.slice p4 n4 c4] 25)=w1 at*;obtain⟨hy,l,c⟩:=Aw hB hB.size #[.int .i64 bi,.int .i64 bo,.int .i64 bs,.slice q3 m3 e3,.slice q4 m4 e4] 25;replace hx:=B8 l hx;generalize w1.alloc (.cells #[.int .i64 bi,.int .i64 bo,.int .i64 bs,.slice q3 m3 e3,.slice q4 m4 e4] 25)=w2 at*;rw[hs]at hy;clear hB l hs;have k0:=Aa 0 hx;have j0:=Aa 0 hy;have k1:=Aa 1 hx;have j1:=Aa 1 hy;have k2:=Aa 2 hx;have j2:=Aa 2 hy;have k3:=Aa 3 hx;have j3:=Aa 3 hy;have k4:=Aa 4 hx;have j4:=Aa 4 hy
 cases t0:(ai==bi)with
 |false=>
  have HR:Hid (R=false):=by show _=_;have:=HV.out;rw[t0]at this;simpa using this
  clear HV
  go_wp2_with fail
  go_ret;exact⟨Aq HR.out,c⟩
 |true=>
 cases t1:(ao==bo)with
 |false=>
  have HR:Hid (R=false):=by show _=_;have:=HV.out;rw[t1]at this;simpa using this
  clear HV
  go_wp2_with fail
  go_ret;exact⟨Aq HR.out,c⟩
 |true=>
 cases t2:(az==bs)with
 |false=>
  have HR:Hid (R=false):=by show _=_;have:=HV.out;rw[t2]at this;simpa using this
  clear HV
  go_wp2_with fail
  go_ret;exact⟨Aq HR.out,c⟩
 |true=>
 have d:Hid (R=(R1&&R2)):=by show _=_;have:=HV.out;rw[t0,t1,t2]at this;simpa using this
 clear HV
 go_wp2_with fail
 refine(j.out _ c).mono ?_;rintro e w3 ⟨rfl,hb⟩;replace hx:=B8 hb hx;replace hy:=B8 hb hy;replace c:=c.trans (hb.mono c.size);clear hb k0 k1 k2 k3 k4 j0 j1 j2 j3 j4;have k4:=Aa 4 hx;have j4:=Aa 4 hy
 cases R1 with
 |false=>
  have HR:Hid (R=false):=d.out
  go_wp2_with fail
  go_ret;exact⟨Aq HR.out,c⟩
 |true=>
  have HR:Hid (R=R2):=by show _=_;have:=d.out;simpa using this
  clear d
  go_wp2_with fail
  refine(k.out _ c).mono ?_;rintro e w4 ⟨rfl,hb⟩;replace c:=c.trans (hb.mono c.size);clear hb k4 j4 j k
  go_wp2_with fail
  go_ret;exact⟨Ak (by rw[HR.out]),c⟩
def BH(l:List Sig)(m:My):Bool:=As l&&A5 m&&decide (m.ins=Al l)&&decide (m.outs=Ai l)
def F7(l:List Sig)(m:Mo):Bool:=As l&&Bw m&&decide (m.ins=Al l)&&decide (m.outs=Ai l)
theorem Kv(a b:Int):(a==b)=decide (a=b):=by by_cases h:a=b<;>simp[h]
theorem AD.shape{w:World}{v:Value}{l:List Sig}(h:AD w v l):∃a c,v=.slice a l.length c:=by
 obtain⟨ao,d,b,e,rfl,-⟩:=h;exact⟨_,_,rfl⟩
theorem Qg{R R1 R2:Bool}{mi mo oi oo:Int}(h:R=(R1&&R2&&decide (mi=oi)&&decide (mo=oo))):
  ∃b1 b2:Bool,Hid ((R1=false/\b1=false/\b2=false/\R=false)\/(R1=true/\R2=false/\b1=false/\b2=false/\R=false)\/(R1=true/\R2=true/\b1=true/\(mi==oi)=false/\b2=false/\R=false)\/(R1=true/\R2=true/\b1=true/\(mi==oi)=true/\b2=true/\R=(mo==oo))):=by
 cases R1
 ·exact⟨false,false,.inl ⟨rfl,rfl,rfl,by simpa using h⟩⟩
 cases R2
 ·exact⟨false,false,.inr (.inl ⟨rfl,rfl,rfl,rfl,by simpa using h⟩)⟩
 cases e:mi==oi
 ·exact⟨true,false,.inr (.inr (.inl ⟨rfl,rfl,rfl,rfl,rfl,by rw[h,<-Kv mi oi,e];rfl⟩))⟩
 ·exact⟨true,true,.inr (.inr (.inr ⟨rfl,rfl,rfl,rfl,rfl,by rw[h,<-Kv mi oi,<-Kv mo oo,e];rfl⟩))⟩
def vft(b0 b1 b2:Bool)(z n cs:Nat)(sa:Option Addr)(G:Value)(mi mo oi oo:Int)(R:Bool)(ix:Nat):Value:=
 match ix with
 |0=>.slice sa n cs
 |1|2=>.bool b0
 |3=>cond b0 G undef
 |4=>cond b0 (.bool b1) undef
 |5|6=>.bool b1
 |7=>cond b1 (.pointer (some ⟨z,0,none⟩)) undef
 |8=>cond b1 (.int .i64 mi) undef
 |9=>cond b1 (.slice sa n cs) undef
 |10=>cond b1 (.int .i64 oi) undef
 |11=>cond b1 (.bool b2) undef
 |12|13=>.bool b2
 |14=>cond b2 (.pointer (some ⟨z,1,none⟩)) undef
 |15=>cond b2 (.int .i64 mo) undef
 |16=>cond b2 (.slice sa n cs) undef
 |17=>cond b2 (.int .i64 oo) undef
 |18=>cond b2 (.bool R) undef
 | _=>.bool R
def Rft(b0 b1 b2:Bool)(z n cs:Nat)(sa:Option Addr)(G:Value)(mi mo oi oo:Int)(R:Bool)(ix:Nat)(u:Value)(_:World):Prop:=u=vft b0 b1 b2 z n cs sa G mi mo oi oo R ix
theorem KA(w:World)(vl vm:Value)(l:List Sig)(m:My)(hK:B7 w)(hl:AD w vl l)(hm:BB w vm m):Calls Tryz.prog 47 #[vl,vm] w (Av (.bool (BH l m)) w):=by
 have ae:Tryz.prog.follows .mixedOrders=true:=by kernel_rfl
 have x:Hid (∀W,Below w.heap.size w W->Calls Tryz.prog 41 #[vl] W (Av (.bool (As l)) W)):=fun W h=>(CC W _ _ (hK.below h) (hl.below h)).mono fun _ _ h=>h.calm
 have r:Hid (∀W,Below w.heap.size w W->Calls Tryz.prog 18 #[vm] W (Av (.bool (A5 m)) W)):=fun W h=>Fn W _ _ (hm.below h)
 have k:Hid (∀W,Below w.heap.size w W->Calls Tryz.prog 78 #[vl] W (Av (.int .i64 (Al l)) W)):=fun W h=>Eb W _ _ (hK.below h) (hl.below h)
 have u:Hid (∀W,Below w.heap.size w W->Calls Tryz.prog 79 #[vl] W (Av (.int .i64 (Ai l)) W)):=fun W h=>Dg W _ _ (hK.below h) (hl.below h)
 have HV:Hid (BH l m=(As l&&A5 m&&decide (m.ins=Al l)&&decide (m.outs=Ai l))):=rfl;obtain⟨sa,cs,rfl⟩:=hl.shape;obtain⟨v3,v4,rfl,hI,h3,h4⟩:=hm;obtain⟨a3,c3,rfl⟩:=h3.shape;obtain⟨a4,c4,rfl⟩:=h4.shape;clear h3 h4 hl hK;generalize BH l m=R at*;generalize As l=R1 at*;generalize A5 m=R2 at*;generalize m.out.length=n3 at*;generalize m.next.length=n4 at*;generalize m.ins=mi at*;generalize m.outs=mo at*;generalize m.start=ms at*;generalize Al l=oi at*;generalize Ai l=oo at*;generalize l.length=n at*
 go_enter Tryz.func47,Tryz.ntmps47
 go_upto_region 1 with(fail)
 obtain⟨hx,-,hB⟩:=Aw (w0:=w) Ad leR #[.int .i64 mi,.int .i64 mo,.int .i64 ms,.slice a3 n3 c3,.slice a4 n4 c4] 25;generalize w.alloc (.cells #[.int .i64 mi,.int .i64 mo,.int .i64 ms,.slice a3 n3 c3,.slice a4 n4 c4] 25)=w1 at*;have k0:=Aa 0 hx;have k1:=Aa 1 hx;have k2:=Aa 2 hx;have k3:=Aa 3 hx;have k4:=Aa 4 hx
 have a:Hid (∀W,Below w1.drew.heap.size w1.drew W->Below w1.heap.size w1 W):=fun W h=>(Below.drew (B:=w1.heap.size) Ad).trans h
 have HX:=Ab hx;have b:=Ab hB
 have y:Hid (∀W,Below w1.heap.size w1 W->Calls Tryz.prog 41 #[.slice sa n cs] W (Av (.bool R1) W)):=fun W h=>x.out W (b.out.trans (h.mono b.out.size))
 have s:Hid (∀W,Below w1.heap.size w1 W->Calls Tryz.prog 18 #[.agg #[.int .i64 mi,.int .i64 mo,.int .i64 ms,.slice a3 n3 c3,.slice a4 n4 c4]] W (Av (.bool R2) W)):=fun W h=>r.out W (b.out.trans (h.mono b.out.size))
 have p:Hid (∀W,Below w1.heap.size w1 W->Calls Tryz.prog 78 #[.slice sa n cs] W (Av (.int .i64 oi) W)):=fun W h=>k.out W (b.out.trans (h.mono b.out.size))
 have v:Hid (∀W,Below w1.heap.size w1 W->Calls Tryz.prog 79 #[.slice sa n cs] W (Av (.int .i64 oo) W)):=fun W h=>u.out W (b.out.trans (h.mono b.out.size))
 have j:Hid (∀W,Below w1.drew.heap.size w1.drew W->W.cell? ⟨w.heap.size,0,none⟩=some (.int .i64 mi)/\W.cell? ⟨w.heap.size,1,none⟩=some (.int .i64 mo)/\W.cell? ⟨w.heap.size,2,none⟩=some (.int .i64 ms)/\W.cell? ⟨w.heap.size,3,none⟩=some (.slice a3 n3 c3)/\W.cell? ⟨w.heap.size,4,none⟩=some (.slice a4 n4 c4)):=fun W h=>⟨Ag (a.out W h) k0,Ag (a.out W h) k1,Ag (a.out W h) k2,Ag (a.out W h) k3,Ag (a.out W h) k4⟩
 clear k0 k1 k2 k3 k4 hx hB x r k u;obtain⟨b1,b2,d⟩:=Qg HV.out;clear HV;refine Be ae (Rft R1 b1 b2 w.heap.size n cs sa (.agg #[.int .i64 mi,.int .i64 mo,.int .i64 ms,.slice a3 n3 c3,.slice a4 n4 c4]) mi mo oi oo R) (fun vs=>{tmps:=(_::_::_::_::vs 20::vs 0::vs 1::vs 2::vs 3::vs 4::vs 5::vs 6::vs 7::vs 8::vs 9::vs 10::vs 11::vs 12::vs 13::vs 14::vs 15::vs 16::vs 17::vs 18::vs 19::[]).toArray,defers:=_}) (fun n=>[undef,undef,undef,undef,undef,undef,undef,undef,undef,undef,undef,undef,undef,undef,undef,undef,undef,undef,undef,undef,.bool false].getD n undef) rfl (by kernel_rfl) (fun _ _ _ _ h _=>h) ?step ?fin
 case step=>
  intro ix o ho
  rcases d.out with⟨rfl,rfl,rfl,rfl⟩|⟨rfl,rfl,rfl,rfl,rfl⟩|⟨rfl,rfl,rfl,ti,rfl,rfl⟩|⟨rfl,rfl,rfl,ti,rfl,rfl⟩
  all_goals
   match ix,ho with
   |0,ho|2,ho|3,ho|5,ho|6,ho|7,ho|8,ho|9,ho|11,ho|12,ho|13,ho|14,ho|15,ho|16,ho|18,ho|19,ho|20,ho=>
    obtain rfl:=osI ho;intro vs W K hB hD hK;have HK:=Ab hK
    try have e0:vs 0=.slice sa n cs:=Ac hD 0 rfl
    try have e1:vs 1=.bool false:=Ac hD 1 rfl
    try have e1:vs 1=.bool true:=Ac hD 1 rfl
    try have e2:vs 2=.bool false:=Ac hD 2 rfl
    try have e2:vs 2=.bool true:=Ac hD 2 rfl
    try have e3:vs 3=.agg #[.int .i64 mi,.int .i64 mo,.int .i64 ms,.slice a3 n3 c3,.slice a4 n4 c4]:=Ac hD 3 rfl
    try have e4:vs 4=.bool false:=Ac hD 4 rfl
    try have e4:vs 4=.bool true:=Ac hD 4 rfl
    try have e5:vs 5=.bool false:=Ac hD 5 rfl
    try have e5:vs 5=.bool true:=Ac hD 5 rfl
    try have e6:vs 6=.bool false:=Ac hD 6 rfl
    try have e6:vs 6=.bool true:=Ac hD 6 rfl
    try have e7:vs 7=.pointer (some ⟨w.heap.size,0,none⟩):=Ac hD 7 rfl
    try have e8:vs 8=.int .i64 mi:=Ac hD 8 rfl
    try have e9:vs 9=.slice sa n cs:=Ac hD 9 rfl
    try have af:vs 10=.int .i64 oi:=Ac hD 10 rfl
    try have aa:vs 11=.bool false:=Ac hD 11 rfl
    try have aa:vs 11=.bool true:=Ac hD 11 rfl
    try have ab:vs 12=.bool false:=Ac hD 12 rfl
    try have ab:vs 12=.bool true:=Ac hD 12 rfl
    try have i:vs 13=.bool false:=Ac hD 13 rfl
    try have i:vs 13=.bool true:=Ac hD 13 rfl
    try have ag:vs 14=.pointer (some ⟨w.heap.size,1,none⟩):=Ac hD 14 rfl
    try have ah:vs 15=.int .i64 mo:=Ac hD 15 rfl
    try have ac:vs 16=.slice sa n cs:=Ac hD 16 rfl
    try have ai:vs 17=.int .i64 oo:=Ac hD 17 rfl
    try have aj:vs 18=.bool (mo==oo):=Ac hD 18 rfl
    try have ad:vs 19=.bool (mo==oo):=Ac hD 19 rfl
    try have ad:vs 19=.bool false:=Ac hD 19 rfl
    obtain⟨d0,d1,d2,d3,d4⟩:=j.out W hB;clear hK hD ho d;dsimp only;go_simp;have h:=HK.out _ _ Ad rfl;simp only[upd,Nat.reduceEqDiff,reduceIte,vft,cond_true,cond_false, *]at h;exact h
   |1,ho=>
    obtain rfl:=osI ho;intro vs W K hB hD hK;have HK:=Ab hK
    try have e0:vs 0=.slice sa n cs:=Ac hD 0 rfl
    have c:=Ab (a.out W hB);clear hK hD ho d;dsimp only;go_simp
    first
    |refine(y.out W c.out).mono ?_
     rintro e W' ⟨rfl,hb⟩;have h:=HK.out _ _ hb rfl;simp only[upd,Nat.reduceEqDiff,reduceIte,vft,cond_true,cond_false, *]at h;exact h
    |have h:=HK.out _ _ Ad rfl
     simp only[upd,Nat.reduceEqDiff,reduceIte,vft,cond_true,cond_false, *]at h;exact h
   |4,ho=>
    obtain rfl:=osI ho;intro vs W K hB hD hK;have HK:=Ab hK
    try have e2:vs 2=.bool false:=Ac hD 2 rfl
    try have e2:vs 2=.bool true:=Ac hD 2 rfl
    try have e3:vs 3=.agg #[.int .i64 mi,.int .i64 mo,.int .i64 ms,.slice a3 n3 c3,.slice a4 n4 c4]:=Ac hD 3 rfl
    have c:=Ab (a.out W hB);clear hK hD ho d;dsimp only;go_simp
    first
    |refine(s.out W c.out).mono ?_
     rintro e W' ⟨rfl,hb⟩;have h:=HK.out _ _ hb rfl;simp only[upd,Nat.reduceEqDiff,reduceIte,vft,cond_true,cond_false, *]at h;exact h
    |have h:=HK.out _ _ Ad rfl
     simp only[upd,Nat.reduceEqDiff,reduceIte,vft,cond_true,cond_false, *]at h;exact h
   |10,ho=>
    obtain rfl:=osI ho;intro vs W K hB hD hK;have HK:=Ab hK
    try have e6:vs 6=.bool false:=Ac hD 6 rfl
    try have e6:vs 6=.bool true:=Ac hD 6 rfl
    try have e9:vs 9=.slice sa n cs:=Ac hD 9 rfl
    have c:=Ab (a.out W hB);clear hK hD ho d;dsimp only;go_simp
    first
    |refine(p.out W c.out).mono ?_
     rintro e W' ⟨rfl,hb⟩;have h:=HK.out _ _ hb rfl;simp only[upd,Nat.reduceEqDiff,reduceIte,vft,cond_true,cond_false, *]at h;exact h
    |have h:=HK.out _ _ Ad rfl
     simp only[upd,Nat.reduceEqDiff,reduceIte,vft,cond_true,cond_false, *]at h;exact h
   |17,ho=>
    obtain rfl:=osI ho;intro vs W K hB hD hK;have HK:=Ab hK
    try have i:vs 13=.bool false:=Ac hD 13 rfl
    try have i:vs 13=.bool true:=Ac hD 13 rfl
    try have ac:vs 16=.slice sa n cs:=Ac hD 16 rfl
    have c:=Ab (a.out W hB);clear hK hD ho d;dsimp only;go_simp
    first
    |refine(v.out W c.out).mono ?_
     rintro e W' ⟨rfl,hb⟩;have h:=HK.out _ _ hb rfl;simp only[upd,Nat.reduceEqDiff,reduceIte,vft,cond_true,cond_false, *]at h;exact h
    |have h:=HK.out _ _ Ad rfl
     simp only[upd,Nat.reduceEqDiff,reduceIte,vft,cond_true,cond_false, *]at h;exact h
   |q+21,ho=>exact absurd ho (by simp)
 case fin=>
  intro vs wz hB f;have el:vs 20=.bool R:=f 20 (by decide);have z:=Ab (a.out wz hB);clear f hB a j y s p v d;rw[el];clear el;generalize vs 0=z0,vs 1=z1,vs 2=z2,vs 3=z3,vs 4=z4,vs 5=z5,vs 6=z6,vs 7=z7,vs 8=z8,vs 9=z9,vs 10=ak,vs 11=al,vs 12=am,vs 13=an,vs 14=ao,vs 15=ap,vs 16=aq,vs 17=ar,vs 18=au,vs 19=av;clear vs;go_wp2;go_ret;exact⟨rfl,b.out.trans (z.out.mono b.out.size)⟩
theorem GJ(w:World)(vl vm:Value)(l:List Sig)(m:My)(hl:AD w vl l)(hm:BB w vm m):Calls Tryz.prog 27 #[vl,vm] w (Av (.bool (BH l m)) w):=by
 have ae:Tryz.prog.follows .mixedOrders=true:=by kernel_rfl
 have x:Hid (∀W,Below w.heap.size w W->Calls Tryz.prog 63 #[vl] W (Av (.bool (As l)) W)):=fun W h=>DB W _ _ (hl.below h)
 have r:Hid (∀W,Below w.heap.size w W->Calls Tryz.prog 19 #[vm] W (Av (.bool (A5 m)) W)):=fun W h=>Hj W _ _ (hm.below h)
 have k:Hid (∀W,Below w.heap.size w W->Calls Tryz.prog 64 #[vl] W (Av (.int .i64 (Al l)) W)):=fun W h=>FH W _ _ (hl.below h)
 have u:Hid (∀W,Below w.heap.size w W->Calls Tryz.prog 65 #[vl] W (Av (.int .i64 (Ai l)) W)):=fun W h=>E2 W _ _ (hl.below h)
 have HV:Hid (BH l m=(As l&&A5 m&&decide (m.ins=Al l)&&decide (m.outs=Ai l))):=rfl;obtain⟨sa,cs,rfl⟩:=hl.shape;obtain⟨v3,v4,rfl,hI,h3,h4⟩:=hm;obtain⟨a3,c3,rfl⟩:=h3.shape;obtain⟨a4,c4,rfl⟩:=h4.shape;clear h3 h4 hl;generalize BH l m=R at*;generalize As l=R1 at*;generalize A5 m=R2 at*;generalize m.out.length=n3 at*;generalize m.next.length=n4 at*;generalize m.ins=mi at*;generalize m.outs=mo at*;generalize m.start=ms at*;generalize Al l=oi at*;generalize Ai l=oo at*;generalize l.length=n at*
 go_enter Tryz.func27,Tryz.ntmps27
 go_upto_region 1 with(fail)
 obtain⟨hx,-,hB⟩:=Aw (w0:=w) Ad leR #[.int .i64 mi,.int .i64 mo,.int .i64 ms,.slice a3 n3 c3,.slice a4 n4 c4] 25;generalize w.alloc (.cells #[.int .i64 mi,.int .i64 mo,.int .i64 ms,.slice a3 n3 c3,.slice a4 n4 c4] 25)=w1 at*;have k0:=Aa 0 hx;have k1:=Aa 1 hx;have k2:=Aa 2 hx;have k3:=Aa 3 hx;have k4:=Aa 4 hx
 have a:Hid (∀W,Below w1.drew.heap.size w1.drew W->Below w1.heap.size w1 W):=fun W h=>(Below.drew (B:=w1.heap.size) Ad).trans h
 have HX:=Ab hx;have b:=Ab hB
 have y:Hid (∀W,Below w1.heap.size w1 W->Calls Tryz.prog 63 #[.slice sa n cs] W (Av (.bool R1) W)):=fun W h=>x.out W (b.out.trans (h.mono b.out.size))
 have s:Hid (∀W,Below w1.heap.size w1 W->Calls Tryz.prog 19 #[.agg #[.int .i64 mi,.int .i64 mo,.int .i64 ms,.slice a3 n3 c3,.slice a4 n4 c4]] W (Av (.bool R2) W)):=fun W h=>r.out W (b.out.trans (h.mono b.out.size))
 have p:Hid (∀W,Below w1.heap.size w1 W->Calls Tryz.prog 64 #[.slice sa n cs] W (Av (.int .i64 oi) W)):=fun W h=>k.out W (b.out.trans (h.mono b.out.size))
 have v:Hid (∀W,Below w1.heap.size w1 W->Calls Tryz.prog 65 #[.slice sa n cs] W (Av (.int .i64 oo) W)):=fun W h=>u.out W (b.out.trans (h.mono b.out.size))
 have j:Hid (∀W,Below w1.drew.heap.size w1.drew W->W.cell? ⟨w.heap.size,0,none⟩=some (.int .i64 mi)/\W.cell? ⟨w.heap.size,1,none⟩=some (.int .i64 mo)/\W.cell? ⟨w.heap.size,2,none⟩=some (.int .i64 ms)/\W.cell? ⟨w.heap.size,3,none⟩=some (.slice a3 n3 c3)/\W.cell? ⟨w.heap.size,4,none⟩=some (.slice a4 n4 c4)):=fun W h=>⟨Ag (a.out W h) k0,Ag (a.out W h) k1,Ag (a.out W h) k2,Ag (a.out W h) k3,Ag (a.out W h) k4⟩
 clear k0 k1 k2 k3 k4 hx hB x r k u;obtain⟨b1,b2,d⟩:=Qg HV.out;clear HV;refine Be ae (Rft R1 b1 b2 w.heap.size n cs sa (.agg #[.int .i64 mi,.int .i64 mo,.int .i64 ms,.slice a3 n3 c3,.slice a4 n4 c4]) mi mo oi oo R) (fun vs=>{tmps:=(_::_::_::_::vs 20::vs 0::vs 1::vs 2::vs 3::vs 4::vs 5::vs 6::vs 7::vs 8::vs 9::vs 10::vs 11::vs 12::vs 13::vs 14::vs 15::vs 16::vs 17::vs 18::vs 19::[]).toArray,defers:=_}) (fun n=>[undef,undef,undef,undef,undef,undef,undef,undef,undef,undef,undef,undef,undef,undef,undef,undef,undef,undef,undef,undef,.bool false].getD n undef) rfl (by kernel_rfl) (fun _ _ _ _ h _=>h) ?step ?fin
 case step=>
  intro ix o ho
  rcases d.out with⟨rfl,rfl,rfl,rfl⟩|⟨rfl,rfl,rfl,rfl,rfl⟩|⟨rfl,rfl,rfl,ti,rfl,rfl⟩|⟨rfl,rfl,rfl,ti,rfl,rfl⟩
  all_goals
   match ix,ho with
   |0,ho|2,ho|3,ho|5,ho|6,ho|7,ho|8,ho|9,ho|11,ho|12,ho|13,ho|14,ho|15,ho|16,ho|18,ho|19,ho|20,ho=>
    obtain rfl:=osI ho;intro vs W K hB hD hK;have HK:=Ab hK
    try have e0:vs 0=.slice sa n cs:=Ac hD 0 rfl
    try have e1:vs 1=.bool false:=Ac hD 1 rfl
    try have e1:vs 1=.bool true:=Ac hD 1 rfl
    try have e2:vs 2=.bool false:=Ac hD 2 rfl
    try have e2:vs 2=.bool true:=Ac hD 2 rfl
    try have e3:vs 3=.agg #[.int .i64 mi,.int .i64 mo,.int .i64 ms,.slice a3 n3 c3,.slice a4 n4 c4]:=Ac hD 3 rfl
    try have e4:vs 4=.bool false:=Ac hD 4 rfl
    try have e4:vs 4=.bool true:=Ac hD 4 rfl
    try have e5:vs 5=.bool false:=Ac hD 5 rfl
    try have e5:vs 5=.bool true:=Ac hD 5 rfl
    try have e6:vs 6=.bool false:=Ac hD 6 rfl
    try have e6:vs 6=.bool true:=Ac hD 6 rfl
    try have e7:vs 7=.pointer (some ⟨w.heap.size,0,none⟩):=Ac hD 7 rfl
    try have e8:vs 8=.int .i64 mi:=Ac hD 8 rfl
    try have e9:vs 9=.slice sa n cs:=Ac hD 9 rfl
    try have af:vs 10=.int .i64 oi:=Ac hD 10 rfl
    try have aa:vs 11=.bool false:=Ac hD 11 rfl
    try have aa:vs 11=.bool true:=Ac hD 11 rfl
    try have ab:vs 12=.bool false:=Ac hD 12 rfl
    try have ab:vs 12=.bool true:=Ac hD 12 rfl
    try have i:vs 13=.bool false:=Ac hD 13 rfl
    try have i:vs 13=.bool true:=Ac hD 13 rfl
    try have ag:vs 14=.pointer (some ⟨w.heap.size,1,none⟩):=Ac hD 14 rfl
    try have ah:vs 15=.int .i64 mo:=Ac hD 15 rfl
    try have ac:vs 16=.slice sa n cs:=Ac hD 16 rfl
    try have ai:vs 17=.int .i64 oo:=Ac hD 17 rfl
    try have aj:vs 18=.bool (mo==oo):=Ac hD 18 rfl
    try have ad:vs 19=.bool (mo==oo):=Ac hD 19 rfl
    try have ad:vs 19=.bool false:=Ac hD 19 rfl
    obtain⟨d0,d1,d2,d3,d4⟩:=j.out W hB;clear hK hD ho d;dsimp only;go_simp;have h:=HK.out _ _ Ad rfl;simp only[upd,Nat.reduceEqDiff,reduceIte,vft,cond_true,cond_false, *]at h;exact h
   |1,ho=>
    obtain rfl:=osI ho;intro vs W K hB hD hK;have HK:=Ab hK
    try have e0:vs 0=.slice sa n cs:=Ac hD 0 rfl
    have c:=Ab (a.out W hB);clear hK hD ho d;dsimp only;go_simp
    first
    |refine(y.out W c.out).mono ?_
     rintro e W' ⟨rfl,hb⟩;have h:=HK.out _ _ hb rfl;simp only[upd,Nat.reduceEqDiff,reduceIte,vft,cond_true,cond_false, *]at h;exact h
    |have h:=HK.out _ _ Ad rfl
     simp only[upd,Nat.reduceEqDiff,reduceIte,vft,cond_true,cond_false, *]at h;exact h
   |4,ho=>
    obtain rfl:=osI ho;intro vs W K hB hD hK;have HK:=Ab hK
    try have e2:vs 2=.bool false:=Ac hD 2 rfl
    try have e2:vs 2=.bool true:=Ac hD 2 rfl
    try have e3:vs 3=.agg #[.int .i64 mi,.int .i64 mo,.int .i64 ms,.slice a3 n3 c3,.slice a4 n4 c4]:=Ac hD 3 rfl
    have c:=Ab (a.out W hB);clear hK hD ho d;dsimp only;go_simp
    first
    |refine(s.out W c.out).mono ?_
     rintro e W' ⟨rfl,hb⟩;have h:=HK.out _ _ hb rfl;simp only[upd,Nat.reduceEqDiff,reduceIte,vft,cond_true,cond_false, *]at h;exact h
    |have h:=HK.out _ _ Ad rfl
     simp only[upd,Nat.reduceEqDiff,reduceIte,vft,cond_true,cond_false, *]at h;exact h
   |10,ho=>
    obtain rfl:=osI ho;intro vs W K hB hD hK;have HK:=Ab hK
    try have e6:vs 6=.bool false:=Ac hD 6 rfl
    try have e6:vs 6=.bool true:=Ac hD 6 rfl
    try have e9:vs 9=.slice sa n cs:=Ac hD 9 rfl
    have c:=Ab (a.out W hB);clear hK hD ho d;dsimp only;go_simp
    first
    |refine(p.out W c.out).mono ?_
     rintro e W' ⟨rfl,hb⟩;have h:=HK.out _ _ hb rfl;simp only[upd,Nat.reduceEqDiff,reduceIte,vft,cond_true,cond_false, *]at h;exact h
    |have h:=HK.out _ _ Ad rfl
     simp only[upd,Nat.reduceEqDiff,reduceIte,vft,cond_true,cond_false, *]at h;exact h
   |17,ho=>
    obtain rfl:=osI ho;intro vs W K hB hD hK;have HK:=Ab hK
    try have i:vs 13=.bool false:=Ac hD 13 rfl
    try have i:vs 13=.bool true:=Ac hD 13 rfl
    try have ac:vs 16=.slice sa n cs:=Ac hD 16 rfl
    have c:=Ab (a.out W hB);clear hK hD ho d;dsimp only;go_simp
    first
    |refine(v.out W c.out).mono ?_
     rintro e W' ⟨rfl,hb⟩;have h:=HK.out _ _ hb rfl;simp only[upd,Nat.reduceEqDiff,reduceIte,vft,cond_true,cond_false, *]at h;exact h
    |have h:=HK.out _ _ Ad rfl
     simp only[upd,Nat.reduceEqDiff,reduceIte,vft,cond_true,cond_false, *]at h;exact h
   |q+21,ho=>exact absurd ho (by simp)
 case fin=>
  intro vs wz hB f;have el:vs 20=.bool R:=f 20 (by decide);have z:=Ab (a.out wz hB);clear f hB a j y s p v d;rw[el];clear el;generalize vs 0=z0,vs 1=z1,vs 2=z2,vs 3=z3,vs 4=z4,vs 5=z5,vs 6=z6,vs 7=z7,vs 8=z8,vs 9=z9,vs 10=ak,vs 11=al,vs 12=am,vs 13=an,vs 14=ao,vs 15=ap,vs 16=aq,vs 17=ar,vs 18=au,vs 19=av;clear vs;go_wp2;go_ret;exact⟨rfl,b.out.trans (z.out.mono b.out.size)⟩
theorem PB(w:World)(vl vm:Value)(l:List Sig)(m:Mo)(hl:AD w vl l)(hm:Dy w vm m):Calls Tryz.prog 31 #[vl,vm] w (Av (.bool (F7 l m)) w):=by
 have ae:Tryz.prog.follows .mixedOrders=true:=by kernel_rfl
 have x:Hid (∀W,Below w.heap.size w W->Calls Tryz.prog 63 #[vl] W (Av (.bool (As l)) W)):=fun W h=>DB W _ _ (hl.below h)
 have r:Hid (∀W,Below w.heap.size w W->Calls Tryz.prog 21 #[vm] W (Av (.bool (Bw m)) W)):=fun W h=>Jz W _ _ (hm.below h)
 have k:Hid (∀W,Below w.heap.size w W->Calls Tryz.prog 64 #[vl] W (Av (.int .i64 (Al l)) W)):=fun W h=>FH W _ _ (hl.below h)
 have u:Hid (∀W,Below w.heap.size w W->Calls Tryz.prog 65 #[vl] W (Av (.int .i64 (Ai l)) W)):=fun W h=>E2 W _ _ (hl.below h)
 have HV:Hid (F7 l m=(As l&&Bw m&&decide (m.ins=Al l)&&decide (m.outs=Ai l))):=rfl;obtain⟨sa,cs,rfl⟩:=hl.shape;obtain⟨v3,v4,rfl,hI,h3,h4⟩:=hm;obtain⟨a3,c3,rfl⟩:=h3.shape;obtain⟨a4,c4,rfl⟩:=h4.shape;clear h3 h4 hl;generalize F7 l m=R at*;generalize As l=R1 at*;generalize Bw m=R2 at*;generalize m.inn.length=n3 at*;generalize m.next.length=n4 at*;generalize m.ins=mi at*;generalize m.outs=mo at*;generalize m.start=ms at*;generalize Al l=oi at*;generalize Ai l=oo at*;generalize l.length=n at*
 go_enter Tryz.func31,Tryz.ntmps31
 go_upto_region 1 with(fail)
 obtain⟨hx,-,hB⟩:=Aw (w0:=w) Ad leR #[.int .i64 mi,.int .i64 mo,.int .i64 ms,.slice a3 n3 c3,.slice a4 n4 c4] 28;generalize w.alloc (.cells #[.int .i64 mi,.int .i64 mo,.int .i64 ms,.slice a3 n3 c3,.slice a4 n4 c4] 28)=w1 at*;have k0:=Aa 0 hx;have k1:=Aa 1 hx;have k2:=Aa 2 hx;have k3:=Aa 3 hx;have k4:=Aa 4 hx
 have a:Hid (∀W,Below w1.drew.heap.size w1.drew W->Below w1.heap.size w1 W):=fun W h=>(Below.drew (B:=w1.heap.size) Ad).trans h
 have HX:=Ab hx;have b:=Ab hB
 have y:Hid (∀W,Below w1.heap.size w1 W->Calls Tryz.prog 63 #[.slice sa n cs] W (Av (.bool R1) W)):=fun W h=>x.out W (b.out.trans (h.mono b.out.size))
 have s:Hid (∀W,Below w1.heap.size w1 W->Calls Tryz.prog 21 #[.agg #[.int .i64 mi,.int .i64 mo,.int .i64 ms,.slice a3 n3 c3,.slice a4 n4 c4]] W (Av (.bool R2) W)):=fun W h=>r.out W (b.out.trans (h.mono b.out.size))
 have p:Hid (∀W,Below w1.heap.size w1 W->Calls Tryz.prog 64 #[.slice sa n cs] W (Av (.int .i64 oi) W)):=fun W h=>k.out W (b.out.trans (h.mono b.out.size))
 have v:Hid (∀W,Below w1.heap.size w1 W->Calls Tryz.prog 65 #[.slice sa n cs] W (Av (.int .i64 oo) W)):=fun W h=>u.out W (b.out.trans (h.mono b.out.size))
 have j:Hid (∀W,Below w1.drew.heap.size w1.drew W->W.cell? ⟨w.heap.size,0,none⟩=some (.int .i64 mi)/\W.cell? ⟨w.heap.size,1,none⟩=some (.int .i64 mo)/\W.cell? ⟨w.heap.size,2,none⟩=some (.int .i64 ms)/\W.cell? ⟨w.heap.size,3,none⟩=some (.slice a3 n3 c3)/\W.cell? ⟨w.heap.size,4,none⟩=some (.slice a4 n4 c4)):=fun W h=>⟨Ag (a.out W h) k0,Ag (a.out W h) k1,Ag (a.out W h) k2,Ag (a.out W h) k3,Ag (a.out W h) k4⟩
 clear k0 k1 k2 k3 k4 hx hB x r k u;obtain⟨b1,b2,d⟩:=Qg HV.out;clear HV;refine Be ae (Rft R1 b1 b2 w.heap.size n cs sa (.agg #[.int .i64 mi,.int .i64 mo,.int .i64 ms,.slice a3 n3 c3,.slice a4 n4 c4]) mi mo oi oo R) (fun vs=>{tmps:=(_::_::_::_::vs 20::vs 0::vs 1::vs 2::vs 3::vs 4::vs 5::vs 6::vs 7::vs 8::vs 9::vs 10::vs 11::vs 12::vs 13::vs 14::vs 15::vs 16::vs 17::vs 18::vs 19::[]).toArray,defers:=_}) (fun n=>[undef,undef,undef,undef,undef,undef,undef,undef,undef,undef,undef,undef,undef,undef,undef,undef,undef,undef,undef,undef,.bool false].getD n undef) rfl (by kernel_rfl) (fun _ _ _ _ h _=>h) ?step ?fin
 case step=>
  intro ix o ho
  rcases d.out with⟨rfl,rfl,rfl,rfl⟩|⟨rfl,rfl,rfl,rfl,rfl⟩|⟨rfl,rfl,rfl,ti,rfl,rfl⟩|⟨rfl,rfl,rfl,ti,rfl,rfl⟩
  all_goals
   match ix,ho with
   |0,ho|2,ho|3,ho|5,ho|6,ho|7,ho|8,ho|9,ho|11,ho|12,ho|13,ho|14,ho|15,ho|16,ho|18,ho|19,ho|20,ho=>
    obtain rfl:=osI ho;intro vs W K hB hD hK;have HK:=Ab hK
    try have e0:vs 0=.slice sa n cs:=Ac hD 0 rfl
    try have e1:vs 1=.bool false:=Ac hD 1 rfl
    try have e1:vs 1=.bool true:=Ac hD 1 rfl
    try have e2:vs 2=.bool false:=Ac hD 2 rfl
    try have e2:vs 2=.bool true:=Ac hD 2 rfl
    try have e3:vs 3=.agg #[.int .i64 mi,.int .i64 mo,.int .i64 ms,.slice a3 n3 c3,.slice a4 n4 c4]:=Ac hD 3 rfl
    try have e4:vs 4=.bool false:=Ac hD 4 rfl
    try have e4:vs 4=.bool true:=Ac hD 4 rfl
    try have e5:vs 5=.bool false:=Ac hD 5 rfl
    try have e5:vs 5=.bool true:=Ac hD 5 rfl
    try have e6:vs 6=.bool false:=Ac hD 6 rfl
    try have e6:vs 6=.bool true:=Ac hD 6 rfl
    try have e7:vs 7=.pointer (some ⟨w.heap.size,0,none⟩):=Ac hD 7 rfl
    try have e8:vs 8=.int .i64 mi:=Ac hD 8 rfl
    try have e9:vs 9=.slice sa n cs:=Ac hD 9 rfl
    try have af:vs 10=.int .i64 oi:=Ac hD 10 rfl
    try have aa:vs 11=.bool false:=Ac hD 11 rfl
    try have aa:vs 11=.bool true:=Ac hD 11 rfl
    try have ab:vs 12=.bool false:=Ac hD 12 rfl
    try have ab:vs 12=.bool true:=Ac hD 12 rfl
    try have i:vs 13=.bool false:=Ac hD 13 rfl
    try have i:vs 13=.bool true:=Ac hD 13 rfl
    try have ag:vs 14=.pointer (some ⟨w.heap.size,1,none⟩):=Ac hD 14 rfl
    try have ah:vs 15=.int .i64 mo:=Ac hD 15 rfl
    try have ac:vs 16=.slice sa n cs:=Ac hD 16 rfl
    try have ai:vs 17=.int .i64 oo:=Ac hD 17 rfl
    try have aj:vs 18=.bool (mo==oo):=Ac hD 18 rfl
    try have ad:vs 19=.bool (mo==oo):=Ac hD 19 rfl
    try have ad:vs 19=.bool false:=Ac hD 19 rfl
    obtain⟨d0,d1,d2,d3,d4⟩:=j.out W hB;clear hK hD ho d;dsimp only;go_simp;have h:=HK.out _ _ Ad rfl;simp only[upd,Nat.reduceEqDiff,reduceIte,vft,cond_true,cond_false, *]at h;exact h
   |1,ho=>
    obtain rfl:=osI ho;intro vs W K hB hD hK;have HK:=Ab hK
    try have e0:vs 0=.slice sa n cs:=Ac hD 0 rfl
    have c:=Ab (a.out W hB);clear hK hD ho d;dsimp only;go_simp
    first
    |refine(y.out W c.out).mono ?_
     rintro e W' ⟨rfl,hb⟩;have h:=HK.out _ _ hb rfl;simp only[upd,Nat.reduceEqDiff,reduceIte,vft,cond_true,cond_false, *]at h;exact h
    |have h:=HK.out _ _ Ad rfl
     simp only[upd,Nat.reduceEqDiff,reduceIte,vft,cond_true,cond_false, *]at h;exact h
   |4,ho=>
    obtain rfl:=osI ho;intro vs W K hB hD hK;have HK:=Ab hK
    try have e2:vs 2=.bool false:=Ac hD 2 rfl
    try have e2:vs 2=.bool true:=Ac hD 2 rfl
    try have e3:vs 3=.agg #[.int .i64 mi,.int .i64 mo,.int .i64 ms,.slice a3 n3 c3,.slice a4 n4 c4]:=Ac hD 3 rfl
    have c:=Ab (a.out W hB);clear hK hD ho d;dsimp only;go_simp
    first
    |refine(s.out W c.out).mono ?_
     rintro e W' ⟨rfl,hb⟩;have h:=HK.out _ _ hb rfl;simp only[upd,Nat.reduceEqDiff,reduceIte,vft,cond_true,cond_false, *]at h;exact h
    |have h:=HK.out _ _ Ad rfl
     simp only[upd,Nat.reduceEqDiff,reduceIte,vft,cond_true,cond_false, *]at h;exact h
   |10,ho=>
    obtain rfl:=osI ho;intro vs W K hB hD hK;have HK:=Ab hK
    try have e6:vs 6=.bool false:=Ac hD 6 rfl
    try have e6:vs 6=.bool true:=Ac hD 6 rfl
    try have e9:vs 9=.slice sa n cs:=Ac hD 9 rfl
    have c:=Ab (a.out W hB);clear hK hD ho d;dsimp only;go_simp
    first
    |refine(p.out W c.out).mono ?_
     rintro e W' ⟨rfl,hb⟩;have h:=HK.out _ _ hb rfl;simp only[upd,Nat.reduceEqDiff,reduceIte,vft,cond_true,cond_false, *]at h;exact h
    |have h:=HK.out _ _ Ad rfl
     simp only[upd,Nat.reduceEqDiff,reduceIte,vft,cond_true,cond_false, *]at h;exact h
   |17,ho=>
    obtain rfl:=osI ho;intro vs W K hB hD hK;have HK:=Ab hK
    try have i:vs 13=.bool false:=Ac hD 13 rfl
    try have i:vs 13=.bool true:=Ac hD 13 rfl
    try have ac:vs 16=.slice sa n cs:=Ac hD 16 rfl
    have c:=Ab (a.out W hB);clear hK hD ho d;dsimp only;go_simp
    first
    |refine(v.out W c.out).mono ?_
     rintro e W' ⟨rfl,hb⟩;have h:=HK.out _ _ hb rfl;simp only[upd,Nat.reduceEqDiff,reduceIte,vft,cond_true,cond_false, *]at h;exact h
    |have h:=HK.out _ _ Ad rfl
     simp only[upd,Nat.reduceEqDiff,reduceIte,vft,cond_true,cond_false, *]at h;exact h
   |q+21,ho=>exact absurd ho (by simp)
 case fin=>
  intro vs wz hB f;have el:vs 20=.bool R:=f 20 (by decide);have z:=Ab (a.out wz hB);clear f hB a j y s p v d;rw[el];clear el;generalize vs 0=z0,vs 1=z1,vs 2=z2,vs 3=z3,vs 4=z4,vs 5=z5,vs 6=z6,vs 7=z7,vs 8=z8,vs 9=z9,vs 10=ak,vs 11=al,vs 12=am,vs 13=an,vs 14=ao,vs 15=ap,vs 16=aq,vs 17=ar,vs 18=au,vs 19=av;clear vs;go_wp2;go_ret;exact⟨rfl,b.out.trans (z.out.mono b.out.size)⟩
end Go.Proofs.YtncjeamdkjcebaaGreatDoor
