/- What the reference's ValidEnv, sameRows and Same compute. -/
import Derived.Test.YtncjeamdkjcebaaGreatDoorZMyV2
import Derived.Test.YtncjeamdkjcebaaGreatDoorZAr4
set_option linter.all false
set_option maxHeartbeats 8000000
set_option maxRecDepth 100000
namespace Go.Proofs.YtncjeamdkjcebaaGreatDoor
open Go.RowKit
def RVe(z k n3 b4 o4 c4 l2 e2:Nat)(a2:Option Addr)(mo:Int)(r2:Bool)(ix:Nat)(u:Value)(_:World):Prop:=
 match ix with
 |0=>u=.pointer (some ⟨z,4,none⟩)
 |1=>u=.slice (some ⟨b4,o4,none⟩) n3 c4
 |2=>u=.int .i64 (k:Int)
 |3=>u=.pointer (some ⟨b4,o4+k,none⟩)
 |4=>u=.slice a2 l2 e2
 |5=>u=.pointer (some ⟨z,1,none⟩)
 |6=>u=.int .i64 mo
 |7=>u=.int .i64 (n3:Int)
 |8|9=>u=.bool r2
 | _=>True
theorem RVe.below{ix:Nat}{u:Value}{W W':World}{z k n3 b4 o4 c4 l2 e2:Nat}{a2:Option Addr}{mo:Int}{r2:Bool}(h:RVe z k n3 b4 o4 c4 l2 e2 a2 mo r2 ix u W)(_:Below W.heap.size W W'):RVe z k n3 b4 o4 c4 l2 e2 a2 mo r2 ix u W':=by
 unfold RVe at*
 split at h<;>first|exact h|trivial
def RSr(k n b3 o3 b4 o4 c3 c4 l1 l2 e1 e2:Nat)(a1 a2:Option Addr)(r:Bool)(ix:Nat)(u:Value)(_:World):Prop:=
 match ix with
 |0=>u=.slice (some ⟨b3,o3,none⟩) n c3
 |1|5=>u=.int .i64 (k:Int)
 |2=>u=.pointer (some ⟨b3,o3+k,none⟩)
 |3=>u=.slice a1 l1 e1
 |4=>u=.slice (some ⟨b4,o4,none⟩) n c4
 |6=>u=.pointer (some ⟨b4,o4+k,none⟩)
 |7=>u=.slice a2 l2 e2
 |8=>u=.bool r
 |9=>u=.bool (!r)
 | _=>True
theorem RSr.below{ix:Nat}{u:Value}{W W':World}{k n b3 o3 b4 o4 c3 c4 l1 l2 e1 e2:Nat}{a1 a2:Option Addr}{r:Bool}(h:RSr k n b3 o3 b4 o4 c3 c4 l1 l2 e1 e2 a1 a2 r ix u W)(_:Below W.heap.size W W'):RSr k n b3 o3 b4 o4 c3 c4 l1 l2 e1 e2 a1 a2 r ix u W':=by
 unfold RSr at*
 split at h<;>first|exact h|trivial
theorem NU(w:World)(v:Value)(m:Mo)(hm:Dl w v m):Calls Tryz.prog 21 #[v] w (Av (.bool (Bq m)) w):=by
 have hmx:Tryz.prog.follows .mixedOrders=true:=by kernel_rfl
 obtain⟨v3,v4,rfl,hI,h3,h4⟩:=hm;obtain⟨a3,c3,rfl⟩:=h3.shape;obtain⟨a4,c4,rfl⟩:=h4.shape;obtain⟨b3,o3,d3,m3,f3⟩:=h3.data;obtain⟨b4,o4,d4,m4,f4⟩:=h4.dat2;have HF3:=Ab f3;have HF4:=Ab f4;have H3:=Ab h3;clear f3 f4 h3 h4;have HI:Hid (Bq m=true↔MoV m):=EM
 have HNo:Hid (¬MoV m->Bq m=false):=fun h=>by
  cases hb:Bq m with
  |false=>rfl
  |true=>exact absurd (HI.out.1 hb) h
 by_cases g0:1<=m.ins
 case neg=>
  have HR:=Ab (HNo.out fun h=>by exact g0 h.i1)
  replace g0:m.ins<1:=by omega
  clear HI HNo HF3 HF4 H3;generalize Bq m=R at*;generalize m.inn.length=n3 at*;generalize m.next.length=n4 at*;generalize m.ins=mi at*;generalize m.outs=mo at*;generalize m.start=ms at*
  go_enter Tryz.func21,Tryz.ntmps21
  go_upto_region 1 with(fail)
  obtain⟨hx,-,hB⟩:=Az (w0:=w) Ad leR #[.int .i64 mi,.int .i64 mo,.int .i64 ms,.slice a3 n3 c3,.slice a4 n4 c4] 28;generalize w.alloc (.cells #[.int .i64 mi,.int .i64 mo,.int .i64 ms,.slice a3 n3 c3,.slice a4 n4 c4] 28)=w1 at*;have k0:=Aa 0 hx;have k1:=Aa 1 hx;have k2:=Aa 2 hx;have k3:=Aa 3 hx;have k4:=Aa 4 hx
  go_wp2_with fail
  go_ret;exact⟨An HR.out,hB⟩
 have g0q:¬m.ins<1:=by omega
 by_cases g1:m.ins<=64
 case neg=>
  have HR:=Ab (HNo.out fun h=>by exact g1 h.i2)
  replace g1:64<m.ins:=by omega
  clear HI HNo HF3 HF4 H3;generalize Bq m=R at*;generalize m.inn.length=n3 at*;generalize m.next.length=n4 at*;generalize m.ins=mi at*;generalize m.outs=mo at*;generalize m.start=ms at*
  go_enter Tryz.func21,Tryz.ntmps21
  go_upto_region 1 with(fail)
  obtain⟨hx,-,hB⟩:=Az (w0:=w) Ad leR #[.int .i64 mi,.int .i64 mo,.int .i64 ms,.slice a3 n3 c3,.slice a4 n4 c4] 28;generalize w.alloc (.cells #[.int .i64 mi,.int .i64 mo,.int .i64 ms,.slice a3 n3 c3,.slice a4 n4 c4] 28)=w1 at*;have k0:=Aa 0 hx;have k1:=Aa 1 hx;have k2:=Aa 2 hx;have k3:=Aa 3 hx;have k4:=Aa 4 hx
  go_wp2_with fail
  go_ret;exact⟨An HR.out,hB⟩
 have g1q:¬64<m.ins:=by omega
 by_cases g2:1<=m.outs
 case neg=>
  have HR:=Ab (HNo.out fun h=>by exact g2 h.o1)
  replace g2:m.outs<1:=by omega
  clear HI HNo HF3 HF4 H3;generalize Bq m=R at*;generalize m.inn.length=n3 at*;generalize m.next.length=n4 at*;generalize m.ins=mi at*;generalize m.outs=mo at*;generalize m.start=ms at*
  go_enter Tryz.func21,Tryz.ntmps21
  go_upto_region 1 with(fail)
  obtain⟨hx,-,hB⟩:=Az (w0:=w) Ad leR #[.int .i64 mi,.int .i64 mo,.int .i64 ms,.slice a3 n3 c3,.slice a4 n4 c4] 28;generalize w.alloc (.cells #[.int .i64 mi,.int .i64 mo,.int .i64 ms,.slice a3 n3 c3,.slice a4 n4 c4] 28)=w1 at*;have k0:=Aa 0 hx;have k1:=Aa 1 hx;have k2:=Aa 2 hx;have k3:=Aa 3 hx;have k4:=Aa 4 hx
  go_wp2_with fail
  go_ret;exact⟨An HR.out,hB⟩
 have g2q:¬m.outs<1:=by omega
 by_cases g3:m.outs<=64
 case neg=>
  have HR:=Ab (HNo.out fun h=>by exact g3 h.o2)
  replace g3:64<m.outs:=by omega
  clear HI HNo HF3 HF4 H3;generalize Bq m=R at*;generalize m.inn.length=n3 at*;generalize m.next.length=n4 at*;generalize m.ins=mi at*;generalize m.outs=mo at*;generalize m.start=ms at*
  go_enter Tryz.func21,Tryz.ntmps21
  go_upto_region 1 with(fail)
  obtain⟨hx,-,hB⟩:=Az (w0:=w) Ad leR #[.int .i64 mi,.int .i64 mo,.int .i64 ms,.slice a3 n3 c3,.slice a4 n4 c4] 28;generalize w.alloc (.cells #[.int .i64 mi,.int .i64 mo,.int .i64 ms,.slice a3 n3 c3,.slice a4 n4 c4] 28)=w1 at*;have k0:=Aa 0 hx;have k1:=Aa 1 hx;have k2:=Aa 2 hx;have k3:=Aa 3 hx;have k4:=Aa 4 hx
  go_wp2_with fail
  go_ret;exact⟨An HR.out,hB⟩
 have g3q:¬64<m.outs:=by omega
 by_cases g4:1<=m.next.length
 case neg=>
  have HR:=Ab (HNo.out fun h=>by have:=h.s1;have:=h.s0;have:=h.nl;omega)
  have g4':(m.next.length:Int)<1:=by omega
  clear HI HNo HF3 HF4 H3;generalize Bq m=R at*;generalize m.inn.length=n3 at*;generalize m.next.length=n4 at*;generalize m.ins=mi at*;generalize m.outs=mo at*;generalize m.start=ms at*
  go_enter Tryz.func21,Tryz.ntmps21
  go_upto_region 1 with(fail)
  obtain⟨hx,-,hB⟩:=Az (w0:=w) Ad leR #[.int .i64 mi,.int .i64 mo,.int .i64 ms,.slice a3 n3 c3,.slice a4 n4 c4] 28;generalize w.alloc (.cells #[.int .i64 mi,.int .i64 mo,.int .i64 ms,.slice a3 n3 c3,.slice a4 n4 c4] 28)=w1 at*;have k0:=Aa 0 hx;have k1:=Aa 1 hx;have k2:=Aa 2 hx;have k3:=Aa 3 hx;have k4:=Aa 4 hx
  go_wp2_with fail
  go_ret;exact⟨An HR.out,hB⟩
 by_cases g5:m.next.length<=3000
 case neg=>
  have HR:=Ab (HNo.out fun h=>by have:=h.n;have:=h.nl;omega)
  have g5':3000<(m.next.length:Int):=by omega
  have g4':¬(m.next.length:Int)<1:=by omega
  clear HI HNo HF3 HF4 H3;generalize Bq m=R at*;generalize m.inn.length=n3 at*;generalize m.next.length=n4 at*;generalize m.ins=mi at*;generalize m.outs=mo at*;generalize m.start=ms at*
  go_enter Tryz.func21,Tryz.ntmps21
  go_upto_region 1 with(fail)
  obtain⟨hx,-,hB⟩:=Az (w0:=w) Ad leR #[.int .i64 mi,.int .i64 mo,.int .i64 ms,.slice a3 n3 c3,.slice a4 n4 c4] 28;generalize w.alloc (.cells #[.int .i64 mi,.int .i64 mo,.int .i64 ms,.slice a3 n3 c3,.slice a4 n4 c4] 28)=w1 at*;have k0:=Aa 0 hx;have k1:=Aa 1 hx;have k2:=Aa 2 hx;have k3:=Aa 3 hx;have k4:=Aa 4 hx
  go_wp2_with fail
  go_ret;exact⟨An HR.out,hB⟩
 have g4':¬(m.next.length:Int)<1:=by omega
 have g5':¬3000<(m.next.length:Int):=by omega
 by_cases g7:0<=m.start/\m.start<m.next.length
 case neg=>
  have HR:=Ab (HNo.out fun h=>g7 ⟨h.s0,by have:=h.s1;have:=h.nl;omega⟩)
  have hd:(decide (0<=m.start)&&decide (m.start<(m.next.length:Int)))=false:=by rw[Bool.and_eq_false_iff,decide_eq_false_iff_not,decide_eq_false_iff_not];omega
  clear HI HNo HF3 HF4 H3 g7;generalize Bq m=R at*;generalize m.inn.length=n3 at*;generalize m.next.length=n4 at*;generalize m.ins=mi at*;generalize m.outs=mo at*;generalize m.start=ms at*
  go_enter Tryz.func21,Tryz.ntmps21
  go_upto_region 1 with(fail)
  obtain⟨hx,-,hB⟩:=Az (w0:=w) Ad leR #[.int .i64 mi,.int .i64 mo,.int .i64 ms,.slice a3 n3 c3,.slice a4 n4 c4] 28;generalize w.alloc (.cells #[.int .i64 mi,.int .i64 mo,.int .i64 ms,.slice a3 n3 c3,.slice a4 n4 c4] 28)=w1 at*;have k0:=Aa 0 hx;have k1:=Aa 1 hx;have k2:=Aa 2 hx;have k3:=Aa 3 hx;have k4:=Aa 4 hx
  go_wp2_with fail
  refine(Eo _ ms n4).mono ?_;rintro e w' ⟨rfl,rfl⟩;rw[hd]
  go_wp2_with fail
  go_ret;exact⟨An HR.out,hB⟩
 have hd:(decide (0<=m.start)&&decide (m.start<(m.next.length:Int)))=true:=by simp[g7.1,g7.2]
 have HV:Hid (BA m.next.length m.ins m.inn=true->(∀i,i<m.next.length->BA m.outs m.next.length (m.next.getD i [])=true)->Bq m=true):=fun h1 h=>by
  have h2:=Bv.1 h1
  have hl:m.next.length=m.inn.length:=by omega
  exact HI.out.2 ⟨by omega,by omega,by omega,by omega,by omega,g7.1,by omega,hl,h2.2,fun i hi=>by rw[<-hl];exact Bv.1 (h i (by omega))⟩
 have HBad:Hid (∀i,i<m.next.length->¬BA m.outs m.next.length (m.next.getD i [])=true->Bq m=false):=fun i hi hno=>by
  refine HNo.out fun h=>hno (Bv.2 ?_)
  have hl:=h.nl;rw[hl];exact h.nxt i (by omega)
 have HBad1:Hid (BA m.next.length m.ins m.inn=false->Bq m=false):=fun hno=>by
  refine HNo.out fun h=> ?_
  have:=Bv.2 (⟨by rw[h.nl],h.inn⟩:(m.inn.length:Int)=(m.next.length:Int)/\_);rw[hno]at this;exact absurd this (by decide)
 have HC1:Hid (∀W,Below w.heap.size w W->Calls Tryz.prog 55 #[.slice a3 m.inn.length c3,.int .i64 (m.next.length:Int),.int .i64 m.ins] W (Av (.bool (BA m.next.length m.ins m.inn)) W)):=fun W hb=>NH W _ _ _ _ (H3.out.below hb)
 clear HI HNo H3 g7 HF3;generalize Bq m=R at*;generalize BA m.next.length m.ins m.inn=r1 at*;generalize m.inn.length=n3 at*;generalize m.next.length=n4 at*;generalize m.ins=mi at*;generalize m.outs=mo at*;generalize m.start=ms at*
 go_enter Tryz.func21,Tryz.ntmps21
 go_upto_region 1 with(fail)
 obtain⟨hx,-,hB⟩:=Az (w0:=w) Ad leR #[.int .i64 mi,.int .i64 mo,.int .i64 ms,.slice a3 n3 c3,.slice a4 n4 c4] 28;generalize w.alloc (.cells #[.int .i64 mi,.int .i64 mo,.int .i64 ms,.slice a3 n3 c3,.slice a4 n4 c4] 28)=w1 at*;have k0:=Aa 0 hx;have k1:=Aa 1 hx;have k2:=Aa 2 hx;have k3:=Aa 3 hx;have k4:=Aa 4 hx
 go_wp2_with fail
 refine(Eo _ ms n4).mono ?_;rintro e w' ⟨rfl,rfl⟩;rw[hd]
 go_wp2_with fail
 refine(HC1.out _ hB).mono ?_;rintro e w2 ⟨rfl,hb⟩;replace hx:=Ae hb hx;replace hB:=hB.trans (hb.mono hB.size);clear hb hd k0 k1 k2 k3 k4 HC1 g0 g1 g2 g3 g4 g5
 cases r1 with
 |false=>
  have HR:=Ab (HBad1.out rfl)
  go_wp2_with fail
  go_ret;exact⟨An HR.out,hB⟩
 |true=>
 have HV2:=Ab (HV.out rfl);clear HV HBad1;have HX:=Ab hx;have HBW:=Ab hB;clear hx hB
 go_wp2_with fail
 go_loopg [4] n4 (fun gh i wr=>∃k:Nat,gh=n4-k/\i=.int .i64 (k:Int)/\k<=n4/\Hid (∀i,i<k->BA mo n4 (m.next.getD i [])=true)/\Hid (Below w2.heap.size w2 wr))
 case atStart=>exact⟨0,rfl,rfl,by omega,fun i hi=>absurd hi (by omega),Ad⟩
 case round=>
  obtain⟨k,hgk,rfl,hk,HA,HB⟩:=hrel;have HGK:=Ab hgk;clear hgk
  by_cases hlt:k<n4
  ·obtain rfl:=d4 (by omega)
   have hi0:(0:Int)<=(k:Int):=by omega
   have hi1:(k:Int)<(n4:Int):=by omega
   obtain⟨a2,e2,c2',hr2⟩:=HF4.out k hlt;have HWB:=Ab (HBW.out.trans (HB.out.mono HBW.out.size));replace c2':=Ah HWB.out c2';have q:=(HB.out.block _ (Array.getElem?_eq_some_iff.1 HX.out).1).trans HX.out;have q1:=Aa 1 q;have q4:=Aa 4 q
   have HBD:Hid (∀W,Below wr.drew.heap.size wr.drew W->Below wr.heap.size wr W):=fun W h=>(Below.drew (B:=wr.heap.size) Ad).trans h
   have HR2:Hid (∀W,Below wr.drew.heap.size wr.drew W->Calls Tryz.prog 55 #[.slice a2 (m.next.getD k []).length e2,.int .i64 mo,.int .i64 (n4:Int)] W (Av (.bool (BA mo n4 (m.next.getD k []))) W)):=fun W h=>NH W _ _ _ _ (hr2.below (HWB.out.trans ((HBD.out W h).mono HWB.out.size)))
   have HBk:=Ab (HBad.out k hlt)
   have HAk:Hid (BA mo n4 (m.next.getD k [])=true->∀i,i<k+1->BA mo n4 (m.next.getD i [])=true):=fun h i hi=>by
    rcases Nat.lt_or_ge i k with h1|h1
    ·exact HA.out i h1
    ·obtain rfl:i=k:=by omega
     exact h
   clear hr2 q;generalize BA mo n4 (m.next.getD k [])=r2 at*;generalize(m.next.getD k []).length=l2 at*
   have HCl:Hid (∀W,Below wr.drew.heap.size wr.drew W->W.cell? ⟨w.heap.size,1,none⟩=some (.int .i64 mo)/\W.cell? ⟨w.heap.size,4,none⟩=some (.slice (some ⟨b4,o4,none⟩) n4 c4)/\W.cell? ⟨b4,o4+k,none⟩=some (.slice a2 l2 e2)):=fun W h=>⟨Ah (HBD.out W h) q1,Ah (HBD.out W h) q4,Ah (HBD.out W h) c2'⟩
   clear q1 q4 c2'
   go_upto_region 7 with(fail)
   refine AB hmx (RVe w.heap.size k n4 b4 o4 c4 l2 e2 a2 mo r2) (fun vs=>{tmps:=(_::_::_::_::_::vs 9::_::_::_::_::_::_::_::_::_::_::_::_::_::_::_::_::_::_::_::_::_::_::_::_::_::_::_::_::_::_::_::_::_::_::_::_::_::_::_::_::_::_::_::_::_::_::_::_::_::_::vs 0::vs 1::vs 2::vs 3::vs 4::vs 5::vs 6::vs 7::vs 8::_::_::[]).toArray,defers:=_}) (fun n=>[u56,u57,u58,u59,u60,u61,u62,u63,u64,u5].getD n undef) rfl (by kernel_rfl) (fun _ _ _ _ h hb=>h.below hb) ?step ?fin
   case step=>
    intro ix o ho
    match ix,ho with
    |0,ho|2,ho|3,ho|5,ho|7,ho|9,ho=>
     obtain rfl:=osI ho;intro vs W K hB hD hK;have HK:=Ab hK
     try have e1:vs 1=.slice (some ⟨b4,o4,none⟩) n4 c4:=Ac hD 1 rfl
     try have e2:vs 2=.int .i64 (k:Int):=Ac hD 2 rfl
     try have e8:vs 8=.bool r2:=Ac hD 8 rfl
     clear hK hD ho;dsimp only;go_simp;have h:=HK.out _ _ Ad rfl;simp only[upd,Nat.reduceEqDiff,reduceIte, *]at h;exact h
    |1,ho|4,ho|6,ho=>
     obtain rfl:=osI ho;intro vs W K hB hD hK;have HK:=Ab hK
     try have e0:vs 0=.pointer (some ⟨w.heap.size,4,none⟩):=Ac hD 0 rfl
     try have e3:vs 3=.pointer (some ⟨b4,o4+k,none⟩):=Ac hD 3 rfl
     try have e5:vs 5=.pointer (some ⟨w.heap.size,1,none⟩):=Ac hD 5 rfl
     obtain⟨d0,d1,d2⟩:=HCl.out W hB;clear hK hD ho;dsimp only;go_simp;have h:=HK.out _ _ Ad rfl;simp only[upd,Nat.reduceEqDiff,reduceIte, *]at h;exact h
    |8,ho=>
     obtain rfl:=osI ho;intro vs W K hB hD hK;have HK:=Ab hK;have e4:vs 4=.slice a2 l2 e2:=Ac hD 4 rfl;have e6:vs 6=.int .i64 mo:=Ac hD 6 rfl;have e7:vs 7=.int .i64 (n4:Int):=Ac hD 7 rfl;clear hK hD ho;dsimp only;go_simp;refine(HR2.out W hB).mono ?_;rintro e W' ⟨rfl,hb⟩;have h:=HK.out _ _ hb rfl;simp only[upd,Nat.reduceEqDiff,reduceIte,e4,e6,e7]at h;exact h
    |q+10,ho=>exact absurd ho (by simp)
   case fin=>
    intro vs wz hB hall;have el:vs 9=.bool r2:=hall 9 (by decide);have HBZ:=Ab (HBD.out wz hB);clear hall hB HBD HCl HR2;rw[el];clear el;generalize vs 0=z0q,vs 1=z1q,vs 2=z2q,vs 3=z3q,vs 4=z4q,vs 5=z5q,vs 6=z6q,vs 7=z7q,vs 8=z8q;clear vs
    cases r2 with
    |false=>
     have HR:=Ab (HBk.out (by decide));go_wp2;go_ret;exact⟨An HR.out,HBW.out.trans ((HB.out.trans (HBZ.out.mono HB.out.size)).mono HBW.out.size)⟩
    |true=>
     have HA2:=Ab (HAk.out rfl);have HB3:=Ab (HB.out.trans (HBZ.out.mono HB.out.size));go_wp2
     go_roundg (n4-(k+1))
     case measure=>have:=HGK.out;omega
     case rel=>exact⟨k+1,rfl,by go_num,by omega,HA2,HB3⟩
  ·have hi1:¬(k:Int)<(n4:Int):=by omega
   have HR:=Ab (HV2.out fun i hi=>HA.out i (by omega));go_wp2;go_ret;exact⟨C6 HR.out,HBW.out.trans (HB.out.mono HBW.out.size)⟩
theorem RW{a b:List (List Int)}(hl:a.length=b.length)(h:∀i,i<a.length->a.getD i []=b.getD i []):a=b:=by
 apply List.ext_getElem hl
 intro i h1 h2;have:=h i h1
 rwa [Af _ _ _ h1,Af _ _ _ h2]at this
theorem IL(w:World)(va vb:Value)(a b:List (List Int))(ha:Ar w va a)(hb:Ar w vb b):Calls Tryz.prog 53 #[va,vb] w (Av (.bool (decide (a=b))) w):=by
 have hmx:Tryz.prog.follows .mixedOrders=true:=by kernel_rfl
 obtain⟨a3,c3,rfl⟩:=ha.shape;obtain⟨a4,c4,rfl⟩:=hb.shape;obtain⟨b3,o3,d3,m3,f3⟩:=ha.dat2;obtain⟨b4,o4,d4,m4,f4⟩:=hb.dat2;have HF3:=Ab f3;have HF4:=Ab f4;clear f3 f4 ha hb
 by_cases hn:a.length=b.length
 case neg=>
  have HR:Hid (decide (a=b)=false):=decide_eq_false fun h=>hn (by rw[h])
  have tn:((a.length:Int) !=(b.length:Int))=true:=by simp;omega
  clear HF3 HF4 hn;generalize decide (a=b)=R at*;generalize a.length=n3 at*;generalize b.length=n4 at*
  go_enter Tryz.func53,Tryz.ntmps53
  go_wp2;go_ret;exact⟨An HR.out,(by repeat(first|exact Ad|assumption|apply AD|apply AE))⟩
 have HYes:Hid ((∀i,i<a.length->a.getD i []=b.getD i [])->decide (a=b)=true):=fun h=>decide_eq_true (RW hn h)
 have HBad:Hid (∀i,i<a.length->a.getD i []≠b.getD i []->decide (a=b)=false):=fun i _ h=>decide_eq_false fun e=>h (by rw[e])
 have tn:((a.length:Int) !=(b.length:Int))=false:=by simp;omega
 generalize decide (a=b)=R at*;generalize a.length=n at*;generalize b.length=n4 at*;subst hn
 go_enter Tryz.func53,Tryz.ntmps53
 go_wp2_with fail
 go_loopg [5] n (fun gh i wr=>∃k:Nat,gh=n-k/\i=.int .i64 (k:Int)/\k<=n/\Hid (∀i,i<k->a.getD i []=b.getD i [])/\Hid (Below w.heap.size w wr))
 case atStart=>exact⟨0,rfl,rfl,by omega,fun i hi=>absurd hi (by omega),Ad⟩
 case round=>
  obtain⟨k,hgk,rfl,hk,HA,HB⟩:=hrel;have HGK:=Ab hgk;clear hgk
  by_cases hlt:k<n
  ·obtain rfl:=d3 (by omega);obtain rfl:=d4 (by omega)
   have hi0:(0:Int)<=(k:Int):=by omega
   have hi1:(k:Int)<(n:Int):=by omega
   obtain⟨a1,e1,c1,hr1⟩:=HF3.out k hlt;obtain⟨a2,e2,c2,hr2⟩:=HF4.out k hlt;replace c1:=Ah HB.out c1;replace c2:=Ah HB.out c2
   have HBD:Hid (∀W,Below wr.drew.heap.size wr.drew W->Below wr.heap.size wr W):=fun W h=>(Below.drew (B:=wr.heap.size) Ad).trans h
   have HR1:Hid (∀W,Below wr.drew.heap.size wr.drew W->Calls Tryz.prog 16 #[.slice a1 (a.getD k []).length e1,.slice a2 (b.getD k []).length e2] W (Av (.bool (decide (a.getD k []=b.getD k []))) W)):=fun W h=>(JR W _ _ _ _ (hr1.below (HB.out.trans ((HBD.out W h).mono HB.out.size))) (hr2.below (HB.out.trans ((HBD.out W h).mono HB.out.size)))).mono fun _ _ h=>h.calm
   have HBk:=Ab (HBad.out k hlt)
   have HAk:Hid (a.getD k []=b.getD k []->∀i,i<k+1->a.getD i []=b.getD i []):=fun h i hi=>by
    rcases Nat.lt_or_ge i k with h1|h1
    ·exact HA.out i h1
    ·obtain rfl:i=k:=by omega
     exact h
   have HBk2:Hid (decide (a.getD k []=b.getD k [])=false->R=false):=fun h=>HBk.out (of_decide_eq_false h)
   have HAk2:Hid (decide (a.getD k []=b.getD k [])=true->∀i,i<k+1->a.getD i []=b.getD i []):=fun h=>HAk.out (of_decide_eq_true h)
   clear hr1 hr2 HBk HAk;generalize decide (a.getD k []=b.getD k [])=r at*;generalize(a.getD k []).length=l1 at*;generalize(b.getD k []).length=l2 at*
   have HCl:Hid (∀W,Below wr.drew.heap.size wr.drew W->W.cell? ⟨b3,o3+k,none⟩=some (.slice a1 l1 e1)/\W.cell? ⟨b4,o4+k,none⟩=some (.slice a2 l2 e2)):=fun W h=>⟨Ah (HBD.out W h) c1,Ah (HBD.out W h) c2⟩
   clear c1 c2
   go_upto_region 6 with(fail)
   refine AB hmx (RSr k n b3 o3 b4 o4 c3 c4 l1 l2 e1 e2 a1 a2 r) (fun vs=>{tmps:=(_::_::_::_::_::_::_::_::_::_::_::_::_::_::_::_::_::vs 0::vs 1::vs 2::vs 3::vs 4::vs 5::vs 6::vs 7::vs 8::vs 9::[]).toArray,defers:=_}) (fun n=>[u17,u18,u19,u20,u21,u22,u23,u24,u25,u26].getD n undef) rfl (by kernel_rfl) (fun _ _ _ _ h hb=>h.below hb) ?step ?fin
   case step=>
    intro ix o ho
    match ix,ho with
    |0,ho|1,ho|2,ho|4,ho|5,ho|6,ho|9,ho=>
     obtain rfl:=osI ho;intro vs W K hB hD hK;have HK:=Ab hK
     try have e0:vs 0=.slice (some ⟨b3,o3,none⟩) n c3:=Ac hD 0 rfl
     try have e1:vs 1=.int .i64 (k:Int):=Ac hD 1 rfl
     try have e4:vs 4=.slice (some ⟨b4,o4,none⟩) n c4:=Ac hD 4 rfl
     try have e5:vs 5=.int .i64 (k:Int):=Ac hD 5 rfl
     try have e8:vs 8=.bool r:=Ac hD 8 rfl
     clear hK hD ho;dsimp only;go_simp;have h:=HK.out _ _ Ad rfl;simp only[upd,Nat.reduceEqDiff,reduceIte, *]at h;exact h
    |3,ho=>
     obtain rfl:=osI ho;intro vs W K hB hD hK;have HK:=Ab hK;have e2:vs 2=.pointer (some ⟨b3,o3+k,none⟩):=Ac hD 2 rfl;have q:=(HCl.out W hB).1;clear hK hD ho;dsimp only;go_simp;have h:=HK.out _ _ Ad rfl;simp only[upd,Nat.reduceEqDiff,reduceIte,e2]at h;exact h
    |7,ho=>
     obtain rfl:=osI ho;intro vs W K hB hD hK;have HK:=Ab hK;have e6:vs 6=.pointer (some ⟨b4,o4+k,none⟩):=Ac hD 6 rfl;have q:=(HCl.out W hB).2;clear hK hD ho;dsimp only;go_simp;have h:=HK.out _ _ Ad rfl;simp only[upd,Nat.reduceEqDiff,reduceIte,e6]at h;exact h
    |8,ho=>
     obtain rfl:=osI ho;intro vs W K hB hD hK;have HK:=Ab hK;have e3:vs 3=.slice a1 l1 e1:=Ac hD 3 rfl;have e7:vs 7=.slice a2 l2 e2:=Ac hD 7 rfl;clear hK hD ho;dsimp only;go_simp;refine(HR1.out W hB).mono ?_;rintro e W' ⟨rfl,hb⟩;have h:=HK.out _ _ hb rfl;simp only[upd,Nat.reduceEqDiff,reduceIte,e3,e7]at h;exact h
    |q+10,ho=>exact absurd ho (by simp)
   case fin=>
    intro vs wz hB hall;have el:vs 9=.bool (!r):=hall 9 (by decide);have HBZ:=Ab (HBD.out wz hB);clear hall hB HBD HCl HR1;rw[el];clear el;generalize vs 0=z0q,vs 1=z1q,vs 2=z2q,vs 3=z3q,vs 4=z4q,vs 5=z5q,vs 6=z6q,vs 7=z7q,vs 8=z8q;clear vs
    cases r with
    |false=>
     have HR:=Ab (HBk2.out rfl);go_wp2;go_ret;exact⟨An HR.out,HB.out.trans (HBZ.out.mono HB.out.size)⟩
    |true=>
     have HA2:=Ab (HAk2.out rfl);have HB3:=Ab (HB.out.trans (HBZ.out.mono HB.out.size));go_wp2
     go_roundg (n-(k+1))
     case measure=>have:=HGK.out;omega
     case rel=>exact⟨k+1,rfl,by go_num,by omega,HA2,HB3⟩
  ·have hi1:¬(k:Int)<(n:Int):=by omega
   have HR:=Ab (HYes.out fun i hi=>HA.out i (by omega));go_wp2;go_ret;exact⟨C6 HR.out,HB.out⟩
theorem Q8(w:World)(va vb:Value)(a b:My)(ha:BM w va a)(hb:BM w vb b):Calls Tryz.prog 17 #[va,vb] w (Av (.bool (decide (a=b))) w):=by
 obtain⟨u3,u4,rfl,hI,h3,h4⟩:=ha;obtain⟨v3,v4,rfl,hI',h3',h4'⟩:=hb;obtain⟨ai,ao,az,aa,an⟩:=a;obtain⟨bi,bo,bs,ba,bn⟩:=b;dsimp only at*;obtain⟨p3,c3,rfl⟩:=h3.shape;obtain⟨p4,c4,rfl⟩:=h4.shape;obtain⟨q3,e3,rfl⟩:=h3'.shape;obtain⟨q4,e4,rfl⟩:=h4'.shape
 have HC1:Hid (∀W,Below w.heap.size w W->Calls Tryz.prog 53 #[.slice p3 aa.length c3,.slice q3 ba.length e3] W (Av (.bool (decide (aa=ba))) W)):=fun W h=>IL W _ _ _ _ (h3.below h) (h3'.below h)
 have HC2:Hid (∀W,Below w.heap.size w W->Calls Tryz.prog 53 #[.slice p4 an.length c4,.slice q4 bn.length e4] W (Av (.bool (decide (an=bn))) W)):=fun W h=>IL W _ _ _ _ (h4.below h) (h4'.below h)
 have HV:Hid (decide ((⟨ai,ao,az,aa,an⟩:My)=⟨bi,bo,bs,ba,bn⟩)=((ai==bi)&&(ao==bo)&&(az==bs)&&decide (aa=ba)&&decide (an=bn))):=by
  show _=_;rw[Bool.eq_iff_iff];simp[and_assoc]
 clear h3 h4 h3' h4' hI hI';generalize decide ((⟨ai,ao,az,aa,an⟩:My)=⟨bi,bo,bs,ba,bn⟩)=R at*;generalize decide (aa=ba)=R1 at*;generalize decide (an=bn)=R2 at*;generalize aa.length=n3 at*;generalize an.length=n4 at*;generalize ba.length=m3 at*;generalize bn.length=m4 at*
 go_enter Tryz.func17,Tryz.ntmps17
 go_upto_region 1 with(fail)
 obtain⟨hx,-,hB⟩:=Az (w0:=w) Ad leR #[.int .i64 ai,.int .i64 ao,.int .i64 az,.slice p3 n3 c3,.slice p4 n4 c4] 25
 have hs:(w.alloc (.cells #[.int .i64 ai,.int .i64 ao,.int .i64 az,.slice p3 n3 c3,.slice p4 n4 c4] 25)).heap.size=w.heap.size+1:=by simp
 generalize w.alloc (.cells #[.int .i64 ai,.int .i64 ao,.int .i64 az,.slice p3 n3 c3,.slice p4 n4 c4] 25)=w1 at*;obtain⟨hy,hb1,hB2⟩:=Az hB hB.size #[.int .i64 bi,.int .i64 bo,.int .i64 bs,.slice q3 m3 e3,.slice q4 m4 e4] 25;replace hx:=Ae hb1 hx;generalize w1.alloc (.cells #[.int .i64 bi,.int .i64 bo,.int .i64 bs,.slice q3 m3 e3,.slice q4 m4 e4] 25)=w2 at*;rw[hs]at hy;clear hB hb1 hs;have k0:=Aa 0 hx;have j0:=Aa 0 hy;have k1:=Aa 1 hx;have j1:=Aa 1 hy;have k2:=Aa 2 hx;have j2:=Aa 2 hy;have k3:=Aa 3 hx;have j3:=Aa 3 hy;have k4:=Aa 4 hx;have j4:=Aa 4 hy
 cases t0:(ai==bi)with
 |false=>
  have HR:Hid (R=false):=by show _=_;have:=HV.out;rw[t0]at this;simpa using this
  clear HV
  go_wp2_with fail
  go_ret;exact⟨An HR.out,hB2⟩
 |true=>
 cases t1:(ao==bo)with
 |false=>
  have HR:Hid (R=false):=by show _=_;have:=HV.out;rw[t1]at this;simpa using this
  clear HV
  go_wp2_with fail
  go_ret;exact⟨An HR.out,hB2⟩
 |true=>
 cases t2:(az==bs)with
 |false=>
  have HR:Hid (R=false):=by show _=_;have:=HV.out;rw[t2]at this;simpa using this
  clear HV
  go_wp2_with fail
  go_ret;exact⟨An HR.out,hB2⟩
 |true=>
 have HV2:Hid (R=(R1&&R2)):=by show _=_;have:=HV.out;rw[t0,t1,t2]at this;simpa using this
 clear HV
 go_wp2_with fail
 refine(HC1.out _ hB2).mono ?_;rintro e w3 ⟨rfl,hb⟩;replace hx:=Ae hb hx;replace hy:=Ae hb hy;replace hB2:=hB2.trans (hb.mono hB2.size);clear hb k0 k1 k2 k3 k4 j0 j1 j2 j3 j4;have k4:=Aa 4 hx;have j4:=Aa 4 hy
 cases R1 with
 |false=>
  have HR:Hid (R=false):=HV2.out
  go_wp2_with fail
  go_ret;exact⟨An HR.out,hB2⟩
 |true=>
  have HR:Hid (R=R2):=by show _=_;have:=HV2.out;simpa using this
  clear HV2
  go_wp2_with fail
  refine(HC2.out _ hB2).mono ?_;rintro e w4 ⟨rfl,hb⟩;replace hB2:=hB2.trans (hb.mono hB2.size);clear hb k4 j4 HC1 HC2
  go_wp2_with fail
  go_ret;exact⟨Ak (by rw[HR.out]),hB2⟩
end Go.Proofs.YtncjeamdkjcebaaGreatDoor
