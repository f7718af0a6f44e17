/- What the reference's ValidEnv, sameRows and Same compute. -/
import Derived.Test.YtncjeamdkjcebaaDoorZMyV2
import Derived.Test.YtncjeamdkjcebaaDoorZAr4
set_option linter.all false
set_option maxHeartbeats 8000000
set_option maxRecDepth 100000
namespace Go.Proofs.YtncjeamdkjcebaaDoor
open Go.RowKit
def RVe(z k n3 b4 o4 c4 l2 e2:Nat)(a2:Option Addr)(mo:Int)(r2:Bool)(ix:Nat)(u:Value)(_:World):Prop:=
 match ix with
 |0=>u=.pointer (some ⟨z,4,none⟩)
 |1=>u=.slice (some ⟨b4,o4,none⟩) n3 c4
 |2=>u=.int .i64 (k:Int)
 |3=>u=.pointer (some ⟨b4,o4+k,none⟩)
 |4=>u=.slice a2 l2 e2
 |5=>u=.pointer (some ⟨z,1,none⟩)
 |6=>u=.int .i64 mo
 |7=>u=.int .i64 (n3:Int)
 |8|9=>u=.bool r2
 | _=>True
theorem RVe.below{ix:Nat}{u:Value}{W W':World}{z k n3 b4 o4 c4 l2 e2:Nat}{a2:Option Addr}{mo:Int}{r2:Bool}(h:RVe z k n3 b4 o4 c4 l2 e2 a2 mo r2 ix u W)(_:Below W.heap.size W W'):RVe z k n3 b4 o4 c4 l2 e2 a2 mo r2 ix u W':=by
 unfold RVe at*
 split at h<;>first|exact h|trivial
def RSr(k n b3 o3 b4 o4 c3 c4 l1 l2 e1 e2:Nat)(a1 a2:Option Addr)(r:Bool)(ix:Nat)(u:Value)(_:World):Prop:=
 match ix with
 |0=>u=.slice (some ⟨b3,o3,none⟩) n c3
 |1|5=>u=.int .i64 (k:Int)
 |2=>u=.pointer (some ⟨b3,o3+k,none⟩)
 |3=>u=.slice a1 l1 e1
 |4=>u=.slice (some ⟨b4,o4,none⟩) n c4
 |6=>u=.pointer (some ⟨b4,o4+k,none⟩)
 |7=>u=.slice a2 l2 e2
 |8=>u=.bool r
 |9=>u=.bool (!r)
 | _=>True
theorem RSr.below{ix:Nat}{u:Value}{W W':World}{k n b3 o3 b4 o4 c3 c4 l1 l2 e1 e2:Nat}{a1 a2:Option Addr}{r:Bool}(h:RSr k n b3 o3 b4 o4 c3 c4 l1 l2 e1 e2 a1 a2 r ix u W)(_:Below W.heap.size W W'):RSr k n b3 o3 b4 o4 c3 c4 l1 l2 e1 e2 a1 a2 r ix u W':=by
 unfold RSr at*
 split at h<;>first|exact h|trivial
theorem Qk{a b:List (List Int)}(hl:a.length=b.length)(h:∀i,i<a.length->a.getD i []=b.getD i []):a=b:=by
 apply List.ext_getElem hl
 intro i h1 h2;have:=h i h1
 rwa [Ag _ _ _ h1,Ag _ _ _ h2]at this
theorem Hh(w:World)(va vb:Value)(a b:List (List Int))(ha:Ao w va a)(hb:Ao w vb b):Calls Tryd.prog 54 #[va,vb] w (AC (.bool (decide (a=b))) w):=by
 have hmx:Tryd.prog.follows .mixedOrders=true:=by kernel_rfl
 obtain⟨a3,c3,rfl⟩:=ha.shape;obtain⟨a4,c4,rfl⟩:=hb.shape;obtain⟨b3,o3,d3,m3,f3⟩:=ha.dat2;obtain⟨b4,o4,d4,m4,f4⟩:=hb.dat2;have HF3:=Ab f3;have HF4:=Ab f4;clear f3 f4 ha hb
 by_cases hn:a.length=b.length
 case neg=>
  have HR:Hid (decide (a=b)=false):=decide_eq_false fun h=>hn (by rw[h])
  have tn:((a.length:Int) !=(b.length:Int))=true:=by simp;omega
  clear HF3 HF4 hn;generalize decide (a=b)=R at*;generalize a.length=n3 at*;generalize b.length=n4 at*
  go_enter Tryd.func54,Tryd.ntmps54
  go_wp2;go_ret;exact⟨Aq HR.out,(by repeat(first|exact Ad|assumption|apply AF|apply AE))⟩
 have HYes:Hid ((∀i,i<a.length->a.getD i []=b.getD i [])->decide (a=b)=true):=fun h=>decide_eq_true (Qk hn h)
 have HBad:Hid (∀i,i<a.length->a.getD i []≠b.getD i []->decide (a=b)=false):=fun i _ h=>decide_eq_false fun e=>h (by rw[e])
 have tn:((a.length:Int) !=(b.length:Int))=false:=by simp;omega
 generalize decide (a=b)=R at*;generalize a.length=n at*;generalize b.length=n4 at*;subst hn
 go_enter Tryd.func54,Tryd.ntmps54
 go_wp2_with fail
 go_loopg [5] n (fun gh i wr=>∃k:Nat,gh=n-k/\i=.int .i64 (k:Int)/\k<=n/\Hid (∀i,i<k->a.getD i []=b.getD i [])/\Hid (Below w.heap.size w wr))
 case atStart=>exact⟨0,rfl,rfl,by omega,fun i hi=>absurd hi (by omega),Ad⟩
 case round=>
  obtain⟨k,hgk,rfl,hk,HA,HB⟩:=hrel;have HGK:=Ab hgk;clear hgk
  by_cases hlt:k<n
  ·obtain rfl:=d3 (by omega);obtain rfl:=d4 (by omega)
   have hi0:(0:Int)<=(k:Int):=by omega
   have hi1:(k:Int)<(n:Int):=by omega
   obtain⟨a1,e1,c1,hr1⟩:=HF3.out k hlt;obtain⟨a2,e2,c2,hr2⟩:=HF4.out k hlt;replace c1:=Aj HB.out c1;replace c2:=Aj HB.out c2
   have HBD:Hid (∀W,Below wr.drew.heap.size wr.drew W->Below wr.heap.size wr W):=fun W h=>(Below.drew (B:=wr.heap.size) Ad).trans h
   have HR1:Hid (∀W,Below wr.drew.heap.size wr.drew W->Calls Tryd.prog 8 #[.slice a1 (a.getD k []).length e1,.slice a2 (b.getD k []).length e2] W (AC (.bool (decide (a.getD k []=b.getD k []))) W)):=fun W h=>(GN W _ _ _ _ (hr1.below (HB.out.trans ((HBD.out W h).mono HB.out.size))) (hr2.below (HB.out.trans ((HBD.out W h).mono HB.out.size)))).mono fun _ _ h=>h.calm
   have HBk:=Ab (HBad.out k hlt)
   have HAk:Hid (a.getD k []=b.getD k []->∀i,i<k+1->a.getD i []=b.getD i []):=fun h i hi=>by
    rcases Nat.lt_or_ge i k with h1|h1
    ·exact HA.out i h1
    ·obtain rfl:i=k:=by omega
     exact h
   have HBk2:Hid (decide (a.getD k []=b.getD k [])=false->R=false):=fun h=>HBk.out (of_decide_eq_false h)
   have HAk2:Hid (decide (a.getD k []=b.getD k [])=true->∀i,i<k+1->a.getD i []=b.getD i []):=fun h=>HAk.out (of_decide_eq_true h)
   clear hr1 hr2 HBk HAk;generalize decide (a.getD k []=b.getD k [])=r at*;generalize(a.getD k []).length=l1 at*;generalize(b.getD k []).length=l2 at*
   have HCl:Hid (∀W,Below wr.drew.heap.size wr.drew W->W.cell? ⟨b3,o3+k,none⟩=some (.slice a1 l1 e1)/\W.cell? ⟨b4,o4+k,none⟩=some (.slice a2 l2 e2)):=fun W h=>⟨Aj (HBD.out W h) c1,Aj (HBD.out W h) c2⟩
   clear c1 c2
   go_upto_region 6 with(fail)
   refine Bc hmx (RSr k n b3 o3 b4 o4 c3 c4 l1 l2 e1 e2 a1 a2 r) (fun vs=>{tmps:=(_::_::_::_::_::_::_::_::_::_::_::_::_::_::_::_::_::vs 0::vs 1::vs 2::vs 3::vs 4::vs 5::vs 6::vs 7::vs 8::vs 9::[]).toArray,defers:=_}) (fun n=>[u17,u18,u19,u20,u21,u22,u23,u24,u25,u26].getD n undef) rfl (by kernel_rfl) (fun _ _ _ _ h hb=>h.below hb) ?step ?fin
   case step=>
    intro ix o ho
    match ix,ho with
    |0,ho|1,ho|2,ho|4,ho|5,ho|6,ho|9,ho=>
     obtain rfl:=osI ho;intro vs W K hB hD hK;have HK:=Ab hK
     try have e0:vs 0=.slice (some ⟨b3,o3,none⟩) n c3:=Ac hD 0 rfl
     try have e1:vs 1=.int .i64 (k:Int):=Ac hD 1 rfl
     try have e4:vs 4=.slice (some ⟨b4,o4,none⟩) n c4:=Ac hD 4 rfl
     try have e5:vs 5=.int .i64 (k:Int):=Ac hD 5 rfl
     try have e8:vs 8=.bool r:=Ac hD 8 rfl
     clear hK hD ho;dsimp only;go_simp;have h:=HK.out _ _ Ad rfl;simp only[upd,Nat.reduceEqDiff,reduceIte, *]at h;exact h
    |3,ho=>
     obtain rfl:=osI ho;intro vs W K hB hD hK;have HK:=Ab hK;have e2:vs 2=.pointer (some ⟨b3,o3+k,none⟩):=Ac hD 2 rfl;have q:=(HCl.out W hB).1;clear hK hD ho;dsimp only;go_simp;have h:=HK.out _ _ Ad rfl;simp only[upd,Nat.reduceEqDiff,reduceIte,e2]at h;exact h
    |7,ho=>
     obtain rfl:=osI ho;intro vs W K hB hD hK;have HK:=Ab hK;have e6:vs 6=.pointer (some ⟨b4,o4+k,none⟩):=Ac hD 6 rfl;have q:=(HCl.out W hB).2;clear hK hD ho;dsimp only;go_simp;have h:=HK.out _ _ Ad rfl;simp only[upd,Nat.reduceEqDiff,reduceIte,e6]at h;exact h
    |8,ho=>
     obtain rfl:=osI ho;intro vs W K hB hD hK;have HK:=Ab hK;have e3:vs 3=.slice a1 l1 e1:=Ac hD 3 rfl;have e7:vs 7=.slice a2 l2 e2:=Ac hD 7 rfl;clear hK hD ho;dsimp only;go_simp;refine(HR1.out W hB).mono ?_;rintro e W' ⟨rfl,hb⟩;have h:=HK.out _ _ hb rfl;simp only[upd,Nat.reduceEqDiff,reduceIte,e3,e7]at h;exact h
    |q+10,ho=>exact absurd ho (by simp)
   case fin=>
    intro vs wz hB hall;have el:vs 9=.bool (!r):=hall 9 (by decide);have HBZ:=Ab (HBD.out wz hB);clear hall hB HBD HCl HR1;rw[el];clear el;generalize vs 0=z0q,vs 1=z1q,vs 2=z2q,vs 3=z3q,vs 4=z4q,vs 5=z5q,vs 6=z6q,vs 7=z7q,vs 8=z8q;clear vs
    cases r with
    |false=>
     have HR:=Ab (HBk2.out rfl);go_wp2;go_ret;exact⟨Aq HR.out,HB.out.trans (HBZ.out.mono HB.out.size)⟩
    |true=>
     have HA2:=Ab (HAk2.out rfl);have HB3:=Ab (HB.out.trans (HBZ.out.mono HB.out.size));go_wp2
     go_roundg (n-(k+1))
     case measure=>have:=HGK.out;omega
     case rel=>exact⟨k+1,rfl,by go_num,by omega,HA2,HB3⟩
  ·have hi1:¬(k:Int)<(n:Int):=by omega
   have HR:=Ab (HYes.out fun i hi=>HA.out i (by omega));go_wp2;go_ret;exact⟨C4 HR.out,HB.out⟩
theorem Pv(w:World)(va vb:Value)(a b:My)(ha:By w va a)(hb:By w vb b):Calls Tryd.prog 19 #[va,vb] w (AC (.bool (decide (a=b))) w):=by
 obtain⟨u3,u4,rfl,hI,h3,h4⟩:=ha;obtain⟨v3,v4,rfl,hI',h3',h4'⟩:=hb;obtain⟨ai,ao,az,aa,an⟩:=a;obtain⟨bi,bo,bs,ba,bn⟩:=b;dsimp only at*;obtain⟨p3,c3,rfl⟩:=h3.shape;obtain⟨p4,c4,rfl⟩:=h4.shape;obtain⟨q3,e3,rfl⟩:=h3'.shape;obtain⟨q4,e4,rfl⟩:=h4'.shape
 have HC1:Hid (∀W,Below w.heap.size w W->Calls Tryd.prog 54 #[.slice p3 aa.length c3,.slice q3 ba.length e3] W (AC (.bool (decide (aa=ba))) W)):=fun W h=>Hh W _ _ _ _ (h3.below h) (h3'.below h)
 have HC2:Hid (∀W,Below w.heap.size w W->Calls Tryd.prog 54 #[.slice p4 an.length c4,.slice q4 bn.length e4] W (AC (.bool (decide (an=bn))) W)):=fun W h=>Hh W _ _ _ _ (h4.below h) (h4'.below h)
 have HV:Hid (decide ((⟨ai,ao,az,aa,an⟩:My)=⟨bi,bo,bs,ba,bn⟩)=((ai==bi)&&(ao==bo)&&(az==bs)&&decide (aa=ba)&&decide (an=bn))):=by
  show _=_;rw[Bool.eq_iff_iff];simp[and_assoc]
 clear h3 h4 h3' h4' hI hI';generalize decide ((⟨ai,ao,az,aa,an⟩:My)=⟨bi,bo,bs,ba,bn⟩)=R at*;generalize decide (aa=ba)=R1 at*;generalize decide (an=bn)=R2 at*;generalize aa.length=n3 at*;generalize an.length=n4 at*;generalize ba.length=m3 at*;generalize bn.length=m4 at*
 go_enter Tryd.func19,Tryd.ntmps19
 go_upto_region 1 with(fail)
 obtain⟨hx,-,hB⟩:=AA (w0:=w) Ad leR #[.int .i64 ai,.int .i64 ao,.int .i64 az,.slice p3 n3 c3,.slice p4 n4 c4] 24
 have hs:(w.alloc (.cells #[.int .i64 ai,.int .i64 ao,.int .i64 az,.slice p3 n3 c3,.slice p4 n4 c4] 24)).heap.size=w.heap.size+1:=by simp
 generalize w.alloc (.cells #[.int .i64 ai,.int .i64 ao,.int .i64 az,.slice p3 n3 c3,.slice p4 n4 c4] 24)=w1 at*;obtain⟨hy,hb1,hB2⟩:=AA hB hB.size #[.int .i64 bi,.int .i64 bo,.int .i64 bs,.slice q3 m3 e3,.slice q4 m4 e4] 24;replace hx:=Am hb1 hx;generalize w1.alloc (.cells #[.int .i64 bi,.int .i64 bo,.int .i64 bs,.slice q3 m3 e3,.slice q4 m4 e4] 24)=w2 at*;rw[hs]at hy;clear hB hb1 hs;have k0:=Aa 0 hx;have j0:=Aa 0 hy;have k1:=Aa 1 hx;have j1:=Aa 1 hy;have k2:=Aa 2 hx;have j2:=Aa 2 hy;have k3:=Aa 3 hx;have j3:=Aa 3 hy;have k4:=Aa 4 hx;have j4:=Aa 4 hy
 cases t0:(ai==bi)with
 |false=>
  have HR:Hid (R=false):=by show _=_;have:=HV.out;rw[t0]at this;simpa using this
  clear HV
  go_wp2_with fail
  go_ret;exact⟨Aq HR.out,hB2⟩
 |true=>
 cases t1:(ao==bo)with
 |false=>
  have HR:Hid (R=false):=by show _=_;have:=HV.out;rw[t1]at this;simpa using this
  clear HV
  go_wp2_with fail
  go_ret;exact⟨Aq HR.out,hB2⟩
 |true=>
 cases t2:(az==bs)with
 |false=>
  have HR:Hid (R=false):=by show _=_;have:=HV.out;rw[t2]at this;simpa using this
  clear HV
  go_wp2_with fail
  go_ret;exact⟨Aq HR.out,hB2⟩
 |true=>
 have HV2:Hid (R=(R1&&R2)):=by show _=_;have:=HV.out;rw[t0,t1,t2]at this;simpa using this
 clear HV
 go_wp2_with fail
 refine(HC1.out _ hB2).mono ?_;rintro e w3 ⟨rfl,hb⟩;replace hx:=Am hb hx;replace hy:=Am hb hy;replace hB2:=hB2.trans (hb.mono hB2.size);clear hb k0 k1 k2 k3 k4 j0 j1 j2 j3 j4;have k4:=Aa 4 hx;have j4:=Aa 4 hy
 cases R1 with
 |false=>
  have HR:Hid (R=false):=HV2.out
  go_wp2_with fail
  go_ret;exact⟨Aq HR.out,hB2⟩
 |true=>
  have HR:Hid (R=R2):=by show _=_;have:=HV2.out;simpa using this
  clear HV2
  go_wp2_with fail
  refine(HC2.out _ hB2).mono ?_;rintro e w4 ⟨rfl,hb⟩;replace hB2:=hB2.trans (hb.mono hB2.size);clear hb k4 j4 HC1 HC2
  go_wp2_with fail
  go_ret;exact⟨Av (by rw[HR.out]),hB2⟩
def Cy(l:List Sig)(m:My):Bool:=Ax l&&A9 m&&decide (m.ins=An l)&&decide (m.outs=Ah l)
def JP(l:List Sig)(m:Mo):Bool:=Ax l&&Eh m&&decide (m.ins=An l)&&decide (m.outs=Ah l)
theorem PG(a b:Int):(a==b)=decide (a=b):=by by_cases h:a=b<;>simp[h]
theorem AJ.shape{w:World}{v:Value}{l:List Sig}(h:AJ w v l):∃a c,v=.slice a l.length c:=by
 obtain⟨ao,cap,b,off,rfl,-⟩:=h;exact⟨_,_,rfl⟩
def GQ(_z _n3 _n4 _c3 _c4 n cs:Nat)(sa _a3 _a4:Option Addr)(_mi _mo _ms _oi _oo:Int)(ix:Nat)(u:Value)(_:World):Prop:=
 match ix with
 |0=>u=.slice sa n cs
 |1|2|5|6|12|13|19|20=>u=.bool false
 |3|4|7|8|9|10|11|14|15|16|17|18=>u=undef
 | _=>True
theorem GQ.below{ix:Nat}{u:Value}{W W':World}{z n3 n4 c3 c4 n cs:Nat}{sa a3 a4:Option Addr}{mi mo ms oi oo:Int}(h:GQ z n3 n4 c3 c4 n cs sa a3 a4 mi mo ms oi oo ix u W)(_:Below W.heap.size W W'):GQ z n3 n4 c3 c4 n cs sa a3 a4 mi mo ms oi oo ix u W':=by
 unfold GQ at*
 split at h<;>first|exact h|trivial
def GR(_z n3 n4 c3 c4 n cs:Nat)(sa a3 a4:Option Addr)(mi mo ms _oi _oo:Int)(ix:Nat)(u:Value)(_:World):Prop:=
 match ix with
 |0=>u=.slice sa n cs
 |1|2=>u=.bool true
 |3=>u=.agg #[.int .i64 mi,.int .i64 mo,.int .i64 ms,.slice a3 n3 c3,.slice a4 n4 c4]
 |4|5|6|12|13|19|20=>u=.bool false
 |7|8|9|10|11|14|15|16|17|18=>u=undef
 | _=>True
theorem GR.below{ix:Nat}{u:Value}{W W':World}{z n3 n4 c3 c4 n cs:Nat}{sa a3 a4:Option Addr}{mi mo ms oi oo:Int}(h:GR z n3 n4 c3 c4 n cs sa a3 a4 mi mo ms oi oo ix u W)(_:Below W.heap.size W W'):GR z n3 n4 c3 c4 n cs sa a3 a4 mi mo ms oi oo ix u W':=by
 unfold GR at*
 split at h<;>first|exact h|trivial
def GT(z n3 n4 c3 c4 n cs:Nat)(sa a3 a4:Option Addr)(mi mo ms oi _oo:Int)(ix:Nat)(u:Value)(_:World):Prop:=
 match ix with
 |0|9=>u=.slice sa n cs
 |1|2|4|5|6=>u=.bool true
 |3=>u=.agg #[.int .i64 mi,.int .i64 mo,.int .i64 ms,.slice a3 n3 c3,.slice a4 n4 c4]
 |7=>u=.pointer (some ⟨z,0,none⟩)
 |8=>u=.int .i64 mi
 |10=>u=.int .i64 oi
 |11|12|13|19|20=>u=.bool false
 |14|15|16|17|18=>u=undef
 | _=>True
theorem GT.below{ix:Nat}{u:Value}{W W':World}{z n3 n4 c3 c4 n cs:Nat}{sa a3 a4:Option Addr}{mi mo ms oi oo:Int}(h:GT z n3 n4 c3 c4 n cs sa a3 a4 mi mo ms oi oo ix u W)(_:Below W.heap.size W W'):GT z n3 n4 c3 c4 n cs sa a3 a4 mi mo ms oi oo ix u W':=by
 unfold GT at*
 split at h<;>first|exact h|trivial
def GU(z n3 n4 c3 c4 n cs:Nat)(sa a3 a4:Option Addr)(mi mo ms oi oo:Int)(ix:Nat)(u:Value)(_:World):Prop:=
 match ix with
 |0|9|16=>u=.slice sa n cs
 |1|2|4|5|6|11|12|13=>u=.bool true
 |3=>u=.agg #[.int .i64 mi,.int .i64 mo,.int .i64 ms,.slice a3 n3 c3,.slice a4 n4 c4]
 |7=>u=.pointer (some ⟨z,0,none⟩)
 |8=>u=.int .i64 mi
 |10=>u=.int .i64 oi
 |14=>u=.pointer (some ⟨z,1,none⟩)
 |15=>u=.int .i64 mo
 |17=>u=.int .i64 oo
 |18|19|20=>u=.bool (mo==oo)
 | _=>True
theorem GU.below{ix:Nat}{u:Value}{W W':World}{z n3 n4 c3 c4 n cs:Nat}{sa a3 a4:Option Addr}{mi mo ms oi oo:Int}(h:GU z n3 n4 c3 c4 n cs sa a3 a4 mi mo ms oi oo ix u W)(_:Below W.heap.size W W'):GU z n3 n4 c3 c4 n cs sa a3 a4 mi mo ms oi oo ix u W':=by
 unfold GU at*
 split at h<;>first|exact h|trivial
theorem I9(w:World)(vl vm:Value)(l:List Sig)(m:My)(hK:Bt w)(hl:AJ w vl l)(hm:By w vm m):Calls Tryd.prog 29 #[vl,vm] w (AC (.bool (Cy l m)) w):=by
 have hmx:Tryd.prog.follows .mixedOrders=true:=by kernel_rfl
 have HV0:Hid (∀W,Below w.heap.size w W->Calls Tryd.prog 22 #[vl] W (AC (.bool (Ax l)) W)):=fun W h=>(Cf W _ _ (hK.below h) (hl.below h)).mono fun _ _ h=>h.calm
 have HM0:Hid (∀W,Below w.heap.size w W->Calls Tryd.prog 20 #[vm] W (AC (.bool (A9 m)) W)):=fun W h=>FH W _ _ (hm.below h)
 have HI0:Hid (∀W,Below w.heap.size w W->Calls Tryd.prog 40 #[vl] W (AC (.int .i64 (An l)) W)):=fun W h=>Dq W _ _ (hK.below h) (hl.below h)
 have HO0:Hid (∀W,Below w.heap.size w W->Calls Tryd.prog 41 #[vl] W (AC (.int .i64 (Ah l)) W)):=fun W h=>CG W _ _ (hK.below h) (hl.below h)
 have HV:Hid (Cy l m=(Ax l&&A9 m&&decide (m.ins=An l)&&decide (m.outs=Ah l))):=rfl;obtain⟨sa,cs,rfl⟩:=hl.shape;obtain⟨v3,v4,rfl,hI,h3,h4⟩:=hm;obtain⟨a3,c3,rfl⟩:=h3.shape;obtain⟨a4,c4,rfl⟩:=h4.shape;clear h3 h4 hl hK;generalize Cy l m=R at*;generalize Ax l=R1 at*;generalize A9 m=R2 at*;generalize m.out.length=n3 at*;generalize m.next.length=n4 at*;generalize m.ins=mi at*;generalize m.outs=mo at*;generalize m.start=ms at*;generalize An l=oi at*;generalize Ah l=oo at*;generalize l.length=n at*
 go_enter Tryd.func29,Tryd.ntmps29
 go_upto_region 1 with(fail)
 obtain⟨hx,-,hB⟩:=AA (w0:=w) Ad leR #[.int .i64 mi,.int .i64 mo,.int .i64 ms,.slice a3 n3 c3,.slice a4 n4 c4] 24;generalize w.alloc (.cells #[.int .i64 mi,.int .i64 mo,.int .i64 ms,.slice a3 n3 c3,.slice a4 n4 c4] 24)=w1 at*;have k0:=Aa 0 hx;have k1:=Aa 1 hx;have k2:=Aa 2 hx;have k3:=Aa 3 hx;have k4:=Aa 4 hx
 have HBD:Hid (∀W,Below w1.drew.heap.size w1.drew W->Below w1.heap.size w1 W):=fun W h=>(Below.drew (B:=w1.heap.size) Ad).trans h
 have HX:=Ab hx;have HBW:=Ab hB
 have HV1:Hid (∀W,Below w1.heap.size w1 W->Calls Tryd.prog 22 #[.slice sa n cs] W (AC (.bool R1) W)):=fun W h=>HV0.out W (HBW.out.trans (h.mono HBW.out.size))
 have HM1:Hid (∀W,Below w1.heap.size w1 W->Calls Tryd.prog 20 #[.agg #[.int .i64 mi,.int .i64 mo,.int .i64 ms,.slice a3 n3 c3,.slice a4 n4 c4]] W (AC (.bool R2) W)):=fun W h=>HM0.out W (HBW.out.trans (h.mono HBW.out.size))
 have HI1:Hid (∀W,Below w1.heap.size w1 W->Calls Tryd.prog 40 #[.slice sa n cs] W (AC (.int .i64 oi) W)):=fun W h=>HI0.out W (HBW.out.trans (h.mono HBW.out.size))
 have HO1:Hid (∀W,Below w1.heap.size w1 W->Calls Tryd.prog 41 #[.slice sa n cs] W (AC (.int .i64 oo) W)):=fun W h=>HO0.out W (HBW.out.trans (h.mono HBW.out.size))
 have HCl:Hid (∀W,Below w1.drew.heap.size w1.drew W->W.cell? ⟨w.heap.size,0,none⟩=some (.int .i64 mi)/\W.cell? ⟨w.heap.size,1,none⟩=some (.int .i64 mo)/\W.cell? ⟨w.heap.size,2,none⟩=some (.int .i64 ms)/\W.cell? ⟨w.heap.size,3,none⟩=some (.slice a3 n3 c3)/\W.cell? ⟨w.heap.size,4,none⟩=some (.slice a4 n4 c4)):=fun W h=>⟨Aj (HBD.out W h) k0,Aj (HBD.out W h) k1,Aj (HBD.out W h) k2,Aj (HBD.out W h) k3,Aj (HBD.out W h) k4⟩
 clear k0 k1 k2 k3 k4 hx hB HV0 HM0 HI0 HO0
 cases R1 with
 |false=>
  have HR:Hid (R=false):=by show _=_;have:=HV.out;simpa using this
  refine Bc hmx (GQ w.heap.size n3 n4 c3 c4 n cs sa a3 a4 mi mo ms oi oo) (fun vs=>{tmps:=(_::_::_::_::vs 20::vs 0::vs 1::vs 2::vs 3::vs 4::vs 5::vs 6::vs 7::vs 8::vs 9::vs 10::vs 11::vs 12::vs 13::vs 14::vs 15::vs 16::vs 17::vs 18::vs 19::[]).toArray,defers:=_}) (fun n=>[undef,undef,undef,undef,undef,undef,undef,undef,undef,undef,undef,undef,undef,undef,undef,undef,undef,undef,undef,undef,.bool false].getD n undef) rfl (by kernel_rfl) (fun _ _ _ _ h hb=>h.below hb) ?step ?fin
  case step=>
   intro ix o ho
   match ix,ho with
   |0,ho|2,ho|3,ho|4,ho|5,ho|6,ho|7,ho|8,ho|9,ho|10,ho|11,ho|12,ho|13,ho|14,ho|15,ho|16,ho|17,ho|18,ho|19,ho|20,ho=>
    obtain rfl:=osI ho;intro vs W K hB hD hK;have HK:=Ab hK
    try have e1:vs 1=.bool false:=Ac hD 1 rfl
    try have e2:vs 2=.bool false:=Ac hD 2 rfl
    try have e4:vs 4=undef:=Ac hD 4 rfl
    try have e5:vs 5=.bool false:=Ac hD 5 rfl
    try have e6:vs 6=.bool false:=Ac hD 6 rfl
    try have e11:vs 11=undef:=Ac hD 11 rfl
    try have e12:vs 12=.bool false:=Ac hD 12 rfl
    try have e13:vs 13=.bool false:=Ac hD 13 rfl
    try have e18:vs 18=undef:=Ac hD 18 rfl
    try have e19:vs 19=.bool false:=Ac hD 19 rfl
    clear hK hD ho;dsimp only;go_simp;have h:=HK.out _ _ Ad rfl;simp only[upd,Nat.reduceEqDiff,reduceIte, *]at h;exact h
   |1,ho=>
    obtain rfl:=osI ho;intro vs W K hB hD hK;have HK:=Ab hK;have e0:vs 0=.slice sa n cs:=Ac hD 0 rfl;clear hK hD ho;dsimp only;go_simp;refine(HV1.out W (HBD.out W hB)).mono ?_;rintro e W' ⟨rfl,hb⟩;have h:=HK.out _ _ hb rfl;simp only[upd,Nat.reduceEqDiff,reduceIte,e0]at h;exact h
   |q+21,ho=>exact absurd ho (by simp)
  case fin=>
   intro vs wz hB hall;have el:vs 20=.bool false:=hall 20 (by decide);have HBZ:=Ab (HBD.out wz hB);clear hall hB HBD HCl HV1 HM1 HI1 HO1;rw[el];clear el;generalize vs 0=z0q,vs 1=z1q,vs 2=z2q,vs 3=z3q,vs 4=z4q,vs 5=z5q,vs 6=z6q,vs 7=z7q,vs 8=z8q,vs 9=z9q,vs 10=z10q,vs 11=z11q,vs 12=z12q,vs 13=z13q,vs 14=z14q,vs 15=z15q,vs 16=z16q,vs 17=z17q,vs 18=z18q,vs 19=z19q;clear vs;go_wp2;go_ret;exact⟨Aq HR.out,HBW.out.trans (HBZ.out.mono HBW.out.size)⟩
 |true=>
 cases R2 with
 |false=>
  have HR:Hid (R=false):=by show _=_;have:=HV.out;simpa using this
  refine Bc hmx (GR w.heap.size n3 n4 c3 c4 n cs sa a3 a4 mi mo ms oi oo) (fun vs=>{tmps:=(_::_::_::_::vs 20::vs 0::vs 1::vs 2::vs 3::vs 4::vs 5::vs 6::vs 7::vs 8::vs 9::vs 10::vs 11::vs 12::vs 13::vs 14::vs 15::vs 16::vs 17::vs 18::vs 19::[]).toArray,defers:=_}) (fun n=>[undef,undef,undef,undef,undef,undef,undef,undef,undef,undef,undef,undef,undef,undef,undef,undef,undef,undef,undef,undef,.bool false].getD n undef) rfl (by kernel_rfl) (fun _ _ _ _ h hb=>h.below hb) ?step ?fin
  case step=>
   intro ix o ho
   match ix,ho with
   |0,ho|2,ho|5,ho|6,ho|7,ho|8,ho|9,ho|10,ho|11,ho|12,ho|13,ho|14,ho|15,ho|16,ho|17,ho|18,ho|19,ho|20,ho=>
    obtain rfl:=osI ho;intro vs W K hB hD hK;have HK:=Ab hK
    try have e1:vs 1=.bool true:=Ac hD 1 rfl
    try have e2:vs 2=.bool true:=Ac hD 2 rfl
    try have e4:vs 4=.bool false:=Ac hD 4 rfl
    try have e5:vs 5=.bool false:=Ac hD 5 rfl
    try have e6:vs 6=.bool false:=Ac hD 6 rfl
    try have e11:vs 11=undef:=Ac hD 11 rfl
    try have e12:vs 12=.bool false:=Ac hD 12 rfl
    try have e13:vs 13=.bool false:=Ac hD 13 rfl
    try have e18:vs 18=undef:=Ac hD 18 rfl
    try have e19:vs 19=.bool false:=Ac hD 19 rfl
    clear hK hD ho;dsimp only;go_simp;have h:=HK.out _ _ Ad rfl;simp only[upd,Nat.reduceEqDiff,reduceIte, *]at h;exact h
   |1,ho=>
    obtain rfl:=osI ho;intro vs W K hB hD hK;have HK:=Ab hK;have e0:vs 0=.slice sa n cs:=Ac hD 0 rfl;clear hK hD ho;dsimp only;go_simp;refine(HV1.out W (HBD.out W hB)).mono ?_;rintro e W' ⟨rfl,hb⟩;have h:=HK.out _ _ hb rfl;simp only[upd,Nat.reduceEqDiff,reduceIte,e0]at h;exact h
   |3,ho=>
    obtain rfl:=osI ho;intro vs W K hB hD hK;have HK:=Ab hK;have e2:vs 2=.bool true:=Ac hD 2 rfl;obtain⟨d0,d1,d2,d3,d4⟩:=HCl.out W hB;clear hK hD ho;dsimp only;go_simp;have h:=HK.out _ _ Ad rfl;simp only[upd,Nat.reduceEqDiff,reduceIte,e2]at h;exact h
   |4,ho=>
    obtain rfl:=osI ho;intro vs W K hB hD hK;have HK:=Ab hK;have e2:vs 2=.bool true:=Ac hD 2 rfl;have e3:vs 3=.agg #[.int .i64 mi,.int .i64 mo,.int .i64 ms,.slice a3 n3 c3,.slice a4 n4 c4]:=Ac hD 3 rfl;clear hK hD ho;dsimp only;go_simp;refine(HM1.out W (HBD.out W hB)).mono ?_;rintro e W' ⟨rfl,hb⟩;have h:=HK.out _ _ hb rfl;simp only[upd,Nat.reduceEqDiff,reduceIte,e2,e3]at h;exact h
   |q+21,ho=>exact absurd ho (by simp)
  case fin=>
   intro vs wz hB hall;have el:vs 20=.bool false:=hall 20 (by decide);have HBZ:=Ab (HBD.out wz hB);clear hall hB HBD HCl HV1 HM1 HI1 HO1;rw[el];clear el;generalize vs 0=z0q,vs 1=z1q,vs 2=z2q,vs 3=z3q,vs 4=z4q,vs 5=z5q,vs 6=z6q,vs 7=z7q,vs 8=z8q,vs 9=z9q,vs 10=z10q,vs 11=z11q,vs 12=z12q,vs 13=z13q,vs 14=z14q,vs 15=z15q,vs 16=z16q,vs 17=z17q,vs 18=z18q,vs 19=z19q;clear vs;go_wp2;go_ret;exact⟨Aq HR.out,HBW.out.trans (HBZ.out.mono HBW.out.size)⟩
 |true=>
 cases ti:(mi==oi)with
 |false=>
  have HR:Hid (R=false):=by show _=_;have:=HV.out;rw[decide_eq_false (by rw[beq_eq_false_iff_ne]at ti;exact ti)]at this;simpa using this
  refine Bc hmx (GT w.heap.size n3 n4 c3 c4 n cs sa a3 a4 mi mo ms oi oo) (fun vs=>{tmps:=(_::_::_::_::vs 20::vs 0::vs 1::vs 2::vs 3::vs 4::vs 5::vs 6::vs 7::vs 8::vs 9::vs 10::vs 11::vs 12::vs 13::vs 14::vs 15::vs 16::vs 17::vs 18::vs 19::[]).toArray,defers:=_}) (fun n=>[undef,undef,undef,undef,undef,undef,undef,undef,undef,undef,undef,undef,undef,undef,undef,undef,undef,undef,undef,undef,.bool false].getD n undef) rfl (by kernel_rfl) (fun _ _ _ _ h hb=>h.below hb) ?step ?fin
  case step=>
   intro ix o ho
   match ix,ho with
   |0,ho|2,ho|5,ho|6,ho|7,ho|9,ho|11,ho|12,ho|13,ho|14,ho|15,ho|16,ho|17,ho|18,ho|19,ho|20,ho=>
    obtain rfl:=osI ho;intro vs W K hB hD hK;have HK:=Ab hK
    try have e1:vs 1=.bool true:=Ac hD 1 rfl
    try have e2:vs 2=.bool true:=Ac hD 2 rfl
    try have e4:vs 4=.bool true:=Ac hD 4 rfl
    try have e5:vs 5=.bool true:=Ac hD 5 rfl
    try have e6:vs 6=.bool true:=Ac hD 6 rfl
    try have e8:vs 8=.int .i64 mi:=Ac hD 8 rfl
    try have e10:vs 10=.int .i64 oi:=Ac hD 10 rfl
    try have e11:vs 11=.bool false:=Ac hD 11 rfl
    try have e12:vs 12=.bool false:=Ac hD 12 rfl
    try have e13:vs 13=.bool false:=Ac hD 13 rfl
    try have e18:vs 18=undef:=Ac hD 18 rfl
    try have e19:vs 19=.bool false:=Ac hD 19 rfl
    clear hK hD ho;dsimp only;go_simp;have h:=HK.out _ _ Ad rfl;simp only[upd,Nat.reduceEqDiff,reduceIte, *]at h;exact h
   |1,ho=>
    obtain rfl:=osI ho;intro vs W K hB hD hK;have HK:=Ab hK;have e0:vs 0=.slice sa n cs:=Ac hD 0 rfl;clear hK hD ho;dsimp only;go_simp;refine(HV1.out W (HBD.out W hB)).mono ?_;rintro e W' ⟨rfl,hb⟩;have h:=HK.out _ _ hb rfl;simp only[upd,Nat.reduceEqDiff,reduceIte,e0]at h;exact h
   |3,ho|8,ho=>
    obtain rfl:=osI ho;intro vs W K hB hD hK;have HK:=Ab hK
    try have e2:vs 2=.bool true:=Ac hD 2 rfl
    try have e6:vs 6=.bool true:=Ac hD 6 rfl
    try have e7:vs 7=.pointer (some ⟨w.heap.size,0,none⟩):=Ac hD 7 rfl
    obtain⟨d0,d1,d2,d3,d4⟩:=HCl.out W hB;clear hK hD ho;dsimp only;go_simp;have h:=HK.out _ _ Ad rfl;simp only[upd,Nat.reduceEqDiff,reduceIte, *]at h;exact h
   |4,ho=>
    obtain rfl:=osI ho;intro vs W K hB hD hK;have HK:=Ab hK;have e2:vs 2=.bool true:=Ac hD 2 rfl;have e3:vs 3=.agg #[.int .i64 mi,.int .i64 mo,.int .i64 ms,.slice a3 n3 c3,.slice a4 n4 c4]:=Ac hD 3 rfl;clear hK hD ho;dsimp only;go_simp;refine(HM1.out W (HBD.out W hB)).mono ?_;rintro e W' ⟨rfl,hb⟩;have h:=HK.out _ _ hb rfl;simp only[upd,Nat.reduceEqDiff,reduceIte,e2,e3]at h;exact h
   |10,ho=>
    obtain rfl:=osI ho;intro vs W K hB hD hK;have HK:=Ab hK;have e6:vs 6=.bool true:=Ac hD 6 rfl;have e9:vs 9=.slice sa n cs:=Ac hD 9 rfl;clear hK hD ho;dsimp only;go_simp;refine(HI1.out W (HBD.out W hB)).mono ?_;rintro e W' ⟨rfl,hb⟩;have h:=HK.out _ _ hb rfl;simp only[upd,Nat.reduceEqDiff,reduceIte,e6,e9]at h;exact h
   |q+21,ho=>exact absurd ho (by simp)
  case fin=>
   intro vs wz hB hall;have el:vs 20=.bool false:=hall 20 (by decide);have HBZ:=Ab (HBD.out wz hB);clear hall hB HBD HCl HV1 HM1 HI1 HO1;rw[el];clear el;generalize vs 0=z0q,vs 1=z1q,vs 2=z2q,vs 3=z3q,vs 4=z4q,vs 5=z5q,vs 6=z6q,vs 7=z7q,vs 8=z8q,vs 9=z9q,vs 10=z10q,vs 11=z11q,vs 12=z12q,vs 13=z13q,vs 14=z14q,vs 15=z15q,vs 16=z16q,vs 17=z17q,vs 18=z18q,vs 19=z19q;clear vs;go_wp2;go_ret;exact⟨Aq HR.out,HBW.out.trans (HBZ.out.mono HBW.out.size)⟩
 |true=>
  have HR:Hid (R=decide (mo=oo)):=by show _=_;have:=HV.out;rw[decide_eq_true (by rw[beq_iff_eq]at ti;exact ti)]at this;simpa using this
  refine Bc hmx (GU w.heap.size n3 n4 c3 c4 n cs sa a3 a4 mi mo ms oi oo) (fun vs=>{tmps:=(_::_::_::_::vs 20::vs 0::vs 1::vs 2::vs 3::vs 4::vs 5::vs 6::vs 7::vs 8::vs 9::vs 10::vs 11::vs 12::vs 13::vs 14::vs 15::vs 16::vs 17::vs 18::vs 19::[]).toArray,defers:=_}) (fun n=>[undef,undef,undef,undef,undef,undef,undef,undef,undef,undef,undef,undef,undef,undef,undef,undef,undef,undef,undef,undef,.bool false].getD n undef) rfl (by kernel_rfl) (fun _ _ _ _ h hb=>h.below hb) ?step ?fin
  case step=>
   intro ix o ho
   match ix,ho with
   |0,ho|2,ho|5,ho|6,ho|7,ho|9,ho|11,ho|12,ho|13,ho|14,ho|16,ho|18,ho|19,ho|20,ho=>
    obtain rfl:=osI ho;intro vs W K hB hD hK;have HK:=Ab hK
    try have e1:vs 1=.bool true:=Ac hD 1 rfl
    try have e2:vs 2=.bool true:=Ac hD 2 rfl
    try have e4:vs 4=.bool true:=Ac hD 4 rfl
    try have e5:vs 5=.bool true:=Ac hD 5 rfl
    try have e6:vs 6=.bool true:=Ac hD 6 rfl
    try have e8:vs 8=.int .i64 mi:=Ac hD 8 rfl
    try have e10:vs 10=.int .i64 oi:=Ac hD 10 rfl
    try have e11:vs 11=.bool true:=Ac hD 11 rfl
    try have e12:vs 12=.bool true:=Ac hD 12 rfl
    try have e13:vs 13=.bool true:=Ac hD 13 rfl
    try have e15:vs 15=.int .i64 mo:=Ac hD 15 rfl
    try have e17:vs 17=.int .i64 oo:=Ac hD 17 rfl
    try have e18:vs 18=.bool (mo==oo):=Ac hD 18 rfl
    try have e19:vs 19=.bool (mo==oo):=Ac hD 19 rfl
    clear hK hD ho;dsimp only;go_simp;have h:=HK.out _ _ Ad rfl;simp only[upd,Nat.reduceEqDiff,reduceIte, *]at h;exact h
   |1,ho=>
    obtain rfl:=osI ho;intro vs W K hB hD hK;have HK:=Ab hK;have e0:vs 0=.slice sa n cs:=Ac hD 0 rfl;clear hK hD ho;dsimp only;go_simp;refine(HV1.out W (HBD.out W hB)).mono ?_;rintro e W' ⟨rfl,hb⟩;have h:=HK.out _ _ hb rfl;simp only[upd,Nat.reduceEqDiff,reduceIte,e0]at h;exact h
   |3,ho|8,ho|15,ho=>
    obtain rfl:=osI ho;intro vs W K hB hD hK;have HK:=Ab hK
    try have e2:vs 2=.bool true:=Ac hD 2 rfl
    try have e6:vs 6=.bool true:=Ac hD 6 rfl
    try have e7:vs 7=.pointer (some ⟨w.heap.size,0,none⟩):=Ac hD 7 rfl
    try have e13:vs 13=.bool true:=Ac hD 13 rfl
    try have e14:vs 14=.pointer (some ⟨w.heap.size,1,none⟩):=Ac hD 14 rfl
    obtain⟨d0,d1,d2,d3,d4⟩:=HCl.out W hB;clear hK hD ho;dsimp only;go_simp;have h:=HK.out _ _ Ad rfl;simp only[upd,Nat.reduceEqDiff,reduceIte, *]at h;exact h
   |4,ho=>
    obtain rfl:=osI ho;intro vs W K hB hD hK;have HK:=Ab hK;have e2:vs 2=.bool true:=Ac hD 2 rfl;have e3:vs 3=.agg #[.int .i64 mi,.int .i64 mo,.int .i64 ms,.slice a3 n3 c3,.slice a4 n4 c4]:=Ac hD 3 rfl;clear hK hD ho;dsimp only;go_simp;refine(HM1.out W (HBD.out W hB)).mono ?_;rintro e W' ⟨rfl,hb⟩;have h:=HK.out _ _ hb rfl;simp only[upd,Nat.reduceEqDiff,reduceIte,e2,e3]at h;exact h
   |10,ho=>
    obtain rfl:=osI ho;intro vs W K hB hD hK;have HK:=Ab hK;have e6:vs 6=.bool true:=Ac hD 6 rfl;have e9:vs 9=.slice sa n cs:=Ac hD 9 rfl;clear hK hD ho;dsimp only;go_simp;refine(HI1.out W (HBD.out W hB)).mono ?_;rintro e W' ⟨rfl,hb⟩;have h:=HK.out _ _ hb rfl;simp only[upd,Nat.reduceEqDiff,reduceIte,e6,e9]at h;exact h
   |17,ho=>
    obtain rfl:=osI ho;intro vs W K hB hD hK;have HK:=Ab hK;have e13:vs 13=.bool true:=Ac hD 13 rfl;have e16:vs 16=.slice sa n cs:=Ac hD 16 rfl;clear hK hD ho;dsimp only;go_simp;refine(HO1.out W (HBD.out W hB)).mono ?_;rintro e W' ⟨rfl,hb⟩;have h:=HK.out _ _ hb rfl;simp only[upd,Nat.reduceEqDiff,reduceIte,e13,e16]at h;exact h
   |q+21,ho=>exact absurd ho (by simp)
  case fin=>
   intro vs wz hB hall;have el:vs 20=.bool (mo==oo):=hall 20 (by decide);have HBZ:=Ab (HBD.out wz hB);clear hall hB HBD HCl HV1 HM1 HI1 HO1;rw[el];clear el;generalize vs 0=z0q,vs 1=z1q,vs 2=z2q,vs 3=z3q,vs 4=z4q,vs 5=z5q,vs 6=z6q,vs 7=z7q,vs 8=z8q,vs 9=z9q,vs 10=z10q,vs 11=z11q,vs 12=z12q,vs 13=z13q,vs 14=z14q,vs 15=z15q,vs 16=z16q,vs 17=z17q,vs 18=z18q,vs 19=z19q;clear vs;go_wp2;go_ret;exact⟨Av ((PG _ _).trans HR.out.symm),HBW.out.trans (HBZ.out.mono HBW.out.size)⟩
end Go.Proofs.YtncjeamdkjcebaaDoor
