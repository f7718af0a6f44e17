/- When a machine fits signals: mealy's fits, the reference's Fits and FitsEnv. -/
import Derived.Test.YtncjeamdkjcebaaGreatDoorZMyV3
set_option linter.all false
set_option maxHeartbeats 8000000
set_option maxRecDepth 100000
namespace Go.Proofs.YtncjeamdkjcebaaGreatDoor
open Go.RowKit
def Bm(l:List Sig)(m:My):Bool:=At l&&Be m&&decide (m.ins=Ap l)&&decide (m.outs=Aj l)
def E6(l:List Sig)(m:Mo):Bool:=At l&&Bq m&&decide (m.ins=Ap l)&&decide (m.outs=Aj l)
theorem J3(a b:Int):(a==b)=decide (a=b):=by by_cases h:a=b<;>simp[h]
theorem AH.shape{w:World}{v:Value}{l:List Sig}(h:AH w v l):∃a c,v=.slice a l.length c:=by
 obtain⟨ao,cap,b,off,rfl,-⟩:=h;exact⟨_,_,rfl⟩
def FO(_z _n3 _n4 _c3 _c4 n cs:Nat)(sa _a3 _a4:Option Addr)(_mi _mo _ms _oi _oo:Int)(ix:Nat)(u:Value)(_:World):Prop:=
 match ix with
 |0=>u=.slice sa n cs
 |1|2|5|6|12|13|19|20=>u=.bool false
 |3|4|7|8|9|10|11|14|15|16|17|18=>u=undef
 | _=>True
theorem FO.below{ix:Nat}{u:Value}{W W':World}{z n3 n4 c3 c4 n cs:Nat}{sa a3 a4:Option Addr}{mi mo ms oi oo:Int}(h:FO z n3 n4 c3 c4 n cs sa a3 a4 mi mo ms oi oo ix u W)(_:Below W.heap.size W W'):FO z n3 n4 c3 c4 n cs sa a3 a4 mi mo ms oi oo ix u W':=by
 unfold FO at*
 split at h<;>first|exact h|trivial
def FP(_z n3 n4 c3 c4 n cs:Nat)(sa a3 a4:Option Addr)(mi mo ms _oi _oo:Int)(ix:Nat)(u:Value)(_:World):Prop:=
 match ix with
 |0=>u=.slice sa n cs
 |1|2=>u=.bool true
 |3=>u=.agg #[.int .i64 mi,.int .i64 mo,.int .i64 ms,.slice a3 n3 c3,.slice a4 n4 c4]
 |4|5|6|12|13|19|20=>u=.bool false
 |7|8|9|10|11|14|15|16|17|18=>u=undef
 | _=>True
theorem FP.below{ix:Nat}{u:Value}{W W':World}{z n3 n4 c3 c4 n cs:Nat}{sa a3 a4:Option Addr}{mi mo ms oi oo:Int}(h:FP z n3 n4 c3 c4 n cs sa a3 a4 mi mo ms oi oo ix u W)(_:Below W.heap.size W W'):FP z n3 n4 c3 c4 n cs sa a3 a4 mi mo ms oi oo ix u W':=by
 unfold FP at*
 split at h<;>first|exact h|trivial
def FQ(z n3 n4 c3 c4 n cs:Nat)(sa a3 a4:Option Addr)(mi mo ms oi _oo:Int)(ix:Nat)(u:Value)(_:World):Prop:=
 match ix with
 |0|9=>u=.slice sa n cs
 |1|2|4|5|6=>u=.bool true
 |3=>u=.agg #[.int .i64 mi,.int .i64 mo,.int .i64 ms,.slice a3 n3 c3,.slice a4 n4 c4]
 |7=>u=.pointer (some ⟨z,0,none⟩)
 |8=>u=.int .i64 mi
 |10=>u=.int .i64 oi
 |11|12|13|19|20=>u=.bool false
 |14|15|16|17|18=>u=undef
 | _=>True
theorem FQ.below{ix:Nat}{u:Value}{W W':World}{z n3 n4 c3 c4 n cs:Nat}{sa a3 a4:Option Addr}{mi mo ms oi oo:Int}(h:FQ z n3 n4 c3 c4 n cs sa a3 a4 mi mo ms oi oo ix u W)(_:Below W.heap.size W W'):FQ z n3 n4 c3 c4 n cs sa a3 a4 mi mo ms oi oo ix u W':=by
 unfold FQ at*
 split at h<;>first|exact h|trivial
def FR(z n3 n4 c3 c4 n cs:Nat)(sa a3 a4:Option Addr)(mi mo ms oi oo:Int)(ix:Nat)(u:Value)(_:World):Prop:=
 match ix with
 |0|9|16=>u=.slice sa n cs
 |1|2|4|5|6|11|12|13=>u=.bool true
 |3=>u=.agg #[.int .i64 mi,.int .i64 mo,.int .i64 ms,.slice a3 n3 c3,.slice a4 n4 c4]
 |7=>u=.pointer (some ⟨z,0,none⟩)
 |8=>u=.int .i64 mi
 |10=>u=.int .i64 oi
 |14=>u=.pointer (some ⟨z,1,none⟩)
 |15=>u=.int .i64 mo
 |17=>u=.int .i64 oo
 |18|19|20=>u=.bool (mo==oo)
 | _=>True
theorem FR.below{ix:Nat}{u:Value}{W W':World}{z n3 n4 c3 c4 n cs:Nat}{sa a3 a4:Option Addr}{mi mo ms oi oo:Int}(h:FR z n3 n4 c3 c4 n cs sa a3 a4 mi mo ms oi oo ix u W)(_:Below W.heap.size W W'):FR z n3 n4 c3 c4 n cs sa a3 a4 mi mo ms oi oo ix u W':=by
 unfold FR at*
 split at h<;>first|exact h|trivial
theorem J9(w:World)(vl vm:Value)(l:List Sig)(m:My)(hK:BN w)(hl:AH w vl l)(hm:BM w vm m):Calls Tryz.prog 47 #[vl,vm] w (Av (.bool (Bm l m)) w):=by
 have hmx:Tryz.prog.follows .mixedOrders=true:=by kernel_rfl
 have HV0:Hid (∀W,Below w.heap.size w W->Calls Tryz.prog 41 #[vl] W (Av (.bool (At l)) W)):=fun W h=>(Cv W _ _ (hK.below h) (hl.below h)).mono fun _ _ h=>h.calm
 have HM0:Hid (∀W,Below w.heap.size w W->Calls Tryz.prog 18 #[vm] W (Av (.bool (Be m)) W)):=fun W h=>Gh W _ _ (hm.below h)
 have HI0:Hid (∀W,Below w.heap.size w W->Calls Tryz.prog 78 #[vl] W (Av (.int .i64 (Ap l)) W)):=fun W h=>DJ W _ _ (hK.below h) (hl.below h)
 have HO0:Hid (∀W,Below w.heap.size w W->Calls Tryz.prog 79 #[vl] W (Av (.int .i64 (Aj l)) W)):=fun W h=>CY W _ _ (hK.below h) (hl.below h)
 have HV:Hid (Bm l m=(At l&&Be m&&decide (m.ins=Ap l)&&decide (m.outs=Aj l))):=rfl;obtain⟨sa,cs,rfl⟩:=hl.shape;obtain⟨v3,v4,rfl,hI,h3,h4⟩:=hm;obtain⟨a3,c3,rfl⟩:=h3.shape;obtain⟨a4,c4,rfl⟩:=h4.shape;clear h3 h4 hl hK;generalize Bm l m=R at*;generalize At l=R1 at*;generalize Be m=R2 at*;generalize m.out.length=n3 at*;generalize m.next.length=n4 at*;generalize m.ins=mi at*;generalize m.outs=mo at*;generalize m.start=ms at*;generalize Ap l=oi at*;generalize Aj l=oo at*;generalize l.length=n at*
 go_enter Tryz.func47,Tryz.ntmps47
 go_upto_region 1 with(fail)
 obtain⟨hx,-,hB⟩:=Az (w0:=w) Ad leR #[.int .i64 mi,.int .i64 mo,.int .i64 ms,.slice a3 n3 c3,.slice a4 n4 c4] 25;generalize w.alloc (.cells #[.int .i64 mi,.int .i64 mo,.int .i64 ms,.slice a3 n3 c3,.slice a4 n4 c4] 25)=w1 at*;have k0:=Aa 0 hx;have k1:=Aa 1 hx;have k2:=Aa 2 hx;have k3:=Aa 3 hx;have k4:=Aa 4 hx
 have HBD:Hid (∀W,Below w1.drew.heap.size w1.drew W->Below w1.heap.size w1 W):=fun W h=>(Below.drew (B:=w1.heap.size) Ad).trans h
 have HX:=Ab hx;have HBW:=Ab hB
 have HV1:Hid (∀W,Below w1.heap.size w1 W->Calls Tryz.prog 41 #[.slice sa n cs] W (Av (.bool R1) W)):=fun W h=>HV0.out W (HBW.out.trans (h.mono HBW.out.size))
 have HM1:Hid (∀W,Below w1.heap.size w1 W->Calls Tryz.prog 18 #[.agg #[.int .i64 mi,.int .i64 mo,.int .i64 ms,.slice a3 n3 c3,.slice a4 n4 c4]] W (Av (.bool R2) W)):=fun W h=>HM0.out W (HBW.out.trans (h.mono HBW.out.size))
 have HI1:Hid (∀W,Below w1.heap.size w1 W->Calls Tryz.prog 78 #[.slice sa n cs] W (Av (.int .i64 oi) W)):=fun W h=>HI0.out W (HBW.out.trans (h.mono HBW.out.size))
 have HO1:Hid (∀W,Below w1.heap.size w1 W->Calls Tryz.prog 79 #[.slice sa n cs] W (Av (.int .i64 oo) W)):=fun W h=>HO0.out W (HBW.out.trans (h.mono HBW.out.size))
 have HCl:Hid (∀W,Below w1.drew.heap.size w1.drew W->W.cell? ⟨w.heap.size,0,none⟩=some (.int .i64 mi)/\W.cell? ⟨w.heap.size,1,none⟩=some (.int .i64 mo)/\W.cell? ⟨w.heap.size,2,none⟩=some (.int .i64 ms)/\W.cell? ⟨w.heap.size,3,none⟩=some (.slice a3 n3 c3)/\W.cell? ⟨w.heap.size,4,none⟩=some (.slice a4 n4 c4)):=fun W h=>⟨Ah (HBD.out W h) k0,Ah (HBD.out W h) k1,Ah (HBD.out W h) k2,Ah (HBD.out W h) k3,Ah (HBD.out W h) k4⟩
 clear k0 k1 k2 k3 k4 hx hB HV0 HM0 HI0 HO0
 cases R1 with
 |false=>
  have HR:Hid (R=false):=by show _=_;have:=HV.out;simpa using this
  refine AB hmx (FO w.heap.size n3 n4 c3 c4 n cs sa a3 a4 mi mo ms oi oo) (fun vs=>{tmps:=(_::_::_::_::vs 20::vs 0::vs 1::vs 2::vs 3::vs 4::vs 5::vs 6::vs 7::vs 8::vs 9::vs 10::vs 11::vs 12::vs 13::vs 14::vs 15::vs 16::vs 17::vs 18::vs 19::[]).toArray,defers:=_}) (fun n=>[undef,undef,undef,undef,undef,undef,undef,undef,undef,undef,undef,undef,undef,undef,undef,undef,undef,undef,undef,undef,.bool false].getD n undef) rfl (by kernel_rfl) (fun _ _ _ _ h hb=>h.below hb) ?step ?fin
  case step=>
   intro ix o ho
   match ix,ho with
   |0,ho|2,ho|3,ho|4,ho|5,ho|6,ho|7,ho|8,ho|9,ho|10,ho|11,ho|12,ho|13,ho|14,ho|15,ho|16,ho|17,ho|18,ho|19,ho|20,ho=>
    obtain rfl:=osI ho;intro vs W K hB hD hK;have HK:=Ab hK
    try have e1:vs 1=.bool false:=Ac hD 1 rfl
    try have e2:vs 2=.bool false:=Ac hD 2 rfl
    try have e4:vs 4=undef:=Ac hD 4 rfl
    try have e5:vs 5=.bool false:=Ac hD 5 rfl
    try have e6:vs 6=.bool false:=Ac hD 6 rfl
    try have e11:vs 11=undef:=Ac hD 11 rfl
    try have e12:vs 12=.bool false:=Ac hD 12 rfl
    try have e13:vs 13=.bool false:=Ac hD 13 rfl
    try have e18:vs 18=undef:=Ac hD 18 rfl
    try have e19:vs 19=.bool false:=Ac hD 19 rfl
    clear hK hD ho;dsimp only;go_simp;have h:=HK.out _ _ Ad rfl;simp only[upd,Nat.reduceEqDiff,reduceIte, *]at h;exact h
   |1,ho=>
    obtain rfl:=osI ho;intro vs W K hB hD hK;have HK:=Ab hK;have e0:vs 0=.slice sa n cs:=Ac hD 0 rfl;clear hK hD ho;dsimp only;go_simp;refine(HV1.out W (HBD.out W hB)).mono ?_;rintro e W' ⟨rfl,hb⟩;have h:=HK.out _ _ hb rfl;simp only[upd,Nat.reduceEqDiff,reduceIte,e0]at h;exact h
   |q+21,ho=>exact absurd ho (by simp)
  case fin=>
   intro vs wz hB hall;have el:vs 20=.bool false:=hall 20 (by decide);have HBZ:=Ab (HBD.out wz hB);clear hall hB HBD HCl HV1 HM1 HI1 HO1;rw[el];clear el;generalize vs 0=z0q,vs 1=z1q,vs 2=z2q,vs 3=z3q,vs 4=z4q,vs 5=z5q,vs 6=z6q,vs 7=z7q,vs 8=z8q,vs 9=z9q,vs 10=z10q,vs 11=z11q,vs 12=z12q,vs 13=z13q,vs 14=z14q,vs 15=z15q,vs 16=z16q,vs 17=z17q,vs 18=z18q,vs 19=z19q;clear vs;go_wp2;go_ret;exact⟨An HR.out,HBW.out.trans (HBZ.out.mono HBW.out.size)⟩
 |true=>
 cases R2 with
 |false=>
  have HR:Hid (R=false):=by show _=_;have:=HV.out;simpa using this
  refine AB hmx (FP w.heap.size n3 n4 c3 c4 n cs sa a3 a4 mi mo ms oi oo) (fun vs=>{tmps:=(_::_::_::_::vs 20::vs 0::vs 1::vs 2::vs 3::vs 4::vs 5::vs 6::vs 7::vs 8::vs 9::vs 10::vs 11::vs 12::vs 13::vs 14::vs 15::vs 16::vs 17::vs 18::vs 19::[]).toArray,defers:=_}) (fun n=>[undef,undef,undef,undef,undef,undef,undef,undef,undef,undef,undef,undef,undef,undef,undef,undef,undef,undef,undef,undef,.bool false].getD n undef) rfl (by kernel_rfl) (fun _ _ _ _ h hb=>h.below hb) ?step ?fin
  case step=>
   intro ix o ho
   match ix,ho with
   |0,ho|2,ho|5,ho|6,ho|7,ho|8,ho|9,ho|10,ho|11,ho|12,ho|13,ho|14,ho|15,ho|16,ho|17,ho|18,ho|19,ho|20,ho=>
    obtain rfl:=osI ho;intro vs W K hB hD hK;have HK:=Ab hK
    try have e1:vs 1=.bool true:=Ac hD 1 rfl
    try have e2:vs 2=.bool true:=Ac hD 2 rfl
    try have e4:vs 4=.bool false:=Ac hD 4 rfl
    try have e5:vs 5=.bool false:=Ac hD 5 rfl
    try have e6:vs 6=.bool false:=Ac hD 6 rfl
    try have e11:vs 11=undef:=Ac hD 11 rfl
    try have e12:vs 12=.bool false:=Ac hD 12 rfl
    try have e13:vs 13=.bool false:=Ac hD 13 rfl
    try have e18:vs 18=undef:=Ac hD 18 rfl
    try have e19:vs 19=.bool false:=Ac hD 19 rfl
    clear hK hD ho;dsimp only;go_simp;have h:=HK.out _ _ Ad rfl;simp only[upd,Nat.reduceEqDiff,reduceIte, *]at h;exact h
   |1,ho=>
    obtain rfl:=osI ho;intro vs W K hB hD hK;have HK:=Ab hK;have e0:vs 0=.slice sa n cs:=Ac hD 0 rfl;clear hK hD ho;dsimp only;go_simp;refine(HV1.out W (HBD.out W hB)).mono ?_;rintro e W' ⟨rfl,hb⟩;have h:=HK.out _ _ hb rfl;simp only[upd,Nat.reduceEqDiff,reduceIte,e0]at h;exact h
   |3,ho=>
    obtain rfl:=osI ho;intro vs W K hB hD hK;have HK:=Ab hK;have e2:vs 2=.bool true:=Ac hD 2 rfl;obtain⟨d0,d1,d2,d3,d4⟩:=HCl.out W hB;clear hK hD ho;dsimp only;go_simp;have h:=HK.out _ _ Ad rfl;simp only[upd,Nat.reduceEqDiff,reduceIte,e2]at h;exact h
   |4,ho=>
    obtain rfl:=osI ho;intro vs W K hB hD hK;have HK:=Ab hK;have e2:vs 2=.bool true:=Ac hD 2 rfl;have e3:vs 3=.agg #[.int .i64 mi,.int .i64 mo,.int .i64 ms,.slice a3 n3 c3,.slice a4 n4 c4]:=Ac hD 3 rfl;clear hK hD ho;dsimp only;go_simp;refine(HM1.out W (HBD.out W hB)).mono ?_;rintro e W' ⟨rfl,hb⟩;have h:=HK.out _ _ hb rfl;simp only[upd,Nat.reduceEqDiff,reduceIte,e2,e3]at h;exact h
   |q+21,ho=>exact absurd ho (by simp)
  case fin=>
   intro vs wz hB hall;have el:vs 20=.bool false:=hall 20 (by decide);have HBZ:=Ab (HBD.out wz hB);clear hall hB HBD HCl HV1 HM1 HI1 HO1;rw[el];clear el;generalize vs 0=z0q,vs 1=z1q,vs 2=z2q,vs 3=z3q,vs 4=z4q,vs 5=z5q,vs 6=z6q,vs 7=z7q,vs 8=z8q,vs 9=z9q,vs 10=z10q,vs 11=z11q,vs 12=z12q,vs 13=z13q,vs 14=z14q,vs 15=z15q,vs 16=z16q,vs 17=z17q,vs 18=z18q,vs 19=z19q;clear vs;go_wp2;go_ret;exact⟨An HR.out,HBW.out.trans (HBZ.out.mono HBW.out.size)⟩
 |true=>
 cases ti:(mi==oi)with
 |false=>
  have HR:Hid (R=false):=by show _=_;have:=HV.out;rw[decide_eq_false (by rw[beq_eq_false_iff_ne]at ti;exact ti)]at this;simpa using this
  refine AB hmx (FQ w.heap.size n3 n4 c3 c4 n cs sa a3 a4 mi mo ms oi oo) (fun vs=>{tmps:=(_::_::_::_::vs 20::vs 0::vs 1::vs 2::vs 3::vs 4::vs 5::vs 6::vs 7::vs 8::vs 9::vs 10::vs 11::vs 12::vs 13::vs 14::vs 15::vs 16::vs 17::vs 18::vs 19::[]).toArray,defers:=_}) (fun n=>[undef,undef,undef,undef,undef,undef,undef,undef,undef,undef,undef,undef,undef,undef,undef,undef,undef,undef,undef,undef,.bool false].getD n undef) rfl (by kernel_rfl) (fun _ _ _ _ h hb=>h.below hb) ?step ?fin
  case step=>
   intro ix o ho
   match ix,ho with
   |0,ho|2,ho|5,ho|6,ho|7,ho|9,ho|11,ho|12,ho|13,ho|14,ho|15,ho|16,ho|17,ho|18,ho|19,ho|20,ho=>
    obtain rfl:=osI ho;intro vs W K hB hD hK;have HK:=Ab hK
    try have e1:vs 1=.bool true:=Ac hD 1 rfl
    try have e2:vs 2=.bool true:=Ac hD 2 rfl
    try have e4:vs 4=.bool true:=Ac hD 4 rfl
    try have e5:vs 5=.bool true:=Ac hD 5 rfl
    try have e6:vs 6=.bool true:=Ac hD 6 rfl
    try have e8:vs 8=.int .i64 mi:=Ac hD 8 rfl
    try have e10:vs 10=.int .i64 oi:=Ac hD 10 rfl
    try have e11:vs 11=.bool false:=Ac hD 11 rfl
    try have e12:vs 12=.bool false:=Ac hD 12 rfl
    try have e13:vs 13=.bool false:=Ac hD 13 rfl
    try have e18:vs 18=undef:=Ac hD 18 rfl
    try have e19:vs 19=.bool false:=Ac hD 19 rfl
    clear hK hD ho;dsimp only;go_simp;have h:=HK.out _ _ Ad rfl;simp only[upd,Nat.reduceEqDiff,reduceIte, *]at h;exact h
   |1,ho=>
    obtain rfl:=osI ho;intro vs W K hB hD hK;have HK:=Ab hK;have e0:vs 0=.slice sa n cs:=Ac hD 0 rfl;clear hK hD ho;dsimp only;go_simp;refine(HV1.out W (HBD.out W hB)).mono ?_;rintro e W' ⟨rfl,hb⟩;have h:=HK.out _ _ hb rfl;simp only[upd,Nat.reduceEqDiff,reduceIte,e0]at h;exact h
   |3,ho|8,ho=>
    obtain rfl:=osI ho;intro vs W K hB hD hK;have HK:=Ab hK
    try have e2:vs 2=.bool true:=Ac hD 2 rfl
    try have e6:vs 6=.bool true:=Ac hD 6 rfl
    try have e7:vs 7=.pointer (some ⟨w.heap.size,0,none⟩):=Ac hD 7 rfl
    obtain⟨d0,d1,d2,d3,d4⟩:=HCl.out W hB;clear hK hD ho;dsimp only;go_simp;have h:=HK.out _ _ Ad rfl;simp only[upd,Nat.reduceEqDiff,reduceIte, *]at h;exact h
   |4,ho=>
    obtain rfl:=osI ho;intro vs W K hB hD hK;have HK:=Ab hK;have e2:vs 2=.bool true:=Ac hD 2 rfl;have e3:vs 3=.agg #[.int .i64 mi,.int .i64 mo,.int .i64 ms,.slice a3 n3 c3,.slice a4 n4 c4]:=Ac hD 3 rfl;clear hK hD ho;dsimp only;go_simp;refine(HM1.out W (HBD.out W hB)).mono ?_;rintro e W' ⟨rfl,hb⟩;have h:=HK.out _ _ hb rfl;simp only[upd,Nat.reduceEqDiff,reduceIte,e2,e3]at h;exact h
   |10,ho=>
    obtain rfl:=osI ho;intro vs W K hB hD hK;have HK:=Ab hK;have e6:vs 6=.bool true:=Ac hD 6 rfl;have e9:vs 9=.slice sa n cs:=Ac hD 9 rfl;clear hK hD ho;dsimp only;go_simp;refine(HI1.out W (HBD.out W hB)).mono ?_;rintro e W' ⟨rfl,hb⟩;have h:=HK.out _ _ hb rfl;simp only[upd,Nat.reduceEqDiff,reduceIte,e6,e9]at h;exact h
   |q+21,ho=>exact absurd ho (by simp)
  case fin=>
   intro vs wz hB hall;have el:vs 20=.bool false:=hall 20 (by decide);have HBZ:=Ab (HBD.out wz hB);clear hall hB HBD HCl HV1 HM1 HI1 HO1;rw[el];clear el;generalize vs 0=z0q,vs 1=z1q,vs 2=z2q,vs 3=z3q,vs 4=z4q,vs 5=z5q,vs 6=z6q,vs 7=z7q,vs 8=z8q,vs 9=z9q,vs 10=z10q,vs 11=z11q,vs 12=z12q,vs 13=z13q,vs 14=z14q,vs 15=z15q,vs 16=z16q,vs 17=z17q,vs 18=z18q,vs 19=z19q;clear vs;go_wp2;go_ret;exact⟨An HR.out,HBW.out.trans (HBZ.out.mono HBW.out.size)⟩
 |true=>
  have HR:Hid (R=decide (mo=oo)):=by show _=_;have:=HV.out;rw[decide_eq_true (by rw[beq_iff_eq]at ti;exact ti)]at this;simpa using this
  refine AB hmx (FR w.heap.size n3 n4 c3 c4 n cs sa a3 a4 mi mo ms oi oo) (fun vs=>{tmps:=(_::_::_::_::vs 20::vs 0::vs 1::vs 2::vs 3::vs 4::vs 5::vs 6::vs 7::vs 8::vs 9::vs 10::vs 11::vs 12::vs 13::vs 14::vs 15::vs 16::vs 17::vs 18::vs 19::[]).toArray,defers:=_}) (fun n=>[undef,undef,undef,undef,undef,undef,undef,undef,undef,undef,undef,undef,undef,undef,undef,undef,undef,undef,undef,undef,.bool false].getD n undef) rfl (by kernel_rfl) (fun _ _ _ _ h hb=>h.below hb) ?step ?fin
  case step=>
   intro ix o ho
   match ix,ho with
   |0,ho|2,ho|5,ho|6,ho|7,ho|9,ho|11,ho|12,ho|13,ho|14,ho|16,ho|18,ho|19,ho|20,ho=>
    obtain rfl:=osI ho;intro vs W K hB hD hK;have HK:=Ab hK
    try have e1:vs 1=.bool true:=Ac hD 1 rfl
    try have e2:vs 2=.bool true:=Ac hD 2 rfl
    try have e4:vs 4=.bool true:=Ac hD 4 rfl
    try have e5:vs 5=.bool true:=Ac hD 5 rfl
    try have e6:vs 6=.bool true:=Ac hD 6 rfl
    try have e8:vs 8=.int .i64 mi:=Ac hD 8 rfl
    try have e10:vs 10=.int .i64 oi:=Ac hD 10 rfl
    try have e11:vs 11=.bool true:=Ac hD 11 rfl
    try have e12:vs 12=.bool true:=Ac hD 12 rfl
    try have e13:vs 13=.bool true:=Ac hD 13 rfl
    try have e15:vs 15=.int .i64 mo:=Ac hD 15 rfl
    try have e17:vs 17=.int .i64 oo:=Ac hD 17 rfl
    try have e18:vs 18=.bool (mo==oo):=Ac hD 18 rfl
    try have e19:vs 19=.bool (mo==oo):=Ac hD 19 rfl
    clear hK hD ho;dsimp only;go_simp;have h:=HK.out _ _ Ad rfl;simp only[upd,Nat.reduceEqDiff,reduceIte, *]at h;exact h
   |1,ho=>
    obtain rfl:=osI ho;intro vs W K hB hD hK;have HK:=Ab hK;have e0:vs 0=.slice sa n cs:=Ac hD 0 rfl;clear hK hD ho;dsimp only;go_simp;refine(HV1.out W (HBD.out W hB)).mono ?_;rintro e W' ⟨rfl,hb⟩;have h:=HK.out _ _ hb rfl;simp only[upd,Nat.reduceEqDiff,reduceIte,e0]at h;exact h
   |3,ho|8,ho|15,ho=>
    obtain rfl:=osI ho;intro vs W K hB hD hK;have HK:=Ab hK
    try have e2:vs 2=.bool true:=Ac hD 2 rfl
    try have e6:vs 6=.bool true:=Ac hD 6 rfl
    try have e7:vs 7=.pointer (some ⟨w.heap.size,0,none⟩):=Ac hD 7 rfl
    try have e13:vs 13=.bool true:=Ac hD 13 rfl
    try have e14:vs 14=.pointer (some ⟨w.heap.size,1,none⟩):=Ac hD 14 rfl
    obtain⟨d0,d1,d2,d3,d4⟩:=HCl.out W hB;clear hK hD ho;dsimp only;go_simp;have h:=HK.out _ _ Ad rfl;simp only[upd,Nat.reduceEqDiff,reduceIte, *]at h;exact h
   |4,ho=>
    obtain rfl:=osI ho;intro vs W K hB hD hK;have HK:=Ab hK;have e2:vs 2=.bool true:=Ac hD 2 rfl;have e3:vs 3=.agg #[.int .i64 mi,.int .i64 mo,.int .i64 ms,.slice a3 n3 c3,.slice a4 n4 c4]:=Ac hD 3 rfl;clear hK hD ho;dsimp only;go_simp;refine(HM1.out W (HBD.out W hB)).mono ?_;rintro e W' ⟨rfl,hb⟩;have h:=HK.out _ _ hb rfl;simp only[upd,Nat.reduceEqDiff,reduceIte,e2,e3]at h;exact h
   |10,ho=>
    obtain rfl:=osI ho;intro vs W K hB hD hK;have HK:=Ab hK;have e6:vs 6=.bool true:=Ac hD 6 rfl;have e9:vs 9=.slice sa n cs:=Ac hD 9 rfl;clear hK hD ho;dsimp only;go_simp;refine(HI1.out W (HBD.out W hB)).mono ?_;rintro e W' ⟨rfl,hb⟩;have h:=HK.out _ _ hb rfl;simp only[upd,Nat.reduceEqDiff,reduceIte,e6,e9]at h;exact h
   |17,ho=>
    obtain rfl:=osI ho;intro vs W K hB hD hK;have HK:=Ab hK;have e13:vs 13=.bool true:=Ac hD 13 rfl;have e16:vs 16=.slice sa n cs:=Ac hD 16 rfl;clear hK hD ho;dsimp only;go_simp;refine(HO1.out W (HBD.out W hB)).mono ?_;rintro e W' ⟨rfl,hb⟩;have h:=HK.out _ _ hb rfl;simp only[upd,Nat.reduceEqDiff,reduceIte,e13,e16]at h;exact h
   |q+21,ho=>exact absurd ho (by simp)
  case fin=>
   intro vs wz hB hall;have el:vs 20=.bool (mo==oo):=hall 20 (by decide);have HBZ:=Ab (HBD.out wz hB);clear hall hB HBD HCl HV1 HM1 HI1 HO1;rw[el];clear el;generalize vs 0=z0q,vs 1=z1q,vs 2=z2q,vs 3=z3q,vs 4=z4q,vs 5=z5q,vs 6=z6q,vs 7=z7q,vs 8=z8q,vs 9=z9q,vs 10=z10q,vs 11=z11q,vs 12=z12q,vs 13=z13q,vs 14=z14q,vs 15=z15q,vs 16=z16q,vs 17=z17q,vs 18=z18q,vs 19=z19q;clear vs;go_wp2;go_ret;exact⟨Ak ((J3 _ _).trans HR.out.symm),HBW.out.trans (HBZ.out.mono HBW.out.size)⟩
theorem EV(w:World)(vl vm:Value)(l:List Sig)(m:My)(hl:AH w vl l)(hm:BM w vm m):Calls Tryz.prog 27 #[vl,vm] w (Av (.bool (Bm l m)) w):=by
 have hmx:Tryz.prog.follows .mixedOrders=true:=by kernel_rfl
 have HV0:Hid (∀W,Below w.heap.size w W->Calls Tryz.prog 63 #[vl] W (Av (.bool (At l)) W)):=fun W h=>Fj W _ _ (hl.below h)
 have HM0:Hid (∀W,Below w.heap.size w W->Calls Tryz.prog 19 #[vm] W (Av (.bool (Be m)) W)):=fun W h=>NV W _ _ (hm.below h)
 have HI0:Hid (∀W,Below w.heap.size w W->Calls Tryz.prog 64 #[vl] W (Av (.int .i64 (Ap l)) W)):=fun W h=>Jb W _ _ (hl.below h)
 have HO0:Hid (∀W,Below w.heap.size w W->Calls Tryz.prog 65 #[vl] W (Av (.int .i64 (Aj l)) W)):=fun W h=>Ia W _ _ (hl.below h)
 have HV:Hid (Bm l m=(At l&&Be m&&decide (m.ins=Ap l)&&decide (m.outs=Aj l))):=rfl;obtain⟨sa,cs,rfl⟩:=hl.shape;obtain⟨v3,v4,rfl,hI,h3,h4⟩:=hm;obtain⟨a3,c3,rfl⟩:=h3.shape;obtain⟨a4,c4,rfl⟩:=h4.shape;clear h3 h4 hl;generalize Bm l m=R at*;generalize At l=R1 at*;generalize Be m=R2 at*;generalize m.out.length=n3 at*;generalize m.next.length=n4 at*;generalize m.ins=mi at*;generalize m.outs=mo at*;generalize m.start=ms at*;generalize Ap l=oi at*;generalize Aj l=oo at*;generalize l.length=n at*
 go_enter Tryz.func27,Tryz.ntmps27
 go_upto_region 1 with(fail)
 obtain⟨hx,-,hB⟩:=Az (w0:=w) Ad leR #[.int .i64 mi,.int .i64 mo,.int .i64 ms,.slice a3 n3 c3,.slice a4 n4 c4] 25;generalize w.alloc (.cells #[.int .i64 mi,.int .i64 mo,.int .i64 ms,.slice a3 n3 c3,.slice a4 n4 c4] 25)=w1 at*;have k0:=Aa 0 hx;have k1:=Aa 1 hx;have k2:=Aa 2 hx;have k3:=Aa 3 hx;have k4:=Aa 4 hx
 have HBD:Hid (∀W,Below w1.drew.heap.size w1.drew W->Below w1.heap.size w1 W):=fun W h=>(Below.drew (B:=w1.heap.size) Ad).trans h
 have HX:=Ab hx;have HBW:=Ab hB
 have HV1:Hid (∀W,Below w1.heap.size w1 W->Calls Tryz.prog 63 #[.slice sa n cs] W (Av (.bool R1) W)):=fun W h=>HV0.out W (HBW.out.trans (h.mono HBW.out.size))
 have HM1:Hid (∀W,Below w1.heap.size w1 W->Calls Tryz.prog 19 #[.agg #[.int .i64 mi,.int .i64 mo,.int .i64 ms,.slice a3 n3 c3,.slice a4 n4 c4]] W (Av (.bool R2) W)):=fun W h=>HM0.out W (HBW.out.trans (h.mono HBW.out.size))
 have HI1:Hid (∀W,Below w1.heap.size w1 W->Calls Tryz.prog 64 #[.slice sa n cs] W (Av (.int .i64 oi) W)):=fun W h=>HI0.out W (HBW.out.trans (h.mono HBW.out.size))
 have HO1:Hid (∀W,Below w1.heap.size w1 W->Calls Tryz.prog 65 #[.slice sa n cs] W (Av (.int .i64 oo) W)):=fun W h=>HO0.out W (HBW.out.trans (h.mono HBW.out.size))
 have HCl:Hid (∀W,Below w1.drew.heap.size w1.drew W->W.cell? ⟨w.heap.size,0,none⟩=some (.int .i64 mi)/\W.cell? ⟨w.heap.size,1,none⟩=some (.int .i64 mo)/\W.cell? ⟨w.heap.size,2,none⟩=some (.int .i64 ms)/\W.cell? ⟨w.heap.size,3,none⟩=some (.slice a3 n3 c3)/\W.cell? ⟨w.heap.size,4,none⟩=some (.slice a4 n4 c4)):=fun W h=>⟨Ah (HBD.out W h) k0,Ah (HBD.out W h) k1,Ah (HBD.out W h) k2,Ah (HBD.out W h) k3,Ah (HBD.out W h) k4⟩
 clear k0 k1 k2 k3 k4 hx hB HV0 HM0 HI0 HO0
 cases R1 with
 |false=>
  have HR:Hid (R=false):=by show _=_;have:=HV.out;simpa using this
  refine AB hmx (FO w.heap.size n3 n4 c3 c4 n cs sa a3 a4 mi mo ms oi oo) (fun vs=>{tmps:=(_::_::_::_::vs 20::vs 0::vs 1::vs 2::vs 3::vs 4::vs 5::vs 6::vs 7::vs 8::vs 9::vs 10::vs 11::vs 12::vs 13::vs 14::vs 15::vs 16::vs 17::vs 18::vs 19::[]).toArray,defers:=_}) (fun n=>[undef,undef,undef,undef,undef,undef,undef,undef,undef,undef,undef,undef,undef,undef,undef,undef,undef,undef,undef,undef,.bool false].getD n undef) rfl (by kernel_rfl) (fun _ _ _ _ h hb=>h.below hb) ?step ?fin
  case step=>
   intro ix o ho
   match ix,ho with
   |0,ho|2,ho|3,ho|4,ho|5,ho|6,ho|7,ho|8,ho|9,ho|10,ho|11,ho|12,ho|13,ho|14,ho|15,ho|16,ho|17,ho|18,ho|19,ho|20,ho=>
    obtain rfl:=osI ho;intro vs W K hB hD hK;have HK:=Ab hK
    try have e1:vs 1=.bool false:=Ac hD 1 rfl
    try have e2:vs 2=.bool false:=Ac hD 2 rfl
    try have e4:vs 4=undef:=Ac hD 4 rfl
    try have e5:vs 5=.bool false:=Ac hD 5 rfl
    try have e6:vs 6=.bool false:=Ac hD 6 rfl
    try have e11:vs 11=undef:=Ac hD 11 rfl
    try have e12:vs 12=.bool false:=Ac hD 12 rfl
    try have e13:vs 13=.bool false:=Ac hD 13 rfl
    try have e18:vs 18=undef:=Ac hD 18 rfl
    try have e19:vs 19=.bool false:=Ac hD 19 rfl
    clear hK hD ho;dsimp only;go_simp;have h:=HK.out _ _ Ad rfl;simp only[upd,Nat.reduceEqDiff,reduceIte, *]at h;exact h
   |1,ho=>
    obtain rfl:=osI ho;intro vs W K hB hD hK;have HK:=Ab hK;have e0:vs 0=.slice sa n cs:=Ac hD 0 rfl;clear hK hD ho;dsimp only;go_simp;refine(HV1.out W (HBD.out W hB)).mono ?_;rintro e W' ⟨rfl,hb⟩;have h:=HK.out _ _ hb rfl;simp only[upd,Nat.reduceEqDiff,reduceIte,e0]at h;exact h
   |q+21,ho=>exact absurd ho (by simp)
  case fin=>
   intro vs wz hB hall;have el:vs 20=.bool false:=hall 20 (by decide);have HBZ:=Ab (HBD.out wz hB);clear hall hB HBD HCl HV1 HM1 HI1 HO1;rw[el];clear el;generalize vs 0=z0q,vs 1=z1q,vs 2=z2q,vs 3=z3q,vs 4=z4q,vs 5=z5q,vs 6=z6q,vs 7=z7q,vs 8=z8q,vs 9=z9q,vs 10=z10q,vs 11=z11q,vs 12=z12q,vs 13=z13q,vs 14=z14q,vs 15=z15q,vs 16=z16q,vs 17=z17q,vs 18=z18q,vs 19=z19q;clear vs;go_wp2;go_ret;exact⟨An HR.out,HBW.out.trans (HBZ.out.mono HBW.out.size)⟩
 |true=>
 cases R2 with
 |false=>
  have HR:Hid (R=false):=by show _=_;have:=HV.out;simpa using this
  refine AB hmx (FP w.heap.size n3 n4 c3 c4 n cs sa a3 a4 mi mo ms oi oo) (fun vs=>{tmps:=(_::_::_::_::vs 20::vs 0::vs 1::vs 2::vs 3::vs 4::vs 5::vs 6::vs 7::vs 8::vs 9::vs 10::vs 11::vs 12::vs 13::vs 14::vs 15::vs 16::vs 17::vs 18::vs 19::[]).toArray,defers:=_}) (fun n=>[undef,undef,undef,undef,undef,undef,undef,undef,undef,undef,undef,undef,undef,undef,undef,undef,undef,undef,undef,undef,.bool false].getD n undef) rfl (by kernel_rfl) (fun _ _ _ _ h hb=>h.below hb) ?step ?fin
  case step=>
   intro ix o ho
   match ix,ho with
   |0,ho|2,ho|5,ho|6,ho|7,ho|8,ho|9,ho|10,ho|11,ho|12,ho|13,ho|14,ho|15,ho|16,ho|17,ho|18,ho|19,ho|20,ho=>
    obtain rfl:=osI ho;intro vs W K hB hD hK;have HK:=Ab hK
    try have e1:vs 1=.bool true:=Ac hD 1 rfl
    try have e2:vs 2=.bool true:=Ac hD 2 rfl
    try have e4:vs 4=.bool false:=Ac hD 4 rfl
    try have e5:vs 5=.bool false:=Ac hD 5 rfl
    try have e6:vs 6=.bool false:=Ac hD 6 rfl
    try have e11:vs 11=undef:=Ac hD 11 rfl
    try have e12:vs 12=.bool false:=Ac hD 12 rfl
    try have e13:vs 13=.bool false:=Ac hD 13 rfl
    try have e18:vs 18=undef:=Ac hD 18 rfl
    try have e19:vs 19=.bool false:=Ac hD 19 rfl
    clear hK hD ho;dsimp only;go_simp;have h:=HK.out _ _ Ad rfl;simp only[upd,Nat.reduceEqDiff,reduceIte, *]at h;exact h
   |1,ho=>
    obtain rfl:=osI ho;intro vs W K hB hD hK;have HK:=Ab hK;have e0:vs 0=.slice sa n cs:=Ac hD 0 rfl;clear hK hD ho;dsimp only;go_simp;refine(HV1.out W (HBD.out W hB)).mono ?_;rintro e W' ⟨rfl,hb⟩;have h:=HK.out _ _ hb rfl;simp only[upd,Nat.reduceEqDiff,reduceIte,e0]at h;exact h
   |3,ho=>
    obtain rfl:=osI ho;intro vs W K hB hD hK;have HK:=Ab hK;have e2:vs 2=.bool true:=Ac hD 2 rfl;obtain⟨d0,d1,d2,d3,d4⟩:=HCl.out W hB;clear hK hD ho;dsimp only;go_simp;have h:=HK.out _ _ Ad rfl;simp only[upd,Nat.reduceEqDiff,reduceIte,e2]at h;exact h
   |4,ho=>
    obtain rfl:=osI ho;intro vs W K hB hD hK;have HK:=Ab hK;have e2:vs 2=.bool true:=Ac hD 2 rfl;have e3:vs 3=.agg #[.int .i64 mi,.int .i64 mo,.int .i64 ms,.slice a3 n3 c3,.slice a4 n4 c4]:=Ac hD 3 rfl;clear hK hD ho;dsimp only;go_simp;refine(HM1.out W (HBD.out W hB)).mono ?_;rintro e W' ⟨rfl,hb⟩;have h:=HK.out _ _ hb rfl;simp only[upd,Nat.reduceEqDiff,reduceIte,e2,e3]at h;exact h
   |q+21,ho=>exact absurd ho (by simp)
  case fin=>
   intro vs wz hB hall;have el:vs 20=.bool false:=hall 20 (by decide);have HBZ:=Ab (HBD.out wz hB);clear hall hB HBD HCl HV1 HM1 HI1 HO1;rw[el];clear el;generalize vs 0=z0q,vs 1=z1q,vs 2=z2q,vs 3=z3q,vs 4=z4q,vs 5=z5q,vs 6=z6q,vs 7=z7q,vs 8=z8q,vs 9=z9q,vs 10=z10q,vs 11=z11q,vs 12=z12q,vs 13=z13q,vs 14=z14q,vs 15=z15q,vs 16=z16q,vs 17=z17q,vs 18=z18q,vs 19=z19q;clear vs;go_wp2;go_ret;exact⟨An HR.out,HBW.out.trans (HBZ.out.mono HBW.out.size)⟩
 |true=>
 cases ti:(mi==oi)with
 |false=>
  have HR:Hid (R=false):=by show _=_;have:=HV.out;rw[decide_eq_false (by rw[beq_eq_false_iff_ne]at ti;exact ti)]at this;simpa using this
  refine AB hmx (FQ w.heap.size n3 n4 c3 c4 n cs sa a3 a4 mi mo ms oi oo) (fun vs=>{tmps:=(_::_::_::_::vs 20::vs 0::vs 1::vs 2::vs 3::vs 4::vs 5::vs 6::vs 7::vs 8::vs 9::vs 10::vs 11::vs 12::vs 13::vs 14::vs 15::vs 16::vs 17::vs 18::vs 19::[]).toArray,defers:=_}) (fun n=>[undef,undef,undef,undef,undef,undef,undef,undef,undef,undef,undef,undef,undef,undef,undef,undef,undef,undef,undef,undef,.bool false].getD n undef) rfl (by kernel_rfl) (fun _ _ _ _ h hb=>h.below hb) ?step ?fin
  case step=>
   intro ix o ho
   match ix,ho with
   |0,ho|2,ho|5,ho|6,ho|7,ho|9,ho|11,ho|12,ho|13,ho|14,ho|15,ho|16,ho|17,ho|18,ho|19,ho|20,ho=>
    obtain rfl:=osI ho;intro vs W K hB hD hK;have HK:=Ab hK
    try have e1:vs 1=.bool true:=Ac hD 1 rfl
    try have e2:vs 2=.bool true:=Ac hD 2 rfl
    try have e4:vs 4=.bool true:=Ac hD 4 rfl
    try have e5:vs 5=.bool true:=Ac hD 5 rfl
    try have e6:vs 6=.bool true:=Ac hD 6 rfl
    try have e8:vs 8=.int .i64 mi:=Ac hD 8 rfl
    try have e10:vs 10=.int .i64 oi:=Ac hD 10 rfl
    try have e11:vs 11=.bool false:=Ac hD 11 rfl
    try have e12:vs 12=.bool false:=Ac hD 12 rfl
    try have e13:vs 13=.bool false:=Ac hD 13 rfl
    try have e18:vs 18=undef:=Ac hD 18 rfl
    try have e19:vs 19=.bool false:=Ac hD 19 rfl
    clear hK hD ho;dsimp only;go_simp;have h:=HK.out _ _ Ad rfl;simp only[upd,Nat.reduceEqDiff,reduceIte, *]at h;exact h
   |1,ho=>
    obtain rfl:=osI ho;intro vs W K hB hD hK;have HK:=Ab hK;have e0:vs 0=.slice sa n cs:=Ac hD 0 rfl;clear hK hD ho;dsimp only;go_simp;refine(HV1.out W (HBD.out W hB)).mono ?_;rintro e W' ⟨rfl,hb⟩;have h:=HK.out _ _ hb rfl;simp only[upd,Nat.reduceEqDiff,reduceIte,e0]at h;exact h
   |3,ho|8,ho=>
    obtain rfl:=osI ho;intro vs W K hB hD hK;have HK:=Ab hK
    try have e2:vs 2=.bool true:=Ac hD 2 rfl
    try have e6:vs 6=.bool true:=Ac hD 6 rfl
    try have e7:vs 7=.pointer (some ⟨w.heap.size,0,none⟩):=Ac hD 7 rfl
    obtain⟨d0,d1,d2,d3,d4⟩:=HCl.out W hB;clear hK hD ho;dsimp only;go_simp;have h:=HK.out _ _ Ad rfl;simp only[upd,Nat.reduceEqDiff,reduceIte, *]at h;exact h
   |4,ho=>
    obtain rfl:=osI ho;intro vs W K hB hD hK;have HK:=Ab hK;have e2:vs 2=.bool true:=Ac hD 2 rfl;have e3:vs 3=.agg #[.int .i64 mi,.int .i64 mo,.int .i64 ms,.slice a3 n3 c3,.slice a4 n4 c4]:=Ac hD 3 rfl;clear hK hD ho;dsimp only;go_simp;refine(HM1.out W (HBD.out W hB)).mono ?_;rintro e W' ⟨rfl,hb⟩;have h:=HK.out _ _ hb rfl;simp only[upd,Nat.reduceEqDiff,reduceIte,e2,e3]at h;exact h
   |10,ho=>
    obtain rfl:=osI ho;intro vs W K hB hD hK;have HK:=Ab hK;have e6:vs 6=.bool true:=Ac hD 6 rfl;have e9:vs 9=.slice sa n cs:=Ac hD 9 rfl;clear hK hD ho;dsimp only;go_simp;refine(HI1.out W (HBD.out W hB)).mono ?_;rintro e W' ⟨rfl,hb⟩;have h:=HK.out _ _ hb rfl;simp only[upd,Nat.reduceEqDiff,reduceIte,e6,e9]at h;exact h
   |q+21,ho=>exact absurd ho (by simp)
  case fin=>
   intro vs wz hB hall;have el:vs 20=.bool false:=hall 20 (by decide);have HBZ:=Ab (HBD.out wz hB);clear hall hB HBD HCl HV1 HM1 HI1 HO1;rw[el];clear el;generalize vs 0=z0q,vs 1=z1q,vs 2=z2q,vs 3=z3q,vs 4=z4q,vs 5=z5q,vs 6=z6q,vs 7=z7q,vs 8=z8q,vs 9=z9q,vs 10=z10q,vs 11=z11q,vs 12=z12q,vs 13=z13q,vs 14=z14q,vs 15=z15q,vs 16=z16q,vs 17=z17q,vs 18=z18q,vs 19=z19q;clear vs;go_wp2;go_ret;exact⟨An HR.out,HBW.out.trans (HBZ.out.mono HBW.out.size)⟩
 |true=>
  have HR:Hid (R=decide (mo=oo)):=by show _=_;have:=HV.out;rw[decide_eq_true (by rw[beq_iff_eq]at ti;exact ti)]at this;simpa using this
  refine AB hmx (FR w.heap.size n3 n4 c3 c4 n cs sa a3 a4 mi mo ms oi oo) (fun vs=>{tmps:=(_::_::_::_::vs 20::vs 0::vs 1::vs 2::vs 3::vs 4::vs 5::vs 6::vs 7::vs 8::vs 9::vs 10::vs 11::vs 12::vs 13::vs 14::vs 15::vs 16::vs 17::vs 18::vs 19::[]).toArray,defers:=_}) (fun n=>[undef,undef,undef,undef,undef,undef,undef,undef,undef,undef,undef,undef,undef,undef,undef,undef,undef,undef,undef,undef,.bool false].getD n undef) rfl (by kernel_rfl) (fun _ _ _ _ h hb=>h.below hb) ?step ?fin
  case step=>
   intro ix o ho
   match ix,ho with
   |0,ho|2,ho|5,ho|6,ho|7,ho|9,ho|11,ho|12,ho|13,ho|14,ho|16,ho|18,ho|19,ho|20,ho=>
    obtain rfl:=osI ho;intro vs W K hB hD hK;have HK:=Ab hK
    try have e1:vs 1=.bool true:=Ac hD 1 rfl
    try have e2:vs 2=.bool true:=Ac hD 2 rfl
    try have e4:vs 4=.bool true:=Ac hD 4 rfl
    try have e5:vs 5=.bool true:=Ac hD 5 rfl
    try have e6:vs 6=.bool true:=Ac hD 6 rfl
    try have e8:vs 8=.int .i64 mi:=Ac hD 8 rfl
    try have e10:vs 10=.int .i64 oi:=Ac hD 10 rfl
    try have e11:vs 11=.bool true:=Ac hD 11 rfl
    try have e12:vs 12=.bool true:=Ac hD 12 rfl
    try have e13:vs 13=.bool true:=Ac hD 13 rfl
    try have e15:vs 15=.int .i64 mo:=Ac hD 15 rfl
    try have e17:vs 17=.int .i64 oo:=Ac hD 17 rfl
    try have e18:vs 18=.bool (mo==oo):=Ac hD 18 rfl
    try have e19:vs 19=.bool (mo==oo):=Ac hD 19 rfl
    clear hK hD ho;dsimp only;go_simp;have h:=HK.out _ _ Ad rfl;simp only[upd,Nat.reduceEqDiff,reduceIte, *]at h;exact h
   |1,ho=>
    obtain rfl:=osI ho;intro vs W K hB hD hK;have HK:=Ab hK;have e0:vs 0=.slice sa n cs:=Ac hD 0 rfl;clear hK hD ho;dsimp only;go_simp;refine(HV1.out W (HBD.out W hB)).mono ?_;rintro e W' ⟨rfl,hb⟩;have h:=HK.out _ _ hb rfl;simp only[upd,Nat.reduceEqDiff,reduceIte,e0]at h;exact h
   |3,ho|8,ho|15,ho=>
    obtain rfl:=osI ho;intro vs W K hB hD hK;have HK:=Ab hK
    try have e2:vs 2=.bool true:=Ac hD 2 rfl
    try have e6:vs 6=.bool true:=Ac hD 6 rfl
    try have e7:vs 7=.pointer (some ⟨w.heap.size,0,none⟩):=Ac hD 7 rfl
    try have e13:vs 13=.bool true:=Ac hD 13 rfl
    try have e14:vs 14=.pointer (some ⟨w.heap.size,1,none⟩):=Ac hD 14 rfl
    obtain⟨d0,d1,d2,d3,d4⟩:=HCl.out W hB;clear hK hD ho;dsimp only;go_simp;have h:=HK.out _ _ Ad rfl;simp only[upd,Nat.reduceEqDiff,reduceIte, *]at h;exact h
   |4,ho=>
    obtain rfl:=osI ho;intro vs W K hB hD hK;have HK:=Ab hK;have e2:vs 2=.bool true:=Ac hD 2 rfl;have e3:vs 3=.agg #[.int .i64 mi,.int .i64 mo,.int .i64 ms,.slice a3 n3 c3,.slice a4 n4 c4]:=Ac hD 3 rfl;clear hK hD ho;dsimp only;go_simp;refine(HM1.out W (HBD.out W hB)).mono ?_;rintro e W' ⟨rfl,hb⟩;have h:=HK.out _ _ hb rfl;simp only[upd,Nat.reduceEqDiff,reduceIte,e2,e3]at h;exact h
   |10,ho=>
    obtain rfl:=osI ho;intro vs W K hB hD hK;have HK:=Ab hK;have e6:vs 6=.bool true:=Ac hD 6 rfl;have e9:vs 9=.slice sa n cs:=Ac hD 9 rfl;clear hK hD ho;dsimp only;go_simp;refine(HI1.out W (HBD.out W hB)).mono ?_;rintro e W' ⟨rfl,hb⟩;have h:=HK.out _ _ hb rfl;simp only[upd,Nat.reduceEqDiff,reduceIte,e6,e9]at h;exact h
   |17,ho=>
    obtain rfl:=osI ho;intro vs W K hB hD hK;have HK:=Ab hK;have e13:vs 13=.bool true:=Ac hD 13 rfl;have e16:vs 16=.slice sa n cs:=Ac hD 16 rfl;clear hK hD ho;dsimp only;go_simp;refine(HO1.out W (HBD.out W hB)).mono ?_;rintro e W' ⟨rfl,hb⟩;have h:=HK.out _ _ hb rfl;simp only[upd,Nat.reduceEqDiff,reduceIte,e13,e16]at h;exact h
   |q+21,ho=>exact absurd ho (by simp)
  case fin=>
   intro vs wz hB hall;have el:vs 20=.bool (mo==oo):=hall 20 (by decide);have HBZ:=Ab (HBD.out wz hB);clear hall hB HBD HCl HV1 HM1 HI1 HO1;rw[el];clear el;generalize vs 0=z0q,vs 1=z1q,vs 2=z2q,vs 3=z3q,vs 4=z4q,vs 5=z5q,vs 6=z6q,vs 7=z7q,vs 8=z8q,vs 9=z9q,vs 10=z10q,vs 11=z11q,vs 12=z12q,vs 13=z13q,vs 14=z14q,vs 15=z15q,vs 16=z16q,vs 17=z17q,vs 18=z18q,vs 19=z19q;clear vs;go_wp2;go_ret;exact⟨Ak ((J3 _ _).trans HR.out.symm),HBW.out.trans (HBZ.out.mono HBW.out.size)⟩
theorem O9(w:World)(vl vm:Value)(l:List Sig)(m:Mo)(hl:AH w vl l)(hm:Dl w vm m):Calls Tryz.prog 31 #[vl,vm] w (Av (.bool (E6 l m)) w):=by
 have hmx:Tryz.prog.follows .mixedOrders=true:=by kernel_rfl
 have HV0:Hid (∀W,Below w.heap.size w W->Calls Tryz.prog 63 #[vl] W (Av (.bool (At l)) W)):=fun W h=>Fj W _ _ (hl.below h)
 have HM0:Hid (∀W,Below w.heap.size w W->Calls Tryz.prog 21 #[vm] W (Av (.bool (Bq m)) W)):=fun W h=>NU W _ _ (hm.below h)
 have HI0:Hid (∀W,Below w.heap.size w W->Calls Tryz.prog 64 #[vl] W (Av (.int .i64 (Ap l)) W)):=fun W h=>Jb W _ _ (hl.below h)
 have HO0:Hid (∀W,Below w.heap.size w W->Calls Tryz.prog 65 #[vl] W (Av (.int .i64 (Aj l)) W)):=fun W h=>Ia W _ _ (hl.below h)
 have HV:Hid (E6 l m=(At l&&Bq m&&decide (m.ins=Ap l)&&decide (m.outs=Aj l))):=rfl;obtain⟨sa,cs,rfl⟩:=hl.shape;obtain⟨v3,v4,rfl,hI,h3,h4⟩:=hm;obtain⟨a3,c3,rfl⟩:=h3.shape;obtain⟨a4,c4,rfl⟩:=h4.shape;clear h3 h4 hl;generalize E6 l m=R at*;generalize At l=R1 at*;generalize Bq m=R2 at*;generalize m.inn.length=n3 at*;generalize m.next.length=n4 at*;generalize m.ins=mi at*;generalize m.outs=mo at*;generalize m.start=ms at*;generalize Ap l=oi at*;generalize Aj l=oo at*;generalize l.length=n at*
 go_enter Tryz.func31,Tryz.ntmps31
 go_upto_region 1 with(fail)
 obtain⟨hx,-,hB⟩:=Az (w0:=w) Ad leR #[.int .i64 mi,.int .i64 mo,.int .i64 ms,.slice a3 n3 c3,.slice a4 n4 c4] 28;generalize w.alloc (.cells #[.int .i64 mi,.int .i64 mo,.int .i64 ms,.slice a3 n3 c3,.slice a4 n4 c4] 28)=w1 at*;have k0:=Aa 0 hx;have k1:=Aa 1 hx;have k2:=Aa 2 hx;have k3:=Aa 3 hx;have k4:=Aa 4 hx
 have HBD:Hid (∀W,Below w1.drew.heap.size w1.drew W->Below w1.heap.size w1 W):=fun W h=>(Below.drew (B:=w1.heap.size) Ad).trans h
 have HX:=Ab hx;have HBW:=Ab hB
 have HV1:Hid (∀W,Below w1.heap.size w1 W->Calls Tryz.prog 63 #[.slice sa n cs] W (Av (.bool R1) W)):=fun W h=>HV0.out W (HBW.out.trans (h.mono HBW.out.size))
 have HM1:Hid (∀W,Below w1.heap.size w1 W->Calls Tryz.prog 21 #[.agg #[.int .i64 mi,.int .i64 mo,.int .i64 ms,.slice a3 n3 c3,.slice a4 n4 c4]] W (Av (.bool R2) W)):=fun W h=>HM0.out W (HBW.out.trans (h.mono HBW.out.size))
 have HI1:Hid (∀W,Below w1.heap.size w1 W->Calls Tryz.prog 64 #[.slice sa n cs] W (Av (.int .i64 oi) W)):=fun W h=>HI0.out W (HBW.out.trans (h.mono HBW.out.size))
 have HO1:Hid (∀W,Below w1.heap.size w1 W->Calls Tryz.prog 65 #[.slice sa n cs] W (Av (.int .i64 oo) W)):=fun W h=>HO0.out W (HBW.out.trans (h.mono HBW.out.size))
 have HCl:Hid (∀W,Below w1.drew.heap.size w1.drew W->W.cell? ⟨w.heap.size,0,none⟩=some (.int .i64 mi)/\W.cell? ⟨w.heap.size,1,none⟩=some (.int .i64 mo)/\W.cell? ⟨w.heap.size,2,none⟩=some (.int .i64 ms)/\W.cell? ⟨w.heap.size,3,none⟩=some (.slice a3 n3 c3)/\W.cell? ⟨w.heap.size,4,none⟩=some (.slice a4 n4 c4)):=fun W h=>⟨Ah (HBD.out W h) k0,Ah (HBD.out W h) k1,Ah (HBD.out W h) k2,Ah (HBD.out W h) k3,Ah (HBD.out W h) k4⟩
 clear k0 k1 k2 k3 k4 hx hB HV0 HM0 HI0 HO0
 cases R1 with
 |false=>
  have HR:Hid (R=false):=by show _=_;have:=HV.out;simpa using this
  refine AB hmx (FO w.heap.size n3 n4 c3 c4 n cs sa a3 a4 mi mo ms oi oo) (fun vs=>{tmps:=(_::_::_::_::vs 20::vs 0::vs 1::vs 2::vs 3::vs 4::vs 5::vs 6::vs 7::vs 8::vs 9::vs 10::vs 11::vs 12::vs 13::vs 14::vs 15::vs 16::vs 17::vs 18::vs 19::[]).toArray,defers:=_}) (fun n=>[undef,undef,undef,undef,undef,undef,undef,undef,undef,undef,undef,undef,undef,undef,undef,undef,undef,undef,undef,undef,.bool false].getD n undef) rfl (by kernel_rfl) (fun _ _ _ _ h hb=>h.below hb) ?step ?fin
  case step=>
   intro ix o ho
   match ix,ho with
   |0,ho|2,ho|3,ho|4,ho|5,ho|6,ho|7,ho|8,ho|9,ho|10,ho|11,ho|12,ho|13,ho|14,ho|15,ho|16,ho|17,ho|18,ho|19,ho|20,ho=>
    obtain rfl:=osI ho;intro vs W K hB hD hK;have HK:=Ab hK
    try have e1:vs 1=.bool false:=Ac hD 1 rfl
    try have e2:vs 2=.bool false:=Ac hD 2 rfl
    try have e4:vs 4=undef:=Ac hD 4 rfl
    try have e5:vs 5=.bool false:=Ac hD 5 rfl
    try have e6:vs 6=.bool false:=Ac hD 6 rfl
    try have e11:vs 11=undef:=Ac hD 11 rfl
    try have e12:vs 12=.bool false:=Ac hD 12 rfl
    try have e13:vs 13=.bool false:=Ac hD 13 rfl
    try have e18:vs 18=undef:=Ac hD 18 rfl
    try have e19:vs 19=.bool false:=Ac hD 19 rfl
    clear hK hD ho;dsimp only;go_simp;have h:=HK.out _ _ Ad rfl;simp only[upd,Nat.reduceEqDiff,reduceIte, *]at h;exact h
   |1,ho=>
    obtain rfl:=osI ho;intro vs W K hB hD hK;have HK:=Ab hK;have e0:vs 0=.slice sa n cs:=Ac hD 0 rfl;clear hK hD ho;dsimp only;go_simp;refine(HV1.out W (HBD.out W hB)).mono ?_;rintro e W' ⟨rfl,hb⟩;have h:=HK.out _ _ hb rfl;simp only[upd,Nat.reduceEqDiff,reduceIte,e0]at h;exact h
   |q+21,ho=>exact absurd ho (by simp)
  case fin=>
   intro vs wz hB hall;have el:vs 20=.bool false:=hall 20 (by decide);have HBZ:=Ab (HBD.out wz hB);clear hall hB HBD HCl HV1 HM1 HI1 HO1;rw[el];clear el;generalize vs 0=z0q,vs 1=z1q,vs 2=z2q,vs 3=z3q,vs 4=z4q,vs 5=z5q,vs 6=z6q,vs 7=z7q,vs 8=z8q,vs 9=z9q,vs 10=z10q,vs 11=z11q,vs 12=z12q,vs 13=z13q,vs 14=z14q,vs 15=z15q,vs 16=z16q,vs 17=z17q,vs 18=z18q,vs 19=z19q;clear vs;go_wp2;go_ret;exact⟨An HR.out,HBW.out.trans (HBZ.out.mono HBW.out.size)⟩
 |true=>
 cases R2 with
 |false=>
  have HR:Hid (R=false):=by show _=_;have:=HV.out;simpa using this
  refine AB hmx (FP w.heap.size n3 n4 c3 c4 n cs sa a3 a4 mi mo ms oi oo) (fun vs=>{tmps:=(_::_::_::_::vs 20::vs 0::vs 1::vs 2::vs 3::vs 4::vs 5::vs 6::vs 7::vs 8::vs 9::vs 10::vs 11::vs 12::vs 13::vs 14::vs 15::vs 16::vs 17::vs 18::vs 19::[]).toArray,defers:=_}) (fun n=>[undef,undef,undef,undef,undef,undef,undef,undef,undef,undef,undef,undef,undef,undef,undef,undef,undef,undef,undef,undef,.bool false].getD n undef) rfl (by kernel_rfl) (fun _ _ _ _ h hb=>h.below hb) ?step ?fin
  case step=>
   intro ix o ho
   match ix,ho with
   |0,ho|2,ho|5,ho|6,ho|7,ho|8,ho|9,ho|10,ho|11,ho|12,ho|13,ho|14,ho|15,ho|16,ho|17,ho|18,ho|19,ho|20,ho=>
    obtain rfl:=osI ho;intro vs W K hB hD hK;have HK:=Ab hK
    try have e1:vs 1=.bool true:=Ac hD 1 rfl
    try have e2:vs 2=.bool true:=Ac hD 2 rfl
    try have e4:vs 4=.bool false:=Ac hD 4 rfl
    try have e5:vs 5=.bool false:=Ac hD 5 rfl
    try have e6:vs 6=.bool false:=Ac hD 6 rfl
    try have e11:vs 11=undef:=Ac hD 11 rfl
    try have e12:vs 12=.bool false:=Ac hD 12 rfl
    try have e13:vs 13=.bool false:=Ac hD 13 rfl
    try have e18:vs 18=undef:=Ac hD 18 rfl
    try have e19:vs 19=.bool false:=Ac hD 19 rfl
    clear hK hD ho;dsimp only;go_simp;have h:=HK.out _ _ Ad rfl;simp only[upd,Nat.reduceEqDiff,reduceIte, *]at h;exact h
   |1,ho=>
    obtain rfl:=osI ho;intro vs W K hB hD hK;have HK:=Ab hK;have e0:vs 0=.slice sa n cs:=Ac hD 0 rfl;clear hK hD ho;dsimp only;go_simp;refine(HV1.out W (HBD.out W hB)).mono ?_;rintro e W' ⟨rfl,hb⟩;have h:=HK.out _ _ hb rfl;simp only[upd,Nat.reduceEqDiff,reduceIte,e0]at h;exact h
   |3,ho=>
    obtain rfl:=osI ho;intro vs W K hB hD hK;have HK:=Ab hK;have e2:vs 2=.bool true:=Ac hD 2 rfl;obtain⟨d0,d1,d2,d3,d4⟩:=HCl.out W hB;clear hK hD ho;dsimp only;go_simp;have h:=HK.out _ _ Ad rfl;simp only[upd,Nat.reduceEqDiff,reduceIte,e2]at h;exact h
   |4,ho=>
    obtain rfl:=osI ho;intro vs W K hB hD hK;have HK:=Ab hK;have e2:vs 2=.bool true:=Ac hD 2 rfl;have e3:vs 3=.agg #[.int .i64 mi,.int .i64 mo,.int .i64 ms,.slice a3 n3 c3,.slice a4 n4 c4]:=Ac hD 3 rfl;clear hK hD ho;dsimp only;go_simp;refine(HM1.out W (HBD.out W hB)).mono ?_;rintro e W' ⟨rfl,hb⟩;have h:=HK.out _ _ hb rfl;simp only[upd,Nat.reduceEqDiff,reduceIte,e2,e3]at h;exact h
   |q+21,ho=>exact absurd ho (by simp)
  case fin=>
   intro vs wz hB hall;have el:vs 20=.bool false:=hall 20 (by decide);have HBZ:=Ab (HBD.out wz hB);clear hall hB HBD HCl HV1 HM1 HI1 HO1;rw[el];clear el;generalize vs 0=z0q,vs 1=z1q,vs 2=z2q,vs 3=z3q,vs 4=z4q,vs 5=z5q,vs 6=z6q,vs 7=z7q,vs 8=z8q,vs 9=z9q,vs 10=z10q,vs 11=z11q,vs 12=z12q,vs 13=z13q,vs 14=z14q,vs 15=z15q,vs 16=z16q,vs 17=z17q,vs 18=z18q,vs 19=z19q;clear vs;go_wp2;go_ret;exact⟨An HR.out,HBW.out.trans (HBZ.out.mono HBW.out.size)⟩
 |true=>
 cases ti:(mi==oi)with
 |false=>
  have HR:Hid (R=false):=by show _=_;have:=HV.out;rw[decide_eq_false (by rw[beq_eq_false_iff_ne]at ti;exact ti)]at this;simpa using this
  refine AB hmx (FQ w.heap.size n3 n4 c3 c4 n cs sa a3 a4 mi mo ms oi oo) (fun vs=>{tmps:=(_::_::_::_::vs 20::vs 0::vs 1::vs 2::vs 3::vs 4::vs 5::vs 6::vs 7::vs 8::vs 9::vs 10::vs 11::vs 12::vs 13::vs 14::vs 15::vs 16::vs 17::vs 18::vs 19::[]).toArray,defers:=_}) (fun n=>[undef,undef,undef,undef,undef,undef,undef,undef,undef,undef,undef,undef,undef,undef,undef,undef,undef,undef,undef,undef,.bool false].getD n undef) rfl (by kernel_rfl) (fun _ _ _ _ h hb=>h.below hb) ?step ?fin
  case step=>
   intro ix o ho
   match ix,ho with
   |0,ho|2,ho|5,ho|6,ho|7,ho|9,ho|11,ho|12,ho|13,ho|14,ho|15,ho|16,ho|17,ho|18,ho|19,ho|20,ho=>
    obtain rfl:=osI ho;intro vs W K hB hD hK;have HK:=Ab hK
    try have e1:vs 1=.bool true:=Ac hD 1 rfl
    try have e2:vs 2=.bool true:=Ac hD 2 rfl
    try have e4:vs 4=.bool true:=Ac hD 4 rfl
    try have e5:vs 5=.bool true:=Ac hD 5 rfl
    try have e6:vs 6=.bool true:=Ac hD 6 rfl
    try have e8:vs 8=.int .i64 mi:=Ac hD 8 rfl
    try have e10:vs 10=.int .i64 oi:=Ac hD 10 rfl
    try have e11:vs 11=.bool false:=Ac hD 11 rfl
    try have e12:vs 12=.bool false:=Ac hD 12 rfl
    try have e13:vs 13=.bool false:=Ac hD 13 rfl
    try have e18:vs 18=undef:=Ac hD 18 rfl
    try have e19:vs 19=.bool false:=Ac hD 19 rfl
    clear hK hD ho;dsimp only;go_simp;have h:=HK.out _ _ Ad rfl;simp only[upd,Nat.reduceEqDiff,reduceIte, *]at h;exact h
   |1,ho=>
    obtain rfl:=osI ho;intro vs W K hB hD hK;have HK:=Ab hK;have e0:vs 0=.slice sa n cs:=Ac hD 0 rfl;clear hK hD ho;dsimp only;go_simp;refine(HV1.out W (HBD.out W hB)).mono ?_;rintro e W' ⟨rfl,hb⟩;have h:=HK.out _ _ hb rfl;simp only[upd,Nat.reduceEqDiff,reduceIte,e0]at h;exact h
   |3,ho|8,ho=>
    obtain rfl:=osI ho;intro vs W K hB hD hK;have HK:=Ab hK
    try have e2:vs 2=.bool true:=Ac hD 2 rfl
    try have e6:vs 6=.bool true:=Ac hD 6 rfl
    try have e7:vs 7=.pointer (some ⟨w.heap.size,0,none⟩):=Ac hD 7 rfl
    obtain⟨d0,d1,d2,d3,d4⟩:=HCl.out W hB;clear hK hD ho;dsimp only;go_simp;have h:=HK.out _ _ Ad rfl;simp only[upd,Nat.reduceEqDiff,reduceIte, *]at h;exact h
   |4,ho=>
    obtain rfl:=osI ho;intro vs W K hB hD hK;have HK:=Ab hK;have e2:vs 2=.bool true:=Ac hD 2 rfl;have e3:vs 3=.agg #[.int .i64 mi,.int .i64 mo,.int .i64 ms,.slice a3 n3 c3,.slice a4 n4 c4]:=Ac hD 3 rfl;clear hK hD ho;dsimp only;go_simp;refine(HM1.out W (HBD.out W hB)).mono ?_;rintro e W' ⟨rfl,hb⟩;have h:=HK.out _ _ hb rfl;simp only[upd,Nat.reduceEqDiff,reduceIte,e2,e3]at h;exact h
   |10,ho=>
    obtain rfl:=osI ho;intro vs W K hB hD hK;have HK:=Ab hK;have e6:vs 6=.bool true:=Ac hD 6 rfl;have e9:vs 9=.slice sa n cs:=Ac hD 9 rfl;clear hK hD ho;dsimp only;go_simp;refine(HI1.out W (HBD.out W hB)).mono ?_;rintro e W' ⟨rfl,hb⟩;have h:=HK.out _ _ hb rfl;simp only[upd,Nat.reduceEqDiff,reduceIte,e6,e9]at h;exact h
   |q+21,ho=>exact absurd ho (by simp)
  case fin=>
   intro vs wz hB hall;have el:vs 20=.bool false:=hall 20 (by decide);have HBZ:=Ab (HBD.out wz hB);clear hall hB HBD HCl HV1 HM1 HI1 HO1;rw[el];clear el;generalize vs 0=z0q,vs 1=z1q,vs 2=z2q,vs 3=z3q,vs 4=z4q,vs 5=z5q,vs 6=z6q,vs 7=z7q,vs 8=z8q,vs 9=z9q,vs 10=z10q,vs 11=z11q,vs 12=z12q,vs 13=z13q,vs 14=z14q,vs 15=z15q,vs 16=z16q,vs 17=z17q,vs 18=z18q,vs 19=z19q;clear vs;go_wp2;go_ret;exact⟨An HR.out,HBW.out.trans (HBZ.out.mono HBW.out.size)⟩
 |true=>
  have HR:Hid (R=decide (mo=oo)):=by show _=_;have:=HV.out;rw[decide_eq_true (by rw[beq_iff_eq]at ti;exact ti)]at this;simpa using this
  refine AB hmx (FR w.heap.size n3 n4 c3 c4 n cs sa a3 a4 mi mo ms oi oo) (fun vs=>{tmps:=(_::_::_::_::vs 20::vs 0::vs 1::vs 2::vs 3::vs 4::vs 5::vs 6::vs 7::vs 8::vs 9::vs 10::vs 11::vs 12::vs 13::vs 14::vs 15::vs 16::vs 17::vs 18::vs 19::[]).toArray,defers:=_}) (fun n=>[undef,undef,undef,undef,undef,undef,undef,undef,undef,undef,undef,undef,undef,undef,undef,undef,undef,undef,undef,undef,.bool false].getD n undef) rfl (by kernel_rfl) (fun _ _ _ _ h hb=>h.below hb) ?step ?fin
  case step=>
   intro ix o ho
   match ix,ho with
   |0,ho|2,ho|5,ho|6,ho|7,ho|9,ho|11,ho|12,ho|13,ho|14,ho|16,ho|18,ho|19,ho|20,ho=>
    obtain rfl:=osI ho;intro vs W K hB hD hK;have HK:=Ab hK
    try have e1:vs 1=.bool true:=Ac hD 1 rfl
    try have e2:vs 2=.bool true:=Ac hD 2 rfl
    try have e4:vs 4=.bool true:=Ac hD 4 rfl
    try have e5:vs 5=.bool true:=Ac hD 5 rfl
    try have e6:vs 6=.bool true:=Ac hD 6 rfl
    try have e8:vs 8=.int .i64 mi:=Ac hD 8 rfl
    try have e10:vs 10=.int .i64 oi:=Ac hD 10 rfl
    try have e11:vs 11=.bool true:=Ac hD 11 rfl
    try have e12:vs 12=.bool true:=Ac hD 12 rfl
    try have e13:vs 13=.bool true:=Ac hD 13 rfl
    try have e15:vs 15=.int .i64 mo:=Ac hD 15 rfl
    try have e17:vs 17=.int .i64 oo:=Ac hD 17 rfl
    try have e18:vs 18=.bool (mo==oo):=Ac hD 18 rfl
    try have e19:vs 19=.bool (mo==oo):=Ac hD 19 rfl
    clear hK hD ho;dsimp only;go_simp;have h:=HK.out _ _ Ad rfl;simp only[upd,Nat.reduceEqDiff,reduceIte, *]at h;exact h
   |1,ho=>
    obtain rfl:=osI ho;intro vs W K hB hD hK;have HK:=Ab hK;have e0:vs 0=.slice sa n cs:=Ac hD 0 rfl;clear hK hD ho;dsimp only;go_simp;refine(HV1.out W (HBD.out W hB)).mono ?_;rintro e W' ⟨rfl,hb⟩;have h:=HK.out _ _ hb rfl;simp only[upd,Nat.reduceEqDiff,reduceIte,e0]at h;exact h
   |3,ho|8,ho|15,ho=>
    obtain rfl:=osI ho;intro vs W K hB hD hK;have HK:=Ab hK
    try have e2:vs 2=.bool true:=Ac hD 2 rfl
    try have e6:vs 6=.bool true:=Ac hD 6 rfl
    try have e7:vs 7=.pointer (some ⟨w.heap.size,0,none⟩):=Ac hD 7 rfl
    try have e13:vs 13=.bool true:=Ac hD 13 rfl
    try have e14:vs 14=.pointer (some ⟨w.heap.size,1,none⟩):=Ac hD 14 rfl
    obtain⟨d0,d1,d2,d3,d4⟩:=HCl.out W hB;clear hK hD ho;dsimp only;go_simp;have h:=HK.out _ _ Ad rfl;simp only[upd,Nat.reduceEqDiff,reduceIte, *]at h;exact h
   |4,ho=>
    obtain rfl:=osI ho;intro vs W K hB hD hK;have HK:=Ab hK;have e2:vs 2=.bool true:=Ac hD 2 rfl;have e3:vs 3=.agg #[.int .i64 mi,.int .i64 mo,.int .i64 ms,.slice a3 n3 c3,.slice a4 n4 c4]:=Ac hD 3 rfl;clear hK hD ho;dsimp only;go_simp;refine(HM1.out W (HBD.out W hB)).mono ?_;rintro e W' ⟨rfl,hb⟩;have h:=HK.out _ _ hb rfl;simp only[upd,Nat.reduceEqDiff,reduceIte,e2,e3]at h;exact h
   |10,ho=>
    obtain rfl:=osI ho;intro vs W K hB hD hK;have HK:=Ab hK;have e6:vs 6=.bool true:=Ac hD 6 rfl;have e9:vs 9=.slice sa n cs:=Ac hD 9 rfl;clear hK hD ho;dsimp only;go_simp;refine(HI1.out W (HBD.out W hB)).mono ?_;rintro e W' ⟨rfl,hb⟩;have h:=HK.out _ _ hb rfl;simp only[upd,Nat.reduceEqDiff,reduceIte,e6,e9]at h;exact h
   |17,ho=>
    obtain rfl:=osI ho;intro vs W K hB hD hK;have HK:=Ab hK;have e13:vs 13=.bool true:=Ac hD 13 rfl;have e16:vs 16=.slice sa n cs:=Ac hD 16 rfl;clear hK hD ho;dsimp only;go_simp;refine(HO1.out W (HBD.out W hB)).mono ?_;rintro e W' ⟨rfl,hb⟩;have h:=HK.out _ _ hb rfl;simp only[upd,Nat.reduceEqDiff,reduceIte,e13,e16]at h;exact h
   |q+21,ho=>exact absurd ho (by simp)
  case fin=>
   intro vs wz hB hall;have el:vs 20=.bool (mo==oo):=hall 20 (by decide);have HBZ:=Ab (HBD.out wz hB);clear hall hB HBD HCl HV1 HM1 HI1 HO1;rw[el];clear el;generalize vs 0=z0q,vs 1=z1q,vs 2=z2q,vs 3=z3q,vs 4=z4q,vs 5=z5q,vs 6=z6q,vs 7=z7q,vs 8=z8q,vs 9=z9q,vs 10=z10q,vs 11=z11q,vs 12=z12q,vs 13=z13q,vs 14=z14q,vs 15=z15q,vs 16=z16q,vs 17=z17q,vs 18=z18q,vs 19=z19q;clear vs;go_wp2;go_ret;exact⟨Ak ((J3 _ _).trans HR.out.symm),HBW.out.trans (HBZ.out.mono HBW.out.size)⟩
end Go.Proofs.YtncjeamdkjcebaaGreatDoor
