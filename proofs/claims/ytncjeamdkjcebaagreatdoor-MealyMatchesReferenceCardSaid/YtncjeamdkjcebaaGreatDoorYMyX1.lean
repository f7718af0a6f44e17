/- What mealy.newPlan makes (where its argument. -/
import Derived.Test.YtncjeamdkjcebaaGreatDoorYMyS2
set_option linter.all false
set_option maxHeartbeats 8000000
set_option maxRecDepth 100000
namespace Go.Proofs.YtncjeamdkjcebaaGreatDoor
open Go.RowKit Go.Maps Go.WideMaps
theorem KT(W:World)(n:Nat):(Instr.makeMap 109 (some (.int .i64 (n:Int)))).run Tryz.prog W=.ok (.map (some W.heap.size)) (W.alloc (.map #[] 0)):=by
 simp[Instr.makeMap,run_underlying Tryz.underlying109,asInt,asIntOf,Result.andThen]
theorem CB.madeP(w:World):CB (w.alloc (.map #[] 0)) w.heap.size []:=
 ⟨_,World.ownsMap_made w Tryz.prog 108 _,isMap_empty,fun y _=>by simp[Maps.has],fun y _ hy=>absurd hy (by simp)⟩
structure Ew(W:World)(pz:Nat)(a:Au)(pls idx:List UE)(says:List Int)(l:List Sig):Prop where
 p:∃v2 v3 vp vs mz vj,W.heap[pz]? =some (.cells #[.int .i64 a.letters,.int .i64 a.start,v2,v3,vp,vs,.map (some mz),vj] 154 (0,0))/\Ar W v2 a.next/\Ar W v3 a.prio/\CA W vp pls/\Ah W vs says/\CB W mz idx/\Ar W vj (Ap l)
theorem Ew.below{W W':World}{pz:Nat}{a:Au}{d c:List UE}{b:List Int}{l:List Sig}(h:Ew W pz a d c b l)(hb:Below W.heap.size W W'):Ew W' pz a d c b l:=by
 obtain⟨v2,v3,vp,vs,mz,vj,h0,h1,h2,h3,h4,h5,h6⟩:=h.p;exact⟨v2,v3,vp,vs,mz,vj,B8 hb h0,h1.below hb,h2.below hb,h3.below hb,h4.below hb,h5.below hb,h6.below hb⟩
theorem CB.miss{w:World}{b:Nat}{l:List UE}(h:CB w b l){y:UE}(hy:WfP y)(hn:y∉l):∃c,∀m,(Instr.lookup 109 (.map (some b)) (plV y) true).run Tryz.prog (w.drewN m)=.ok (.tuple #[.int .i64 c,.bool false]) (w.drewN m):=by
 obtain⟨D,h1,h2,h3,h4⟩:=h
 have f:∀m,∃c,D.atKey (klP y) (.lit (.int .i64 0))=.lit (.int .i64 c)/\(Instr.lookup 109 (.map (some b)) (plV y) true).run Tryz.prog (w.drewN m)=.ok (.tuple #[.int .i64 c,.bool false]) (w.drewN m):=fun m=>by
  have i:=h1.kept (AW (Aj w w.heap.size m)) (by simp);obtain⟨v,ps,d,hv⟩:=i.look_ok DG Tryz.underlying109 (Hf _) (plainElem_int Tryz.underlying3 (q:=.i64) (a:=0) rfl) (Jb y hy);obtain⟨c,rfl,hc,j⟩:=plainElem_int_inv Tryz.underlying3 hv;rw[h3 y hy]at d;simp only[Prod.mk.injEq]at hc;exact⟨c,hc.1,by rw[d,decide_eq_false hn]⟩
 obtain⟨c,e,-⟩:=f 0;refine⟨c,fun m=> ?_⟩;obtain⟨c',e',r⟩:=f m;rw[e]at e';simp only[DataW.lit.injEq,Lit.int.injEq,true_and]at e';rw[e'];exact r
theorem Sf{W W':World}{mz:Nat}(ho:Af (fun q=>q=mz) W W'):W.grownBy W' (some mz):=⟨ho.os,ho.tape,ho.output,ho.size,fun k hk hr=>ho.block k hk fun e=>hr (by rw[e])⟩
theorem PX{W W':World}{row:Option Nat}(hg:W.grownBy W' row)(hr:∀r,row=some r->∃o:Obj,W.heap[r]? =some o/\o.isCells=false){v:Value}{n:Nat}{f:Nat->Value}(h:Ec W v n f):Ec W' v n f:=by
 obtain⟨ao,c,b,a,rfl,h1,h2,h3,h4,h5,h6⟩:=h;refine⟨ao,c,b,a,rfl,h1,h2,h3,h4,h5,fun j hj=> ?_⟩;have hc:=h6 j hj;have hlt:=World.block_lt_of_cell? W _ hc;refine(hg.cell_far ⟨b,a+j,none⟩ hlt fun e=> ?_).trans hc;obtain⟨o',q1,q2⟩:=hr b e.symm;have q1:W.heap[b]? =some o':=q1;unfold World.cell? at hc;simp only[q1]at hc
 cases o'<;>simp_all [Obj.isCells]
theorem O9{W W':World}{row:Option Nat}(hg:W.grownBy W' row)(hr:∀r,row=some r->∃o:Obj,W.heap[r]? =some o/\o.isCells=false){v:Value}{ll:List (List Int)}(h:Ar W v ll):Ar W' v ll:=by
 obtain⟨V,h1,h2⟩:=h;exact⟨V,PX hg hr h1,fun j hj=>EN hg hr (h2 j hj)⟩
def It(a:Au)(pls:List UE)(says:List Int)(l:List Sig)(w:World)(e:Ending)(w':World):Prop:=∃pz,e=.returned (.tuple #[.pointer (some ⟨pz,0,none⟩),.bool true])/\w.heap.size<=pz/\Ew w' pz a pls pls says l/\Below w.heap.size w w'
theorem CA.shape{w:World}{v:Value}{l:List UE}(h:CA w v l):∃a c,v=.slice a l.length c:=by
 obtain⟨ao,d,b,e,rfl,-⟩:=h;exact⟨_,_,rfl⟩
theorem CA.dat3{w:World}{a:Option Addr}{n c:Nat}{l:List UE}(h:CA w (.slice a n c) l):∃b o,(0<n->a=some ⟨b,o,none⟩)/\n=l.length/\∀j,j<n->w.cell? ⟨b,o+j*3,none⟩=some (.int .i64 (l.getD j ⟨0,0,0⟩).st)/\w.cell? ⟨b,o+j*3+1,none⟩=some (.int .i64 (l.getD j ⟨0,0,0⟩).inn)/\w.cell? ⟨b,o+j*3+2,none⟩=some (.int .i64 (l.getD j ⟨0,0,0⟩).pr)/\WfP (l.getD j ⟨0,0,0⟩):=by
 obtain⟨ao,f,b,d,e,h1,h2⟩:=h
 injection e with e1 e2 e3
 subst e1 e2 e3;refine⟨b,d,h1.ad,rfl,fun j hj=> ?_⟩;rw[Ae _ _ _ hj];exact⟨h1.e0 j hj,h1.e1 j hj,h1.e2 j hj,h2 _ (List.getElem_mem _)⟩
def RN1(z ls sc c2 c3 cp cs n2 n3 np:Nat)(sa a2 a3 ap aw:Option Addr)(al ast:Int)(ix:Nat)(u:Value)(_:World):Prop:=
 match ix with
 |0|11=>u=.slice sa ls sc
 |1|5=>u=.bool true
 |2|3|6|7|8|13|14|15|18|19|20|25|26=>u=.bool false
 |4=>u=.agg #[.int .i64 al,.int .i64 ast,.slice a2 n2 c2,.slice a3 n3 c3]
 |9=>u=.pointer (some ⟨z,0,none⟩)
 |10|12=>u=.int .i64 al
 |16|23=>u=.slice ap np cp
 |17|22|24=>u=.int .i64 (np:Int)
 |21=>u=.slice aw np cs
 | _=>True
def RN9(pz mz i _zs:Nat)(ys yi yp:Int)(ix:Nat)(u:Value)(_:World):Prop:=
 match ix with
 |0|1=>u=.pointer (some ⟨pz,0,none⟩)
 |2=>u=.pointer (some ⟨pz,6,none⟩)
 |3=>u=.map (some mz)
 |4=>u=.agg #[.int .i64 ys,.int .i64 yi,.int .i64 yp]
 |5=>u=.int .i64 (i:Int)
 | _=>True
theorem RN9.below{ix:Nat}{u:Value}{W W':World}{pz mz i zs:Nat}{ys yi yp:Int}(h:RN9 pz mz i zs ys yi yp ix u W)(_:Below W.heap.size W W'):RN9 pz mz i zs ys yi yp ix u W':=by
 unfold RN9 at*
 split at h<;>first|exact h|trivial
def IG(a:Au)(l:List Sig)(W:World)(pz:Nat)(ap aw a2 a3:Option Addr)(np cp cs c2 c3 mz:Nat)(aj:Option Addr)(cj:Nat):Prop:=W.heap[pz]? =some (.cells #[.int .i64 a.letters,.int .i64 a.start,.slice a2 a.next.length c2,.slice a3 a.prio.length c3,.slice ap np cp,.slice aw np cs,.map (some mz),.slice aj (Ap l).length cj] 154 (0,0))
def RN3(a:Au)(l:List Sig)(sz:Nat)(ap aw:Option Addr)(np cp cs:Nat)(a2 a3:Option Addr)(c2 c3:Nat)(sa:Option Addr)(sc ls:Nat)(ix:Nat)(u:Value)(W:World):Prop:=
 match ix with
 |0=>u=.agg #[.int .i64 a.letters,.int .i64 a.start,.slice a2 a.next.length c2,.slice a3 a.prio.length c3]
 |1|3=>u=.slice ap np cp
 |2=>u=.slice aw np cs
 |4=>u=.int .i64 (np:Int)
 |5=>∃mz,u=.map (some mz)/\sz<=mz/\CB W mz []
 |6=>u=.slice sa ls sc
 |7=>∃aj cj,u=.slice aj (Ap l).length cj/\Ar W (.slice aj (Ap l).length cj) (Ap l)
 |8=>∃mz aj cj,u=.agg #[.int .i64 a.letters,.int .i64 a.start,.slice a2 a.next.length c2,.slice a3 a.prio.length c3,.slice ap np cp,.slice aw np cs,.map (some mz),.slice aj (Ap l).length cj]/\sz<=mz/\CB W mz []/\Ar W (.slice aj (Ap l).length cj) (Ap l)
 |9|10=>∃pz mz aj cj,u=.pointer (some ⟨pz,0,none⟩)/\(sz<=pz/\sz<=mz)/\IG a l W pz ap aw a2 a3 np cp cs c2 c3 mz aj cj/\CB W mz []/\Ar W (.slice aj (Ap l).length cj) (Ap l)
 | _=>True
theorem IG.below{a:Au}{l:List Sig}{W W':World}{pz:Nat}{ap aw a2 a3:Option Addr}{np cp cs c2 c3 mz:Nat}{aj:Option Addr}{cj:Nat}(h:IG a l W pz ap aw a2 a3 np cp cs c2 c3 mz aj cj)(hb:Below W.heap.size W W'):IG a l W' pz ap aw a2 a3 np cp cs c2 c3 mz aj cj:=
 B8 hb h
theorem RN3.below{ix:Nat}{u:Value}{W W':World}{a:Au}{l:List Sig}{sz:Nat}{ap aw:Option Addr}{np cp cs:Nat}{a2 a3:Option Addr}{c2 c3:Nat}{sa:Option Addr}{sc ls:Nat}(h:RN3 a l sz ap aw np cp cs a2 a3 c2 c3 sa sc ls ix u W)(hb:Below W.heap.size W W'):RN3 a l sz ap aw np cp cs a2 a3 c2 c3 sa sc ls ix u W':=by
 unfold RN3 at*
 split at h<;>first|exact h|(obtain⟨mz,h1,h0,h2⟩:=h;exact⟨mz,h1,h0,h2.below hb⟩)|(obtain⟨aj,cj,h1,h2⟩:=h;exact⟨aj,cj,h1,h2.below hb⟩)|(obtain⟨mz,aj,cj,h1,h0,h2,h3⟩:=h;exact⟨mz,aj,cj,h1,h0,h2.below hb,h3.below hb⟩)|(obtain⟨pz,mz,aj,cj,h1,h2,h3,h4,h5⟩:=h;exact⟨pz,mz,aj,cj,h1,h2,h3.below hb,h4.below hb,h5.below hb⟩)
theorem JV(w:World)(vl va vp vs:Value)(l:List Sig)(a:Au)(d:List UE)(u:List Int)(hK:B7 w)(hl:AD w vl l)(ha:Cw w va a)(hp:CA w vp d)(hs:Ah w vs u)
  (ar:As l=true) (bl:AC a=true) (be:a.letters=Ay l) (dg:d.length<=2900) (bj:u.length=d.length) (bi:d.Nodup):
  Calls Tryz.prog 77 #[vl,va,vp,vs] w (It a d u l w):=by
 have ao:Tryz.prog.follows .mixedOrders=true:=by kernel_rfl
 have a8:Hid (∀W,Below w.heap.size w W->Calls Tryz.prog 41 #[vl] W (Av (.bool true) W)):=fun W h=>by rw[<-ar];exact(CC W _ _ (hK.below h) (hl.below h)).mono fun _ _ h=>h.calm
 have au:Hid (∀W,Below w.heap.size w W->Calls Tryz.prog 73 #[va] W (Av (.bool true) W)):=fun W h=>by rw[<-bl];exact IF W _ _ (ha.below h)
 have ah:Hid (∀W,Below w.heap.size w W->Calls Tryz.prog 67 #[vl] W (Av (.int .i64 (Ay l)) W)):=fun W h=>EH W _ _ (hK.below h) (hl.below h)
 have a0:Hid (∀W,Below w.heap.size w W->Calls Tryz.prog 56 #[vl] W (EZ (Ap l) W)):=fun W h=>MS W _ l (hK.below h) (hl.below h) ar
 obtain⟨v2,v3,rfl,⟨hI,-⟩,h2,h3⟩:=ha;obtain⟨sa,sc,rfl⟩:=hl.shape;obtain⟨a2,c2,rfl⟩:=h2.shape;obtain⟨a3,c3,rfl⟩:=h3.shape;obtain⟨ap,cp,rfl⟩:=hp.shape;obtain⟨aw,cs,rfl⟩:=hs.shape;have H2:=Ab h2;have H3:=Ab h3;have HP:=Ab hp;have HS:=Ab hs;have bx:=Ab bi;rw[bj]at HS⊢;rw[<-be]at ah;clear hl hp hs hK h2 h3 ar bl be bi bj hI
 have dd:=fun W=>KT W d.length
 go_enter Tryz.func77,Tryz.ntmps77
 go_upto_region 1 with(fail)
 obtain⟨bn,bf,-⟩:=Aw (w0:=w) (B:=w.heap.size) Ad leR #[.int .i64 a.letters,.int .i64 a.start,.slice a2 a.next.length c2,.slice a3 a.prio.length c3] 63
 have dh:(w.alloc (.cells #[.int .i64 a.letters,.int .i64 a.start,.slice a2 a.next.length c2,.slice a3 a.prio.length c3] 63)).heap.size=w.heap.size+1:=by simp
 generalize w.alloc (.cells #[.int .i64 a.letters,.int .i64 a.start,.slice a2 a.next.length c2,.slice a3 a.prio.length c3] 63)=w1 at*;have bq:=Ab bf;have b0:=Ab bn
 have z:Hid (∀W,Below w1.drew.heap.size w1.drew W->Below w.heap.size w W):=fun W h=>bq.out.trans (((Below.drew (B:=w1.heap.size) Ad).trans h).mono (by omega))
 have k:Hid (∀W,Below w1.drew.heap.size w1.drew W->W.heap[w.heap.size]? =some (.cells #[.int .i64 a.letters,.int .i64 a.start,.slice a2 a.next.length c2,.slice a3 a.prio.length c3] 63 (0,0))):=fun W h=>(((Below.drew (B:=w1.heap.size) Ad).trans h).block _ (by omega)).trans b0.out
 have a9:Hid (∀W,Below w1.drew.heap.size w1.drew W->Calls Tryz.prog 41 #[.slice sa l.length sc] W (Av (.bool true) W)):=fun W h=>a8.out W (z.out W h)
 have av:Hid (∀W,Below w1.drew.heap.size w1.drew W->Calls Tryz.prog 73 #[.agg #[.int .i64 a.letters,.int .i64 a.start,.slice a2 a.next.length c2,.slice a3 a.prio.length c3]] W (Av (.bool true) W)):=fun W h=>au.out W (z.out W h)
 have a5:Hid (∀W,Below w1.drew.heap.size w1.drew W->Calls Tryz.prog 67 #[.slice sa l.length sc] W (Av (.int .i64 a.letters) W)):=fun W h=>ah.out W (z.out W h)
 have t1:((d.length:Int)>3000)=False:=by simp;omega
 have t2:decide ((3000:Int)<(d.length:Int))=false:=by simp;omega
 clear bn bf;refine Be ao (RN1 w.heap.size l.length sc c2 c3 cp cs a.next.length a.prio.length d.length sa a2 a3 ap aw a.letters a.start) (fun vs=>{tmps:=(_::_::_::_::_::_::_::_::_::_::_::_::_::_::_::vs 0::vs 1::vs 2::vs 3::vs 4::vs 5::vs 6::vs 7::vs 8::vs 9::vs 10::vs 11::vs 12::vs 13::vs 14::vs 15::vs 16::vs 17::vs 18::vs 19::vs 20::vs 21::vs 22::vs 23::vs 24::vs 25::vs 26::_::_::_::_::_::_::_::_::_::_::_::_::_::_::_::_::_::_::_::_::_::_::_::_::_::_::_::_::_::_::_::_::_::_::_::_::[]).toArray,defers:=_}) (fun n=>[undef,undef,undef,undef,undef,undef,undef,undef,undef,undef,undef,undef,undef,undef,undef,undef,undef,undef,undef,undef,undef,undef,undef,undef,undef,undef,undef].getD n undef) rfl (by kernel_rfl) (fun _ _ _ _ h _=>h) ?step ?fin
 case step=>
  intro ix o ho
  match ix,ho with
  |0,ho|2,ho|3,ho|6,ho|7,ho|8,ho|9,ho|11,ho|13,ho|14,ho|15,ho|16,ho|17,ho|18,ho|19,ho|20,ho|21,ho|22,ho|23,ho|24,ho|25,ho|26,ho=>
   obtain rfl:=osI ho;intro vs W K hB hD hK;have HK:=Ab hK
   try have e1:vs 1=.bool true:=Ac hD 1 rfl
   try have e2:vs 2=.bool false:=Ac hD 2 rfl
   try have e3:vs 3=.bool false:=Ac hD 3 rfl
   try have e5:vs 5=.bool true:=Ac hD 5 rfl
   try have e6:vs 6=.bool false:=Ac hD 6 rfl
   try have e7:vs 7=.bool false:=Ac hD 7 rfl
   try have e8:vs 8=.bool false:=Ac hD 8 rfl
   try have al:vs 10=.int .i64 a.letters:=Ac hD 10 rfl
   try have cu:vs 12=.int .i64 a.letters:=Ac hD 12 rfl
   try have cv:vs 13=.bool false:=Ac hD 13 rfl
   try have cw:vs 14=.bool false:=Ac hD 14 rfl
   try have cx:vs 15=.bool false:=Ac hD 15 rfl
   try have cy:vs 16=.slice ap d.length cp:=Ac hD 16 rfl
   try have cz:vs 17=.int .i64 (d.length:Int):=Ac hD 17 rfl
   try have c4:vs 18=.bool false:=Ac hD 18 rfl
   try have c5:vs 19=.bool false:=Ac hD 19 rfl
   try have c6:vs 20=.bool false:=Ac hD 20 rfl
   try have c7:vs 21=.slice aw d.length cs:=Ac hD 21 rfl
   try have c8:vs 22=.int .i64 (d.length:Int):=Ac hD 22 rfl
   try have c9:vs 23=.slice ap d.length cp:=Ac hD 23 rfl
   try have da:vs 24=.int .i64 (d.length:Int):=Ac hD 24 rfl
   try have db:vs 25=.bool false:=Ac hD 25 rfl
   clear hK hD ho;dsimp only;go_simp;have h:=HK.out _ _ Ad rfl;simp only[upd,Nat.reduceEqDiff,reduceIte, *]at h;exact h
  |1,ho=>
   obtain rfl:=osI ho;intro vs W K hB hD hK;have HK:=Ab hK;have e0:vs 0=.slice sa l.length sc:=Ac hD 0 rfl;clear hK hD ho;dsimp only;go_simp;refine(a9.out W hB).mono ?_;rintro e W' ⟨rfl,hb⟩;have h:=HK.out _ _ hb rfl;simp only[upd,Nat.reduceEqDiff,reduceIte,e0]at h;exact h
  |4,ho=>
   obtain rfl:=osI ho;intro vs W K hB hD hK;have HK:=Ab hK;have e3:vs 3=.bool false:=Ac hD 3 rfl;have c0:=Aa 0 (k.out W hB);have c1:=Aa 1 (k.out W hB);have c2:=Aa 2 (k.out W hB);have c3:=Aa 3 (k.out W hB);clear hK hD ho;dsimp only;go_simp;have h:=HK.out _ _ Ad rfl;simp only[upd,Nat.reduceEqDiff,reduceIte,e3]at h;exact h
  |5,ho=>
   obtain rfl:=osI ho;intro vs W K hB hD hK;have HK:=Ab hK;have e3:vs 3=.bool false:=Ac hD 3 rfl;have e4:vs 4=.agg #[.int .i64 a.letters,.int .i64 a.start,.slice a2 a.next.length c2,.slice a3 a.prio.length c3]:=Ac hD 4 rfl;clear hK hD ho;dsimp only;go_simp;refine(av.out W hB).mono ?_;rintro e W' ⟨rfl,hb⟩;have h:=HK.out _ _ hb rfl;simp only[upd,Nat.reduceEqDiff,reduceIte,e3,e4]at h;exact h
  |10,ho=>
   obtain rfl:=osI ho;intro vs W K hB hD hK;have HK:=Ab hK;have e8:vs 8=.bool false:=Ac hD 8 rfl;have e9:vs 9=.pointer (some ⟨w.heap.size,0,none⟩):=Ac hD 9 rfl;have c:=Aa 0 (k.out W hB);clear hK hD ho;dsimp only;go_simp;have h:=HK.out _ _ Ad rfl;simp only[upd,Nat.reduceEqDiff,reduceIte,e8,e9]at h;exact h
  |12,ho=>
   obtain rfl:=osI ho;intro vs W K hB hD hK;have HK:=Ab hK;have e8:vs 8=.bool false:=Ac hD 8 rfl;have b2:vs 11=.slice sa l.length sc:=Ac hD 11 rfl;clear hK hD ho;dsimp only;go_simp;refine(a5.out W hB).mono ?_;rintro e W' ⟨rfl,hb⟩;have h:=HK.out _ _ hb rfl;simp only[upd,Nat.reduceEqDiff,reduceIte,e8,b2]at h;exact h
  |q+27,ho=>exact absurd ho (by simp)
 case fin=>
  intro vs wz hB f;have el:vs 26=.bool false:=f 26 (by decide);have aa:=Ab (z.out wz hB);have ak:=Ab (k.out wz hB);clear f hB z k a9 av a5;rw[el];clear el;generalize vs 0=dk at*;generalize vs 1=dl at*;generalize vs 2=dm at*;generalize vs 3=dn at*;generalize vs 4=dp at*;generalize vs 5=dq at*;generalize vs 6=dr at*;generalize vs 7=ds at*;generalize vs 8=dt at*;generalize vs 9=du at*;generalize vs 10=ca at*;generalize vs 11=cb at*;generalize vs 12=cc at*;generalize vs 13=cd at*;generalize vs 14=ce at*;generalize vs 15=cf at*;generalize vs 16=cg at*;generalize vs 17=ch at*;generalize vs 18=ci at*;generalize vs 19=ck at*;generalize vs 20=cl at*;generalize vs 21=cm at*;generalize vs 22=cn at*;generalize vs 23=co at*;generalize vs 24=cr at*;generalize vs 25=ct at*;clear vs
  go_upto_region 3 with(fail)
  have ac:Hid (∀W,Below wz.drew.heap.size wz.drew W->W.heap[w.heap.size]? =some (.cells #[.int .i64 a.letters,.int .i64 a.start,.slice a2 a.next.length c2,.slice a3 a.prio.length c3] 63 (0,0))):=fun W h=>(((Below.drew (B:=wz.heap.size) Ad).trans h).block _ (Array.getElem?_eq_some_iff.1 ak.out).1).trans ak.out
  have ab:Hid (∀W,Below wz.drew.heap.size wz.drew W->Below w.heap.size w W):=fun W h=>aa.out.trans (((Below.drew (B:=wz.heap.size) Ad).trans h).mono aa.out.size)
  have a1:Hid (∀W,Below wz.drew.heap.size wz.drew W->Calls Tryz.prog 56 #[.slice sa l.length sc] W (EZ (Ap l) W)):=fun W h=>a0.out W (ab.out W h)
  clear a8 au ah a0;refine Be ao (RN3 a l wz.heap.size ap aw d.length cp cs a2 a3 c2 c3 sa sc l.length) (fun vs=>{tmps:=(_::_::_::_::_::_::_::_::_::_::vs 10::_::_::_::_::_::_::_::_::_::_::_::_::_::_::_::_::_::_::_::_::_::_::_::_::_::_::_::_::_::_::_::vs 0::vs 1::vs 2::vs 3::vs 4::vs 5::vs 6::vs 7::vs 8::vs 9::_::_::_::_::_::_::_::_::_::_::_::_::_::_::_::_::_::_::_::_::_::_::_::_::_::_::[]).toArray,defers:=_}) (fun n=>[undef,undef,undef,undef,undef,undef,undef,undef,undef,undef,undef].getD n undef) rfl (by kernel_rfl) (fun _ _ _ _ h hb=>h.below hb) ?step ?fin
  case step=>
   intro ix o ho
   match ix,ho with
  |0,ho=>
   obtain rfl:=osI ho;intro vs W K hB hD hK;have HK:=Ab hK;have c0:=Aa 0 (ac.out W hB);have c1:=Aa 1 (ac.out W hB);have c2:=Aa 2 (ac.out W hB);have c3:=Aa 3 (ac.out W hB);clear hK hD ho;dsimp only;go_simp;have h:=HK.out _ _ Ad rfl;simp only[upd,Nat.reduceEqDiff,reduceIte]at h;exact h
  |1,ho|2,ho|3,ho|4,ho|6,ho=>
   obtain rfl:=osI ho;intro vs W K hB hD hK;have HK:=Ab hK
   try have e3:vs 3=.slice ap d.length cp:=Ac (R:=RN3 a l wz.heap.size ap aw d.length cp cs a2 a3 c2 c3 sa sc l.length) hD 3 rfl
   clear hK hD ho;dsimp only;go_simp;have h:=HK.out _ _ Ad rfl;simp only[upd,Nat.reduceEqDiff,reduceIte, *]at h;exact h
  |5,ho=>
   obtain rfl:=osI ho;intro vs W K hB hD hK;have HK:=Ab hK;have e4:vs 4=.int .i64 (d.length:Int):=Ac (R:=RN3 a l wz.heap.size ap aw d.length cp cs a2 a3 c2 c3 sa sc l.length) hD 4 rfl;clear hK hD ho;dsimp only;go_simp;have h:=HK.out _ _ (Ao (w:=W) (.map #[] 0)) ⟨_,rfl,hB.size,CB.madeP W⟩;simp only[upd,Nat.reduceEqDiff,reduceIte,e4]at h;exact h
  |7,ho=>
   obtain rfl:=osI ho;intro vs W K hB hD hK;have HK:=Ab hK;have e6:vs 6=.slice sa l.length sc:=Ac (R:=RN3 a l wz.heap.size ap aw d.length cp cs a2 a3 c2 c3 sa sc l.length) hD 6 rfl;clear hK hD ho;dsimp only;go_simp;refine(a1.out W hB).mono ?_;rintro e W' ⟨vj,rfl,hj,hb⟩;obtain⟨aj,cj,rfl⟩:=hj.shape;have h:=HK.out _ _ hb ⟨aj,cj,rfl,hj⟩;simp only[upd,Nat.reduceEqDiff,reduceIte,e6]at h;exact h
  |8,ho=>
   obtain rfl:=osI ho;intro vs W K hB hD hK;have HK:=Ab hK;have e0:vs 0=.agg #[.int .i64 a.letters,.int .i64 a.start,.slice a2 a.next.length c2,.slice a3 a.prio.length c3]:=Ac (R:=RN3 a l wz.heap.size ap aw d.length cp cs a2 a3 c2 c3 sa sc l.length) hD 0 rfl;have e1:vs 1=.slice ap d.length cp:=Ac (R:=RN3 a l wz.heap.size ap aw d.length cp cs a2 a3 c2 c3 sa sc l.length) hD 1 rfl;have e2:vs 2=.slice aw d.length cs:=Ac (R:=RN3 a l wz.heap.size ap aw d.length cp cs a2 a3 c2 c3 sa sc l.length) hD 2 rfl;obtain⟨mz,e5,hz,hm⟩:=Ac (R:=RN3 a l wz.heap.size ap aw d.length cp cs a2 a3 c2 c3 sa sc l.length) hD 5 (by rfl);obtain⟨aj,cj,e7,hj⟩:=Ac (R:=RN3 a l wz.heap.size ap aw d.length cp cs a2 a3 c2 c3 sa sc l.length) hD 7 (by rfl);have HM:=Ab hm;have HJ:=Ab hj;clear hm hj;clear hK hD ho;dsimp only;go_simp;have h:=HK.out _ _ Ad ⟨mz,aj,cj,rfl,hz,HM.out,HJ.out⟩;simp only[upd,Nat.reduceEqDiff,reduceIte,e0,e1,e2,e5,e7]at h;exact h
  |9,ho=>
   obtain rfl:=osI ho;intro vs W K hB hD hK;have HK:=Ab hK;obtain⟨mz,aj,cj,e8,hz,hm,hj⟩:=Ac (R:=RN3 a l wz.heap.size ap aw d.length cp cs a2 a3 c2 c3 sa sc l.length) hD 8 (by rfl);have HM:=Ab hm;have HJ:=Ab hj;have s:=hB.size;clear hm hj;clear hK hD ho;dsimp only;go_simp;obtain⟨hx,hb,-⟩:=Aw (w0:=W) (B:=W.heap.size) Ad leR #[.int .i64 a.letters,.int .i64 a.start,.slice a2 a.next.length c2,.slice a3 a.prio.length c3,.slice ap d.length cp,.slice aw d.length cs,.map (some mz),.slice aj (Ap l).length cj] 154;have h:=HK.out _ _ hb ⟨_,mz,aj,cj,rfl,⟨s,hz⟩,hx,HM.out.below hb,HJ.out.below hb⟩;simp only[upd,Nat.reduceEqDiff,reduceIte,e8]at h;exact h
  |10,ho=>
   obtain rfl:=osI ho;intro vs W K hB hD hK;have HK:=Ab hK;obtain⟨pz,mz,aj,cj,e9,s,hx,hm,hj⟩:=Ac (R:=RN3 a l wz.heap.size ap aw d.length cp cs a2 a3 c2 c3 sa sc l.length) hD 9 (by rfl);have HX:=Ab hx;have HM:=Ab hm;have HJ:=Ab hj;clear hx hm hj;clear hK hD ho;dsimp only;go_simp;have h:=HK.out _ _ Ad ⟨pz,mz,aj,cj,rfl,s,HX.out,HM.out,HJ.out⟩;simp only[upd,Nat.reduceEqDiff,reduceIte,e9]at h;exact h
  |q+11,ho=>exact absurd ho (by simp)
  case fin=>
  intro vs wq hB f;obtain⟨pz,mz,aj,cj,al,s,hx,hm,hj⟩:RN3 a l wz.heap.size ap aw d.length cp cs a2 a3 c2 c3 sa sc l.length 10 (vs 10) wq:=f 10 (by decide);have ay:=Ab (ab.out wq hB);have ai:=Ab hx;have HM:=Ab hm;have HJ:=Ab hj;have b8:w.heap.size<=pz:=Nat.le_trans aa.out.size s.1;have de:w.heap.size<=mz:=Nat.le_trans aa.out.size s.2;clear f hB ac a1 ab hx hm hj s ak aa;rw[al];clear al;generalize vs 0=dv at*;generalize vs 1=dw at*;generalize vs 2=dx at*;generalize vs 3=dy at*;generalize vs 4=dz at*;generalize vs 5=d3 at*;generalize vs 6=d4 at*;generalize vs 7=d5 at*;generalize vs 8=d6 at*;generalize vs 9=d7 at*;clear vs;have df:mz<wq.heap.size:=HM.out.lt;have b7:pz<wq.heap.size:=(Array.getElem?_eq_some_iff.1 ai.out).1
  have b6:mz≠pz:=fun e=>by
   obtain⟨es,c,h1⟩:=HM.out.isMap;have h2:=ai.out;unfold IG at h2;rw[<-e,h1]at h2
   cases h2
  have a6:Hid (∀W,Below w.heap.size w W->CA W (.slice ap d.length cp) d):=fun W h=>HP.out.below h
  clear HP
  go_wp2_with fail
  go_loopg [54] d.length (fun gh iv wx=>∃i:Nat,gh=d.length-i/\iv=.int .i64 (i:Int)/\i<=d.length/\Hid (Af (fun q=>q=mz) wq wx/\CB wx mz (d.take i)))
  case atStart=>exact⟨0,rfl,rfl,by omega,⟨Af.refl _ _,by rw[List.take_zero];exact HM.out⟩⟩
  case round=>
   obtain⟨i,bh,rfl,hi,HI⟩:=hrel;have bu:=Ab bh;clear bh;have x:Hid (Below w.heap.size w wr):=ay.out.trans (HI.out.1.below _ (fun q e=>by omega) ay.out.size)
   have k3:Hid (IG a l wr pz ap aw a2 a3 d.length cp cs c2 c3 mz aj cj):=by
    show IG _ _ _ _ _ _ _ _ _ _ _ _ _ _ _ _;exact(HI.out.1.block _ b7 (fun e=>b6 e.symm)).trans ai.out
   by_cases hlt:i<d.length
   ·have dc:(0:Int)<=(i:Int):=by omega
    have b3:(i:Int)<(d.length:Int):=by omega
    obtain⟨b,o,bd,-,hd⟩:=(a6.out wr x.out).dat3;obtain rfl:=bd (by omega);obtain⟨d0,d1,d2,bm⟩:=hd i hlt
    have bp:d.take (i+1)=d.take i++[d.getD i ⟨0,0,0⟩]:=by rw[List.take_succ_eq_append_getElem hlt,Ae _ _ _ hlt]
    have bo:d.getD i ⟨0,0,0⟩∉d.take i:=by
     rw[Ae _ _ _ hlt];intro h;obtain⟨j,hj,e⟩:=List.getElem_of_mem h;rw[List.getElem_take]at e
     have b4:j<i:=by rw[List.length_take]at hj;omega
     have h3:=(List.nodup_iff_pairwise_ne.1 bx.out);rw[List.pairwise_iff_getElem]at h3;exact h3 j i (by omega) hlt b4 e
    generalize d.getD i ⟨0,0,0⟩=y at*;have b1:=Ab bp;have bc:=Ab bo;have ba:=Ab bm
    have bk:(d.take i).length=i:=by rw[List.length_take];omega
    have a7:=Ab bk;clear bd hd bp bo bm bk
    go_upto_region 7 with(fail)
    obtain⟨ae,af,-⟩:=Aw (w0:=wr) (B:=wr.heap.size) Ad leR #[.int .i64 y.st,.int .i64 y.inn,.int .i64 y.pr] 108
    have di:(wr.alloc (.cells #[.int .i64 y.st,.int .i64 y.inn,.int .i64 y.pr] 108)).heap.size=wr.heap.size+1:=by simp
    generalize wr.alloc (.cells #[.int .i64 y.st,.int .i64 y.inn,.int .i64 y.pr] 108)=w6 at*;have ad:=HI.out.2.below af;have bv:=Ab ad;have a4:=Ab (k3.out.below af);obtain⟨cq,ag⟩:=ad.miss ba.out bc.out;have b5:∀m,(Instr.lookup 109 (.map (some mz)) (.agg #[.int .i64 y.st,.int .i64 y.inn,.int .i64 y.pr]) true).run Tryz.prog (w6.drewN m)=.ok (.tuple #[.int .i64 cq,.bool false]) (w6.drewN m):=ag;have z6:=Aa 6 a4.out;have k0:=Aa 0 ae;have k1:=Aa 1 ae;have k2:=Aa 2 ae;have bb:=Ab ae;have br:Hid (Af (fun q=>q=mz) wr w6):=Af.of_below af;have dj:mz≠wr.heap.size:=Nat.ne_of_lt HI.out.2.lt;clear ad ag ae af d0 d1 d2;generalize wr.heap.size=zs at*
    go_quiet (fail)
    have bs:Hid (∀W,Below (w6.drewN nq).drew.heap.size (w6.drewN nq).drew W->Below w6.heap.size w6 W):=fun W h=>(Aj w6 w6.heap.size nq).trans (((Below.drew (B:=(w6.drewN nq).heap.size) Ad).trans h).mono (Aj w6 w6.heap.size nq).size)
    clear b5 z6 k0 k1 k2;generalize w6.drewN nq=w7 at*;have ax:=bs
    have az:Hid (∀W,Below w7.drew.heap.size w7.drew W->W.cell? ⟨pz,6,none⟩=some (.map (some mz))/\W.cell? ⟨zs,0,none⟩=some (.int .i64 y.st)/\W.cell? ⟨zs,1,none⟩=some (.int .i64 y.inn)/\W.cell? ⟨zs,2,none⟩=some (.int .i64 y.pr)):=fun W h=>by
     have hb:=ax.out W h;have q:=a4.out.below hb;have q2:=(hb.block _ (Array.getElem?_eq_some_iff.1 bb.out).1).trans bb.out;exact⟨Aa 6 q,Aa 0 q2,Aa 1 q2,Aa 2 q2⟩
    go_upto_region 9 with(fail)
    refine B9 ao (RN9 pz mz i zs y.st y.inn y.pr) (fun vs=>{tmps:=(_::_::_::_::_::_::_::_::_::_::_::_::_::_::_::_::_::_::_::_::_::_::_::_::_::_::_::_::_::_::_::_::_::_::_::_::_::_::_::_::_::_::_::_::_::_::_::_::_::_::_::_::_::_::_::_::_::_::_::_::_::_::_::_::_::_::_::_::_::_::vs 0::vs 1::vs 2::vs 3::vs 4::vs 5::_::_::[]).toArray,defers:=_}) (fun n=>[u70,u71,u72,u73,u74,u75].getD n undef) 6 rfl (by kernel_rfl) (by kernel_rfl) (fun i v W W' h hb=>RN9.below h hb) ?step ?last
    case step=>
     intro ix oo hlt ho
     match ix,hlt,ho with
     |0,hlt,ho|1,hlt,ho|2,hlt,ho|5,hlt,ho=>
      obtain rfl:=osI ho;intro vs W K hB hD hK;have HK:=Ab hK
      try have e0:vs 0=.pointer (some ⟨pz,0,none⟩):=Ac hD 0 rfl
      try have e1:vs 1=.pointer (some ⟨pz,0,none⟩):=Ac hD 1 rfl
      clear hK hD ho hlt;dsimp only;go_simp;have h:=HK.out _ _ Ad rfl;simp only[upd,Nat.reduceEqDiff,reduceIte, *]at h;exact h
     |3,hlt,ho=>
      obtain rfl:=osI ho;intro vs W K hB hD hK;have HK:=Ab hK;have e2:vs 2=.pointer (some ⟨pz,6,none⟩):=Ac hD 2 rfl;have c:=(az.out W hB).1;clear hK hD ho hlt;dsimp only;go_simp;have h:=HK.out _ _ Ad rfl;simp only[upd,Nat.reduceEqDiff,reduceIte,e2]at h;exact h
     |4,hlt,ho=>
      obtain rfl:=osI ho;intro vs W K hB hD hK;have HK:=Ab hK;obtain⟨-,c0,c1,c2⟩:=az.out W hB;clear hK hD ho hlt;dsimp only;go_simp;have h:=HK.out _ _ Ad rfl;simp only[upd,Nat.reduceEqDiff,reduceIte]at h;exact h
     |q+6,hlt,_=>exact absurd hlt (by omega)
    case last=>
     intro oo ho;obtain rfl:=osI ho;intro vs w8 K hB f hK;have HK:=Ab hK;have e3:vs 3=.map (some mz):=f 3 (by omega);have e4:vs 4=.agg #[.int .i64 y.st,.int .i64 y.inn,.int .i64 y.pr]:=f 4 (by omega);have e5:vs 5=.int .i64 (i:Int):=f 5 (by omega);have am:=ax.out w8 hB;obtain⟨w9,p,an,bg⟩:=(bv.out.below am).upd ba.out bc.out (by rw[a7.out];omega);rw[a7.out]at p;have b9:(Instr.mapUpdate 109 (.map (some mz)) (.agg #[.int .i64 y.st,.int .i64 y.inn,.int .i64 y.pr]) (.int .i64 (i:Int))).run Tryz.prog w8=.ok () w9:=p;rw[<-b1.out]at an;have bw:=Ab an;have bz:Hid (Af (fun q=>q=mz) wq w9):=((HI.out.1.trans br.out).trans (Af.of_below am)).trans ((Af.of_grown bg).mono fun q _ e=>(Option.some.inj e).symm);clear hK f ho p an bg am;dsimp only;go_simp;refine HK.out _ _ ?_;go_wp2
     go_roundg (d.length-(i+1))
     case measure=>have:=bu.out;omega
     case rel=>exact⟨i+1,rfl,by go_num,by omega,bz.out,bw.out⟩
   ·have b3:¬(i:Int)<(d.length:Int):=by omega
    have aq:=HI.out.2;rw[List.take_of_length_le (by omega)]at aq
    have HO:Hid (It a d u l w (.returned (.tuple #[.pointer (some ⟨pz,0,none⟩),.bool true])) wr):=by
     refine⟨pz,rfl,b8,⟨_,_,_,_,mz,_,k3.out,H2.out.below x.out,H3.out.below x.out,a6.out wr x.out,HS.out.below x.out,aq, ?_⟩,x.out⟩;refine O9 (Sf HI.out.1) (fun r e=> ?_) HJ.out;obtain⟨es,c,h1⟩:=HM.out.isMap;obtain rfl:=Option.some.inj e;exact⟨_,h1,rfl⟩
    clear aq HI k3;go_wp2;go_ret2;exact HO.out
end Go.Proofs.YtncjeamdkjcebaaGreatDoor
namespace Go.Proofs.YtncjeamdkjcebaaGreatDoor
open Go.RowKit
abbrev pl0:UE:=⟨0,0,0⟩
theorem Ew.open{W:World}{pz:Nat}{a:Au}{c d:List UE}{b:List Int}{l:List Sig}(h:Ew W pz a c d b l):
  ∃a2 c2 a3 c3 ap cp aw cs mz aj cj,W.heap[pz]? =some (.cells #[.int .i64 a.letters,.int .i64 a.start,.slice a2 a.next.length c2,.slice a3 a.prio.length c3,.slice ap c.length cp,.slice aw b.length cs,.map (some mz),.slice aj (Ap l).length cj] 154 (0,0))/\Ar W (.slice a2 a.next.length c2) a.next/\Ar W (.slice a3 a.prio.length c3) a.prio/\CA W (.slice ap c.length cp) c/\Ah W (.slice aw b.length cs) b/\CB W mz d/\Ar W (.slice aj (Ap l).length cj) (Ap l):=by
 obtain⟨v2,v3,vp,vs,mz,vj,h0,h1,h2,h3,h4,h5,h6⟩:=h.p;obtain⟨a2,c2,rfl⟩:=h1.shape;obtain⟨a3,c3,rfl⟩:=h2.shape;obtain⟨ap,cp,rfl⟩:=h3.shape;obtain⟨aw,cs,rfl⟩:=h4.shape;obtain⟨aj,cj,rfl⟩:=h6.shape;exact⟨a2,c2,a3,c3,ap,cp,aw,cs,mz,aj,cj,h0,h1,h2,h3,h4,h5,h6⟩
theorem Lk(W:World)(pz:Nat)(a:Au)(d r:List UE)(j:List Int)(l:List Sig)(c t:Nat)(h:Ew W pz a d r j l)(hc:c<j.length)(ht:j.getD c 0=(t:Int))(m:t<d.length):
  Calls Tryz.prog 84 #[.pointer (some ⟨pz,0,none⟩),.int .i64 (c:Int)] W (fun e W'=>e=.returned (.tuple #[plV (d.getD t pl0),.bool true])/\Below W.heap.size W W'):=by
 obtain⟨a2,c2,a3,c3,ap,cp,aw,cs,mz,aj,cj,hx,-,-,hp,hs,-,-⟩:=h.open;obtain⟨bs,os,ad,-,ds⟩:=hs.data;obtain rfl:=ad (by omega);have es:=ds c hc;rw[ht]at es;obtain⟨b,o,ad,-,dp⟩:=hp.dat3;obtain rfl:=ad (by omega);obtain⟨e0,e1,e2,-⟩:=dp t m;have z4:=Aa 4 hx;have z5:=Aa 5 hx;have w:=(ltE hx);show Calls _ _ _ _ (fun e W'=>e=.returned (.tuple #[.agg #[.int .i64 (d.getD t pl0).st,.int .i64 (d.getD t pl0).inn,.int .i64 (d.getD t pl0).pr],.bool true])/\Below W.heap.size W W')
 have s:(0:Int)<=(c:Int):=by omega
 have u:(c:Int)<(j.length:Int):=by omega
 have x:(0:Int)<=(t:Int):=by omega
 have z:(t:Int)<(d.length:Int):=by omega
 have aa:decide ((t:Int)<0)=false:=by simp
 have ab:decide ((d.length:Int)<=(t:Int))=false:=by simp;omega
 clear hp hs ds dp h ad hc ht m;generalize(d.getD t pl0)=y at*;generalize j.length=sl at*;generalize d.length=np at*
 go_enter Tryz.func84,Tryz.ntmps84
 go_upto_region 1 with(fail)
 obtain⟨i,f,-⟩:=Aw (w0:=W) (B:=W.heap.size) Ad leR #[.int .i64 0,.int .i64 0,.int .i64 0] 108;generalize W.alloc (.cells #[.int .i64 0,.int .i64 0,.int .i64 0] 108)=w1 at*;replace z4:=Ag f z4;replace z5:=Ag f z5;replace es:=Ag f es;replace e0:=Ag f e0;replace e1:=Ag f e1;replace e2:=Ag f e2;have q0:=Aa 0 i;have q1:=Aa 1 i;have q2:=Aa 2 i;have f0:=At 0 i;have f1:=At 1 i;have f2:=At 2 i;have HX:=Ab i;have HB:=Ab f;clear hx i f;go_wp2;have k:=FU (a:=.int .i64 y.st) (b:=.int .i64 y.inn) (c:=.int .i64 y.pr) HX.out;have n:=Aa 0 k;have p:=Aa 1 k;have q:=Aa 2 k;refine bodyPost_ret (v:=.tuple #[.agg #[.int .i64 y.st,.int .i64 y.inn,.int .i64 y.pr],.bool true]) (by simp[results,Tryz.results84,go_sem,n,p,q]) rfl ?_;exact⟨rfl,Li HB.out leR⟩
def mvN(a:Au)(q:Nat)(x:Int):Int:=(a.next.getD q []).getD x.toNat 0
def mvP(a:Au)(q:Nat)(x:Int):Int:=(a.prio.getD q []).getD x.toNat 0
theorem PU(W:World)(pz:Nat)(a:Au)(d:List UE)(n:List Int)(l:List Sig)(q i c t o:Nat)(h:Ew W pz a d d n l)(w:AC a=true)(hq:q<a.next.length)
  (hi:i<(Ap l).length) (ho:o<((Ap l).getD i []).length) (bi:((Ap l).getD i []).length<=64) (hx:∀j,j<((Ap l).getD i []).length->0<=((Ap l).getD i []).getD j 0/\((Ap l).getD i []).getD j 0<a.letters)
  (hm:(⟨(q:Int),(i:Int),-1⟩:UE)∈d) (hc:d.idxOf ⟨(q:Int),(i:Int),-1⟩=c) (ar:c<n.length) (ht:n.getD c 0=(t:Int)) (az:t<d.length) (ay:(d.getD t pl0).inn=-1)
  (m:∀j,j<o->¬(mvN a q (((Ap l).getD i []).getD j 0)=(d.getD t pl0).st/\mvP a q (((Ap l).getD i []).getD j 0)=(d.getD t pl0).pr))
  (z:mvN a q (((Ap l).getD i []).getD o 0)=(d.getD t pl0).st/\mvP a q (((Ap l).getD i []).getD o 0)=(d.getD t pl0).pr):
  Calls Tryz.prog 81 #[.pointer (some ⟨pz,0,none⟩),.int .i64 (q:Int),.int .i64 (i:Int)] W (fun e W'=>e=.returned (.tuple #[.int .i64 (o:Int),.int .i64 (d.getD t pl0).st,.bool true])/\Below W.heap.size W W'):=by
 have ai:Hid (∀W',Below W.heap.size W W'->Calls Tryz.prog 84 #[.pointer (some ⟨pz,0,none⟩),.int .i64 (c:Int)] W' (fun e W9=>e=.returned (.tuple #[.agg #[.int .i64 (d.getD t pl0).st,.int .i64 (d.getD t pl0).inn,.int .i64 (d.getD t pl0).pr],.bool true])/\Below W'.heap.size W' W9)):=fun W' hb=>Lk W' pz a d d n l c t (h.below hb) ar ht az
 obtain⟨a2,c2,a3,c3,ap,cp,aw,cs,mz,aj,cj,ad,h2,h3,hp,-,hn,hj⟩:=h.open
 have a0:WfP ⟨(q:Int),(i:Int),-1⟩:=by
  obtain⟨ao,bf,b,bw,-,-,hw⟩:=hp;exact hw _ hm
 have ac:=(hn.get a0).1 hm;rw[hc]at ac;have av:(Instr.lookup 109 (.map (some mz)) (.agg #[.int .i64 (q:Int),.int .i64 (i:Int),.int .i64 (-1)]) true).run Tryz.prog W=.ok (.tuple #[.int .i64 (c:Int),.bool true]) W:=ac;obtain⟨bq,br,-⟩:=Cy w hq
 have ba:a.prio.length=a.next.length:=by
  simp only[AC,Bool.and_eq_true,decide_eq_true_eq]at w;exact w.1.1.2
 rw[ba]at h3;have bb:=Ab hx;have a5:=Ab m;have am:=Ab z;have ax:q<a.next.length:=hq;obtain⟨b2,o2,rfl⟩:=Bx h2 (by omega);obtain⟨b3,o3,rfl⟩:=Bx h3 (by omega);obtain⟨bj,oj,rfl⟩:=Bx hj (by omega);obtain⟨rj,tj,ej,J1,-⟩:=Bm hj hi ho
 have a1:Hid (∀k,k<((Ap l).getD i []).length->W.cell? ⟨rj,tj+k,none⟩=some (.int .i64 (((Ap l).getD i []).getD k 0))):=fun k hk=>by
  obtain⟨r',t',e',a8,a9⟩:=Bm hj hi hk;rw[a8]at J1;simp only[Option.some.injEq,Value.slice.injEq,Addr.mk.injEq]at J1;obtain⟨⟨rfl,rfl,-⟩,-,rfl⟩:=J1;exact a9
 have HN:Hid (∀x:Nat,(x:Int)<a.letters->∃r t c,W.cell? ⟨b2,o2+q,none⟩=some (.slice (some ⟨r,t,none⟩) (a.next.getD q []).length c)/\W.cell? ⟨r,t+x,none⟩=some (.int .i64 (mvN a q (x:Int)))):=fun x hx=>by
  obtain⟨r,t,c,h1,h4⟩:=Bm h2 ax (x:=x) (by omega);exact⟨r,t,c,h1,h4⟩
 have a6:Hid (∀x:Nat,(x:Int)<a.letters->∃r t c,W.cell? ⟨b3,o3+q,none⟩=some (.slice (some ⟨r,t,none⟩) (a.prio.getD q []).length c)/\W.cell? ⟨r,t+x,none⟩=some (.int .i64 (mvP a q (x:Int)))):=fun x hx=>by
  obtain⟨r,t,c,h1,h4⟩:=Bm h3 ax (x:=x) (by omega);exact⟨r,t,c,h1,h4⟩
 have z6:=Aa 6 ad;have s:=Ab ad;have an:=m;clear m an z hx hn a0 hm hc ar ht az ac hp h hj h2 h3 w ad;generalize hY:d.getD t pl0=y at*
 have tI:(y.inn !=(-1:Int))=false:=by rw[ay];rfl
 clear hY ay
 have bl:(i:Int)<((Ap l).length:Int):=by omega
 generalize(Ap l).getD i []=row at*;generalize hnj:(Ap l).length=nj at*;clear hnj;generalize hll:row.length=ll at*;clear hll
 go_enter Tryz.func81,Tryz.ntmps81
 go_wp2_with fail
 refine(ai.out _ Ad).mono ?_;rintro e w1 ⟨rfl,ab⟩
 go_upto_region 5 with(fail)
 obtain⟨ae,aq,-⟩:=Aw (w0:=w1) (B:=w1.heap.size) Ad leR #[.int .i64 y.st,.int .i64 y.inn,.int .i64 y.pr] 108;generalize w1.alloc (.cells #[.int .i64 y.st,.int .i64 y.inn,.int .i64 y.pr] 108)=w2 at*;have u:Below W.heap.size W w2:=ab.trans (aq.mono ab.size);have ah:=Ab u;have al:=Ab ae;have y1:=Aa 1 ae;have z7:=Aa 7 ((u.block _ (Array.getElem?_eq_some_iff.1 s.out).1).trans s.out);have jj:=Ag u J1
 have bk:(0:Int)<=(i:Int):=by omega
 clear ab aq ae u z6 av ai;generalize w1.heap.size=zs at*
 go_wp2_with fail
 clear y1 z7 jj
 go_loopg [48] (o+1) (fun gh iv wx=>∃k:Nat,gh=o+1-k/\iv=.int .i64 (k:Int)/\k<=o/\Hid (Below w2.heap.size w2 wx))
 case atStart=>exact⟨0,rfl,rfl,Nat.zero_le _,Ad⟩
 case round=>
  obtain⟨k,au,rfl,hk,HB⟩:=hrel;have ak:=Ab au;clear au
  have bm:(0:Int)<=(k:Int):=by omega
  have bn:(k:Int)<(ll:Int):=by omega
  have f:Hid (Below W.heap.size W wr):=ah.out.trans (HB.out.mono ah.out.size);have hv:=bb.out k (by omega);obtain⟨x,hx⟩:∃x:Nat,row.getD k 0=(x:Int):=⟨(row.getD k 0).toNat,by omega⟩;have cx:=Ag f.out (a1.out k (by omega));rw[hx]at cx hv;have HX:=Ab hx;obtain⟨r2,t2,d2,A2,af⟩:=HN.out x hv.2;obtain⟨r3,t3,d3,A3,ag⟩:=a6.out x hv.2;have e2:=Ag f.out A2;have bg:=Ag f.out af;have e3:=Ag f.out A3;have bh:=Ag f.out ag;have p8:=(f.out.block _ (Array.getElem?_eq_some_iff.1 s.out).1).trans s.out;have z2:=Aa 2 p8;have z3:=Aa 3 p8;have b8:=(HB.out.block _ (Array.getElem?_eq_some_iff.1 al.out).1).trans al.out;have y0:=Aa 0 b8;have y2:=Aa 2 b8
  have be:(0:Int)<=(x:Int):=by omega
  have bs:(x:Int)<((a.next.getD q []).length:Int):=by omega
  have bu:(x:Int)<((a.prio.getD q []).length:Int):=by omega
  have bd:(0:Int)<=(q:Int):=by omega
  have bo:(q:Int)<(a.next.length:Int):=by omega
  have bp:(q:Int)<(a.prio.length:Int):=by omega
  have a4:Hid (k<o->¬(mvN a q (x:Int)=y.st/\mvP a q (x:Int)=y.pr)):=fun h=>by have:=a5.out k h;rwa [HX.out]at this
  have a7:Hid (k=o->mvN a q (x:Int)=y.st/\mvP a q (x:Int)=y.pr):=fun h=>by have:=am.out;rw[<-h,HX.out]at this;exact this
  clear hx A2 af A3 ag p8 b8 hv;generalize mvN a q (x:Int)=N1 at*;generalize mvP a q (x:Int)=N2 at*;generalize(a.next.getD q []).length=l2 at*;generalize(a.prio.getD q []).length=l3 at*;generalize hnl:a.next.length=nl at*;generalize hpl:a.prio.length=bv at*
  go_upto_region 10 with(fail)
  by_cases hko:k=o
  ·obtain⟨g1,g2⟩:=a7.out hko
   have t1:(N1==y.st)=true:=by rw[g1];simp
   have bc:(N2==y.pr)=true:=by rw[g2];simp
   subst hko;clear g1 g2
   go_quiet (fail)
   go_upto_region 11 with(fail)
   go_quiet (fail)
   go_wp2;refine bodyPost_ret (v:=.tuple #[.int .i64 (k:Int),.int .i64 y.st,.bool true]) (by simp[results,Tryz.results81,go_sem]) rfl ?_;exact⟨rfl,f.out.trans (Aj _ _ _)⟩
  ·have m:=a4.out (by omega)
   have p:Hid (k+1<=o):=by show _<=_;omega
   cases t1:(N1==y.st)with
   |false=>
    clear m
    go_quiet (fail)
    have aa:Hid (Below w2.heap.size w2 (wr.drewN nq)):=HB.out.trans (Aj _ _ _);go_wp2
    go_roundg (o+1-(k+1))
    case measure=>have:=ak.out;have:=p.out;omega
    case rel=>exact⟨k+1,rfl,by go_num,p.out,aa⟩
   |true=>
    have bc:(N2==y.pr)=false:=by
     rw[beq_eq_false_iff_ne];intro h;exact m ⟨by simpa using t1,h⟩
    clear m
    go_quiet (fail)
    have aa:Hid (Below w2.heap.size w2 (wr.drewN nq)):=HB.out.trans (Aj _ _ _);go_wp2
    go_roundg (o+1-(k+1))
    case measure=>have:=ak.out;have:=p.out;omega
    case rel=>exact⟨k+1,rfl,by go_num,p.out,aa⟩
def plA(a:Au)(q:Nat)(x:Int):UE:=⟨mvN a q x,-1,mvP a q x⟩
def SH(ll:List Int)(w:World)(e:Ending)(w':World):Prop:=∃v,e=.returned (.tuple #[v,.bool true])/\OI w' w.heap.size v ll/\Below w.heap.size w w'
theorem RJ(W:World)(pz:Nat)(a:Au)(d:List UE)(ax:List Int)(l:List Sig)(q i:Nat)(h:Ew W pz a d d ax l)(s:AC a=true)(hq:q<a.next.length)
  (hi:i<(Ap l).length) (bi:((Ap l).getD i []).length<=64) (hx:∀j,j<((Ap l).getD i []).length->0<=((Ap l).getD i []).getD j 0/\((Ap l).getD i []).getD j 0<a.letters)
  (hm:∀j,j<((Ap l).getD i []).length->plA a q (((Ap l).getD i []).getD j 0)∈d):
  Calls Tryz.prog 85 #[.pointer (some ⟨pz,0,none⟩),.int .i64 (q:Int),.int .i64 (i:Int)] W (SH (((Ap l).getD i []).map fun x=>((d.idxOf (plA a q x):Nat):Int)) W):=by
 obtain⟨a2,c2,a3,c3,ap,cp,aw,cs,mz,aj,cj,z,h2,h3,hp,-,hn,hj⟩:=h.open
 have a6:Hid (∀y∈d,WfP y):=by
  obtain⟨ao,bh,b,bv,-,-,hw⟩:=hp;exact hw
 obtain⟨bp,bq,-⟩:=Cy s hq
 have bd:a.prio.length=a.next.length:=by
  simp only[AC,Bool.and_eq_true,decide_eq_true_eq]at s;exact s.1.1.2
 rw[bd]at h3;have au:q<a.next.length:=hq;obtain⟨b2,o2,rfl⟩:=Bx h2 (by omega);obtain⟨b3,o3,rfl⟩:=Bx h3 (by omega);obtain⟨bj,oj,rfl⟩:=Bx hj (by omega)
 have HN:Hid (∀x:Nat,(x:Int)<a.letters->∃r t c,W.cell? ⟨b2,o2+q,none⟩=some (.slice (some ⟨r,t,none⟩) (a.next.getD q []).length c)/\W.cell? ⟨r,t+x,none⟩=some (.int .i64 (mvN a q (x:Int)))):=fun x hx=>by
  obtain⟨r,t,c,h1,h4⟩:=Bm h2 au (x:=x) (by omega);exact⟨r,t,c,h1,h4⟩
 have a4:Hid (∀x:Nat,(x:Int)<a.letters->∃r t c,W.cell? ⟨b3,o3+q,none⟩=some (.slice (some ⟨r,t,none⟩) (a.prio.getD q []).length c)/\W.cell? ⟨r,t+x,none⟩=some (.int .i64 (mvP a q (x:Int)))):=fun x hx=>by
  obtain⟨r,t,c,h1,h4⟩:=Bm h3 au (x:=x) (by omega);exact⟨r,t,c,h1,h4⟩
 obtain⟨bg,bw,an,o⟩:=hj.dat2;obtain⟨-,o⟩:=o;have e:=an (by omega);simp only[Option.some.injEq,Addr.mk.injEq]at e;obtain⟨rfl,rfl,-⟩:=e;obtain⟨rj,ej,J1,v⟩:=o i hi;have ac:=Ab v;have am:=Ab z;have a7:=Ab hx;have HM:=Ab hm;have a0:=Ab hn;have z7:=Aa 7 z
 have bk:(0:Int)<=(i:Int):=by omega
 have bl:(i:Int)<((Ap l).length:Int):=by omega
 clear hx hm hn hp h hj h2 h3 s z v o an;generalize(Ap l).getD i []=row at*;generalize hnj:(Ap l).length=nj at*;clear hnj
 have ag:Hid (∀k,k<row.length->((row.take (k+1)).map fun x=>((d.idxOf (plA a q x):Nat):Int))=((row.take k).map fun x=>((d.idxOf (plA a q x):Nat):Int))++[((d.idxOf (plA a q (row.getD k 0)):Nat):Int)]):=fun k hk=>by
  rw[List.take_succ_eq_append_getElem hk,List.map_append,Ae _ _ _ hk];rfl
 have ai:Hid (∀k,k<=row.length->((row.take k).map fun x=>((d.idxOf (plA a q x):Nat):Int)).length=k):=fun k hk=>by rw[List.length_map,List.length_take];omega
 have ae:Hid (((row.take row.length).map fun x=>((d.idxOf (plA a q x):Nat):Int))=row.map fun x=>((d.idxOf (plA a q x):Nat):Int)):=by show _=_;rw[List.take_length]
 generalize hT:(fun k=>(row.take k).map fun x=>((d.idxOf (plA a q x):Nat):Int))=T at*
 have ah:Hid (∀k,k<row.length->T (k+1)=T k++[((d.idxOf (plA a q (row.getD k 0)):Nat):Int)]):=fun k hk=>by rw[<-hT];exact ag.out k hk
 have u:Hid (∀k,k<=row.length->(T k).length=k):=fun k hk=>by rw[<-hT];exact ai.out k hk
 have af:Hid (T row.length=row.map fun x=>((d.idxOf (plA a q x):Nat):Int)):=by show _=_;rw[<-hT];exact ae.out
 have a5:Hid (T 0=[]):=by show _=_;rw[<-hT];simp
 clear hT ag ai ae;generalize(row.map fun x=>((d.idxOf (plA a q x):Nat):Int))=TT at*;generalize hll:row.length=ll at*;clear hll
 go_enter Tryz.func85,Tryz.ntmps85
 go_wp2_with fail
 clear z7
 go_loopg [8,21] ll (fun gh sv iv wx=>∃k:Nat,gh=ll-k/\iv=.int .i64 (k:Int)/\k<=ll/\Hid (OI wx W.heap.size sv (T k)/\Below W.heap.size W wx))
 case atStart=>exact⟨0,rfl,rfl,Nat.zero_le _,by rw[a5.out];exact Br _ _,Ad⟩
 case round=>
  obtain⟨k,ar,rfl,hk,HI⟩:=hrel;have az:=Ab ar;clear ar;have f:=Ab HI.out.2;obtain⟨aV,cV,rfl⟩:=HI.out.1.slice' (u.out k hk)
  by_cases hlt:k<ll
  ·have bm:(0:Int)<=(k:Int):=by omega
   have ba:(k:Int)<(ll:Int):=by omega
   obtain⟨bs,os,ad,-,ds⟩:=(ac.out.below f.out).data;obtain rfl:=ad (by omega);have cx:=ds k hlt;have hv:=a7.out k hlt;obtain⟨x,hx⟩:∃x:Nat,row.getD k 0=(x:Int):=⟨(row.getD k 0).toNat,by omega⟩;rw[hx]at cx hv;obtain⟨r2,t2,d2,A2,aa⟩:=HN.out x hv.2;obtain⟨r3,t3,d3,A3,ab⟩:=a4.out x hv.2;have e2:=Ag f.out A2;have a8:=Ag f.out aa;have e3:=Ag f.out A3;have a9:=Ag f.out ab;have p8:=(f.out.block _ (Array.getElem?_eq_some_iff.1 am.out).1).trans am.out;have z2:=Aa 2 p8;have z3:=Aa 3 p8;have z6:=Aa 6 p8
   have bf:(0:Int)<=(x:Int):=by omega
   have br:(x:Int)<((a.next.getD q []).length:Int):=by omega
   have bu:(x:Int)<((a.prio.getD q []).length:Int):=by omega
   have be:(0:Int)<=(q:Int):=by omega
   have bn:(q:Int)<(a.next.length:Int):=by omega
   have bo:(q:Int)<(a.prio.length:Int):=by omega
   have p:=HM.out k hlt;rw[hx]at p;have al:=Ab (ah.out k hlt);rw[hx]at al
   have bb:∀m,(Instr.lookup 109 (.map (some mz)) (.agg #[.int .i64 (mvN a q (x:Int)),.int .i64 (-1),.int .i64 (mvP a q (x:Int))]) true).run Tryz.prog (wr.drewN m)=.ok (.tuple #[.int .i64 ((d.idxOf (plA a q (x:Int)):Nat):Int),.bool true]) (wr.drewN m):=fun m=>((a0.out.below (f.out.trans (Aj _ _ m))).get (a6.out _ p)).1 p
   have ak:Hid ((T k).length=k):=u.out k hk;clear hx A2 aa A3 ab p8 hv p ds ad;generalize mvN a q (x:Int)=N1 at*;generalize mvP a q (x:Int)=N2 at*;generalize d.idxOf (plA a q (x:Int))=ix at*;generalize(a.next.getD q []).length=l2 at*;generalize(a.prio.getD q []).length=l3 at*
   go_upto_region 5 with(fail)
   go_quiet (fail)
   have n:Hid (OI (wr.drewN nq) W.heap.size (.slice aV k cV) (T k)/\Below W.heap.size W (wr.drewN nq)):=⟨HI.out.1.below (Aj _ _ _),HI.out.2.trans (Aj _ _ _)⟩;clear bb cx e2 a8 e3 a9 z2 z3 z6 HI f;generalize wr.drewN nq=w8 at*;have av:=n.out.2.size
   go_wp2_with (at_builtin;refine C8 rfl _ _ (ix:Int) rfl W.heap.size (.slice aV k cV) (T k) n.out.1 rfl _ (by simp) rfl (by rw[ak.out];omega) av ?_;intro v' w9 w aq bc;rw[<-al.out]at w;have a1:=Ab w;have ay:Hid (Below W.heap.size W w9):=n.out.2.grown aq av (fun q e=>n.out.1.ge q e);clear w aq bc)
   go_roundg (ll-(k+1))
   case measure=>have:=az.out;omega
   case rel=>exact⟨k+1,rfl,by go_num,hlt,a1.out,ay.out⟩
  ·have ba:¬(k:Int)<(ll:Int):=by omega
   have HE:Hid (OI wr W.heap.size (.slice aV k cV) TT):=by
    have h1:=HI.out.1;rw[show k=ll by omega,af.out]at h1;rw[show k=ll by omega];exact h1
   clear HI;go_wp2;go_ret2;exact⟨_,rfl,HE.out,f.out⟩
theorem DA.blk{w w':World}{b:Nat}{l:List Int}(h:DA w b l)(e:w'.heap[b]? =w.heap[b]?):DA w' b l:=by
 obtain⟨D,⟨es,c,h1,h2⟩,h3⟩:=h;exact⟨D,⟨es,c,e.trans h1,h2⟩,h3⟩
def Kn(l:List Int)(J:(Nat->Prop)->World->Prop)(H:Nat->Prop)(W:World)(e:Ending)(W':World):Prop:=∃v H',e=.returned (.tuple #[v,.bool true])/\OI W' W.heap.size v l/\(∀q,v.ownBlock=some q->¬H' q)/\J H' W'/\Af H W W'/\∀q,H' q->H q\/W.heap.size<=q
structure F3(B:Nat)(f:Nat)(lb:Array Value)(n K:Nat)(st:Nat->Int)(nx:Int->Nat->Int)(J:Nat->(Nat->Prop)->World->Prop):Prop where
 lt:∀k H W,J k H W->∀q,H q->q<W.heap.size
 keep:∀k H W W',J k H W->Af (fun q=>B<=q/\¬H q) W W'->J k H W'
 call:∀k H W,J k H W->B<=W.heap.size->k<K->Calls Tryz.prog f (#[.int .i64 (st k)]++lb) W (Kn ((List.range n).map (nx (st k))) (J (k+1)) H W)
structure SZ(B zm:Nat)(J:Nat->(Nat->Prop)->World->Prop)(k:Nat)(S:List Int)(tR:List (List Int))(R:List Int)(vS vT vR:Value)(vals:List Value)(H:Nat->Prop)(W:World):Prop where
 j:J k H W
 z:B<=zm
 o:OI W B vS S
 m:DA W zm S
 t:W.ownsRow B 26 1 vT tR.length vals
 r:OI W B vR R
 kr:KR (fun q=>q<B\/Bv zm vS vT vR q\/H q) W vals tR
 a1:vS.ownBlock≠some zm
 a2:vT.ownBlock≠some zm
 a3:vR.ownBlock≠some zm
 a4:AR vS vT
 a5:AR vS vR
 a6:AR vT vR
 h:∀q,H q->¬Bv zm vS vT vR q
section
variable {B zm:Nat} {f:Nat} {lb:Array Value} {n K:Nat} {st:Nat->Int} {nx:Int->Nat->Int} {J:Nat->(Nat->Prop)->World->Prop} {k:Nat} {S:List Int} {tR:List (List Int)} {R:List Int} {vS vT vR v':Value} {vals:List Value} {H H':Nat->Prop} {W W':World}
theorem SZ.hlt(h:SZ B zm J k S tR R vS vT vR vals H W):∀q,Bv zm vS vT vR q->B<=q/\q<W.heap.size:=by
 rintro q (e|e|e|e)
 ·rw[e];exact⟨h.z,h.m.lt⟩
 ·exact⟨h.o.ge q e,h.o.lt' q e⟩
 ·exact World.ownsRow.lt h.t q e
 ·exact⟨h.r.ge q e,h.r.lt' q e⟩
theorem SZ.only(hn:F3 B f lb n K st nx J)(h:SZ B zm J k S tR R vS vT vR vals H W)(ho:Af (fun q=>False) W W'):SZ B zm J k S tR R vS vT vR vals H W':=
 ⟨hn.keep _ _ _ _ h.j (ho.mono fun _ _ e=>e.elim),h.z,h.o.only ho fun _ _ e=>e,h.m.blk (ho.block _ h.m.lt fun e=>e),Ax h.t ho fun _ _ e=>e,h.r.only ho fun _ _ e=>e,h.kr.move (ho.mono fun _ _ e=>e.elim) fun _ _ e=>e,h.a1,h.a2,h.a3,h.a4,h.a5,h.a6,h.h⟩
theorem SZ.below(hn:F3 B f lb n K st nx J)(h:SZ B zm J k S tR R vS vT vR vals H W)(hb:Below W.heap.size W W'):SZ B zm J k S tR R vS vT vR vals H W':=h.only hn (Af.of_below hb)
theorem SZ.asked(h:SZ B zm J k S tR R vS vT vR vals H W)(hj:J (k+1) H' W')(ho:Af H W W')(hH:∀q,H' q->H q\/W.heap.size<=q):SZ B zm J (k+1) S tR R vS vT vR vals H' W':=by
 have a:∀q,Bv zm vS vT vR q->¬H q:=fun q e1 e2=>h.h q e2 e1
 refine⟨hj,h.z,h.o.only ho fun q e=>a q (.inr (.inl e)),h.m.blk (ho.block _ h.m.lt (a _ (.inl rfl))),Ax h.t ho fun q e=>a q (.inr (.inr (.inl e))),h.r.only ho fun q e=>a q (.inr (.inr (.inr e))),h.kr.move (ho.mono fun _ _ e=>.inr (.inr e)) fun q hq e=> ?_,h.a1,h.a2,h.a3,h.a4,h.a5,h.a6,fun q e1 e2=> ?_⟩
 ·rcases e with e|e|e
  ·exact .inl e
  ·exact .inr (.inl e)
  ·rcases hH q e with e|e
   ·exact .inr (.inr e)
   ·omega
 ·rcases hH q e1 with e|e
  ·exact h.h q e e2
  ·have:=(h.hlt q e2).2;omega
theorem SZ.row(hn:F3 B f lb n K st nx J)(h:SZ B zm J k S tR [] vS vT (.slice none 0 0) vals H W){m:Nat}(ho:OI W' B (.slice (some ⟨W.heap.size,0,none⟩) m m) R)(hg:W.grownBy W' none):SZ B zm J k S tR R vS vT (.slice (some ⟨W.heap.size,0,none⟩) m m) vals H W':=by
 have hb:Below W.heap.size W W':=Ad.grown hg leR (fun k hk=>by cases hk);have g:=h.below hn hb
 have hv:∀q,(Value.slice (some ⟨W.heap.size,0,none⟩) m m).ownBlock=some q->q=W.heap.size:=fun q e=>by simpa[Value.ownBlock]using e.symm
 have a:=hn.lt _ _ _ h.j;refine⟨g.j,g.z,g.o,g.m,g.t,ho,h.kr.move (Af.of_below hb) fun q hq e=> ?_,g.a1,g.a2,fun e=> ?_,g.a4,fun q e e2=> ?_,fun q e e2=> ?_,fun q e1 e2=> ?_⟩
 ·rcases e with e|(e|e|e|e)|e
  ·exact .inl e
  ·exact .inr (.inl (.inl e))
  ·exact .inr (.inl (.inr (.inl e)))
  ·exact .inr (.inl (.inr (.inr (.inl e))))
  ·have:=hv q e;omega
  ·exact .inr (.inr e)
 ·have:=hv _ e;have:=h.m.lt;omega
 ·have:=h.o.lt' q e;have:=hv q e2;omega
 ·have:=(World.ownsRow.lt h.t q e).2;have:=hv q e2;omega
 ·rcases e2 with e|e|e|e
  ·exact h.h q e1 (.inl e)
  ·exact h.h q e1 (.inr (.inl e))
  ·exact h.h q e1 (.inr (.inr (.inl e)))
  ·have:=hv q e;have:=a q e1;omega
theorem SZ.jk(hn:F3 B f lb n K st nx J)(h:SZ B zm J k S tR R vS vT vR vals H W){T:Nat->Prop}(ho:Af T W W')(hT:∀q,T q->Bv zm vS vT vR q):J k H W':=
 hn.keep _ _ _ _ h.j (ho.mono fun q _ e=>⟨(h.hlt q (hT q e)).1,fun e2=>h.h q e2 (hT q e)⟩)
theorem SZ.kk(h:SZ B zm J k S tR R vS vT vR vals H W){T:Nat->Prop}{vS' vT' vR':Value}(ho:Af T W W')(hT:∀q,T q->Bv zm vS vT vR q)(h':∀q,q<W.heap.size->Bv zm vS' vT' vR' q->Bv zm vS vT vR q):KR (fun q=>q<B\/Bv zm vS' vT' vR' q\/H q) W' vals tR:=
 h.kr.move (ho.mono fun q _ e=>.inr (.inl (hT q e))) fun q hq e=>by
  rcases e with e|e|e
  ·exact .inl e
  ·exact .inr (.inl (h' q hq e))
  ·exact .inr (.inr e)
theorem SZ.num(hn:F3 B f lb n K st nx J)(h:SZ B zm J k S tR R vS vT vR vals H W){y:Int}{S':List Int}(hm:DA W' zm S')(hg:W.grownBy W' (some zm)){W2:World}(hb:Below W'.heap.size W' W2){W3:World}(ho:OI W3 B v' (S++[y]))(b:W2.grownBy W3 vS.ownBlock)(d:AS W2 vS v')(he:S'=S++[y]):SZ B zm J k (S++[y]) tR R v' vT vR vals H W3:=by
 have o1:Af (Bv zm vS vT vR) W W':=(Af.of_grown hg).mono fun q _ e=>.inl (Option.some.inj e).symm
 have o2:Af (Bv zm vS vT vR) W' W2:=Af.of_below hb
 have o3:Af (Bv zm vS vT vR) W2 W3:=(Af.of_grown b).mono fun q _ e=>.inr (.inl e)
 have oA:=(o1.trans o2).trans o3;have i:W.heap.size<=W2.heap.size:=(o1.trans o2).size
 have a:∀q,v'.ownBlock=some q->vS.ownBlock=some q\/W.heap.size<=q:=fun q e=>(d q e).imp id fun k=>Nat.le_trans i k
 have c:∀q,q<W.heap.size->Bv zm v' vT vR q->Bv zm vS vT vR q:=by
  rintro q hq (e|e|e|e)
  ·exact .inl e
  ·exact(a q e).elim (fun k=>.inr (.inl k)) fun k=>by omega
  ·exact .inr (.inr (.inl e))
  ·exact .inr (.inr (.inr e))
 have ot:Af (fun q=>q=zm\/vS.ownBlock=some q) W W3:=(((Af.of_grown hg).mono fun q _ e=>.inl (Option.some.inj e).symm).trans (Af.of_below hb)).trans ((Af.of_grown b).mono fun q _ e=>.inr e);have l:=h.m.lt;refine⟨h.jk hn oA fun _ e=>e,h.z,ho, ?_,Ax h.t ot fun q e k=> ?_,h.r.only ot fun q e k=> ?_,h.kk oA (fun _ e=>e) c,fun e=> ?_,h.a2,h.a3,fun q e e2=> ?_,fun q e e2=> ?_,h.a6,fun q e1 e2=>h.h q e1 (c q (hn.lt _ _ _ h.j q e1) e2)⟩
 ·rw[<-he];refine hm.blk ?_;rw[b.block _ (Nat.lt_of_lt_of_le hm.lt hb.size) fun e=>h.a1 e.symm,hb.block _ hm.lt]
 ·rcases k with k|k
  ·exact h.a2 (k▸e)
  ·exact h.a4 q k e
 ·rcases k with k|k
  ·exact h.a3 (k▸e)
  ·exact h.a5 q k e
 ·rcases a _ e with k|k
  ·exact h.a1 k
  ·omega
 ·rcases a _ e with k|k
  ·exact h.a4 q k e2
  ·have:=(World.ownsRow.lt h.t q e2).2;omega
 ·rcases a _ e with k|k
  ·exact h.a5 q k e2
  ·have:=h.r.lt' q e2;omega
theorem SZ.set(hn:F3 B f lb n K st nx J){g c j m:Nat}{x:Int}(h:SZ B zm J k S tR R vS vT (.slice (some ⟨g,0,none⟩) m c) vals H W)(hm:m=R.length):SZ B zm J k S tR (R.set j x) vS vT (.slice (some ⟨g,0,none⟩) m c) vals H (W.setCell ⟨g,j,none⟩ (.int .i64 x)):=by
 have o1:Af (fun q=>q=g) W (W.setCell ⟨g,j,none⟩ (.int .i64 x)):=Af.set g j _ rfl
 have hT:∀q,q=g->Bv zm vS vT (.slice (some ⟨g,0,none⟩) m c) q:=fun q e=>.inr (.inr (.inr (by rw[e];rfl)))
 refine⟨h.jk hn o1 hT,h.z,h.o.only o1 fun q e k=> ?_,h.m.blk (o1.block _ h.m.lt fun e=>h.a3 (by rw[e];rfl)),Ax h.t o1 fun q e k=> ?_,h.r.set hm j x,h.kk o1 hT fun _ _ e=>e,h.a1,h.a2,h.a3,h.a4,h.a5,h.a6,h.h⟩
 ·exact h.a5 q e (by rw[k];rfl)
 ·exact h.a6 q e (by rw[k];rfl)
theorem SZ.app(hn:F3 B f lb n K st nx J)(h:SZ B zm J k S tR R vS vT vR vals H W)(hl:R.length<=100000)(hr:∀x∈R,I64 x){W2:World}(hb:Below W.heap.size W W2)(ho:W'.ownsRow B 26 1 v' (tR.length+1) (vals++[vR]))(hg:W2.grownBy W' vT.ownBlock)(hm:AS W2 vT v'):SZ B zm J k S (tR++[R]) [] vS v' (.slice none 0 0) (vals++[vR]) H W':=by
 have o1:Af (fun q=>vT.ownBlock=some q) W W':=(Af.of_below hb).trans (Af.of_grown hg)
 have b:∀q,v'.ownBlock=some q->vT.ownBlock=some q\/W.heap.size<=q:=fun q e=>(hm q e).imp id fun k=>Nat.le_trans hb.size k
 have hT:∀q,vT.ownBlock=some q->Bv zm vS vT vR q:=fun q e=>.inr (.inr (.inl e))
 have c:∀q,q<W.heap.size->Bv zm vS v' (.slice none 0 0) q->q=zm\/vS.ownBlock=some q\/vT.ownBlock=some q:=by
  rintro q hq (e|e|e|e)
  ·exact .inl e
  ·exact .inr (.inl e)
  ·exact(b q e).elim (fun k=>.inr (.inr k)) fun k=>by omega
  ·cases e
 have a:∀q,q<W.heap.size->Bv zm vS v' (.slice none 0 0) q->Bv zm vS vT vR q:=fun q hq e=>by
  rcases c q hq e with k|k|k
  ·exact .inl k
  ·exact .inr (.inl k)
  ·exact .inr (.inr (.inl k))
 have hR:∀q,vR.ownBlock=some q->¬(q<B\/Bv zm vS v' (.slice none 0 0) q\/H q):=fun q e k=>by
  have hq:=h.r.lt' q e
  rcases k with k|k|k
  ·have:=h.r.ge q e;omega
  ·rcases c q hq k with k|k|k
   ·exact h.a3 (k▸e)
   ·exact h.a5 q k e
   ·exact h.a6 q k e
  ·exact h.h q k (.inr (.inr (.inr e)))
 refine⟨h.jk hn o1 hT,h.z,h.o.only o1 fun q e k=>h.a4 q e k,h.m.blk (o1.block _ h.m.lt fun e=>h.a2 e),by rw[List.length_append];exact ho,Br _ _,(h.kk o1 hT a).add fun W9 hW=> ?_,h.a1,fun e=> ?_,(fun e=>by cases e),fun q e e2=> ?_,BQ _,BQ _,fun q e1 e2=>h.h q e1 (a q (hn.lt _ _ _ h.j q e1) e2)⟩
 ·have r1:OI W' B vR R:=h.r.only o1 fun q e k=>h.a6 q k e
  exact(r1.only hW fun q e k=>hR q e k).is (by unfold Bg;omega) hr
 ·rcases b _ e with k|k
  ·exact h.a2 k
  ·have:=h.m.lt;omega
 ·rcases b _ e2 with k|k
  ·exact h.a4 q e k
  ·have:=h.o.lt' q e;omega
end
end Go.Proofs.YtncjeamdkjcebaaGreatDoor
