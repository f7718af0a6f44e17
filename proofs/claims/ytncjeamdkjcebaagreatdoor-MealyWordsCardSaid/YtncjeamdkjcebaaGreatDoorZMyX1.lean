/- What mealy.newPlan makes (where its arguments are right). -/
import Derived.Test.YtncjeamdkjcebaaGreatDoorZMyS2
set_option linter.all false
set_option maxHeartbeats 8000000
set_option maxRecDepth 100000
namespace Go.Proofs.YtncjeamdkjcebaaGreatDoor
open Go.RowKit Go.Maps Go.WideMaps
theorem Kq(W:World)(n:Nat):(Instr.makeMap 109 (some (.int .i64 (n:Int)))).run Tryz.prog W=.ok (.map (some W.heap.size)) (W.alloc (.map #[] 0)):=by
 simp[Instr.makeMap,run_underlying Tryz.underlying109,asInt,asIntOf,Result.andThen]
theorem Cu.madeP(w:World):Cu (w.alloc (.map #[] 0)) w.heap.size []:=
 ⟨_,World.ownsMap_made w Tryz.prog 108 _,isMap_empty,fun y _=>by simp[Maps.has],fun y _ hy=>absurd hy (by simp)⟩
structure DY(W:World)(pz:Nat)(a:Au)(pls idx:List T4)(says:List Int)(l:List Sig):Prop where
 p:∃v2 v3 vp vs mz vj,W.heap[pz]? =some (.cells #[.int .i64 a.letters,.int .i64 a.start,v2,v3,vp,vs,.map (some mz),vj] 154 (0,0))/\Ar W v2 a.next/\Ar W v3 a.prio/\Ct W vp pls/\Ai W vs says/\Cu W mz idx/\Ar W vj (Aq l)
theorem DY.below{W W':World}{pz:Nat}{a:Au}{pls idx:List T4}{says:List Int}{l:List Sig}(h:DY W pz a pls idx says l)(hb:Below W.heap.size W W'):DY W' pz a pls idx says l:=by
 obtain⟨v2,v3,vp,vs,mz,vj,h0,h1,h2,h3,h4,h5,h6⟩:=h.p;exact⟨v2,v3,vp,vs,mz,vj,Ae hb h0,h1.below hb,h2.below hb,h3.below hb,h4.below hb,h5.below hb,h6.below hb⟩
theorem Cu.miss{w:World}{b:Nat}{l:List T4}(h:Cu w b l){y:T4}(hy:WfP y)(hn:y∉l):∃c,∀m,(Instr.lookup 109 (.map (some b)) (plV y) true).run Tryz.prog (w.drewN m)=.ok (.tuple #[.int .i64 c,.bool false]) (w.drewN m):=by
 obtain⟨D,h1,h2,h3,h4⟩:=h
 have key:∀m,∃c,D.atKey (klP y) (.lit (.int .i64 0))=.lit (.int .i64 c)/\(Instr.lookup 109 (.map (some b)) (plV y) true).run Tryz.prog (w.drewN m)=.ok (.tuple #[.int .i64 c,.bool false]) (w.drewN m):=fun m=>by
  have h1':=h1.kept (AV (Am w w.heap.size m)) (by simp);obtain⟨v,ps,hrun,hv⟩:=h1'.look_ok Dd Tryz.underlying109 (GM _) (plainElem_int Tryz.underlying3 (q:=.i64) (a:=0) rfl) (IA y hy);obtain⟨c,rfl,hc,hwc⟩:=plainElem_int_inv Tryz.underlying3 hv;rw[h3 y hy]at hrun;simp only[Prod.mk.injEq]at hc;exact⟨c,hc.1,by rw[hrun,decide_eq_false hn]⟩
 obtain⟨c,e,-⟩:=key 0;refine⟨c,fun m=> ?_⟩;obtain⟨c',e',r⟩:=key m;rw[e]at e';simp only[DataW.lit.injEq,Lit.int.injEq,true_and]at e';rw[e'];exact r
theorem RG{W W':World}{mz:Nat}(ho:Ag (fun q=>q=mz) W W'):W.grownBy W' (some mz):=⟨ho.os,ho.tape,ho.output,ho.size,fun k hk hr=>ho.block k hk fun e=>hr (by rw[e])⟩
theorem Pt{W W':World}{row:Option Nat}(hg:W.grownBy W' row)(hr:∀r,row=some r->∃o:Obj,W.heap[r]? =some o/\o.isCells=false){v:Value}{n:Nat}{f:Nat->Value}(h:DK W v n f):DK W' v n f:=by
 obtain⟨ao,cap,b,off,rfl,h1,h2,h3,h4,h5,h6⟩:=h;refine⟨ao,cap,b,off,rfl,h1,h2,h3,h4,h5,fun j hj=> ?_⟩;have hc:=h6 j hj;have hlt:=World.block_lt_of_cell? W _ hc;refine(hg.cell_far ⟨b,off+j,none⟩ hlt fun e=> ?_).trans hc;obtain⟨o',q1,q2⟩:=hr b e.symm;have q1:W.heap[b]? =some o':=q1;unfold World.cell? at hc;simp only[q1]at hc
 cases o'<;>simp_all [Obj.isCells]
theorem OG{W W':World}{row:Option Nat}(hg:W.grownBy W' row)(hr:∀r,row=some r->∃o:Obj,W.heap[r]? =some o/\o.isCells=false){v:Value}{ll:List (List Int)}(h:Ar W v ll):Ar W' v ll:=by
 obtain⟨V,h1,h2⟩:=h;exact⟨V,Pt hg hr h1,fun j hj=>Eg hg hr (h2 j hj)⟩
def Ht(a:Au)(pls:List T4)(says:List Int)(l:List Sig)(w:World)(e:Ending)(w':World):Prop:=∃pz,e=.returned (.tuple #[.pointer (some ⟨pz,0,none⟩),.bool true])/\w.heap.size<=pz/\DY w' pz a pls pls says l/\Below w.heap.size w w'
theorem Ct.shape{w:World}{v:Value}{l:List T4}(h:Ct w v l):∃a c,v=.slice a l.length c:=by
 obtain⟨ao,cap,b,off,rfl,-⟩:=h;exact⟨_,_,rfl⟩
theorem Ct.dat3{w:World}{a:Option Addr}{n c:Nat}{l:List T4}(h:Ct w (.slice a n c) l):∃b o,(0<n->a=some ⟨b,o,none⟩)/\n=l.length/\∀j,j<n->w.cell? ⟨b,o+j*3,none⟩=some (.int .i64 (l.getD j ⟨0,0,0⟩).st)/\w.cell? ⟨b,o+j*3+1,none⟩=some (.int .i64 (l.getD j ⟨0,0,0⟩).inn)/\w.cell? ⟨b,o+j*3+2,none⟩=some (.int .i64 (l.getD j ⟨0,0,0⟩).pr)/\WfP (l.getD j ⟨0,0,0⟩):=by
 obtain⟨ao,cap,b,off,e,h1,h2⟩:=h
 injection e with e1 e2 e3
 subst e1 e2 e3;refine⟨b,off,h1.ad,rfl,fun j hj=> ?_⟩;rw[Af _ _ _ hj];exact⟨h1.e0 j hj,h1.e1 j hj,h1.e2 j hj,h2 _ (List.getElem_mem _)⟩
def RN1(z ls sc c2 c3 cp cs n2 n3 np:Nat)(sa a2 a3 ap aw:Option Addr)(al ast:Int)(ix:Nat)(u:Value)(_:World):Prop:=
 match ix with
 |0|11=>u=.slice sa ls sc
 |1|5=>u=.bool true
 |2|3|6|7|8|13|14|15|18|19|20|25|26=>u=.bool false
 |4=>u=.agg #[.int .i64 al,.int .i64 ast,.slice a2 n2 c2,.slice a3 n3 c3]
 |9=>u=.pointer (some ⟨z,0,none⟩)
 |10|12=>u=.int .i64 al
 |16|23=>u=.slice ap np cp
 |17|22|24=>u=.int .i64 (np:Int)
 |21=>u=.slice aw np cs
 | _=>True
theorem RN1.below{ix:Nat}{u:Value}{W W':World}{z ls sc c2 c3 cp cs n2 n3 np:Nat}{sa a2 a3 ap aw:Option Addr}{al ast:Int}(h:RN1 z ls sc c2 c3 cp cs n2 n3 np sa a2 a3 ap aw al ast ix u W)(_:Below W.heap.size W W'):RN1 z ls sc c2 c3 cp cs n2 n3 np sa a2 a3 ap aw al ast ix u W':=by
 unfold RN1 at*
 split at h<;>first|exact h|trivial
def RN9(pz mz i _zs:Nat)(ys yi yp:Int)(ix:Nat)(u:Value)(_:World):Prop:=
 match ix with
 |0|1=>u=.pointer (some ⟨pz,0,none⟩)
 |2=>u=.pointer (some ⟨pz,6,none⟩)
 |3=>u=.map (some mz)
 |4=>u=.agg #[.int .i64 ys,.int .i64 yi,.int .i64 yp]
 |5=>u=.int .i64 (i:Int)
 | _=>True
theorem RN9.below{ix:Nat}{u:Value}{W W':World}{pz mz i zs:Nat}{ys yi yp:Int}(h:RN9 pz mz i zs ys yi yp ix u W)(_:Below W.heap.size W W'):RN9 pz mz i zs ys yi yp ix u W':=by
 unfold RN9 at*
 split at h<;>first|exact h|trivial
def H9(a:Au)(l:List Sig)(W:World)(pz:Nat)(ap aw a2 a3:Option Addr)(np cp cs c2 c3 mz:Nat)(aj:Option Addr)(cj:Nat):Prop:=W.heap[pz]? =some (.cells #[.int .i64 a.letters,.int .i64 a.start,.slice a2 a.next.length c2,.slice a3 a.prio.length c3,.slice ap np cp,.slice aw np cs,.map (some mz),.slice aj (Aq l).length cj] 154 (0,0))
def RN3(a:Au)(l:List Sig)(sz:Nat)(ap aw:Option Addr)(np cp cs:Nat)(a2 a3:Option Addr)(c2 c3:Nat)(sa:Option Addr)(sc ls:Nat)(ix:Nat)(u:Value)(W:World):Prop:=
 match ix with
 |0=>u=.agg #[.int .i64 a.letters,.int .i64 a.start,.slice a2 a.next.length c2,.slice a3 a.prio.length c3]
 |1|3=>u=.slice ap np cp
 |2=>u=.slice aw np cs
 |4=>u=.int .i64 (np:Int)
 |5=>∃mz,u=.map (some mz)/\sz<=mz/\Cu W mz []
 |6=>u=.slice sa ls sc
 |7=>∃aj cj,u=.slice aj (Aq l).length cj/\Ar W (.slice aj (Aq l).length cj) (Aq l)
 |8=>∃mz aj cj,u=.agg #[.int .i64 a.letters,.int .i64 a.start,.slice a2 a.next.length c2,.slice a3 a.prio.length c3,.slice ap np cp,.slice aw np cs,.map (some mz),.slice aj (Aq l).length cj]/\sz<=mz/\Cu W mz []/\Ar W (.slice aj (Aq l).length cj) (Aq l)
 |9|10=>∃pz mz aj cj,u=.pointer (some ⟨pz,0,none⟩)/\(sz<=pz/\sz<=mz)/\H9 a l W pz ap aw a2 a3 np cp cs c2 c3 mz aj cj/\Cu W mz []/\Ar W (.slice aj (Aq l).length cj) (Aq l)
 | _=>True
theorem H9.below{a:Au}{l:List Sig}{W W':World}{pz:Nat}{ap aw a2 a3:Option Addr}{np cp cs c2 c3 mz:Nat}{aj:Option Addr}{cj:Nat}(h:H9 a l W pz ap aw a2 a3 np cp cs c2 c3 mz aj cj)(hb:Below W.heap.size W W'):H9 a l W' pz ap aw a2 a3 np cp cs c2 c3 mz aj cj:=
 Ae hb h
theorem RN3.below{ix:Nat}{u:Value}{W W':World}{a:Au}{l:List Sig}{sz:Nat}{ap aw:Option Addr}{np cp cs:Nat}{a2 a3:Option Addr}{c2 c3:Nat}{sa:Option Addr}{sc ls:Nat}(h:RN3 a l sz ap aw np cp cs a2 a3 c2 c3 sa sc ls ix u W)(hb:Below W.heap.size W W'):RN3 a l sz ap aw np cp cs a2 a3 c2 c3 sa sc ls ix u W':=by
 unfold RN3 at*
 split at h<;>first|exact h|(obtain⟨mz,h1,h0,h2⟩:=h;exact⟨mz,h1,h0,h2.below hb⟩)|(obtain⟨aj,cj,h1,h2⟩:=h;exact⟨aj,cj,h1,h2.below hb⟩)|(obtain⟨mz,aj,cj,h1,h0,h2,h3⟩:=h;exact⟨mz,aj,cj,h1,h0,h2.below hb,h3.below hb⟩)|(obtain⟨pz,mz,aj,cj,h1,h2,h3,h4,h5⟩:=h;exact⟨pz,mz,aj,cj,h1,h2,h3.below hb,h4.below hb,h5.below hb⟩)
theorem Jw(w:World)(vl va vp vs:Value)(l:List Sig)(a:Au)(pls:List T4)(says:List Int)(hK:BN w)(hl:AH w vl l)(ha:Cm w va a)(hp:Ct w vp pls)(hs:Ai w vs says)
  (hvs:At l=true) (hva:AF a=true) (hal:a.letters=AC l) (hpl:pls.length<=2900) (hsl:says.length=pls.length) (hnd:pls.Nodup):
  Calls Tryz.prog 77 #[vl,va,vp,vs] w (Ht a pls says l w):=by
 have hmx:Tryz.prog.follows .mixedOrders=true:=by kernel_rfl
 have HV0:Hid (∀W,Below w.heap.size w W->Calls Tryz.prog 41 #[vl] W (Av (.bool true) W)):=fun W h=>by rw[<-hvs];exact(Cv W _ _ (hK.below h) (hl.below h)).mono fun _ _ h=>h.calm
 have HA0:Hid (∀W,Below w.heap.size w W->Calls Tryz.prog 73 #[va] W (Av (.bool true) W)):=fun W h=>by rw[<-hva];exact H8 W _ _ (ha.below h)
 have HL0:Hid (∀W,Below w.heap.size w W->Calls Tryz.prog 67 #[vl] W (Av (.int .i64 (AC l)) W)):=fun W h=>D9 W _ _ (hK.below h) (hl.below h)
 have HJ0:Hid (∀W,Below w.heap.size w W->Calls Tryz.prog 56 #[vl] W (Et (Aq l) W)):=fun W h=>MB W _ l (hK.below h) (hl.below h) hvs
 obtain⟨v2,v3,rfl,⟨hI,-⟩,h2,h3⟩:=ha;obtain⟨sa,sc,rfl⟩:=hl.shape;obtain⟨a2,c2,rfl⟩:=h2.shape;obtain⟨a3,c3,rfl⟩:=h3.shape;obtain⟨ap,cp,rfl⟩:=hp.shape;obtain⟨aw,cs,rfl⟩:=hs.shape;have H2:=Ab h2;have H3:=Ab h3;have HP:=Ab hp;have HS:=Ab hs;have HND:=Ab hnd;rw[hsl]at HS⊢;rw[<-hal]at HL0;clear hl hp hs hK h2 h3 hvs hva hal hnd hsl hI
 have hmm:=fun W=>Kq W pls.length
 go_enter Tryz.func77,Tryz.ntmps77
 go_upto_region 1 with(fail)
 obtain⟨hx0,hb0,-⟩:=Az (w0:=w) (B:=w.heap.size) Ad leR #[.int .i64 a.letters,.int .i64 a.start,.slice a2 a.next.length c2,.slice a3 a.prio.length c3] 63
 have hs1:(w.alloc (.cells #[.int .i64 a.letters,.int .i64 a.start,.slice a2 a.next.length c2,.slice a3 a.prio.length c3] 63)).heap.size=w.heap.size+1:=by simp
 generalize w.alloc (.cells #[.int .i64 a.letters,.int .i64 a.start,.slice a2 a.next.length c2,.slice a3 a.prio.length c3] 63)=w1 at*;have HB0:=Ab hb0;have HX0:=Ab hx0
 have HB1:Hid (∀W,Below w1.drew.heap.size w1.drew W->Below w.heap.size w W):=fun W h=>HB0.out.trans (((Below.drew (B:=w1.heap.size) Ad).trans h).mono (by omega))
 have HCl:Hid (∀W,Below w1.drew.heap.size w1.drew W->W.heap[w.heap.size]? =some (.cells #[.int .i64 a.letters,.int .i64 a.start,.slice a2 a.next.length c2,.slice a3 a.prio.length c3] 63 (0,0))):=fun W h=>(((Below.drew (B:=w1.heap.size) Ad).trans h).block _ (by omega)).trans HX0.out
 have HV1:Hid (∀W,Below w1.drew.heap.size w1.drew W->Calls Tryz.prog 41 #[.slice sa l.length sc] W (Av (.bool true) W)):=fun W h=>HV0.out W (HB1.out W h)
 have HA1:Hid (∀W,Below w1.drew.heap.size w1.drew W->Calls Tryz.prog 73 #[.agg #[.int .i64 a.letters,.int .i64 a.start,.slice a2 a.next.length c2,.slice a3 a.prio.length c3]] W (Av (.bool true) W)):=fun W h=>HA0.out W (HB1.out W h)
 have HL1:Hid (∀W,Below w1.drew.heap.size w1.drew W->Calls Tryz.prog 67 #[.slice sa l.length sc] W (Av (.int .i64 a.letters) W)):=fun W h=>HL0.out W (HB1.out W h)
 have t1:((pls.length:Int)>3000)=False:=by simp;omega
 have t2:decide ((3000:Int)<(pls.length:Int))=false:=by simp;omega
 clear hx0 hb0;refine AB hmx (RN1 w.heap.size l.length sc c2 c3 cp cs a.next.length a.prio.length pls.length sa a2 a3 ap aw a.letters a.start) (fun vs=>{tmps:=(_::_::_::_::_::_::_::_::_::_::_::_::_::_::_::vs 0::vs 1::vs 2::vs 3::vs 4::vs 5::vs 6::vs 7::vs 8::vs 9::vs 10::vs 11::vs 12::vs 13::vs 14::vs 15::vs 16::vs 17::vs 18::vs 19::vs 20::vs 21::vs 22::vs 23::vs 24::vs 25::vs 26::_::_::_::_::_::_::_::_::_::_::_::_::_::_::_::_::_::_::_::_::_::_::_::_::_::_::_::_::_::_::_::_::_::_::_::_::[]).toArray,defers:=_}) (fun n=>[undef,undef,undef,undef,undef,undef,undef,undef,undef,undef,undef,undef,undef,undef,undef,undef,undef,undef,undef,undef,undef,undef,undef,undef,undef,undef,undef].getD n undef) rfl (by kernel_rfl) (fun _ _ _ _ h hb=>h.below hb) ?step ?fin
 case step=>
  intro ix o ho
  match ix,ho with
  |0,ho|2,ho|3,ho|6,ho|7,ho|8,ho|9,ho|11,ho|13,ho|14,ho|15,ho|16,ho|17,ho|18,ho|19,ho|20,ho|21,ho|22,ho|23,ho|24,ho|25,ho|26,ho=>
   obtain rfl:=osI ho;intro vs W K hB hD hK;have HK:=Ab hK
   try have e1:vs 1=.bool true:=Ac hD 1 rfl
   try have e2:vs 2=.bool false:=Ac hD 2 rfl
   try have e3:vs 3=.bool false:=Ac hD 3 rfl
   try have e5:vs 5=.bool true:=Ac hD 5 rfl
   try have e6:vs 6=.bool false:=Ac hD 6 rfl
   try have e7:vs 7=.bool false:=Ac hD 7 rfl
   try have e8:vs 8=.bool false:=Ac hD 8 rfl
   try have e10:vs 10=.int .i64 a.letters:=Ac hD 10 rfl
   try have e12:vs 12=.int .i64 a.letters:=Ac hD 12 rfl
   try have e13:vs 13=.bool false:=Ac hD 13 rfl
   try have e14:vs 14=.bool false:=Ac hD 14 rfl
   try have e15:vs 15=.bool false:=Ac hD 15 rfl
   try have e16:vs 16=.slice ap pls.length cp:=Ac hD 16 rfl
   try have e17:vs 17=.int .i64 (pls.length:Int):=Ac hD 17 rfl
   try have e18:vs 18=.bool false:=Ac hD 18 rfl
   try have e19:vs 19=.bool false:=Ac hD 19 rfl
   try have e20:vs 20=.bool false:=Ac hD 20 rfl
   try have e21:vs 21=.slice aw pls.length cs:=Ac hD 21 rfl
   try have e22:vs 22=.int .i64 (pls.length:Int):=Ac hD 22 rfl
   try have e23:vs 23=.slice ap pls.length cp:=Ac hD 23 rfl
   try have e24:vs 24=.int .i64 (pls.length:Int):=Ac hD 24 rfl
   try have e25:vs 25=.bool false:=Ac hD 25 rfl
   clear hK hD ho;dsimp only;go_simp;have h:=HK.out _ _ Ad rfl;simp only[upd,Nat.reduceEqDiff,reduceIte, *]at h;exact h
  |1,ho=>
   obtain rfl:=osI ho;intro vs W K hB hD hK;have HK:=Ab hK;have e0:vs 0=.slice sa l.length sc:=Ac hD 0 rfl;clear hK hD ho;dsimp only;go_simp;refine(HV1.out W hB).mono ?_;rintro e W' ⟨rfl,hb⟩;have h:=HK.out _ _ hb rfl;simp only[upd,Nat.reduceEqDiff,reduceIte,e0]at h;exact h
  |4,ho=>
   obtain rfl:=osI ho;intro vs W K hB hD hK;have HK:=Ab hK;have e3:vs 3=.bool false:=Ac hD 3 rfl;have c0:=Aa 0 (HCl.out W hB);have c1:=Aa 1 (HCl.out W hB);have c2:=Aa 2 (HCl.out W hB);have c3:=Aa 3 (HCl.out W hB);clear hK hD ho;dsimp only;go_simp;have h:=HK.out _ _ Ad rfl;simp only[upd,Nat.reduceEqDiff,reduceIte,e3]at h;exact h
  |5,ho=>
   obtain rfl:=osI ho;intro vs W K hB hD hK;have HK:=Ab hK;have e3:vs 3=.bool false:=Ac hD 3 rfl;have e4:vs 4=.agg #[.int .i64 a.letters,.int .i64 a.start,.slice a2 a.next.length c2,.slice a3 a.prio.length c3]:=Ac hD 4 rfl;clear hK hD ho;dsimp only;go_simp;refine(HA1.out W hB).mono ?_;rintro e W' ⟨rfl,hb⟩;have h:=HK.out _ _ hb rfl;simp only[upd,Nat.reduceEqDiff,reduceIte,e3,e4]at h;exact h
  |10,ho=>
   obtain rfl:=osI ho;intro vs W K hB hD hK;have HK:=Ab hK;have e8:vs 8=.bool false:=Ac hD 8 rfl;have e9:vs 9=.pointer (some ⟨w.heap.size,0,none⟩):=Ac hD 9 rfl;have c:=Aa 0 (HCl.out W hB);clear hK hD ho;dsimp only;go_simp;have h:=HK.out _ _ Ad rfl;simp only[upd,Nat.reduceEqDiff,reduceIte,e8,e9]at h;exact h
  |12,ho=>
   obtain rfl:=osI ho;intro vs W K hB hD hK;have HK:=Ab hK;have e8:vs 8=.bool false:=Ac hD 8 rfl;have e11:vs 11=.slice sa l.length sc:=Ac hD 11 rfl;clear hK hD ho;dsimp only;go_simp;refine(HL1.out W hB).mono ?_;rintro e W' ⟨rfl,hb⟩;have h:=HK.out _ _ hb rfl;simp only[upd,Nat.reduceEqDiff,reduceIte,e8,e11]at h;exact h
  |q+27,ho=>exact absurd ho (by simp)
 case fin=>
  intro vs wz hB hall;have el:vs 26=.bool false:=hall 26 (by decide);have HBz:=Ab (HB1.out wz hB);have HXz:=Ab (HCl.out wz hB);clear hall hB HB1 HCl HV1 HA1 HL1;rw[el];clear el;generalize vs 0=p0q at*;generalize vs 1=p1q at*;generalize vs 2=p2q at*;generalize vs 3=p3q at*;generalize vs 4=p4q at*;generalize vs 5=p5q at*;generalize vs 6=p6q at*;generalize vs 7=p7q at*;generalize vs 8=p8q at*;generalize vs 9=p9q at*;generalize vs 10=p10q at*;generalize vs 11=p11q at*;generalize vs 12=p12q at*;generalize vs 13=p13q at*;generalize vs 14=p14q at*;generalize vs 15=p15q at*;generalize vs 16=p16q at*;generalize vs 17=p17q at*;generalize vs 18=p18q at*;generalize vs 19=p19q at*;generalize vs 20=p20q at*;generalize vs 21=p21q at*;generalize vs 22=p22q at*;generalize vs 23=p23q at*;generalize vs 24=p24q at*;generalize vs 25=p25q at*;clear vs
  go_upto_region 3 with(fail)
  have HC3:Hid (∀W,Below wz.drew.heap.size wz.drew W->W.heap[w.heap.size]? =some (.cells #[.int .i64 a.letters,.int .i64 a.start,.slice a2 a.next.length c2,.slice a3 a.prio.length c3] 63 (0,0))):=fun W h=>(((Below.drew (B:=wz.heap.size) Ad).trans h).block _ (Array.getElem?_eq_some_iff.1 HXz.out).1).trans HXz.out
  have HBz3:Hid (∀W,Below wz.drew.heap.size wz.drew W->Below w.heap.size w W):=fun W h=>HBz.out.trans (((Below.drew (B:=wz.heap.size) Ad).trans h).mono HBz.out.size)
  have HJ3:Hid (∀W,Below wz.drew.heap.size wz.drew W->Calls Tryz.prog 56 #[.slice sa l.length sc] W (Et (Aq l) W)):=fun W h=>HJ0.out W (HBz3.out W h)
  clear HV0 HA0 HL0 HJ0;refine AB hmx (RN3 a l wz.heap.size ap aw pls.length cp cs a2 a3 c2 c3 sa sc l.length) (fun vs=>{tmps:=(_::_::_::_::_::_::_::_::_::_::vs 10::_::_::_::_::_::_::_::_::_::_::_::_::_::_::_::_::_::_::_::_::_::_::_::_::_::_::_::_::_::_::_::vs 0::vs 1::vs 2::vs 3::vs 4::vs 5::vs 6::vs 7::vs 8::vs 9::_::_::_::_::_::_::_::_::_::_::_::_::_::_::_::_::_::_::_::_::_::_::_::_::_::_::[]).toArray,defers:=_}) (fun n=>[undef,undef,undef,undef,undef,undef,undef,undef,undef,undef,undef].getD n undef) rfl (by kernel_rfl) (fun _ _ _ _ h hb=>h.below hb) ?step ?fin
  case step=>
   intro ix o ho
   match ix,ho with
  |0,ho=>
   obtain rfl:=osI ho;intro vs W K hB hD hK;have HK:=Ab hK;have c0:=Aa 0 (HC3.out W hB);have c1:=Aa 1 (HC3.out W hB);have c2:=Aa 2 (HC3.out W hB);have c3:=Aa 3 (HC3.out W hB);clear hK hD ho;dsimp only;go_simp;have h:=HK.out _ _ Ad rfl;simp only[upd,Nat.reduceEqDiff,reduceIte]at h;exact h
  |1,ho|2,ho|3,ho|4,ho|6,ho=>
   obtain rfl:=osI ho;intro vs W K hB hD hK;have HK:=Ab hK
   try have e3:vs 3=.slice ap pls.length cp:=Ac (R:=RN3 a l wz.heap.size ap aw pls.length cp cs a2 a3 c2 c3 sa sc l.length) hD 3 rfl
   clear hK hD ho;dsimp only;go_simp;have h:=HK.out _ _ Ad rfl;simp only[upd,Nat.reduceEqDiff,reduceIte, *]at h;exact h
  |5,ho=>
   obtain rfl:=osI ho;intro vs W K hB hD hK;have HK:=Ab hK;have e4:vs 4=.int .i64 (pls.length:Int):=Ac (R:=RN3 a l wz.heap.size ap aw pls.length cp cs a2 a3 c2 c3 sa sc l.length) hD 4 rfl;clear hK hD ho;dsimp only;go_simp;have h:=HK.out _ _ (Ao (w:=W) (.map #[] 0)) ⟨_,rfl,hB.size,Cu.madeP W⟩;simp only[upd,Nat.reduceEqDiff,reduceIte,e4]at h;exact h
  |7,ho=>
   obtain rfl:=osI ho;intro vs W K hB hD hK;have HK:=Ab hK;have e6:vs 6=.slice sa l.length sc:=Ac (R:=RN3 a l wz.heap.size ap aw pls.length cp cs a2 a3 c2 c3 sa sc l.length) hD 6 rfl;clear hK hD ho;dsimp only;go_simp;refine(HJ3.out W hB).mono ?_;rintro e W' ⟨vj,rfl,hj,hb⟩;obtain⟨aj,cj,rfl⟩:=hj.shape;have h:=HK.out _ _ hb ⟨aj,cj,rfl,hj⟩;simp only[upd,Nat.reduceEqDiff,reduceIte,e6]at h;exact h
  |8,ho=>
   obtain rfl:=osI ho;intro vs W K hB hD hK;have HK:=Ab hK;have e0:vs 0=.agg #[.int .i64 a.letters,.int .i64 a.start,.slice a2 a.next.length c2,.slice a3 a.prio.length c3]:=Ac (R:=RN3 a l wz.heap.size ap aw pls.length cp cs a2 a3 c2 c3 sa sc l.length) hD 0 rfl;have e1:vs 1=.slice ap pls.length cp:=Ac (R:=RN3 a l wz.heap.size ap aw pls.length cp cs a2 a3 c2 c3 sa sc l.length) hD 1 rfl;have e2:vs 2=.slice aw pls.length cs:=Ac (R:=RN3 a l wz.heap.size ap aw pls.length cp cs a2 a3 c2 c3 sa sc l.length) hD 2 rfl;obtain⟨mz,e5,hz,hm⟩:=Ac (R:=RN3 a l wz.heap.size ap aw pls.length cp cs a2 a3 c2 c3 sa sc l.length) hD 5 (by rfl);obtain⟨aj,cj,e7,hj⟩:=Ac (R:=RN3 a l wz.heap.size ap aw pls.length cp cs a2 a3 c2 c3 sa sc l.length) hD 7 (by rfl);have HM:=Ab hm;have HJ:=Ab hj;clear hm hj;clear hK hD ho;dsimp only;go_simp;have h:=HK.out _ _ Ad ⟨mz,aj,cj,rfl,hz,HM.out,HJ.out⟩;simp only[upd,Nat.reduceEqDiff,reduceIte,e0,e1,e2,e5,e7]at h;exact h
  |9,ho=>
   obtain rfl:=osI ho;intro vs W K hB hD hK;have HK:=Ab hK;obtain⟨mz,aj,cj,e8,hz,hm,hj⟩:=Ac (R:=RN3 a l wz.heap.size ap aw pls.length cp cs a2 a3 c2 c3 sa sc l.length) hD 8 (by rfl);have HM:=Ab hm;have HJ:=Ab hj;have hsz:=hB.size;clear hm hj;clear hK hD ho;dsimp only;go_simp;obtain⟨hx,hb,-⟩:=Az (w0:=W) (B:=W.heap.size) Ad leR #[.int .i64 a.letters,.int .i64 a.start,.slice a2 a.next.length c2,.slice a3 a.prio.length c3,.slice ap pls.length cp,.slice aw pls.length cs,.map (some mz),.slice aj (Aq l).length cj] 154;have h:=HK.out _ _ hb ⟨_,mz,aj,cj,rfl,⟨hsz,hz⟩,hx,HM.out.below hb,HJ.out.below hb⟩;simp only[upd,Nat.reduceEqDiff,reduceIte,e8]at h;exact h
  |10,ho=>
   obtain rfl:=osI ho;intro vs W K hB hD hK;have HK:=Ab hK;obtain⟨pz,mz,aj,cj,e9,hsz,hx,hm,hj⟩:=Ac (R:=RN3 a l wz.heap.size ap aw pls.length cp cs a2 a3 c2 c3 sa sc l.length) hD 9 (by rfl);have HX:=Ab hx;have HM:=Ab hm;have HJ:=Ab hj;clear hx hm hj;clear hK hD ho;dsimp only;go_simp;have h:=HK.out _ _ Ad ⟨pz,mz,aj,cj,rfl,hsz,HX.out,HM.out,HJ.out⟩;simp only[upd,Nat.reduceEqDiff,reduceIte,e9]at h;exact h
  |q+11,ho=>exact absurd ho (by simp)
  case fin=>
  intro vs wq hB hall;obtain⟨pz,mz,aj,cj,e10,hsz,hx,hm,hj⟩:RN3 a l wz.heap.size ap aw pls.length cp cs a2 a3 c2 c3 sa sc l.length 10 (vs 10) wq:=hall 10 (by decide);have HBq:=Ab (HBz3.out wq hB);have HPX:=Ab hx;have HM:=Ab hm;have HJ:=Ab hj;have hpz:w.heap.size<=pz:=Nat.le_trans HBz.out.size hsz.1;have hmw:w.heap.size<=mz:=Nat.le_trans HBz.out.size hsz.2;clear hall hB HC3 HJ3 HBz3 hx hm hj hsz HXz HBz;rw[e10];clear e10;generalize vs 0=s0q at*;generalize vs 1=s1q at*;generalize vs 2=s2q at*;generalize vs 3=s3q at*;generalize vs 4=s4q at*;generalize vs 5=s5q at*;generalize vs 6=s6q at*;generalize vs 7=s7q at*;generalize vs 8=s8q at*;generalize vs 9=s9q at*;clear vs;have hmz:mz<wq.heap.size:=HM.out.lt;have hpq:pz<wq.heap.size:=(Array.getElem?_eq_some_iff.1 HPX.out).1
  have hmp:mz≠pz:=fun e=>by
   obtain⟨es,c,h1⟩:=HM.out.isMap;have h2:=HPX.out;unfold H9 at h2;rw[<-e,h1]at h2
   cases h2
  have HPL:Hid (∀W,Below w.heap.size w W->Ct W (.slice ap pls.length cp) pls):=fun W h=>HP.out.below h
  clear HP
  go_wp2_with fail
  go_loopg [54] pls.length (fun gh iv wx=>∃i:Nat,gh=pls.length-i/\iv=.int .i64 (i:Int)/\i<=pls.length/\Hid (Ag (fun q=>q=mz) wq wx/\Cu wx mz (pls.take i)))
  case atStart=>exact⟨0,rfl,rfl,by omega,⟨Ag.refl _ _,by rw[List.take_zero];exact HM.out⟩⟩
  case round=>
   obtain⟨i,hgi,rfl,hi,HI⟩:=hrel;have HGI:=Ab hgi;clear hgi;have HBr:Hid (Below w.heap.size w wr):=HBq.out.trans (HI.out.1.below _ (fun q e=>by omega) HBq.out.size)
   have k3:Hid (H9 a l wr pz ap aw a2 a3 pls.length cp cs c2 c3 mz aj cj):=by
    show H9 _ _ _ _ _ _ _ _ _ _ _ _ _ _ _ _;exact(HI.out.1.block _ hpq (fun e=>hmp e.symm)).trans HPX.out
   by_cases hlt:i<pls.length
   ·have hi0:(0:Int)<=(i:Int):=by omega
    have hi1:(i:Int)<(pls.length:Int):=by omega
    obtain⟨b,o,had,-,hd⟩:=(HPL.out wr HBr.out).dat3;obtain rfl:=had (by omega);obtain⟨d0,d1,d2,hwf⟩:=hd i hlt
    have hyt:pls.take (i+1)=pls.take i++[pls.getD i ⟨0,0,0⟩]:=by rw[List.take_succ_eq_append_getElem hlt,Af _ _ _ hlt]
    have hyn:pls.getD i ⟨0,0,0⟩∉pls.take i:=by
     rw[Af _ _ _ hlt];intro h;obtain⟨j,hj,e⟩:=List.getElem_of_mem h;rw[List.getElem_take]at e
     have hj':j<i:=by rw[List.length_take]at hj;omega
     have h3:=(List.nodup_iff_pairwise_ne.1 HND.out);rw[List.pairwise_iff_getElem]at h3;exact h3 j i (by omega) hlt hj' e
    generalize pls.getD i ⟨0,0,0⟩=y at*;have HYT:=Ab hyt;have HYN:=Ab hyn;have HWF:=Ab hwf
    have htl:(pls.take i).length=i:=by rw[List.length_take];omega
    have HTL:=Ab htl;clear had hd hyt hyn hwf htl
    go_upto_region 7 with(fail)
    obtain⟨hx6,hb6,-⟩:=Az (w0:=wr) (B:=wr.heap.size) Ad leR #[.int .i64 y.st,.int .i64 y.inn,.int .i64 y.pr] 108
    have hs6:(wr.alloc (.cells #[.int .i64 y.st,.int .i64 y.inn,.int .i64 y.pr] 108)).heap.size=wr.heap.size+1:=by simp
    generalize wr.alloc (.cells #[.int .i64 y.st,.int .i64 y.inn,.int .i64 y.pr] 108)=w6 at*;have hnm6:=HI.out.2.below hb6;have HM6:=Ab hnm6;have HK6:=Ab (k3.out.below hb6);obtain⟨cq,hlk0⟩:=hnm6.miss HWF.out HYN.out;have hlk:∀m,(Instr.lookup 109 (.map (some mz)) (.agg #[.int .i64 y.st,.int .i64 y.inn,.int .i64 y.pr]) true).run Tryz.prog (w6.drewN m)=.ok (.tuple #[.int .i64 cq,.bool false]) (w6.drewN m):=hlk0;have z6:=Aa 6 HK6.out;have k0:=Aa 0 hx6;have k1:=Aa 1 hx6;have k2:=Aa 2 hx6;have HX6:=Ab hx6;have HB6:Hid (Ag (fun q=>q=mz) wr w6):=Ag.of_below hb6;have hzs:mz≠wr.heap.size:=Nat.ne_of_lt HI.out.2.lt;clear hnm6 hlk0 hx6 hb6 d0 d1 d2;generalize wr.heap.size=zs at*
    go_quiet (fail)
    have HB7:Hid (∀W,Below (w6.drewN nq).drew.heap.size (w6.drewN nq).drew W->Below w6.heap.size w6 W):=fun W h=>(Am w6 w6.heap.size nq).trans (((Below.drew (B:=(w6.drewN nq).heap.size) Ad).trans h).mono (Am w6 w6.heap.size nq).size)
    clear hlk z6 k0 k1 k2;generalize w6.drewN nq=w7 at*;have HBd:=HB7
    have HC9:Hid (∀W,Below w7.drew.heap.size w7.drew W->W.cell? ⟨pz,6,none⟩=some (.map (some mz))/\W.cell? ⟨zs,0,none⟩=some (.int .i64 y.st)/\W.cell? ⟨zs,1,none⟩=some (.int .i64 y.inn)/\W.cell? ⟨zs,2,none⟩=some (.int .i64 y.pr)):=fun W h=>by
     have hb:=HBd.out W h;have q:=HK6.out.below hb;have q2:=(hb.block _ (Array.getElem?_eq_some_iff.1 HX6.out).1).trans HX6.out;exact⟨Aa 6 q,Aa 0 q2,Aa 1 q2,Aa 2 q2⟩
    go_upto_region 9 with(fail)
    refine Ci hmx (RN9 pz mz i zs y.st y.inn y.pr) (fun vs=>{tmps:=(_::_::_::_::_::_::_::_::_::_::_::_::_::_::_::_::_::_::_::_::_::_::_::_::_::_::_::_::_::_::_::_::_::_::_::_::_::_::_::_::_::_::_::_::_::_::_::_::_::_::_::_::_::_::_::_::_::_::_::_::_::_::_::_::_::_::_::_::_::_::vs 0::vs 1::vs 2::vs 3::vs 4::vs 5::_::_::[]).toArray,defers:=_}) (fun n=>[u70,u71,u72,u73,u74,u75].getD n undef) 6 rfl (by kernel_rfl) (by kernel_rfl) (fun i v W W' h hb=>RN9.below h hb) ?step ?last
    case step=>
     intro ix oo hlt ho
     match ix,hlt,ho with
     |0,hlt,ho|1,hlt,ho|2,hlt,ho|5,hlt,ho=>
      obtain rfl:=osI ho;intro vs W K hB hD hK;have HK:=Ab hK
      try have e0:vs 0=.pointer (some ⟨pz,0,none⟩):=Ac hD 0 rfl
      try have e1:vs 1=.pointer (some ⟨pz,0,none⟩):=Ac hD 1 rfl
      clear hK hD ho hlt;dsimp only;go_simp;have h:=HK.out _ _ Ad rfl;simp only[upd,Nat.reduceEqDiff,reduceIte, *]at h;exact h
     |3,hlt,ho=>
      obtain rfl:=osI ho;intro vs W K hB hD hK;have HK:=Ab hK;have e2:vs 2=.pointer (some ⟨pz,6,none⟩):=Ac hD 2 rfl;have c:=(HC9.out W hB).1;clear hK hD ho hlt;dsimp only;go_simp;have h:=HK.out _ _ Ad rfl;simp only[upd,Nat.reduceEqDiff,reduceIte,e2]at h;exact h
     |4,hlt,ho=>
      obtain rfl:=osI ho;intro vs W K hB hD hK;have HK:=Ab hK;obtain⟨-,c0,c1,c2⟩:=HC9.out W hB;clear hK hD ho hlt;dsimp only;go_simp;have h:=HK.out _ _ Ad rfl;simp only[upd,Nat.reduceEqDiff,reduceIte]at h;exact h
     |q+6,hlt,_=>exact absurd hlt (by omega)
    case last=>
     intro oo ho;obtain rfl:=osI ho;intro vs w8 K hB hall hK;have HK:=Ab hK;have e3:vs 3=.map (some mz):=hall 3 (by omega);have e4:vs 4=.agg #[.int .i64 y.st,.int .i64 y.inn,.int .i64 y.pr]:=hall 4 (by omega);have e5:vs 5=.int .i64 (i:Int):=hall 5 (by omega);have hb8:=HBd.out w8 hB;obtain⟨w9,hrun0,hm9,hg9⟩:=(HM6.out.below hb8).upd HWF.out HYN.out (by rw[HTL.out];omega);rw[HTL.out]at hrun0;have hrun:(Instr.mapUpdate 109 (.map (some mz)) (.agg #[.int .i64 y.st,.int .i64 y.inn,.int .i64 y.pr]) (.int .i64 (i:Int))).run Tryz.prog w8=.ok () w9:=hrun0;rw[<-HYT.out]at hm9;have HM9:=Ab hm9;have HO9:Hid (Ag (fun q=>q=mz) wq w9):=((HI.out.1.trans HB6.out).trans (Ag.of_below hb8)).trans ((Ag.of_grown hg9).mono fun q _ e=>(Option.some.inj e).symm);clear hK hall ho hrun0 hm9 hg9 hb8;dsimp only;go_simp;refine HK.out _ _ ?_;go_wp2
     go_roundg (pls.length-(i+1))
     case measure=>have:=HGI.out;omega
     case rel=>exact⟨i+1,rfl,by go_num,by omega,HO9.out,HM9.out⟩
   ·have hi1:¬(i:Int)<(pls.length:Int):=by omega
    have hnm:=HI.out.2;rw[List.take_of_length_le (by omega)]at hnm
    have HO:Hid (Ht a pls says l w (.returned (.tuple #[.pointer (some ⟨pz,0,none⟩),.bool true])) wr):=by
     refine⟨pz,rfl,hpz,⟨_,_,_,_,mz,_,k3.out,H2.out.below HBr.out,H3.out.below HBr.out,HPL.out wr HBr.out,HS.out.below HBr.out,hnm, ?_⟩,HBr.out⟩;refine OG (RG HI.out.1) (fun r e=> ?_) HJ.out;obtain⟨es,c,h1⟩:=HM.out.isMap;obtain rfl:=Option.some.inj e;exact⟨_,h1,rfl⟩
    clear hnm HI k3;go_wp2;go_ret2;exact HO.out
end Go.Proofs.YtncjeamdkjcebaaGreatDoor
