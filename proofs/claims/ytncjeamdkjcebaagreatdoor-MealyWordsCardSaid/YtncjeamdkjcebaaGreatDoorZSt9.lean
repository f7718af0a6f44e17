/- What a visit of the search for components does. -/
import Derived.Test.YtncjeamdkjcebaaGreatDoorZMyF3
set_option linter.all false
set_option maxHeartbeats 8000000
set_option maxRecDepth 100000
namespace Go.Proofs.YtncjeamdkjcebaaGreatDoor
open Go.RowKit
theorem QV(w:World)(vl:Value)(l:List Int)(hl:Ai w vl l)(hlen:l.length<=100000):
  Calls Tryz.prog 132 #[vl] w (TX l w):=by
 have hb0:Below w.heap.size w (w.alloc (.cells #[] 3)):=Ao _;have hl2:=hl.below hb0;have HO:=Ab (NS w);obtain⟨⟨ao,cap,b,off,rfl,hl⟩,-⟩:=hl
 cases ao with
 |none=>
  have hc:=hl.nc rfl
  have h0:l.length=0:=by have:=hl.lc;omega
  have hnil:l=[]:=List.eq_nil_of_length_eq_zero h0;subst hnil;subst hc;clear hl hl2 HO;have hE:=SY w
  go_enter Tryz.func132,Tryz.ntmps132
  go_wp2;go_ret;exact⟨_,rfl,BC _ _,Ad⟩
 |some ad=>
  have HL:=Ab hl2;clear hl2;have hE:=R0 w ad l.length cap
  go_enter Tryz.func132,Tryz.ntmps132
  go_wp2_with (at_builtin;refine Ps rfl _ _ rfl w.heap.size _ _ [] l HO.out rfl HL.out rfl (by simp;omega) (by simp) ?_;intro v' w' hown' hg hmv;have HO2:=Ab hown';clear hown')
  go_ret;exact⟨_,rfl,HO2.out,hb0.grown hg hb0.size HO.out.ge⟩
theorem VS.oc{D:Va}{B:Nat}{W:World}{vp:Value}{prio:List Int}{nx:List (List Int)}{ord stk:List Nat}{opn:List Bool}{cs:List (List Nat)}{vs va:Value}{vals:List Value}(h:VS D B W vp prio nx ord stk opn cs vs va vals)(hl:opn.length=D.n){j:Nat}(hj:j<D.n):
  W.cell? ⟨D.ob,j,none⟩=some (.bool (opn.getD j false))/\W.frozen? ⟨D.ob,j,none⟩=false:=by
 have k:=h.oo;unfold OB at k;rw[hl]at k;refine⟨?_,World.ownsRow.frozenAt k j⟩;rw[World.ownsRow.cellAt k j (by omega),Af _ _ _ (show j<opn.length by omega)];simp[show j<opn.length by omega]
theorem VS.fresh{D:Va}{B:Nat}{W W9:World}{vp:Value}{prio:List Int}{nx:List (List Int)}{ord stk:List Nat}{opn:List Bool}{cs:List (List Nat)}{vs va u:Value}{vals:List Value}{l:List Int}(h:VS D B W vp prio nx ord stk opn cs vs va vals)
  (hO:OI W9 W.heap.size u l) (hl:l.length<=100000) (hi:∀x∈l,I64 x):∀W',Ag (D8 D vs va W9.heap.size) W9 W'->Ai W' u l:=fun W' hW=>by
 refine(hO.only hW fun k hk hh=> ?_).is (by unfold Bk;omega) hi;have h1:=hO.ge k hk;have h2:=hO.lt' k hk;have h3:=h.lt;have h4:=h.hB
 rcases hh with e|e|e|e|e|e|e
 ·omega
 ·omega
 ·omega
 ·omega
 ·have:=(h.sge k e).2;omega
 ·have:=(h.age k e).2;omega
 ·omega
def EP(part:Nat->Prop)(nx:List (List Int))(x y:Nat):Prop:=part x/\part y/\(y:Int)∈nx.getD x []
structure GX(n:Nat)(nx:List (List Int))(part:Nat->Prop):Prop where
 n3:n<=3000
 rg:∀v,v<n->∀x∈nx.getD v [],0<=x/\x<n
 pn:∀v,part v->v<n
structure VMv(D:Va)(w:World)(vs va:Value)(W:World)(vs' va':Value):Prop where
 ho:Ag (D8 D vs va w.heap.size) w W
 hs:∀k,vs'.ownBlock=some k->vs.ownBlock=some k\/w.heap.size<=k
 ha:∀k,va'.ownBlock=some k->va.ownBlock=some k\/w.heap.size<=k
theorem VMv.refl(D:Va)(w:World)(vs va:Value):VMv D w vs va w vs va:=⟨Ag.refl _ _,fun _=>.inl,fun _=>.inl⟩
theorem VMv.trans{D:Va}{w W W2:World}{vs va vs' va' vs2 va2:Value}(h:VMv D w vs va W vs' va')(k:VMv D W vs' va' W2 vs2 va2):VMv D w vs va W2 vs2 va2:=
 ⟨VS.hot h.ho h.hs h.ha k.ho,fun q hq=>(k.hs q hq).elim (h.hs q) fun e=>.inr (Nat.le_trans h.ho.size e),fun q hq=>(k.ha q hq).elim (h.ha q) fun e=>.inr (Nat.le_trans h.ho.size e)⟩
theorem VMv.of{D:Va}{w W:World}{vs va:Value}(h:Ag (D8 D vs va w.heap.size) w W):VMv D w vs va W vs va:=⟨h,fun _=>.inl,fun _=>.inl⟩
def Tr(D:Va)(B:Nat)(w:World)(vp:Value)(prio:List Int)(nx:List (List Int))(part:Nat->Prop)(t:Tj)(vs va:Value)(v:Nat)(G:List Nat)(e:Ending)(w':World):Prop:=
 ∃(lw:Nat)(t':Tj)(ord' stk':List Nat)(opn':List Bool)(cs':List (List Nat))(vs' va':Value)(vals':List Value),e=.returned (.int .i64 (lw:Int))/\t'.low v=lw+1/\cs'.length+stk'.length<=ord'.length/\VS D B w' vp prio nx ord' stk' opn' cs' vs' va' vals'/\
  Rep D.n part t' ord' stk' opn' cs'/\Hc (EP part nx) t t' v G/\VMv D w vs va w' vs' va'
theorem Hc.low_le{E:Nat->Nat->Prop}{t t':Tj}{s:Nat}{G:List Nat}(h:Hc E t t' s G):t'.low s<=t.cnt+1:=by
 rw[<-h.nw]
 by_cases hp:t'.prt s=0
 ·exact(h.po.inv.lw s ((h.po.inv.st s).2 ⟨h.po.nz,hp⟩)).1
 ·exact Nat.le_of_eq (h.lo hp)
theorem OI.dropI{w:World}{B g cap:Nat}{l:List Int}(h:OI w B (.slice (some ⟨g,0,none⟩) l.length cap) l)(hi:∀x∈l,I64 x)(hn:l.length<=Bk){k:Nat}(hk:k<l.length):
  Ai w (.slice (some ⟨g,k,none⟩) (l.length-k) (cap-k)) (l.drop k)/\l.length<=cap/\cap<=maxLen:=by
 obtain⟨⟨ao,cp,b,off,hv,ha⟩,hr⟩:=h.is hn hi
 injection hv with h1 h2 h3
 subst h1 h3;have e:=ha.ad (by omega)
 injection e with e
 injection e with e1 e2
 subst e1 e2;have:=Ai.drop ha hr k hk;rw[Nat.zero_add]at this;exact⟨this,ha.lc,ha.cm⟩
def RV1(mb ol sl:Nat)(aS:Option Addr)(cS:Nat)(ix:Nat)(u:Value)(_:World):Prop:=
 match ix with
 |0=>u=.map (some mb)
 |1|4=>u=.int .i64 (ol:Int)
 |2=>u=.slice aS sl cS
 |3|5=>u=.int .i64 (sl:Int)
 | _=>True
theorem R5(B:Nat)(D:Va)(vp:Value)(prio:List Int)(nx:List (List Int))(part:Nat->Prop)(hx:GX D.n nx part)(m:Nat):∀(w:World)(t:Tj)(ord stk:List Nat)(opn:List Bool)(cs:List (List Nat))(vs va:Value)(vals:List Value)(G:List Nat)(v:Nat),
  D.n-ord.length<m->cs.length+stk.length<=ord.length->VS D B w vp prio nx ord stk opn cs vs va vals->Rep D.n part t ord stk opn cs->Ea (EP part nx) t G->v∉ord->part v->(∀g∈G,Rch (EP part nx) g v)->
  Calls Tryz.prog 131 #[.int .i64 (v:Int),.pointer (some ⟨D.zo,0,none⟩),.pointer (some ⟨D.zs,0,none⟩),.pointer (some ⟨D.zr,0,none⟩),.pointer (some ⟨D.zv,0,none⟩),.pointer (some ⟨D.za,0,none⟩)] w (Tr D B w vp prio nx part t vs va v G):=by
 induction m with
 |zero=>intro _ _ _ _ _ _ _ _ _ _ _ h;exact absurd h (by omega)
 |succ m ih=>
 intro w t ord stk opn cs vs va vals G v hm hcs hS hR hT hv hp hG;have HIH:=Ab ih;have HX:=Ab hx;have hvn:=hx.pn v hp;have hn3:=hx.n3;have hroom:=hR.room hx.pn hv hp;have HPV:=Ab hp;have HNV:=Ab hv;have HCS:=Ab hcs;have HSK:Hid (t.stk=stk):=hR.sk;have HCN:Hid (t.cnt=ord.length):=hR.cnt;have HS0:=Ab (hS.below (Below.drew Ad));have HM0:Hid (C4 (EP part nx) t (t.openV v) v G (fun _=>False)):=C4.start hT (by rw[hR.num v,if_neg hv]) hG;have HR0:=Ab (hR.openV hv hp);have HT0:=Ab hT;have hm0:=hm;obtain⟨aS,cS,hvs⟩:=hS.os.slice;rw[AR]at hvs;subst hvs;have cn:=hS.now
 have HZ1:Hid (∀W,Below w.drew.heap.size w.drew W->W.cell? ⟨D.zo,0,none⟩=some (.map (some D.mb))):=fun W hW=>Ah hW (Aa 0 cn.o)
 have HZ2:Hid (∀W,Below w.drew.heap.size w.drew W->W.cell? ⟨D.zs,0,none⟩=some (.slice aS stk.length cS)):=fun W hW=>Ah hW (Aa 0 hS.bs)
 have HLN:Hid (∀W,Below w.drew.heap.size w.drew W->(Builtin.len_ #[134] 3 #[.map (some D.mb)]).run Tryz.prog W=.ok (.int .i64 (ord.length:Int)) W):=fun W hW=>by
  have:=(HS0.out.num.kept (AV hW) (by simp)).len 3;rw[AR]at this;exact this
 have hv64:I64 (v:Int):=by unfold I64;omega
 have hstl:stk.length<=3000:=by
  have h1:=FZ hT.nd fun u hu=>hx.pn u (hR.op u ((hR.in_ord).1 ((hT.st u).1 hu).1))
  rw[hR.sk]at h1;omega
 clear ih hx hp hcs hS hR hT hv hG cn
 go_enter Tryz.func131,Tryz.ntmps131
 go_upto_region 1 with(fail)
 have hmx:Tryz.prog.follows .mixedOrders=true:=by kernel_rfl
 refine AB hmx (RV1 D.mb ord.length stk.length aS cS) (fun vs=>{tmps:=(_::_::_::_::_::_::_::_::vs 4::vs 5::_::_::_::_::_::_::_::vs 0::vs 1::vs 2::vs 3::_::_::_::_::_::_::_::_::_::_::_::_::_::_::_::_::_::_::_::_::_::_::_::_::_::_::_::_::_::_::_::_::_::_::_::_::_::_::_::_::_::_::_::_::_::_::_::_::_::_::_::_::_::_::_::_::_::_::_::_::_::_::_::_::_::_::_::_::_::_::_::_::[]).toArray,defers:=_}) (fun _=>undef) rfl (by kernel_rfl) (fun _ _ _ _ h _=>h) ?step ?fin
 case step=>
  intro ix o ho
  match ix,ho with
  |0,ho=>
   obtain rfl:=osI ho;intro vs W K hB hD hK;have HK:=Ab hK;have z1W:=HZ1.out W hB;clear hK hD ho;dsimp only;go_simp;have h:=HK.out _ _ Ad rfl;simp only[upd,Nat.reduceEqDiff,reduceIte]at h;exact h
  |1,ho=>
   obtain rfl:=osI ho;intro vs W K hB hD hK;have HK:=Ab hK;have e0:vs 0=.map (some D.mb):=Ac hD 0 rfl;have hlen:=HLN.out W hB;clear hK hD ho;dsimp only;go_simp;have h:=HK.out _ _ Ad rfl;simp only[upd,Nat.reduceEqDiff,reduceIte,e0]at h;exact h
  |2,ho=>
   obtain rfl:=osI ho;intro vs W K hB hD hK;have HK:=Ab hK;have z2W:=HZ2.out W hB;clear hK hD ho;dsimp only;go_simp;have h:=HK.out _ _ Ad rfl;simp only[upd,Nat.reduceEqDiff,reduceIte]at h;exact h
  |3,ho|4,ho|5,ho=>
   obtain rfl:=osI ho;intro vs W K hB hD hK;have HK:=Ab hK
   try have e1:vs 1=.int .i64 (ord.length:Int):=Ac hD 1 rfl
   try have e2:vs 2=.slice aS stk.length cS:=Ac hD 2 rfl
   try have e3:vs 3=.int .i64 (stk.length:Int):=Ac hD 3 rfl
   clear hK hD ho;dsimp only;go_simp;have h:=HK.out _ _ Ad rfl;simp only[upd,Nat.reduceEqDiff,reduceIte, *]at h;exact h
  |q+6,ho=>exact absurd ho (by simp)
 case fin=>
  intro vs W hB hall;have e4:vs 4=.int .i64 (ord.length:Int):=hall 4 (by decide);have e5:vs 5=.int .i64 (stk.length:Int):=hall 5 (by decide);clear hall;rw[e4,e5];clear e4 e5;generalize vs 0=z0q at*;generalize vs 1=z1q at*;generalize vs 2=z2q at*;generalize vs 3=z3q at*;have HW:=Ab (HS0.out.below hB);have HMv0:Hid (VMv D w (.slice aS stk.length cS) va W (.slice aS stk.length cS) va):=VMv.of (Ag.of_below ((Below.drew Ad).trans hB));have z1W:=HZ1.out W hB;obtain⟨w3,hup,hnm,hgr⟩:=HW.out.num.upd hv64 (by rw[GQ];exact HNV.out) (by rw[AR];omega);rw[AR]at hup;rw[<-Jk,<-GP]at hnm;obtain⟨hS3,hO3⟩:=HW.out.number hnm hgr;have HS3:=Ab hS3;have HMv3:=Ab (HMv0.out.trans (VMv.of hO3));have z2W:=Aa 0 hS3.bs;have hB3:=hS3.hB;have hOS:=hS3.os;clear HS0 HZ1 HZ2 HLN hB HW HMv0 hnm hgr hS3 hO3;generalize hrow:nx.getD v []=row at*;have HROW:=Ab hrow;clear hrow;obtain⟨aR,cR,hVv⟩:=(HS3.out.now.g.2.2 v hvn).2.shape;rw[HROW.out]at hVv;have HVV:=Ab hVv;clear hVv
  go_wp2_with (at_builtin;refine DZ rfl _ _ (v:Int) rfl B _ _ hOS rfl _ (by simp) rfl (by rw[AR];omega) hB3 ?_;intro v' w' hown' hg hmv;obtain⟨ao',cap',hv'⟩:=hown'.slice;rw[List.length_append,List.length_singleton,AR]at hv';subst hv';have HP:=Ab (HS3.out.push hown' hg hmv);have HMV:=Ab hmv;have k2:=Aa 0 HP.out.2.2;have f2:=Ay 0 HP.out.2.2;have q1:=Aa 0 HP.out.1.now.r;have q2:=Aa 1 HP.out.1.now.g.1;have q3:=(HP.out.1.now.g.2.2 v hvn).1;rw[HVV.out]at q3;clear hown' hg hmv z1W z2W hup hOS hB3)
  have HS5:=Ab HP.out.1;have HMv5:Hid (VMv D w (.slice aS stk.length cS) va (w'.setCell ⟨D.zs,0,none⟩ (.slice ao' (stk.length+1) cap')) (.slice ao' (stk.length+1) cap') va):=HMv3.out.trans ⟨HP.out.2.1,HMV.out,fun _=>.inl⟩;clear k2 f2 q1 q2 q3 HP HMV HS3 HMv3;generalize w'.setCell ⟨D.zs,0,none⟩ (.slice ao' (stk.length+1) cap')=w5 at*;generalize Value.slice ao' (stk.length+1) cap'=vs5 at*
  have HL5:Hid ((t.openV v).low v=ord.length+1):=by
   show upN _ _ _ _=_;rw[Cx,HCN.out]
  have hrl:=((HS5.out.now.g.2.2 v hvn).2).1
  have hrl:row.length<=140737488351232:=by
   have:=(HS5.out.now.g.2.2 v hvn).2;rw[HROW.out,HVV.out]at this;obtain⟨_,_,_,h,_⟩:=this.dat;exact h
  have HCS5:Hid (cs.length+(stk++[v]).length<=(ord++[v]).length):=by
   show _<=_;have:=HCS.out;simp only[List.length_append,List.length_singleton];omega
  go_loopg [10,37] row.length (fun gh vl i wr=>∃(k lw:Nat)(t1:Tj)(ord1 stk1:List Nat)(opn1:List Bool)(cs1:List (List Nat))(vs1 va1:Value)(vals1:List Value),gh=row.length-k/\i=.int .i64 k/\vl=.int .i64 (lw:Int)/\k<=row.length/\Hid (t1.low v=lw+1)/\Hid (cs1.length+stk1.length<=ord1.length)/\
   Hid (VS D B wr vp prio nx ord1 stk1 opn1 cs1 vs1 va1 vals1)/\Hid (Rep D.n part t1 ord1 stk1 opn1 cs1)/\Hid (C4 (EP part nx) t t1 v G (fun x=>part x/\(x:Int)∈row.take k))/\Hid (VMv D w (.slice aS stk.length cS) va wr vs1 va1))
  case atStart=>exact⟨0,ord.length,t.openV v,_,_,_,_,_,_,_,rfl,rfl,rfl,by omega,HL5,HCS5,HS5,HR0,HM0.out.more fun u hu=>absurd hu.2 (by simp),HMv5⟩
  case round=>
   clear HS5 HMv5 HL5 HR0 HM0 HCS5;obtain⟨k,lw,t1,ord1,stk1,opn1,cs1,vs1,va1,vals1,hgk,rfl,rfl,hk,HL,HCS1,HSr,HRr,HMr,HMv⟩:=hrel;have HGK:=Ab hgk;clear hgk;have cn:=HSr.out.now;have q1:=Aa 0 cn.r;have q2:=Aa 2 cn.g.1;have hir:=(cn.g.2.2 v hvn).2;rw[HROW.out,HVV.out]at hir
   have hlwn:lw<=3000:=by
    have h1:=HMr.out.low_le;have h2:=HMr.out.nw;have h3:=HL.out;have h4:=HCN.out;omega
   by_cases hlt:k<row.length
   ·obtain⟨bR,oR,had,-,hdt⟩:=hir.dat;obtain rfl:=had (by omega);have eu:=hdt k hlt
    have hmem:row.getD k 0∈row:=by rw[Af _ _ _ hlt];exact List.getElem_mem hlt
    obtain⟨u0,u1⟩:=HX.out.rg v hvn (row.getD k 0) (by rw[HROW.out];exact hmem)
    have HTk:Hid (row.take (k+1)=row.take k++[row.getD k 0]):=by show _=_;rw[List.take_succ_eq_append_getElem hlt,Af _ _ _ hlt]
    have HMem:=Ab hmem;clear had hdt hir hmem;generalize row.getD k 0=ui at*;obtain⟨u,rfl⟩:=Int.eq_ofNat_of_zero_le u0
    have hun:u<D.n:=by omega
    obtain⟨o1,o2⟩:=HSr.out.oc HRr.out.on hun
    have HDone:Hid (∀x,(part x/\(x:Int)∈row.take (k+1))↔(part x/\(x:Int)∈row.take k)\/(part x/\x=u)):=fun x=>by
     rw[HTk.out,List.mem_append,List.mem_singleton]
     constructor
     ·rintro⟨h1,h2|h2⟩
      ·exact .inl ⟨h1,h2⟩
      ·exact .inr ⟨h1,by omega⟩
     ·rintro(⟨h1,h2⟩|⟨h1,rfl⟩)
      ·exact⟨h1,.inl h2⟩
      ·exact⟨h1,.inr rfl⟩
    have hoi:=HRr.out.oi u hun;have HOI:=Ab hoi;clear hoi cn
    cases hq:opn1.getD u false
    ·have HMn:Hid (C4 (EP part nx) t t1 v G (fun x=>part x/\(x:Int)∈row.take (k+1))):=by
      by_cases hpu:part u
      ·have hpr:t1.prt u≠0:=fun e=>by
        have:=HOI.out.2 ⟨hpu,e⟩;rw[hq]at this;cases this
       exact(HMr.out.skip hpr).more fun x hx=>((HDone.out x).1 hx).imp id fun h=>h.2
      ·exact HMr.out.more fun x hx=>((HDone.out x).1 hx).elim id fun h=>absurd (h.2▸h.1) hpu
     rw[hq]at o1;clear hq;go_wp2
     go_roundg (row.length-(k+1))
     case measure=>have:=HGK.out;omega
     case rel=>exact⟨k+1,lw,t1,_,_,_,_,_,_,_,rfl,by go_num,rfl,by omega,HL,HCS1,HSr,HRr,HMn,HMv⟩
    ·have HPU:=Ab (HOI.out.1 hq);have HE:Hid (EP part nx v u):=⟨HPV.out,HPU.out.1,by rw[HROW.out];exact HMem.out⟩;rw[hq]at o1;clear hq HOI;have z1r:=Aa 0 HSr.out.now.o
     have hu64:I64 (u:Int):=by unfold I64;omega
     have hget:=HSr.out.num.num.get hu64
     by_cases hin:u∈ord1
     ·have hlk:=hget.1 (GQ.2 hin);rw[N6]at hlk;have hst:u∈t1.stk:=(HMr.out.mi.inv.st u).2 ⟨HRr.out.in_ord.2 hin,HPU.out.2⟩
      have HMn:Hid (C4 (EP part nx) t (t1.lowerN v u) v G (fun x=>part x/\(x:Int)∈row.take (k+1))):=
       (HMr.out.lowN hst HE.out).more fun x hx=>((HDone.out x).1 hx).imp id fun h=>h.2
      have HLn:Hid ((t1.lowerN v u).low v=min lw (ord1.idxOf u)+1):=by
       show upN _ _ _ _=_;rw[Cx,HL.out,HRr.out.at hin];omega
      have hidx:ord1.idxOf u<ord1.length:=List.idxOf_lt_length_of_mem hin;have hol:=HRr.out.len HX.out.pn;clear hget hin hst;generalize ord1.idxOf u=ix at*;go_wp2
      all_goals
       go_roundg (row.length-(k+1))
       case measure=>have:=HGK.out;omega
       case rel=>exact⟨k+1,min lw ix,_,_,_,_,_,_,_,_,rfl,by go_num,by congr 1;omega,by omega,HLn,HCS1,HSr,HRr.out.setLow _,HMn,HMv⟩
     ·obtain⟨c,hlk⟩:=hget.2 fun h=>hin (GQ.1 h)
      have hol:D.n-ord1.length<m:=by
       have h1:=HMr.out.cn;have h2:=HRr.out.cnt;have h3:=HCN.out;have h4:=HRr.out.len HX.out.pn;omega
      have z4:=Aa 0 HSr.out.now.v;unfold Va.fn at z4;have HNI:=Ab hin;clear hget hin
      go_wp2_with fail
      refine(HIH.out wr t1 ord1 stk1 opn1 cs1 vs1 va1 vals1 (G++[v]) u hol HCS1.out HSr.out HRr.out HMr.out.mi.inv HNI.out HPU.out.1 (HMr.out.mi.pre HE.out)).mono ?_;rintro e w7 ⟨lw2,t2,ord2,stk2,opn2,cs2,vs2,va2,vals2,rfl,hl2,hcs2,hS2,hR2,hP2,hV2⟩;have HCS2:=Ab hcs2;obtain⟨t3,hM3,⟨f3,hf3⟩,hl3⟩:=HMr.out.visit HE.out hP2;have HS2:=Ab hS2;have HR2:=Ab (hf3▸hR2.setLow f3)
      have HMn:Hid (C4 (EP part nx) t t3 v G (fun x=>part x/\(x:Int)∈row.take (k+1))):=hM3.more fun x hx=>((HDone.out x).1 hx).imp id fun h=>h.2
      have HLn:Hid (t3.low v=min lw lw2+1):=by
       show _=_;rw[hl3,HL.out,hl2];omega
      have hlw2:lw2<=3000:=by
       have h1:=hP2.low_le;have h2:=HRr.out.cnt;have h4:=HRr.out.len HX.out.pn;omega
      have HMv2:=Ab (HMv.out.trans hV2);clear hl2 hcs2 hS2 hR2 hP2 hV2 hM3 hf3 hl3 z1r z4 q1 q2 o1 o2 eu HSr HRr HMr HMv;go_wp2
      all_goals
       go_roundg (row.length-(k+1))
       case measure=>have:=HGK.out;omega
       case rel=>exact⟨k+1,min lw lw2,_,_,_,_,_,_,_,_,rfl,by go_num,by congr 1;omega,by omega,HLn,HCS2,HS2,HR2,HMn,HMv2⟩
   ·obtain rfl:k=row.length:=by omega
    have HMf:Hid (C4 (EP part nx) t t1 v G (fun x=>EP part nx v x)):=HMr.out.more fun x hx=>⟨hx.2.1,by rw[List.take_length];have:=hx.2.2;rw[HROW.out]at this;exact this⟩
    have hol:=HRr.out.len HX.out.pn
    by_cases hle:lw=ord.length
    ·have HHL:=Ab hle
     have hle1:((lw:Int)==(ord.length:Int))=true:=by rw[Ql];simp[hle]
     obtain⟨r,hr⟩:=HMf.out.mi.sk
     have hsk1:stk1=stk++v::r:=by rw[<-HRr.out.sk,hr,HSK.out]
     have HSK1:=Ab hsk1
     have hl1:stk1.length=stk.length+(r.length+1):=by rw[hsk1];simp
     have hstl1:stk1.length<=3000:=by
      have h1:=FZ HMf.out.mi.inv.nd fun u hu=>HX.out.pn u (HRr.out.op u ((HRr.out.in_ord).1 ((HMf.out.mi.inv.st u).1 hu).1))
      rw[HRr.out.sk]at h1;omega
     have HST:Hid (∀x∈stk1,x<D.n):=fun x hx=>HX.out.pn x (HRr.out.op x ((HRr.out.in_ord).1 ((HMf.out.mi.inv.st x).1 (by rw[HRr.out.sk];exact hx)).1))
     have hdr:AX (v::r)=(AX stk1).drop stk.length:=by rw[<-Ih,hsk1,List.drop_left]
     have HDR:=Ab hdr;clear hr hsk1 hdr;obtain⟨gS,capS,hvs1,-,-⟩:=HSr.out.os.row (by rw[AR];omega);rw[AR]at hvs1;subst hvs1;have hos:=HSr.out.os;rw[<-AR]at hos;obtain⟨hi1,hcap1,hcap2⟩:=hos.dropI (Fm HST.out (by omega)) (by rw[AR];unfold Bk;omega) (k:=stk.length) (by rw[AR];omega);rw[AR]at hi1 hcap1;rw[<-HDR.out]at hi1;have HI1:=Ab hi1
     have hk0:(stk.length:Int)<=stk1.length:=by omega
     have hk1:¬capS=stk.length:=by omega
     have hk2:stk.length<=capS:=by omega
     obtain⟨aA,cA,hva1⟩:=AU HSr.out.oa;subst hva1
     have hcl:cs1.length<=3000:=by have:=HCS1.out;omega
     have z2:=Aa 0 HSr.out.bs;have z5:=Aa 0 HSr.out.ba;have hza:D.za<wr.heap.size:=(Array.getElem?_eq_some_iff.1 HSr.out.ba).1;have HCL:Hid ((AX (v::r)).length<=100000/\∀x∈AX (v::r),I64 x):=⟨by rw[AR];simp;omega,by rw[HDR.out,<-Ih];exact Fm (fun x hx=>HST.out x (List.mem_of_mem_drop hx)) (by omega)⟩;have HL1:=Ab hl1
     have hlt1:stk.length<stk1.length:=by omega
     clear hi1 hos hle q1 q2 hir cn hl1
     go_upto_region 15 with(fail)
     obtain⟨w8,rfl⟩:∃w8:World,w8=wr:=⟨_,rfl⟩;have HS8:Hid (VS D B w8.drew vp prio nx ord1 stk1 opn1 cs1 (.slice (some ⟨gS,0,none⟩) stk1.length capS) (.slice aA cs1.length cA) vals1):=HSr.out.below (Below.drew Ad)
     go_cut [] (fun wx=>∃(va2:Value)(vals2:List Value)(wz:World),wz=wx/\Hid (VS D B wz vp prio nx ord1 stk1 opn1 (cs1++[v::r]) (.slice (some ⟨gS,0,none⟩) stk1.length capS) va2 vals2)/\Hid (VMv D w8 (.slice (some ⟨gS,0,none⟩) stk1.length capS) (.slice aA cs1.length cA) wz (.slice (some ⟨gS,0,none⟩) stk1.length capS) va2))
     case first=>
      go_region_law (first|((rw[if_pos (by rfl)];refine M8 w9 _ _ (.slice a9 (AX (v::r)).length c9) (by rfl) B (.slice aA cs1.length cA) _ vals1 (by rfl) HS9.out.oa (by rfl) rfl (by show cs1.length<_;omega) HS9.out.hB ?_;intro v10 w10 hown10 hg10 hmv10;obtain⟨ao10,cap10,hv10⟩:=AU hown10;subst hv10;have HST2:=Ab (HS9.out.comp hown10 hg10 hmv10 HU9.out);have k0:=Aa 0 HST2.out.2.2;have f0:=Ay 0 HST2.out.2.2))|((go_simp;go_at_call 132;refine(QV _ _ (AX (v::r)) (HI1.out.below (Below.drew Ad)) HCL.out.1).mono ?_;rintro e w9 ⟨v9,rfl,hO9,hb9⟩;obtain⟨a9,c9,hv9⟩:=hO9.slice;subst hv9;have HS9:=Ab (HS8.out.below hb9);have z59:=Aa 0 HS9.out.ba;have hza9:D.za<w9.heap.size:=(Array.getElem?_eq_some_iff.1 HS9.out.ba).1;have HU9:Hid (∀W',Ag (D8 D (.slice (some ⟨gS,0,none⟩) stk1.length capS) (.slice aA cs1.length cA) w9.heap.size) w9 W'->Ai W' (.slice a9 (AX (v::r)).length c9) (AX (v::r))):=HS8.out.fresh hO9 HCL.out.1 HCL.out.2;have HB9:=Ab hb9;clear hO9 hb9)))
      all_goals
       go_wp2_with fail
       go_meet
       case rel=>exact⟨_,_,_,rfl,HST2.out.1,(VMv.of (Ag.of_below ((Below.drew Ad).trans HB9.out))).trans ⟨HST2.out.2.1,fun _=>.inl,hmv10⟩⟩
     case rest=>
      obtain⟨va2,vals2,w11,rfl,HS11,HV11⟩:=hcut;clear z2 z5 hza HS8 HSr;have z2:=Aa 0 HS11.out.bs;have HMv11:=Ab (HMv.out.trans HV11.out);clear HMv HV11;go_wp2;clear z2
      go_loopg [16,78] (stk1.length-stk.length) (fun gh _ i wr=>∃(j:Nat)(opn2:List Bool),gh=stk1.length-stk.length-j/\i=.int .i64 j/\j<=stk1.length-stk.length/\opn2.length=D.n/\Hid (VS D B wr vp prio nx ord1 stk1 opn2 (cs1++[v::r]) (.slice (some ⟨gS,0,none⟩) stk1.length capS) va2 vals2)/\
       Hid (VMv D w (.slice aS stk.length cS) va wr (.slice (some ⟨gS,0,none⟩) stk1.length capS) va2)/\Hid (∀x,x<D.n->(opn2.getD x false=true↔opn1.getD x false=true/\x∉(v::r).take j)))
      case atStart=>exact⟨0,opn1,rfl,rfl,by omega,HRr.out.on,HS11,HMv11,by intro x _;simp⟩
      case round=>
       clear HS11 HMv11;obtain⟨j,opn2,hgj,rfl,hj,hon,HSj,HVj,HOj⟩:=hrel;have HGJ:=Ab hgj;clear hgj;have hos:=HSj.out.os;rw[<-AR]at hos;obtain⟨hi1,-,-⟩:=hos.dropI (Fm HST.out (by omega)) (by rw[AR];unfold Bk;omega) (k:=stk.length) (by rw[AR];omega);rw[AR,<-HDR.out]at hi1
       by_cases hjl:j<stk1.length-stk.length
       ·have hjc:j<(v::r).length:=by have:=HL1.out;simp;omega
        have hdt:wr.cell? ⟨gS,stk.length+j,none⟩=some (.int .i64 ((AX (v::r)).getD j 0)):=by
         obtain⟨⟨ao,cp,b,off,hv,ha⟩,-⟩:=hi1
         injection hv with h1 h2 h3
         have e:=ha.ad (by omega);rw[<-h1]at e
         injection e with e
         injection e with e1 e2
         subst e1 e2;exact ha.el j (by rw[AR];exact hjc)
        rw[DD hjc]at hdt;have hun:(v::r).getD j 0<D.n:=HST.out _ (by rw[HSK1.out,Af _ _ _ hjc];exact List.mem_append_right _ (List.getElem_mem hjc))
        have HTk:Hid ((v::r).take (j+1)=(v::r).take j++[(v::r).getD j 0]):=by show _=_;rw[List.take_succ_eq_append_getElem hjc,Af _ _ _ hjc]
        generalize(v::r).getD j 0=u at*;obtain⟨o1,o2⟩:=HSj.out.oc hon hun;have HSn:=Ab (HSj.out.shut u false hon);have cn:=HSj.out.now;have q1:=Aa 0 cn.r;have q2:=Aa 2 cn.g.1;have HON:=Ab hon;clear hi1 hos cn hon;go_wp2
        go_roundg (stk1.length-stk.length-(j+1))
        case measure=>have:=HGJ.out;omega
        case rel=>
         refine⟨j+1,opn2.set u false,rfl,by go_num,by omega,by rw[List.length_set];exact HON.out,HSn.out.1,HVj.out.trans (VMv.of HSn.out.2),fun x hx=> ?_⟩;rw[HTk.out,List.mem_append,List.mem_singleton]
         by_cases e:u=x
         ·subst e;rw[AA _ _ _ _ (by rw[HON.out];exact hx)];simp
         ·rw[AJ _ _ _ _ _ e,HOj.out x hx];exact⟨fun h=>⟨h.1,fun k=>k.elim h.2 fun k=>e k.symm⟩,fun h=>⟨h.1,fun k=>h.2 (.inl k)⟩⟩
       ·obtain rfl:j=stk1.length-stk.length:=by omega
        have hok:OI wr B (.slice (some ⟨gS,0,none⟩) stk.length capS) (AX (stk1.take stk.length)):=by
         rw[Mq];exact OI.cut HSj.out.os (by rw[AR];omega)
        have HSn:=Ab (HSj.out.pop hok rfl);have z2:=Aa 0 HSj.out.bs;have f2:=Ay 0 HSj.out.bs
        have hstk:stk1.take stk.length=stk:=by rw[HSK1.out,List.take_left]
        have HR2:Hid (Rep D.n part (t1.pop t v) ord1 stk opn2 (cs1++[v::r])):=by
         refine Rep.pop (HSK1.out▸HRr.out) HMf.out.mi.inv HSK.out hon fun x hx=> ?_
         rw[HOj.out x hx,List.take_of_length_le (by have:=HL1.out;simp;omega)]
        have HP:Hid (Hc (EP part nx) t (t1.pop t v) v G):=HMf.out.close (fun _ h=>h) (by rw[HL.out,HMf.out.nw,HCN.out,HHL.out]);have HVn:Hid (VMv D w (.slice aS stk.length cS) va (wr.setCell ⟨D.zs,0,none⟩ (.slice (some ⟨gS,0,none⟩) stk.length capS)) (.slice (some ⟨gS,0,none⟩) stk.length capS) va2):=HVj.out.trans ⟨HSn.out.2,fun _=>.inl,fun _=>.inl⟩;have HSn1:=Ab HSn.out.1;rw[hstk]at HSn1
        have HC2:Hid ((cs1++[v::r]).length+stk.length<=ord1.length):=by
         show _<=_;have h1:=HCS1.out;have h2:=HL1.out;simp only[List.length_append,List.length_singleton];omega
        have HON:=Ab hon;clear hok HSn hstk hi1 hos hon HSj HVj;go_wp2;go_ret;exact⟨lw,t1.pop t v,_,_,_,_,_,_,_,rfl,HL.out,HC2.out,HSn1.out,HR2.out,HP.out,HVn.out⟩
    ·have hle1:((lw:Int)==(ord.length:Int))=false:=by rw[Ql];simp[hle]
     have HP:Hid (Hc (EP part nx) t t1 v G):=HMf.out.leave (fun _ h=>h) (by rw[HL.out,HMf.out.nw,HCN.out];omega);clear hle;go_wp2;go_ret;exact⟨lw,t1,_,_,_,_,_,_,_,rfl,HL.out,HCS1.out,HSr.out,HRr.out,HP.out,HMv.out⟩
end Go.Proofs.YtncjeamdkjcebaaGreatDoor
