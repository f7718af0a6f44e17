/- What a visit of the search for components do. -/
import Derived.Test.YtncjeamdkjcebaaGreatDoorYMyG1
set_option linter.all false
set_option maxHeartbeats 8000000
set_option maxRecDepth 100000
namespace Go.Proofs.YtncjeamdkjcebaaGreatDoor
open Go.RowKit
theorem Rk(w:World)(vl:Value)(l:List Int)(hl:Ah w vl l)(j:l.length<=100000):
  Calls Tryz.prog 132 #[vl] w (Uv l w):=by
 have c:Below w.heap.size w (w.alloc (.cells #[] 3)):=Ao _;have d:=hl.below c;have HO:=Ab (Hh w);obtain⟨⟨ao,i,b,m,rfl,hl⟩,-⟩:=hl
 cases ao with
 |none=>
  have hc:=hl.nc rfl
  have h0:l.length=0:=by have:=hl.lc;omega
  have e:l=[]:=List.eq_nil_of_length_eq_zero h0;subst e;subst hc;clear hl d HO;have hE:=TB w
  go_enter Tryz.func132,Tryz.ntmps132
  go_wp2;go_ret;exact⟨_,rfl,Br _ _,Ad⟩
 |some ad=>
  have HL:=Ab d;clear d;have hE:=Sy w ad l.length i
  go_enter Tryz.func132,Tryz.ntmps132
  go_wp2_with (at_builtin;refine IM rfl _ _ rfl w.heap.size _ _ [] l HO.out rfl HL.out rfl (by simp;omega) (by simp) ?_;intro v' w' a hg k;have f:=Ab a;clear a)
  go_ret;exact⟨_,rfl,f.out,c.grown hg c.size HO.out.ge⟩
theorem VS.oc{D:Va}{B:Nat}{W:World}{vp:Value}{b:List Int}{nx:List (List Int)}{c d:List Nat}{a:List Bool}{cs:List (List Nat)}{vs va:Value}{vals:List Value}(h:VS D B W vp b nx c d a cs vs va vals)(hl:a.length=D.n){j:Nat}(hj:j<D.n):
  W.cell? ⟨D.ob,j,none⟩=some (.bool (a.getD j false))/\W.frozen? ⟨D.ob,j,none⟩=false:=by
 have k:=h.oo;unfold OB at k;rw[hl]at k;refine⟨?_,World.ownsRow.frozenAt k j⟩;rw[World.ownsRow.cellAt k j (by omega),Ae _ _ _ (show j<a.length by omega)];simp[show j<a.length by omega]
theorem VS.fresh{D:Va}{B:Nat}{W W9:World}{vp:Value}{a:List Int}{nx:List (List Int)}{c d:List Nat}{b:List Bool}{cs:List (List Nat)}{vs va u:Value}{vals:List Value}{l:List Int}(h:VS D B W vp a nx c d b cs vs va vals)
  (hO:OI W9 W.heap.size u l) (hl:l.length<=100000) (hi:∀x∈l,I64 x):∀W',Af (EE D vs va W9.heap.size) W9 W'->Ah W' u l:=fun W' hW=>by
 refine(hO.only hW fun k hk hh=> ?_).is (by unfold Bg;omega) hi;have h1:=hO.ge k hk;have h2:=hO.lt' k hk;have h3:=h.lt;have h4:=h.hB
 rcases hh with e|e|e|e|e|e|e
 ·omega
 ·omega
 ·omega
 ·omega
 ·have:=(h.sge k e).2;omega
 ·have:=(h.age k e).2;omega
 ·omega
def EP(part:Nat->Prop)(nx:List (List Int))(x y:Nat):Prop:=part x/\part y/\(y:Int)∈nx.getD x []
structure GX(n:Nat)(nx:List (List Int))(part:Nat->Prop):Prop where
 n3:n<=3000
 rg:∀v,v<n->∀x∈nx.getD v [],0<=x/\x<n
 pn:∀v,part v->v<n
structure VMv(D:Va)(w:World)(vs va:Value)(W:World)(vs' va':Value):Prop where
 ho:Af (EE D vs va w.heap.size) w W
 hs:∀k,vs'.ownBlock=some k->vs.ownBlock=some k\/w.heap.size<=k
 ha:∀k,va'.ownBlock=some k->va.ownBlock=some k\/w.heap.size<=k
theorem VMv.refl(D:Va)(w:World)(vs va:Value):VMv D w vs va w vs va:=⟨Af.refl _ _,fun _=>.inl,fun _=>.inl⟩
theorem VMv.trans{D:Va}{w W W2:World}{vs va c a d b:Value}(h:VMv D w vs va W c a)(k:VMv D W c a W2 d b):VMv D w vs va W2 d b:=
 ⟨VS.hot h.ho h.hs h.ha k.ho,fun q hq=>(k.hs q hq).elim (h.hs q) fun e=>.inr (Nat.le_trans h.ho.size e),fun q hq=>(k.ha q hq).elim (h.ha q) fun e=>.inr (Nat.le_trans h.ho.size e)⟩
theorem VMv.of{D:Va}{w W:World}{vs va:Value}(h:Af (EE D vs va w.heap.size) w W):VMv D w vs va W vs va:=⟨h,fun _=>.inl,fun _=>.inl⟩
def T4(D:Va)(B:Nat)(w:World)(vp:Value)(prio:List Int)(nx:List (List Int))(part:Nat->Prop)(t:Tj)(vs va:Value)(v:Nat)(G:List Nat)(e:Ending)(w':World):Prop:=
 ∃(lw:Nat)(t':Tj)(ord' stk':List Nat)(opn':List Bool)(cs':List (List Nat))(vs' va':Value)(vals':List Value),e=.returned (.int .i64 (lw:Int))/\t'.low v=lw+1/\cs'.length+stk'.length<=ord'.length/\VS D B w' vp prio nx ord' stk' opn' cs' vs' va' vals'/\
  Rep D.n part t' ord' stk' opn' cs'/\H9 (EP part nx) t t' v G/\VMv D w vs va w' vs' va'
theorem H9.low_le{E:Nat->Nat->Prop}{t t':Tj}{s:Nat}{G:List Nat}(h:H9 E t t' s G):t'.low s<=t.cnt+1:=by
 rw[<-h.nw]
 by_cases hp:t'.prt s=0
 ·exact(h.po.inv.lw s ((h.po.inv.st s).2 ⟨h.po.nz,hp⟩)).1
 ·exact Nat.le_of_eq (h.lo hp)
theorem OI.dropI{w:World}{B g a:Nat}{l:List Int}(h:OI w B (.slice (some ⟨g,0,none⟩) l.length a) l)(hi:∀x∈l,I64 x)(hn:l.length<=Bg){k:Nat}(hk:k<l.length):
  Ah w (.slice (some ⟨g,k,none⟩) (l.length-k) (a-k)) (l.drop k)/\l.length<=a/\a<=maxLen:=by
 obtain⟨⟨ao,cp,b,c,hv,ha⟩,hr⟩:=h.is hn hi
 injection hv with h1 h2 h3
 subst h1 h3;have e:=ha.ad (by omega)
 injection e with e
 injection e with e1 e2
 subst e1 e2;have:=Ah.drop ha hr k hk;rw[Nat.zero_add]at this;exact⟨this,ha.lc,ha.cm⟩
def RV1(mb ol sl:Nat)(aS:Option Addr)(cS:Nat)(ix:Nat)(u:Value)(_:World):Prop:=
 match ix with
 |0=>u=.map (some mb)
 |1|4=>u=.int .i64 (ol:Int)
 |2=>u=.slice aS sl cS
 |3|5=>u=.int .i64 (sl:Int)
 | _=>True
theorem SC(B:Nat)(D:Va)(vp:Value)(ai:List Int)(nx:List (List Int))(f:Nat->Prop)(hx:GX D.n nx f)(m:Nat):∀(w:World)(t:Tj)(z a:List Nat)(cr:List Bool)(cs:List (List Nat))(vs va:Value)(vals:List Value)(G:List Nat)(v:Nat),
  D.n-z.length<m->cs.length+a.length<=z.length->VS D B w vp ai nx z a cr cs vs va vals->Rep D.n f t z a cr cs->EI (EP f nx) t G->v∉z->f v->(∀g∈G,Rch (EP f nx) g v)->
  Calls Tryz.prog 131 #[.int .i64 (v:Int),.pointer (some ⟨D.zo,0,none⟩),.pointer (some ⟨D.zs,0,none⟩),.pointer (some ⟨D.zr,0,none⟩),.pointer (some ⟨D.zv,0,none⟩),.pointer (some ⟨D.za,0,none⟩)] w (T4 D B w vp ai nx f t vs va v G):=by
 induction m with
 |zero=>intro _ _ _ _ _ _ _ _ _ _ _ h;exact absurd h (by omega)
 |succ m ih=>
 intro w t z a cr cs vs va vals G v hm dd hS hR hT hv hp hG;have d8:=Ab ih;have HX:=Ab hx;have a3:=hx.pn v hp;have fe:=hx.n3;have ek:=hR.room hx.pn hv hp;have eb:=Ab hp;have ea:=Ab hv;have d4:=Ab dd;have c2:Hid (t.stk=a):=hR.sk;have a4:Hid (t.cnt=z.length):=hR.cnt;have b9:=Ab (hS.below (Below.drew Ad));have cw:Hid (Ds (EP f nx) t (t.openV v) v G (fun _=>False)):=Ds.start hT (by rw[hR.num v,if_neg hv]) hG;have c1:=Ab (hR.openV hv hp);have e7:=Ab hT;have fd:=hm;obtain⟨aS,cS,dz⟩:=hS.os.slice;rw[AT]at dz;subst dz;have cn:=hS.now
 have cf:Hid (∀W,Below w.drew.heap.size w.drew W->W.cell? ⟨D.zo,0,none⟩=some (.map (some D.mb))):=fun W hW=>Ag hW (Aa 0 cn.o)
 have c3:Hid (∀W,Below w.drew.heap.size w.drew W->W.cell? ⟨D.zs,0,none⟩=some (.slice aS a.length cS)):=fun W hW=>Ag hW (Aa 0 hS.bs)
 have cv:Hid (∀W,Below w.drew.heap.size w.drew W->(Builtin.len_ #[134] 3 #[.map (some D.mb)]).run Tryz.prog W=.ok (.int .i64 (z.length:Int)) W):=fun W hW=>by
  have:=(b9.out.num.kept (AW hW) (by simp)).len 3;rw[AT]at this;exact this
 have dx:I64 (v:Int):=by unfold I64;omega
 have ex:a.length<=3000:=by
  have h1:=Gq hT.nd fun u hu=>hx.pn u (hR.op u ((hR.in_ord).1 ((hT.st u).1 hu).1))
  rw[hR.sk]at h1;omega
 clear ih hx hp dd hS hR hT hv hG cn
 go_enter Tryz.func131,Tryz.ntmps131
 go_upto_region 1 with(fail)
 have eh:Tryz.prog.follows .mixedOrders=true:=by kernel_rfl
 refine Be eh (RV1 D.mb z.length a.length aS cS) (fun vs=>{tmps:=(_::_::_::_::_::_::_::_::vs 4::vs 5::_::_::_::_::_::_::_::vs 0::vs 1::vs 2::vs 3::_::_::_::_::_::_::_::_::_::_::_::_::_::_::_::_::_::_::_::_::_::_::_::_::_::_::_::_::_::_::_::_::_::_::_::_::_::_::_::_::_::_::_::_::_::_::_::_::_::_::_::_::_::_::_::_::_::_::_::_::_::_::_::_::_::_::_::_::_::_::_::_::[]).toArray,defers:=_}) (fun _=>undef) rfl (by kernel_rfl) (fun _ _ _ _ h _=>h) ?step ?fin
 case step=>
  intro ix o ho
  match ix,ho with
  |0,ho=>
   obtain rfl:=osI ho;intro vs W K hB hD hK;have HK:=Ab hK;have d0:=cf.out W hB;clear hK hD ho;dsimp only;go_simp;have h:=HK.out _ _ Ad rfl;simp only[upd,Nat.reduceEqDiff,reduceIte]at h;exact h
  |1,ho=>
   obtain rfl:=osI ho;intro vs W K hB hD hK;have HK:=Ab hK;have e0:vs 0=.map (some D.mb):=Ac hD 0 rfl;have es:=cv.out W hB;clear hK hD ho;dsimp only;go_simp;have h:=HK.out _ _ Ad rfl;simp only[upd,Nat.reduceEqDiff,reduceIte,e0]at h;exact h
  |2,ho=>
   obtain rfl:=osI ho;intro vs W K hB hD hK;have HK:=Ab hK;have d1:=c3.out W hB;clear hK hD ho;dsimp only;go_simp;have h:=HK.out _ _ Ad rfl;simp only[upd,Nat.reduceEqDiff,reduceIte]at h;exact h
  |3,ho|4,ho|5,ho=>
   obtain rfl:=osI ho;intro vs W K hB hD hK;have HK:=Ab hK
   try have e1:vs 1=.int .i64 (z.length:Int):=Ac hD 1 rfl
   try have e2:vs 2=.slice aS a.length cS:=Ac hD 2 rfl
   try have e3:vs 3=.int .i64 (a.length:Int):=Ac hD 3 rfl
   clear hK hD ho;dsimp only;go_simp;have h:=HK.out _ _ Ad rfl;simp only[upd,Nat.reduceEqDiff,reduceIte, *]at h;exact h
  |q+6,ho=>exact absurd ho (by simp)
 case fin=>
  intro vs W hB bd;have e4:vs 4=.int .i64 (z.length:Int):=bd 4 (by decide);have e5:vs 5=.int .i64 (a.length:Int):=bd 5 (by decide);clear bd;rw[e4,e5];clear e4 e5;generalize vs 0=fl at*;generalize vs 1=fm at*;generalize vs 2=fo at*;generalize vs 3=fp at*;have HW:=Ab (b9.out.below hB);have bp:Hid (VMv D w (.slice aS a.length cS) va W (.slice aS a.length cS) va):=VMv.of (Af.of_below ((Below.drew Ad).trans hB));have d0:=cf.out W hB;obtain⟨w3,du,cm,dj⟩:=HW.out.num.upd dx (by rw[Hn];exact ea.out) (by rw[AT];omega);rw[AT]at du;rw[<-JI,<-Hm]at cm;obtain⟨bc,c6⟩:=HW.out.number cm dj;have ca:=Ab bc;have bq:=Ab (bp.out.trans (VMv.of c6));have d1:=Aa 0 bc.bs;have c4:=bc.hB;have c7:=bc.os;clear b9 cf c3 cv hB HW bp cm dj bc c6;generalize hrow:nx.getD v []=row at*;have ah:=Ab hrow;clear hrow;obtain⟨aR,cR,ci⟩:=(ca.out.now.g.2.2 v a3).2.shape;rw[ah.out]at ci;have cd:=Ab ci;clear ci
  go_wp2_with (at_builtin;refine C8 rfl _ _ (v:Int) rfl B _ _ c7 rfl _ (by simp) rfl (by rw[AT];omega) c4 ?_;intro v' w' au hg cl;obtain⟨bi,ax,dv⟩:=au.slice;rw[List.length_append,List.length_singleton,AT]at dv;subst dv;have HP:=Ab (ca.out.push au hg cl);have cx:=Ab cl;have k2:=Aa 0 HP.out.2.2;have f2:=At 0 HP.out.2.2;have q1:=Aa 0 HP.out.1.now.r;have q2:=Aa 1 HP.out.1.now.g.1;have q3:=(HP.out.1.now.g.2.2 v a3).1;rw[cd.out]at q3;clear au hg cl d0 d1 du c7 c4)
  have bg:=Ab HP.out.1;have br:Hid (VMv D w (.slice aS a.length cS) va (w'.setCell ⟨D.zs,0,none⟩ (.slice bi (a.length+1) ax)) (.slice bi (a.length+1) ax) va):=bq.out.trans ⟨HP.out.2.1,cx.out,fun _=>.inl⟩;clear k2 f2 q1 q2 q3 HP cx ca bq;generalize w'.setCell ⟨D.zs,0,none⟩ (.slice bi (a.length+1) ax)=w5 at*;generalize Value.slice bi (a.length+1) ax=fi at*
  have cu:Hid ((t.openV v).low v=z.length+1):=by
   show upN _ _ _ _=_;rw[CF,a4.out]
  have ej:=((bg.out.now.g.2.2 v a3).2).1
  have ej:row.length<=140737488351232:=by
   have:=(bg.out.now.g.2.2 v a3).2;rw[ah.out,cd.out]at this;obtain⟨_,_,_,h,_⟩:=this.dat;exact h
  have bo:Hid (cs.length+(a++[v]).length<=(z++[v]).length):=by
   show _<=_;have:=d4.out;simp only[List.length_append,List.length_singleton];omega
  go_loopg [10,37] row.length (fun gh vl i wr=>∃(k lw:Nat)(t1:Tj)(l d:List Nat)(ab:List Bool)(aa:List (List Nat))(bn bm:Value)(af:List Value),gh=row.length-k/\i=.int .i64 k/\vl=.int .i64 (lw:Int)/\k<=row.length/\Hid (t1.low v=lw+1)/\Hid (aa.length+d.length<=l.length)/\
   Hid (VS D B wr vp ai nx l d ab aa bn bm af)/\Hid (Rep D.n f t1 l d ab aa)/\Hid (Ds (EP f nx) t t1 v G (fun x=>f x/\(x:Int)∈row.take k))/\Hid (VMv D w (.slice aS a.length cS) va wr bn bm))
  case atStart=>exact⟨0,z.length,t.openV v,_,_,_,_,_,_,_,rfl,rfl,rfl,by omega,cu,bo,bg,c1,cw.out.more fun u hu=>absurd hu.2 (by simp),br⟩
  case round=>
   clear bg br cu c1 cw bo;obtain⟨k,lw,t1,l,d,ab,aa,bn,bm,af,di,rfl,rfl,hk,HL,ag,y,p,ac,aq⟩:=hrel;have b2:=Ab di;clear di;have cn:=y.out.now;have q1:=Aa 0 cn.r;have q2:=Aa 2 cn.g.1;have bk:=(cn.g.2.2 v a3).2;rw[ah.out,cd.out]at bk
   have ew:lw<=3000:=by
    have h1:=ac.out.low_le;have h2:=ac.out.nw;have h3:=HL.out;have h4:=a4.out;omega
   by_cases hlt:k<row.length
   ·obtain⟨bR,oR,dc,-,bj⟩:=bk.dat;obtain rfl:=dc (by omega);have eu:=bj k hlt
    have be:row.getD k 0∈row:=by rw[Ae _ _ _ hlt];exact List.getElem_mem hlt
    obtain⟨u0,u1⟩:=HX.out.rg v a3 (row.getD k 0) (by rw[ah.out];exact be)
    have cc:Hid (row.take (k+1)=row.take k++[row.getD k 0]):=by show _=_;rw[List.take_succ_eq_append_getElem hlt,Ae _ _ _ hlt]
    have cy:=Ab be;clear dc bj bk be;generalize row.getD k 0=ui at*;obtain⟨u,rfl⟩:=Int.eq_ofNat_of_zero_le u0
    have bl:u<D.n:=by omega
    obtain⟨o1,o2⟩:=y.out.oc p.out.on bl
    have aj:Hid (∀x,(f x/\(x:Int)∈row.take (k+1))↔(f x/\(x:Int)∈row.take k)\/(f x/\x=u)):=fun x=>by
     rw[cc.out,List.mem_append,List.mem_singleton]
     constructor
     ·rintro⟨h1,h2|h2⟩
      ·exact .inl ⟨h1,h2⟩
      ·exact .inr ⟨h1,by omega⟩
     ·rintro(⟨h1,h2⟩|⟨h1,rfl⟩)
      ·exact⟨h1,.inl h2⟩
      ·exact⟨h1,.inr rfl⟩
    have dq:=p.out.oi u bl;have b5:=Ab dq;clear dq cn
    cases hq:ab.getD u false
    ·have a5:Hid (Ds (EP f nx) t t1 v G (fun x=>f x/\(x:Int)∈row.take (k+1))):=by
      by_cases hpu:f u
      ·have ei:t1.prt u≠0:=fun e=>by
        have:=b5.out.2 ⟨hpu,e⟩;rw[hq]at this;cases this
       exact(ac.out.skip ei).more fun x hx=>((aj.out x).1 hx).imp id fun h=>h.2
      ·exact ac.out.more fun x hx=>((aj.out x).1 hx).elim id fun h=>absurd (h.2▸h.1) hpu
     rw[hq]at o1;clear hq;go_wp2
     go_roundg (row.length-(k+1))
     case measure=>have:=b2.out;omega
     case rel=>exact⟨k+1,lw,t1,_,_,_,_,_,_,_,rfl,by go_num,rfl,by omega,HL,ag,y,p,a5,aq⟩
    ·have b7:=Ab (b5.out.1 hq);have HE:Hid (EP f nx v u):=⟨eb.out,b7.out.1,by rw[ah.out];exact cy.out⟩;rw[hq]at o1;clear hq b5;have ep:=Aa 0 y.out.now.o
     have dt:I64 (u:Int):=by unfold I64;omega
     have ay:=y.out.num.num.get dt
     by_cases hin:u∈l
     ·have dp:=ay.1 (Hn.2 hin);rw[Ov]at dp;have ds:u∈t1.stk:=(ac.out.mi.inv.st u).2 ⟨p.out.in_ord.2 hin,b7.out.2⟩
      have a5:Hid (Ds (EP f nx) t (t1.lowerN v u) v G (fun x=>f x/\(x:Int)∈row.take (k+1))):=
       (ac.out.lowN ds HE.out).more fun x hx=>((aj.out x).1 hx).imp id fun h=>h.2
      have b4:Hid ((t1.lowerN v u).low v=min lw (l.idxOf u)+1):=by
       show upN _ _ _ _=_;rw[CF,HL.out,p.out.at hin];omega
      have er:l.idxOf u<l.length:=List.idxOf_lt_length_of_mem hin;have co:=p.out.len HX.out.pn;clear ay hin ds;generalize l.idxOf u=ix at*;go_wp2
      all_goals
       go_roundg (row.length-(k+1))
       case measure=>have:=b2.out;omega
       case rel=>exact⟨k+1,min lw ix,_,_,_,_,_,_,_,_,rfl,by go_num,by congr 1;omega,by omega,b4,ag,y,p.out.setLow _,a5,aq⟩
     ·obtain⟨c,dp⟩:=ay.2 fun h=>hin (Hn.1 h)
      have co:D.n-l.length<m:=by
       have h1:=ac.out.cn;have h2:=p.out.cnt;have h3:=a4.out;have h4:=p.out.len HX.out.pn;omega
      have z4:=Aa 0 y.out.now.v;unfold Va.fn at z4;have d9:=Ab hin;clear ay hin
      go_wp2_with fail
      refine(d8.out wr t1 l d ab aa bn bm af (G++[v]) u co ag.out y.out p.out ac.out.mi.inv d9.out b7.out.1 (ac.out.mi.pre HE.out)).mono ?_;rintro e w7 ⟨cq,t2,ez,e6,ae,e8,fh,av,an,rfl,dl,bw,da,c8,ch,db⟩;have ct:=Ab bw;obtain⟨t3,c5,⟨f3,df⟩,dm⟩:=ac.out.visit HE.out ch;have ec:=Ab da;have b8:=Ab (df▸c8.setLow f3)
      have a5:Hid (Ds (EP f nx) t t3 v G (fun x=>f x/\(x:Int)∈row.take (k+1))):=c5.more fun x hx=>((aj.out x).1 hx).imp id fun h=>h.2
      have b4:Hid (t3.low v=min lw cq+1):=by
       show _=_;rw[dm,HL.out,dl];omega
      have ev:cq<=3000:=by
       have h1:=ch.low_le;have h2:=p.out.cnt;have h4:=p.out.len HX.out.pn;omega
      have cz:=Ab (aq.out.trans db);clear dl bw da c8 ch db c5 df dm ep z4 q1 q2 o1 o2 eu y p ac aq;go_wp2
      all_goals
       go_roundg (row.length-(k+1))
       case measure=>have:=b2.out;omega
       case rel=>exact⟨k+1,min lw cq,_,_,_,_,_,_,_,_,rfl,by go_num,by congr 1;omega,by omega,b4,ct,ec,b8,a5,cz⟩
   ·obtain rfl:k=row.length:=by omega
    have ak:Hid (Ds (EP f nx) t t1 v G (fun x=>EP f nx v x)):=ac.out.more fun x hx=>⟨hx.2.1,by rw[List.take_length];have:=hx.2.2;rw[ah.out]at this;exact this⟩
    have co:=p.out.len HX.out.pn
    by_cases hle:lw=z.length
    ·have d6:=Ab hle
     have dn:((lw:Int)==(z.length:Int))=true:=by rw[QO];simp[hle]
     obtain⟨r,hr⟩:=ak.out.mi.sk
     have a0:d=a++v::r:=by rw[<-p.out.sk,hr,c2.out]
     have bb:=Ab a0
     have dk:d.length=a.length+(r.length+1):=by rw[a0];simp
     have em:d.length<=3000:=by
      have h1:=Gq ak.out.mi.inv.nd fun u hu=>HX.out.pn u (p.out.op u ((p.out.in_ord).1 ((ak.out.mi.inv.st u).1 hu).1))
      rw[p.out.sk]at h1;omega
     have bh:Hid (∀x∈d,x<D.n):=fun x hx=>HX.out.pn x (p.out.op x ((p.out.in_ord).1 ((ak.out.mi.inv.st x).1 (by rw[p.out.sk];exact hx)).1))
     have de:AY (v::r)=(AY d).drop a.length:=by rw[<-IS,a0,List.drop_left]
     have b1:=Ab de;clear hr a0 de;obtain⟨gS,s,bz,-,-⟩:=y.out.os.row (by rw[AT];omega);rw[AT]at bz;subst bz;have ap:=y.out.os;rw[<-AT]at ap;obtain⟨am,ck,eg⟩:=ap.dropI (FK bh.out (by omega)) (by rw[AT];unfold Bg;omega) (k:=a.length) (by rw[AT];omega);rw[AT]at am ck;rw[<-b1.out]at am;have d7:=Ab am
     have fa:(a.length:Int)<=d.length:=by omega
     have fb:¬s=a.length:=by omega
     have fc:a.length<=s:=by omega
     obtain⟨aA,cA,dy⟩:=AG y.out.oa;subst dy
     have e9:aa.length<=3000:=by have:=ag.out;omega
     have z2:=Aa 0 y.out.bs;have z5:=Aa 0 y.out.ba;have eo:D.za<wr.heap.size:=(Array.getElem?_eq_some_iff.1 y.out.ba).1;have b0:Hid ((AY (v::r)).length<=100000/\∀x∈AY (v::r),I64 x):=⟨by rw[AT];simp;omega,by rw[b1.out,<-IS];exact FK (fun x hx=>bh.out x (List.mem_of_mem_drop hx)) (by omega)⟩;have b3:=Ab dk
     have et:a.length<d.length:=by omega
     clear am ap hle q1 q2 bk cn dk
     go_upto_region 15 with(fail)
     obtain⟨w8,rfl⟩:∃w8:World,w8=wr:=⟨_,rfl⟩;have cb:Hid (VS D B w8.drew vp ai nx l d ab aa (.slice (some ⟨gS,0,none⟩) d.length s) (.slice aA aa.length cA) af):=y.out.below (Below.drew Ad)
     go_cut [] (fun wx=>∃(av:Value)(an:List Value)(wz:World),wz=wx/\Hid (VS D B wz vp ai nx l d ab (aa++[v::r]) (.slice (some ⟨gS,0,none⟩) d.length s) av an)/\Hid (VMv D w8 (.slice (some ⟨gS,0,none⟩) d.length s) (.slice aA aa.length cA) wz (.slice (some ⟨gS,0,none⟩) d.length s) av))
     case first=>
      go_region_law (first|((rw[if_pos (by rfl)];refine Nn w9 _ _ (.slice a9 (AY (v::r)).length c9) (by rfl) B (.slice aA aa.length cA) _ af (by rfl) a8.out.oa (by rfl) rfl (by show aa.length<_;omega) a8.out.hB ?_;intro fg fj az dg bf;obtain⟨eq,ef,dw⟩:=AG az;subst dw;have aw:=Ab (a8.out.comp az dg bf ed.out);have k0:=Aa 0 aw.out.2.2;have f0:=At 0 aw.out.2.2))|((go_simp;go_at_call 132;refine(Rk _ _ (AY (v::r)) (d7.out.below (Below.drew Ad)) b0.out.1).mono ?_;rintro e w9 ⟨v9,rfl,cg,cj⟩;obtain⟨a9,c9,en⟩:=cg.slice;subst en;have a8:=Ab (cb.out.below cj);have fq:=Aa 0 a8.out.ba;have ey:D.za<w9.heap.size:=(Array.getElem?_eq_some_iff.1 a8.out.ba).1;have ed:Hid (∀W',Af (EE D (.slice (some ⟨gS,0,none⟩) d.length s) (.slice aA aa.length cA) w9.heap.size) w9 W'->Ah W' (.slice a9 (AY (v::r)).length c9) (AY (v::r))):=cb.out.fresh cg b0.out.1 b0.out.2;have d2:=Ab cj;clear cg cj)))
      all_goals
       go_wp2_with fail
       go_meet
       case rel=>exact⟨_,_,_,rfl,aw.out.1,(VMv.of (Af.of_below ((Below.drew Ad).trans d2.out))).trans ⟨aw.out.2.1,fun _=>.inl,bf⟩⟩
     case rest=>
      obtain⟨av,an,fk,rfl,a7,bv⟩:=hcut;clear z2 z5 eo cb y;have z2:=Aa 0 a7.out.bs;have a6:=Ab (aq.out.trans bv.out);clear aq bv;go_wp2;clear z2
      go_loopg [16,78] (d.length-a.length) (fun gh _ i wr=>∃(j:Nat)(ae:List Bool),gh=d.length-a.length-j/\i=.int .i64 j/\j<=d.length-a.length/\ae.length=D.n/\Hid (VS D B wr vp ai nx l d ae (aa++[v::r]) (.slice (some ⟨gS,0,none⟩) d.length s) av an)/\
       Hid (VMv D w (.slice aS a.length cS) va wr (.slice (some ⟨gS,0,none⟩) d.length s) av)/\Hid (∀x,x<D.n->(ae.getD x false=true↔ab.getD x false=true/\x∉(v::r).take j)))
      case atStart=>exact⟨0,ab,rfl,rfl,by omega,p.out.on,a7,a6,by intro x _;simp⟩
      case round=>
       clear a7 a6;obtain⟨j,ae,dh,rfl,hj,ar,al,ce,c0⟩:=hrel;have d5:=Ab dh;clear dh;have ap:=al.out.os;rw[<-AT]at ap;obtain⟨am,-,-⟩:=ap.dropI (FK bh.out (by omega)) (by rw[AT];unfold Bg;omega) (k:=a.length) (by rw[AT];omega);rw[AT,<-b1.out]at am
       by_cases hjl:j<d.length-a.length
       ·have a2:j<(v::r).length:=by have:=b3.out;simp;omega
        have bj:wr.cell? ⟨gS,a.length+j,none⟩=some (.int .i64 ((AY (v::r)).getD j 0)):=by
         obtain⟨⟨ao,cp,b,ff,hv,ha⟩,-⟩:=am
         injection hv with h1 h2 h3
         have e:=ha.ad (by omega);rw[<-h1]at e
         injection e with e
         injection e with e1 e2
         subst e1 e2;exact ha.el j (by rw[AT];exact a2)
        rw[D7 a2]at bj;have bl:(v::r).getD j 0<D.n:=bh.out _ (by rw[bb.out,Ae _ _ _ a2];exact List.mem_append_right _ (List.getElem_mem a2))
        have cc:Hid ((v::r).take (j+1)=(v::r).take j++[(v::r).getD j 0]):=by show _=_;rw[List.take_succ_eq_append_getElem a2,Ae _ _ _ a2]
        generalize(v::r).getD j 0=u at*;obtain⟨o1,o2⟩:=al.out.oc ar bl;have a1:=Ab (al.out.shut u false ar);have cn:=al.out.now;have q1:=Aa 0 cn.r;have q2:=Aa 2 cn.g.1;have b6:=Ab ar;clear am ap cn ar;go_wp2
        go_roundg (d.length-a.length-(j+1))
        case measure=>have:=d5.out;omega
        case rel=>
         refine⟨j+1,ae.set u false,rfl,by go_num,by omega,by rw[List.length_set];exact b6.out,a1.out.1,ce.out.trans (VMv.of a1.out.2),fun x hx=> ?_⟩;rw[cc.out,List.mem_append,List.mem_singleton]
         by_cases e:u=x
         ·subst e;rw[AA _ _ _ _ (by rw[b6.out];exact hx)];simp
         ·rw[AJ _ _ _ _ _ e,c0.out x hx];exact⟨fun h=>⟨h.1,fun k=>k.elim h.2 fun k=>e k.symm⟩,fun h=>⟨h.1,fun k=>h.2 (.inl k)⟩⟩
       ·obtain rfl:j=d.length-a.length:=by omega
        have dr:OI wr B (.slice (some ⟨gS,0,none⟩) a.length s) (AY (d.take a.length)):=by
         rw[MH];exact OI.cut al.out.os (by rw[AT];omega)
        have a1:=Ab (al.out.pop dr rfl);have z2:=Aa 0 al.out.bs;have f2:=At 0 al.out.bs
        have bx:d.take a.length=a:=by rw[bb.out,List.take_left]
        have b8:Hid (Rep D.n f (t1.pop t v) l a ae (aa++[v::r])):=by
         refine Rep.pop (bb.out▸p.out) ak.out.mi.inv c2.out ar fun x hx=> ?_
         rw[c0.out x hx,List.take_of_length_le (by have:=b3.out;simp;omega)]
        have HP:Hid (H9 (EP f nx) t (t1.pop t v) v G):=ak.out.close (fun _ h=>h) (by rw[HL.out,ak.out.nw,a4.out,d6.out]);have ee:Hid (VMv D w (.slice aS a.length cS) va (wr.setCell ⟨D.zs,0,none⟩ (.slice (some ⟨gS,0,none⟩) a.length s)) (.slice (some ⟨gS,0,none⟩) a.length s) av):=ce.out.trans ⟨a1.out.2,fun _=>.inl,fun _=>.inl⟩;have bu:=Ab a1.out.1;rw[bx]at bu
        have d3:Hid ((aa++[v::r]).length+a.length<=l.length):=by
         show _<=_;have h1:=ag.out;have h2:=b3.out;simp only[List.length_append,List.length_singleton];omega
        have b6:=Ab ar;clear dr a1 bx am ap ar al ce;go_wp2;go_ret;exact⟨lw,t1.pop t v,_,_,_,_,_,_,_,rfl,HL.out,d3.out,bu.out,b8.out,HP.out,ee.out⟩
    ·have dn:((lw:Int)==(z.length:Int))=false:=by rw[QO];simp[hle]
     have HP:Hid (H9 (EP f nx) t t1 v G):=ak.out.leave (fun _ h=>h) (by rw[HL.out,ak.out.nw,a4.out];omega);clear hle;go_wp2;go_ret;exact⟨lw,t1,_,_,_,_,_,_,_,rfl,HL.out,ag.out,y.out,p.out,HP.out,aq.out⟩
end Go.Proofs.YtncjeamdkjcebaaGreatDoor
