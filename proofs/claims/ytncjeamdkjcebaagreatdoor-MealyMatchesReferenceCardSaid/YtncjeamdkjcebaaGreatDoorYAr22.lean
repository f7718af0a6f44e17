/- The reference's number. -/
import Derived.Test.YtncjeamdkjcebaaGreatDoorYAr15
import Derived.Test.YtncjeamdkjcebaaGreatDoorYMyB3
set_option linter.all false
set_option maxHeartbeats 8000000
set_option maxRecDepth 100000
namespace Go.Proofs.YtncjeamdkjcebaaGreatDoor
open Go.RowKit
theorem Lv{a b c:World}{r:Option Nat}(h:a.grownBy b r)(k:b.grownBy c r):a.grownBy c r:=
 ⟨k.os.trans h.os,k.tape.trans h.tape,k.output.trans h.output,Nat.le_trans h.size k.size,fun i hi hr=>(k.block i (Nat.lt_of_lt_of_le hi h.size) hr).trans (h.block i hi hr)⟩
theorem Cx.dat{w:World}{g:Gm}{N:Nat}{a0 a1 a2:Option Addr}{n0 n1 n2 k0 k1 k2:Nat}(h:Cx w (.agg #[.slice a0 n0 k0,.slice a1 n1 k1,.slice a2 n2 k2]) g)(l0:g.owner.length=N)(l1:g.prio.length=N)(l2:g.succ.length=N):
  N=n0/\N=n1/\N=n2/\∃b0 o0 b1 o1 b2 o2,∃V:Nat->Value,(0<N->a0=some ⟨b0,o0,none⟩/\a1=some ⟨b1,o1,none⟩/\a2=some ⟨b2,o2,none⟩)/\
   ∀j,j<N->w.cell? ⟨b0,o0+j,none⟩=some (.int .i64 (g.owner.getD j 0))/\w.cell? ⟨b1,o1+j,none⟩=some (.int .i64 (g.prio.getD j 0))/\w.cell? ⟨b2,o2+j,none⟩=some (V j)/\Ah w (V j) (g.succ.getD j []):=by
 obtain⟨v0,v1,v2,hv,⟨⟨i,d,b0,a,rfl,g0⟩,_⟩,⟨⟨k,e,b1,b,rfl,g1⟩,_⟩,⟨V,⟨l,f,b2,c,rfl,g2⟩,hr⟩⟩:=h
 injection hv with hv
 injection hv with hv
 simp only[List.cons.injEq,Value.slice.injEq,and_true]at hv;obtain⟨⟨rfl,rfl,rfl⟩,⟨rfl,rfl,rfl⟩,rfl,rfl,rfl⟩:=hv;exact⟨l0.symm,l1.symm,l2.symm,b0,a,b1,b,b2,c,V,fun hN=>⟨g0.ad (by omega),g1.ad (by omega),g2.ad (by omega)⟩,fun j hj=>⟨g0.el j (by omega),g1.el j (by omega),g2.el j (by omega),hr j (by omega)⟩⟩
theorem Ah.shp{w:World}{v:Value}{l:List Int}(h:Ah w v l):∃a c,v=.slice a l.length c:=by
 obtain⟨⟨a,c,b,o,rfl,-⟩,-⟩:=h;exact⟨a,c,rfl⟩
theorem Ah.dat{w:World}{a:Option Addr}{n c:Nat}{l:List Int}(h:Ah w (.slice a n c) l):∃b o,(0<n->a=some ⟨b,o,none⟩)/\n<=140737488351232/\∀j,j<n->w.cell? ⟨b,o+j,none⟩=some (.int .i64 (l.getD j 0)):=by
 obtain⟨⟨a',c',b,o,hv,ha⟩,-⟩:=h
 injection hv with h1 h2 h3
 subst h1 h2 h3;exact⟨b,o,fun h=>ha.ad h,ha.nb,fun j hj=>ha.el j hj⟩
theorem Cw.shp{w:World}{v:Value}{a:Au}(h:Cw w v a):∃p2 n2 k2 p3 n3 k3,v=.agg #[.int .i64 a.letters,.int .i64 a.start,.slice p2 n2 k2,.slice p3 n3 k3]:=by
 obtain⟨v2,v3,rfl,-,⟨V2,⟨a2,c2,b2,o2,rfl,-⟩,-⟩,⟨V3,⟨a3,c3,b3,o3,rfl,-⟩,-⟩⟩:=h;exact⟨_,_,_,_,_,_,rfl⟩
theorem CA.shp{w:World}{v:Value}{l:List UE}(h:CA w v l):∃ao a,v=.slice ao l.length a:=by
 obtain⟨ao,a,b,c,rfl,-⟩:=h;exact⟨ao,a,rfl⟩
theorem CA.dat{w:World}{a:Option Addr}{n c:Nat}{l:List UE}(h:CA w (.slice a n c) l):∃b o,(0<n->a=some ⟨b,o,none⟩)/\n<=140737488351232/\∀j,(hj:j<l.length)->w.cell? ⟨b,o+j*3,none⟩=some (.int .i64 l[j].st)/\w.cell? ⟨b,o+j*3+1,none⟩=some (.int .i64 l[j].inn)/\w.cell? ⟨b,o+j*3+2,none⟩=some (.int .i64 l[j].pr):=by
 obtain⟨a',c',b,o,hv,ha,-⟩:=h
 injection hv with h1 h2 h3
 subst h1 h2 h3;exact⟨b,o,fun h=>ha.ad h,by have:=ha.nm;unfold Bg at this;omega,fun j hj=>⟨ha.e0 j hj,ha.e1 j hj,ha.e2 j hj⟩⟩
end Go.Proofs.YtncjeamdkjcebaaGreatDoor
namespace Go.Proofs.YtncjeamdkjcebaaGreatDoor
def nxL(a:Au)(q x:Int):Int:=(a.next.getD q.toNat []).getD x.toNat 0
def prL(a:Au)(q x:Int):Int:=(a.prio.getD q.toNat []).getD x.toNat 0
def C5(a:Au)(s:Int×Int)(ls:List Int):Int×Int:=ls.foldl (fun s x=>(nxL a s.1 x,min s.2 (prL a s.1 x))) s
theorem M9(a:Au)(s:Int×Int)(ls:List Int)(x:Int):C5 a s (ls++[x])=(nxL a (C5 a s ls).1 x,min (C5 a s ls).2 (prL a (C5 a s ls).1 x)):=by simp[C5]
def stN(a:Au)(w:Ls):Nat->Int
 |0=>(C5 a (a.start,20000) w.stem).1
 |i+1=>(C5 a (stN a w i,20000) w.loop).1
def lsN(a:Au)(w:Ls)(i:Nat):Int:=(C5 a (stN a w i,20000) w.loop).2
def TV(f:Nat->Int)(j d:Nat)(v:Int):Prop:=(∃i,i<d/\f (j+i)=v)/\∀i,i<d->v<=f (j+i)
end Go.Proofs.YtncjeamdkjcebaaGreatDoor
namespace Go.Proofs.YtncjeamdkjcebaaGreatDoor
open Go.RowKit
def Nh(l:Ls):Bool:=decide (l.stem.length<=80)&&decide (l.loop.length<=80)
theorem Cn.shp{w:World}{v:Value}{l:Ls}(h:Cn w v l):∃a0 c0 a1 c1,v=.agg #[.slice a0 l.stem.length c0,.slice a1 l.loop.length c1]:=by
 obtain⟨v0,v1,rfl,⟨⟨a0,c0,-,-,rfl,-⟩,-⟩,⟨⟨a1,c1,-,-,rfl,-⟩,-⟩⟩:=h;exact⟨_,_,_,_,rfl⟩
theorem Cn.parts{w:World}{v0 v1:Value}{l:Ls}(h:Cn w (.agg #[v0,v1]) l):Ah w v0 l.stem/\Ah w v1 l.loop:=by
 obtain⟨u0,u1,e,h0,h1⟩:=h;simp only[Value.agg.injEq,Array.mk.injEq,List.cons.injEq,and_true]at e;obtain⟨rfl,rfl⟩:=e;exact⟨h0,h1⟩
theorem RC(w:World)(v:Value)(l:Ls)(hl:Cn w v l):Calls Tryz.prog 11 #[v] w (Av (.bool (Nh l)) w):=by
 obtain⟨a0,c0,a1,c1,rfl⟩:=hl.shp;have a:=(hl.parts.1).1;have b:=(hl.parts.2).1;obtain⟨_,_,_,_,c,h0⟩:=a;obtain⟨_,_,_,_,d,h1⟩:=b;have i:=h0.nb;have j:=h1.nb;clear c d h0 h1 hl;have HR:Hid (Nh l=(decide (l.stem.length<=80)&&decide (l.loop.length<=80))):=rfl;generalize l.stem.length=n0 at*;generalize l.loop.length=n1 at*
 go_enter Tryz.func11,Tryz.ntmps11
 go_upto_region 1 with(fail)
 obtain⟨hx,hB⟩:(w.alloc (.cells #[.slice a0 n0 c0,.slice a1 n1 c1] 30)).heap[w.heap.size]? =some (.cells #[.slice a0 n0 c0,.slice a1 n1 c1] 30 (0,0))/\Below w.heap.size w (w.alloc (.cells #[.slice a0 n0 c0,.slice a1 n1 c1] 30)):=⟨heap_alloc_new _ _,Ao _⟩;generalize w.alloc (.cells #[.slice a0 n0 c0,.slice a1 n1 c1] 30)=w1 at*;have d0:=Aa 0 hx;have d1:=Aa 1 hx
 by_cases h0:n0<=80
 ·have s0:decide (n0<=80)=true:=decide_eq_true h0;have e:decide ((n0:Int)<=80)=true:=decide_eq_true (by omega)
  by_cases h1:n1<=80
  ·have s1:decide (n1<=80)=true:=decide_eq_true h1;have f:decide ((n1:Int)<=80)=true:=decide_eq_true (by omega);rw[s0,s1]at HR;clear h0 h1 s0 s1;go_wp2;go_ret;exact⟨Ak (by rw[HR.out];rfl),hB⟩
  ·have s1:decide (n1<=80)=false:=decide_eq_false h1;have f:decide ((n1:Int)<=80)=false:=decide_eq_false (by omega);rw[s0,s1]at HR;clear h0 h1 s0 s1;go_wp2;go_ret;exact⟨Ak (by rw[HR.out];rfl),hB⟩
 ·have s0:decide (n0<=80)=false:=decide_eq_false h0;have e:decide ((n0:Int)<=80)=false:=decide_eq_false (by omega);rw[s0]at HR;clear h0 s0;go_wp2;go_ret;exact⟨Ak (by rw[HR.out];rfl),hB⟩
def Io(l:List Int)(k:Nat):Int:=(l.take k).foldl min (l.getD 0 0)
theorem LI{l:List Int}(h:0<l.length):Io l 1=l.getD 0 0:=by
 cases l with
 |nil=>simp at h
 |cons x l=>simp[Io,List.getD]
theorem JU{l:List Int}{k:Nat}(h:k<l.length):Io l (k+1)=min (Io l k) (l.getD k 0):=by
 unfold Io;rw[List.take_succ_eq_append_getElem h,List.foldl_append,Ae l 0 k h];rfl
theorem OH{l:List Int}(h:0<l.length):∀k,1<=k->k<=l.length->(∃i,i<k/\l.getD i 0=Io l k)/\∀i,i<k->Io l k<=l.getD i 0:=by
 intro k
 induction k with
 |zero=>intro h;omega
 |succ k ih=>
  intro h1 h2
  by_cases hk:k=0
  ·subst hk;rw[LI h];exact⟨⟨0,by omega,rfl⟩,fun i hi=>by rw[show i=0 by omega];exact Int.le_refl _⟩
  ·obtain⟨⟨i,hi,e⟩,h3⟩:=ih (by omega) (by omega);rw[JU (by omega)];refine⟨?_,fun j hj=> ?_⟩
   ·by_cases hc:Io l k<=l.getD k 0
    ·exact⟨i,by omega,by rw[e];omega⟩
    ·exact⟨k,by omega,by omega⟩
   ·by_cases hjk:j=k
    ·rw[hjk];omega
    ·have:=h3 j (by omega);omega
theorem TW(w:World)(v:Value)(l:List Int)(hl:Ah w v l)(h0:0<l.length):Calls Tryz.prog 92 #[v] w fun e w'=>e=.returned (.int .i64 (Io l l.length))/\w'=w:=by
 obtain⟨a,c,rfl⟩:=hl.shp;obtain⟨b,o,d,hn,hc⟩:=hl.dat;obtain rfl:=d h0;have HC:=Ab hc;have c0:=hc 0 h0;rw[Nat.add_zero]at c0;have hM:=LI h0;rw[<-hM]at c0;clear hl d hc hM;have s0:decide ((l.length:Int)<1)=false:=decide_eq_false (by omega)
 have n:(0:Int)<l.length:=by omega
 go_enter Tryz.func92,Tryz.ntmps92
 go_wp2
 go_loopg [3,4] (l.length-1) (fun gh m i wr=>∃k:Nat,gh=l.length-k/\i=.int .i64 k/\m=.int .i64 (Io l k)/\1<=k/\k<=l.length/\wr=w)
 case atStart=>exact⟨1,by omega,rfl,rfl,by omega,by omega,rfl⟩
 case round=>
  obtain⟨k,f,rfl,rfl,p,hk,rfl⟩:=hrel
  by_cases hlt:k<l.length
  ·have e1:=HC.out k hlt;have HE:=Ab (JU hlt);have j:=Ab f;clear c0 s0 n f;generalize Io l k=m at*;generalize l.getD k 0=x at*;go_wp2
   all_goals
    go_roundg (l.length-(k+1))
    case measure=>have:=j.out;omega
    case rel=>exact⟨k+1,rfl,by go_num,by rw[HE.out];congr 1;first|omega|(simp;omega),by omega,by omega,rfl⟩
  ·obtain rfl:k=l.length:=by omega
   go_wp2;go_ret;exact⟨rfl,rfl⟩
end Go.Proofs.YtncjeamdkjcebaaGreatDoor
namespace Go.Proofs.YtncjeamdkjcebaaGreatDoor
open Go.RowKit Go.Maps Go.WideMaps
theorem Lx{l e:List Int}{y:Int}(h:y∈l):(l++e).idxOf y=l.idxOf y:=by
 induction l with
 |nil=>cases h
 |cons z l ih=>
  rw[List.cons_append,List.idxOf_cons,List.idxOf_cons]
  by_cases e:z=y
  ·subst e;simp
  ·have hb:(z==y)=false:=by simpa using e
   rw[hb,ih ((List.mem_cons.1 h).resolve_left fun x=>e x.symm)]
theorem R3{l:List Int}{y:Int}(h:y∈l):l.idxOf y<l.length:=List.idxOf_lt_length_iff.2 h
theorem Lw{l:List Int}{y:Int}(h:y∉l):(l++[y]).idxOf y=l.length:=by
 induction l with
 |nil=>simp
 |cons z l ih=>
  have e:¬z=y:=fun x=>h (by rw[x];exact List.mem_cons_self)
  have hb:(z==y)=false:=by simpa using e
  rw[List.cons_append,List.idxOf_cons,hb,ih (fun x=>h (List.mem_cons_of_mem _ x))];simp
theorem Fx:Keyed Tryz.prog 3:=int_keyed Tryz.underlying3
theorem KE{q:Int}(h:I64 q):keyOf Tryz.prog 3 (.int .i64 q)=some (.int .i64 q):=keyOf_int_mk Tryz.underlying3 (EA h)
theorem GW{q:Int}(h:I64 q):Go.WideAt.IsKeyLit (.int .i64 q):=Keyed.key Fx (KE h)
def DA(w:World)(b:Nat)(l:List Int):Prop:=∃D:DataW Unit,w.ownsMap Tryz.prog 3 (plainElem Tryz.prog 3) b l.length D/\IsMap D/\
 (∀y,I64 y->Maps.has D (.int .i64 y)=decide (y∈l))/\∀y,I64 y->y∈l->D.atKey (.int .i64 y) (.lit (.int .i64 0))=.lit (.int .i64 (l.idxOf y))
theorem DA.kept{w w':World}{b:Nat}{l:List Int}{row:Option Nat}(h:DA w b l)(hg:w.grownBy w' row)(a:some b≠row):DA w' b l:=by
 obtain⟨D,h1,h2⟩:=h;exact⟨D,h1.kept hg a,h2⟩
theorem DA.lt{w:World}{b:Nat}{l:List Int}(h:DA w b l):b<w.heap.size:=by
 obtain⟨D,h1,-⟩:=h;exact h1.lt
theorem DA.below{w w':World}{b:Nat}{l:List Int}(h:DA w b l)(hb:Below w.heap.size w w'):DA w' b l:=h.kept (AW hb) (by simp)
theorem DA.made(w:World):DA (w.alloc (.map #[] 0)) w.heap.size []:=
 ⟨_,World.ownsMap_made w Tryz.prog 3 _,isMap_empty,fun y _=>by simp[Maps.has],fun y _ hy=>absurd hy (by simp)⟩
theorem DA.put{w':World}{b:Nat}{l:List Int}{y:Int}{D:DataW Unit}(hm:IsMap D)(hy:I64 y)(hn:y∉l)
  (h1:∀z,I64 z->Maps.has D (.int .i64 z)=decide (z∈l)) (h2:∀z,I64 z->z∈l->D.atKey (.int .i64 z) (.lit (.int .i64 0))=.lit (.int .i64 (l.idxOf z)))
  (h:w'.ownsMap Tryz.prog 3 (plainElem Tryz.prog 3) b (l.length+1) (D.put (.int .i64 y) (.lit (.int .i64 l.length)))):DA w' b (l++[y]):=by
 refine⟨_,by rw[List.length_append,List.length_singleton];exact h,hm.put _ _,fun z hz=> ?_,fun z hz hzl=> ?_⟩
 ·by_cases e:z=y
  ·subst e;rw[has_put_same hm (GW hz)];simp
  ·rw[has_put_other (fun k=>e (by injection k)),h1 z hz];simp[e]
 ·by_cases e:z=y
  ·subst e;rw[Lw hn,atKey_put_same hm (GW hz)]
  ·have a:z∈l:=by
    rcases List.mem_append.1 hzl with h|h
    ·exact h
    ·exact absurd (List.mem_singleton.1 h) e
   rw[atKey_put_other (fun k=>e (by injection k)),h2 z hz a,Lx a]
theorem DA.get{w:World}{b:Nat}{l:List Int}(h:DA w b l){y:Int}(hy:I64 y):
  (y∈l->(Instr.lookup 134 (.map (some b)) (.int .i64 y) true).run Tryz.prog w=.ok (.tuple #[.int .i64 (l.idxOf y:Int),.bool true]) w)/\
  (y∉l->∃c,(Instr.lookup 134 (.map (some b)) (.int .i64 y) true).run Tryz.prog w=.ok (.tuple #[.int .i64 c,.bool false]) w):=by
 obtain⟨D,h1,h2,h3,h4⟩:=h;obtain⟨v,ps,d,hv⟩:=h1.look_ok Fx Tryz.underlying134 (Hf w) (plainElem_int Tryz.underlying3 (q:=.i64) (a:=0) rfl) (KE hy);obtain⟨c,rfl,hc,e⟩:=plainElem_int_inv Tryz.underlying3 hv;rw[h3 y hy]at d;simp only[Prod.mk.injEq]at hc;refine⟨fun hm=> ?_,fun hm=>⟨c,by rw[d,decide_eq_false hm]⟩⟩;have h5:=h4 y hy hm;rw[hc.1]at h5;simp only[DataW.lit.injEq,Lit.int.injEq,true_and]at h5;rw[d,decide_eq_true hm,h5]
theorem DA.upd{w:World}{b:Nat}{l:List Int}(h:DA w b l){y:Int}(hy:I64 y)(hn:y∉l)(hl:l.length<=3000):
  ∃w',(Instr.mapUpdate 134 (.map (some b)) (.int .i64 y) (.int .i64 (l.length:Int))).run Tryz.prog w=.ok () w'/\DA w' b (l++[y])/\w.grownBy w' (some b):=by
 obtain⟨D,h1,h2,h3,h4⟩:=h;obtain⟨w',c,r1,r2⟩:=h1.update Fx Tryz.underlying134 (by simp only[maxLen];omega) (KE hy) (plainElem_int Tryz.underlying3 (q:=.i64) (a:=(l.length:Int)) (EA (by unfold I64;omega)));exact⟨w',c,DA.put h2 hy hn h3 h4 r1,r2⟩
theorem Iy{w:World}{z:Nat}{t:TypeId}{c d:Value}(h:w.heap[z]? =some (.cells #[c] t (0,0))):(w.setCell ⟨z,0,none⟩ d).heap[z]? =some (.cells #[d] t (0,0)):=by
 have:=heap_setCell_same w z 0 _ _ d h;simpa using this
theorem SO{a:Au}(hv:AC a=true){q x:Int}(h0:0<=q)(h1:q<a.next.length)(b:0<=x)(c:x<a.letters):0<=nxL a q x/\nxL a q x<a.next.length:=by
 obtain⟨h2,-,h3⟩:=Cy hv (s:=q.toNat) (by omega);exact h3 x.toNat (by omega)
theorem Ji{a:Au}(hv:AC a=true){q m:Int}(h0:0<=q)(h1:q<a.next.length):∀{ls:List Int},(∀x∈ls,0<=x/\x<a.letters)->0<=(C5 a (q,m) ls).1/\(C5 a (q,m) ls).1<a.next.length:=by
 intro ls
 induction ls generalizing q m with
 |nil=>intro _;exact⟨h0,h1⟩
 |cons x ls ih=>
  intro hl;have hx:=hl x List.mem_cons_self;have:=SO hv h0 h1 hx.1 hx.2
  exact ih this.1 this.2 fun y hy=>hl y (List.mem_cons_of_mem _ hy)
theorem TF(w0 w:World)(ao:Value)(ls:List Int)(a:Au)(zp zs n2 k2 n3 k3:Nat)(p2 p3:Option Addr)(q:Int)(hv:AC a=true)(hB:Below w0.heap.size w0 w)(hl:Ah w0 ao ls)(hx:w0.heap[zp]? =some (.cells #[.int .i64 a.letters,.int .i64 a.start,.slice p2 n2 k2,.slice p3 n3 k3] 63 (0,0)))
  (hN:Ar w0 (.slice p2 n2 k2) a.next) (hP:Ar w0 (.slice p3 n3 k3) a.prio) (hz:w0.heap.size<=zs) (hs:w.heap[zs]? =some (.cells #[.int .i64 q] 3 (0,0))) (h0:0<=q) (h1:q<a.next.length) (ac:∀x∈ls,0<=x/\x<a.letters):
  Calls Tryz.prog 91 #[ao,.pointer (some ⟨zp,0,none⟩),.pointer (some ⟨zs,0,none⟩)] w (fun e w'=>e=.returned (.int .i64 (C5 a (q,20000) ls).2)/\Below w0.heap.size w0 w'/\w.grownBy w' (some zs)/\w'.heap[zs]? =some (.cells #[.int .i64 (C5 a (q,20000) ls).1] 3 (0,0))):=by
 obtain⟨al,cl,rfl⟩:=hl.shp;obtain⟨lb,lo,z,aw,ab⟩:=hl.dat;obtain⟨V2,⟨a2,c2,b2,o2,ah,f2⟩,r2⟩:=hN;obtain⟨V3,⟨a3,c3,b3,o3,ai,f3⟩,r3⟩:=hP;simp only[Value.slice.injEq]at ah ai;obtain⟨rfl,rfl,rfl⟩:=ah;obtain⟨rfl,rfl,rfl⟩:=ai
 have a5:a.prio.length=a.next.length:=by
  have h:=hv;simp only[AC,Bool.and_eq_true,decide_eq_true_eq]at h;exact h.1.1.2
 obtain rfl:=f2.ad (by omega);obtain rfl:=f3.ad (by omega);have HC:=Ab ab;have ap:=Ab z;have ax:=hs;clear z ab hl
 go_enter Tryz.func91,Tryz.ntmps91
 go_wp2
 go_loopg [5,10] ls.length (fun gh m i wr=>∃k:Nat,gh=ls.length-k/\i=.int .i64 k/\m=.int .i64 (C5 a (q,20000) (ls.take k)).2/\k<=ls.length/\Below w0.heap.size w0 wr/\w.grownBy wr (some zs)/\wr.heap[zs]? =some (.cells #[.int .i64 (C5 a (q,20000) (ls.take k)).1] 3 (0,0)))
 case atStart=>exact⟨0,by omega,rfl,rfl,by omega,hB,E5 _ _,hs⟩
 case round=>
  obtain⟨k,aa,rfl,rfl,hk,b,r,f⟩:=hrel;have ar:=Ab aa;clear aa hs ax hB
  by_cases hlt:k<ls.length
  ·obtain rfl:=ap.out (by omega);have lc:=Ag b (HC.out k hlt)
   have an:ls.getD k 0∈ls:=by rw[Ae _ _ _ hlt];exact List.getElem_mem hlt
   obtain⟨x0,x1⟩:=ac _ an;obtain⟨x,l⟩:=Int.eq_ofNat_of_zero_le x0
   obtain⟨q0,q1⟩:=Ji hv h0 h1 (m:=20000) (ls:=ls.take k) fun y hy=>ac y (List.mem_of_mem_take hy)
   have c:=M9 a (q,20000) (ls.take k) (ls.getD k 0);rw[show ls.take k++[ls.getD k 0]=ls.take (k+1)by rw[List.take_succ_eq_append_getElem hlt,Ae _ _ _ hlt]]at c;have v:=Ab c;generalize C5 a (q,20000) (ls.take k)=s at*;obtain⟨sn,j⟩:=Int.eq_ofNat_of_zero_le q0
   have ae:nxL a s.1 (ls.getD k 0)=(a.next.getD sn []).getD x 0:=by unfold nxL;rw[j,l];rfl
   have af:prL a s.1 (ls.getD k 0)=(a.prio.getD sn []).getD x 0:=by unfold prL;rw[j,l];rfl
   have u:sn<a.next.length:=by omega
   have ag:=Cy hv u;have i2:=r2 sn u;have i3:=r3 sn (by omega);have e2:=Ag b (f2.el sn u);have e3:=Ag b (f3.el sn (by omega));obtain⟨ay,a0,n⟩:=i2.shp;obtain⟨az,a1,o⟩:=i3.shp;rw[n]at e2 i2;rw[o]at e3 i3;obtain⟨nb,no,na,-,nc⟩:=i2.dat;obtain⟨mb,mo,ma,-,mc⟩:=i3.dat
   have ak:x<(a.next.getD sn []).length:=by omega
   have am:x<(a.prio.getD sn []).length:=by omega
   obtain rfl:=na (by omega);obtain rfl:=ma (by omega);have n1:=Ag b (nc x ak);have n2:=Ag b (mc x am);rw[<-ae]at n1;rw[<-af]at n2;rw[l]at lc;have aj:=B8 b hx;have d2:=Aa 2 aj;have d3:=Aa 3 aj;have s1:=Aa 0 f;have s2:=At 0 f;have av:=Ab (Iy (d:=.int .i64 (nxL a s.1 (ls.getD k 0))) f);have aq:=Ab (b.setCell (p:=⟨zs,0,none⟩) hz (.int .i64 (nxL a s.1 (ls.getD k 0))));have au:=Ab (Lv r (CK wr zs 0 (.int .i64 (nxL a s.1 (ls.getD k 0)))))
   have a6:(sn:Int)<a.prio.length:=by omega
   rw[j]at s1;clear ag n o i2 i3 na ma nc mc ae af l j c x0 x1 an b r f q0 q1;generalize nxL a s.1 (ls.getD k 0)=nq at*;generalize prL a s.1 (ls.getD k 0)=np at*;generalize(a.next.getD sn []).length=L2 at*;generalize(a.prio.getD sn []).length=L3 at*;have a4:ls.length<=140737488351232:=aw;go_wp2
   all_goals
    go_roundg (ls.length-(k+1))
    case measure=>have:=ar.out;omega
    case rel=>exact⟨k+1,rfl,by go_num,by rw[v.out];congr 1;first|omega|(simp;omega),by omega,aq.out,au.out,by rw[v.out];exact av.out⟩
  ·obtain rfl:k=ls.length:=by omega
   rw[List.take_length]at f⊢;go_wp2;go_ret;exact⟨rfl,b,r,f⟩
def prC(y:Pr):Array Value:=#[.int .i64 (y.1:Int),.int .i64 (y.2:Int)]
def prV(y:Pr):Value:=.agg (prC y)
def WfQ(y:Pr):Prop:=y.1<100000/\y.2<100000
noncomputable def klQ (y:Pr):Lit:=(keyOf Tryz.prog 80 (prV y)).getD (.bool false)
theorem SR:80<Tryz.prog.types.size:=of_decide_eq_true (by kernel_rfl)
theorem TE:(match Tryz.prog.underlying 80 with|some (.array _ _)|some (.struct _)=>true| _=>false)=true:=by kernel_rfl
theorem UC:Tryz.prog.keyTypeAt 2 80=true:=by kernel_rfl
theorem Iz:Keyed Tryz.prog 80:=Keyed.of_law (deep_law_laid G2 (m:=2) (by omega) SR UC TE)
theorem TD:Tryz.prog.keyType 80=true:=by kernel_rfl
theorem N0:Tryz.prog.cellsOf 80=2:=by kernel_rfl
theorem LY(y:Pr)(h:WfQ y):keyOf Tryz.prog 80 (prV y)=some (klQ y):=by
 have hs:(keyOf Tryz.prog 80 (prV y)).isSome=true:=by
  obtain⟨a,b⟩:=y;obtain⟨ha,hb⟩:=h;have wa:=EA (a:=(a:Int)) (by unfold I64;simp only at ha;omega);have wb:=EA (a:=(b:Int)) (by unfold I64;simp only at hb;omega)
  have hf:(prV ⟨a,b⟩).formed Tryz.prog 80=true:=by simp[prV,prC,Value.formed,Tryz.underlying80,N0]
  obtain⟨m,hm⟩:∃m,Tryz.prog.types.size=m+1:=⟨Tryz.prog.types.size-1,by have:=SR;omega⟩;unfold keyOf;rw[TD,hf,hm];simp only[Tryz.underlying80,Bool.and_self,if_true,Option.isSome_map];simp[Program.keyLits,Tryz.underlying80,Tryz.underlying3,N0,LA,prV,prC,Value.cells,wa,wb,List.range_succ]
 obtain⟨k,hk⟩:=Option.isSome_iff_exists.1 hs;unfold klQ;rw[hk];rfl
theorem Ss{y z:Pr}(h:prV y=prV z):y=z:=by
 obtain⟨a,b⟩:=y;obtain⟨a',b'⟩:=z;simp only[prV,prC,Value.agg.injEq,Array.mk.injEq,List.cons.injEq,Value.int.injEq,true_and,and_true]at h;exact Prod.ext (by omega) (by omega)
theorem NR{y z:Pr}(hy:WfQ y)(hz:WfQ z)(h:klQ y=klQ z):y=z:=by
 have h1:=LY y hy;have h2:=LY z hz;rw[<-h]at h2;generalize klQ y=k at*;exact Ss (Keyed.inj Iz h1 h2)
theorem NS{y:Pr}(hy:WfQ y):∃k,klQ y=k/\Go.WideAt.IsKeyLit k:=by
 have h1:=LY y hy;generalize klQ y=k at*;exact⟨k,rfl,Keyed.key Iz h1⟩
theorem Qs{α:Type} [BEq α] [LawfulBEq α] {l e:List α}{y:α}(h:y∈l):(l++e).idxOf y=l.idxOf y:=by
 rw[List.idxOf_append,if_pos h]
theorem Qr{α:Type} [BEq α] [LawfulBEq α] {l:List α}{y:α}(h:y∉l):(l++[y]).idxOf y=l.length:=by
 rw[List.idxOf_append,if_neg h];simp
def Gh(w:World)(b:Nat)(l:List Pr):Prop:=∃D:DataW Unit,w.ownsMap Tryz.prog 80 (plainElem Tryz.prog 3) b l.length D/\IsMap D/\
 (∀y,WfQ y->Maps.has D (klQ y)=decide (y∈l))/\∀y,WfQ y->y∈l->D.atKey (klQ y) (.lit (.int .i64 0))=.lit (.int .i64 (l.idxOf y))
section
variable {w w':World} {b:Nat} {l:List Pr} {y:Pr}
theorem Gh.blk(h:Gh w b l)(e:w'.heap[b]? =w.heap[b]?):Gh w' b l:=by
 obtain⟨D,⟨es,c,h1,h2⟩,h3⟩:=h;exact⟨D,⟨es,c,e.trans h1,h2⟩,h3⟩
theorem Gh.lt(h:Gh w b l):b<w.heap.size:=by
 obtain⟨D,h1,-⟩:=h;exact h1.lt
theorem Gh.made(w:World):Gh (w.alloc (.map #[] 0)) w.heap.size []:=
 ⟨_,World.ownsMap_made w Tryz.prog 80 _,isMap_empty,fun y _=>by simp[Maps.has],fun y _ hy=>absurd hy (by simp)⟩
theorem Gh.get(h:Gh w b l)(hy:WfQ y):
  (y∈l->(Instr.lookup 136 (.map (some b)) (prV y) true).run Tryz.prog w=.ok (.tuple #[.int .i64 (l.idxOf y:Int),.bool true]) w)/\
  (y∉l->∃c,(Instr.lookup 136 (.map (some b)) (prV y) true).run Tryz.prog w=.ok (.tuple #[.int .i64 c,.bool false]) w):=by
 obtain⟨D,h1,h2,h3,h4⟩:=h;obtain⟨v,ps,d,hv⟩:=h1.look_ok Iz Tryz.underlying136 (Hf w) (plainElem_int Tryz.underlying3 (q:=.i64) (a:=0) rfl) (LY y hy);obtain⟨c,rfl,hc,e⟩:=plainElem_int_inv Tryz.underlying3 hv;rw[h3 y hy]at d;simp only[Prod.mk.injEq]at hc;refine⟨fun hm=> ?_,fun hm=>⟨c,by rw[d,decide_eq_false hm]⟩⟩;have h5:=h4 y hy hm;rw[hc.1]at h5;simp only[DataW.lit.injEq,Lit.int.injEq,true_and]at h5;rw[d,decide_eq_true hm,h5]
theorem Gh.upd(h:Gh w b l)(hy:WfQ y)(hn:y∉l)(hl:l.length<=4000):
  ∃w',(Instr.mapUpdate 136 (.map (some b)) (prV y) (.int .i64 (l.length:Int))).run Tryz.prog w=.ok () w'/\Gh w' b (l++[y])/\w.grownBy w' (some b):=by
 obtain⟨D,h1,h2,h3⟩:=h;obtain⟨w',d,r1,r2⟩:=h1.update Iz Tryz.underlying136 (by simp only[maxLen];omega) (LY y hy) (plainElem_int Tryz.underlying3 (q:=.i64) (a:=(l.length:Int)) (EA (by unfold I64;omega)));refine⟨w',d, ?_,r2⟩;refine⟨_,by rw[List.length_append,List.length_singleton];exact r1,h2.put _ _,fun z hz=> ?_,fun z hz hzl=> ?_⟩
 ·by_cases e:z=y
  ·subst e;obtain⟨k,e,hk⟩:=NS hz;rw[e,has_put_same h2 hk];simp
  ·rw[has_put_other (fun k=>e (NR hz hy k)),h3.1 z hz];simp[e]
 ·by_cases e:z=y
  ·subst e;obtain⟨k,e,hk⟩:=NS hz;rw[Qr hn,e,atKey_put_same h2 hk]
  ·have c:z∈l:=by
    rcases List.mem_append.1 hzl with h|h
    ·exact h
    ·exact absurd (List.mem_singleton.1 h) e
   rw[atKey_put_other (fun k=>e (NR hz hy k)),h3.2 z hz c,Qs c]
end
end Go.Proofs.YtncjeamdkjcebaaGreatDoor
namespace Go.Proofs.YtncjeamdkjcebaaGreatDoor
open Go.RowKit
def FZ(l:List Pr):List Value:=l.flatMap fun p=>(prC p).toList
theorem LZ(l:List Pr)(j k:Nat)(hj:j<l.length)(hk:k<2):(FZ l)[j*2+k]? =(prC l[j]).toList[k]? :=by
 induction l generalizing j with
 |nil=>simp at hj
 |cons s r ih=>
  simp only[FZ,List.flatMap_cons]at*
  cases j with
  |zero=>rw[List.getElem?_append_left (by simp[prC];omega)];simp
  |succ j=>
   rw[List.getElem?_append_right (by simp[prC];omega)];have:=ih j (by simpa using hj);simp only[prC,List.length_cons,List.length_nil,List.getElem_cons_succ]at this⊢;rw[<-this]
   congr 1
   omega
theorem OY(l:List Pr)(y:Pr):FZ (l++[y])=FZ l++(prC y).toList:=by simp[FZ]
theorem QW(l:List Pr):(FZ l).length=l.length*2:=by
 induction l with
 |nil=>rfl
 |cons s r ih=>simp only[FZ,List.flatMap_cons,List.length_append,List.length_cons]at*;rw[ih];simp[prC];omega
theorem QX(l:List Pr)(j:Nat)(y:Pr)(hj:j<l.length):((FZ l).set (j*2) (.int .i64 (y.1:Int))).set (j*2+1) (.int .i64 (y.2:Int))=FZ (l.set j y):=by
 induction l generalizing j with
 |nil=>simp at hj
 |cons s r ih=>
  cases j with
  |zero=>simp[FZ,prC]
  |succ j=>
   have h:=ih j (by simpa using hj);simp only[FZ,List.flatMap_cons,List.set_cons_succ]at h⊢;rw[<-h]
   have e:(j+1)*2=j*2+2:=by omega
   simp[prC,e]
def OQ(w:World)(base:Nat)(v:Value)(l:List Pr):Prop:=w.ownsRow base 80 2 v l.length (FZ l)
theorem NM:(Tryz.prog.info? 80).map (fun i=>(i.zero,i.size,i.bytes))=some (some (.agg #[.int .i64 0,.int .i64 0]),2,16):=by kernel_rfl
section
variable {w w':World} {bs bs' g n cap j:Nat} {v u:Value} {l:List Pr}
theorem OQ.slice(h:OQ w bs v l):∃ao a,v=.slice ao l.length a:=by
 rcases h.2 with⟨hv,h0⟩|⟨g,a,b,hv,hb,hg,_⟩
 ·exact⟨none,0,by rw[hv,h0]⟩
 ·exact⟨_,a,hv⟩
theorem OQ.row(h:OQ w bs v l)(hl:0<l.length):∃g a,v=.slice (some ⟨g,0,none⟩) l.length a/\bs<=g/\g<w.heap.size:=by
 rcases h.2 with⟨_,h0⟩|⟨g,a,b,hv,hb,hg,_⟩
 ·omega
 ·exact⟨g,a,hv,hb,(ltE hg)⟩
theorem OQ.at'(h:OQ w bs (.slice (some ⟨g,0,none⟩) n cap) l)(hn:n=l.length)(j:Nat)(hj:j<l.length):
  w.cell? ⟨g,j*2,none⟩=some (.int .i64 ((l[j].1:Nat):Int))/\w.cell? ⟨g,j*2+1,none⟩=some (.int .i64 ((l[j].2:Nat):Int)):=by
 subst hn
 have hc:∀k,k<2->w.cell? ⟨g,j*2+k,none⟩=(prC l[j]).toList[k]? :=fun k hk=>by
  rw[World.ownsRow.cellAt h (j*2+k) (by omega),LZ l j k hj hk]
 exact⟨hc 0 (by omega),hc 1 (by omega)⟩
theorem OQ.fz(h:OQ w bs (.slice (some ⟨g,0,none⟩) n cap) l)(hn:n=l.length)(j:Nat):w.frozen? ⟨g,j,none⟩=false:=by
 subst hn;exact World.ownsRow.frozenAt h j
theorem OQ.only{S:Nat->Prop}(h:OQ w bs v l)(hg:Af S w w')(a:∀k,v.ownBlock=some k->¬S k):OQ w' bs v l:=Ax h hg a
theorem OQ.base(h:OQ w bs v l)(hb:bs'<=bs):OQ w bs' v l:=by
 refine⟨h.1, ?_⟩
 rcases h.2 with h0|⟨g,a,b,hv,hg,r⟩
 ·exact .inl h0
 ·exact .inr ⟨g,a,b,hv,Nat.le_trans hb hg,r⟩
theorem OQ.lt'(h:OQ w bs v l):∀g,v.ownBlock=some g->g<w.heap.size:=fun g hg=>(World.ownsRow.lt h g hg).2
theorem OQ.ge(h:OQ w bs v l):∀g,v.ownBlock=some g->bs<=g:=fun g hg=>(World.ownsRow.lt h g hg).1
theorem OQ.setNe{k:Nat}(h:OQ w bs v l)(a:v.ownBlock≠some g):OQ (w.setCell ⟨g,k,none⟩ u) bs v l:=Cp h a
theorem OQ.set(h:OQ w bs (.slice (some ⟨g,0,none⟩) n cap) l)(hn:n=l.length)(hj:j<l.length)(y:Pr):OQ ((w.setCell ⟨g,j*2,none⟩ (.int .i64 (y.1:Int))).setCell ⟨g,j*2+1,none⟩ (.int .i64 (y.2:Int))) bs (.slice (some ⟨g,0,none⟩) n cap) (l.set j y):=by
 subst hn;unfold OQ;rw[List.length_set,<-QX l j y hj];have h1:=(World.ownsRow.stored h (j*2) (.int .i64 (y.1:Int))).1;exact(World.ownsRow.stored h1 (j*2+1) (.int .i64 (y.2:Int))).1
end
theorem S9(w:World)(y:Pr):OQ (w.alloc (.cells (prC y) 80)) w.heap.size (.slice (some ⟨w.heap.size,0,none⟩) 1 1) [y]:=
 (show(w.alloc (.cells (prC y) 80)).ownsRow w.heap.size 80 2 (.slice (some ⟨w.heap.size,0,none⟩) 1 1) 1 (FZ [y])from⟨by simp[FZ,prC],.inr ⟨w.heap.size,1,_,rfl,Nat.le_refl _,heap_alloc_new w _,Nat.le_refl _,by simp[maxLen],by simp[prC],by simp[FZ,prC]⟩⟩)
theorem Ti{c:Array Oper}{rest:List Oper}{o:Oper}{a:Act}{Q:Exit->Act->World->Prop}{w:World}(f:o.guard=none)(s x:Operand)(y:Pr)
  (ho:o.op=.call {callee:=.builtin .append,args:=#[s,x],argTypes:=#[81,81]})
  (base:Nat) (v:Value) (l:List Pr) (b:OQ w base v l) (hs:a.eval s=v) (m:Nat) (hm:m=w.heap.size) (hx:a.eval x=.slice (some ⟨m,0,none⟩) 1 1)
  (hn:l.length<5864062014000) (d:base<=w.heap.size)
  (h:∀v' w',OQ w' base v' (l++[y])->w.grownBy w' v.ownBlock->AS w v v'->wpList Tryz.prog c Q rest (a.put o.dst v') w'):
  wpList Tryz.prog c Q (o::rest) a (w.alloc (.cells #[.int .i64 (y.1:Int),.int .i64 (y.2:Int)] 80)):=by
 subst hm;refine GC f s x _ _ 2 16 _ ho Tryz.underlying81 NM rfl (by decide) base v l.length _ hs (b.alloc _) ⟨w.heap.size,0,none⟩ 1 1 [.int .i64 (y.1:Int),.int .i64 (y.2:Int)] hx rfl (World.news_of_block (cs:=#[.int .i64 (y.1:Int),.int .i64 (y.2:Int)]) (t:=80) (fr:=(0,0)) (heap_alloc_new w _)) (by simp[Value.oneCell']) (by simp only[maxLen];omega) (by omega) (by simp;omega) ?_;intro v' w' h1 h2 _ h4;refine h v' w' ?_ ⟨h2.os,h2.tape,h2.output,by have:=h2.size;simp at this;omega,fun k hk hr=> ?_⟩ (fun g hg=> ?_)
 ·unfold OQ;rw[List.length_append,OY];exact h1
 ·rw[h2.block k (by simp;omega) hr];exact Dm w _ hk
 ·rcases h4 g hg with e|e
  ·exact .inl e
  ·refine .inr ?_;simp at e;omega
theorem Up{d:Array Oper}{rest:List Oper}{o:Oper}{a:Act}{Q:Exit->Act->World->Prop}{w:World}(f:o.guard=none)(l c:Operand)(t:TypeId)(ht:Tryz.prog.underlying t=some (.slice 80))
  (ho:o.op=Op.makeSlice t l c) (base:Nat) (L:Int) (n:Nat) (hl:a.eval l=.int .i64 L) (hc:a.eval c=.int .i64 L) (hL:L=(n:Int)) (hn:n<=1000000) (b:base<=w.heap.size)
  (h:∀w',OQ w' base (.slice (some ⟨w.heap.size,0,none⟩) n n) (List.replicate n (0,0))->w.grownBy w' none->wpList Tryz.prog d Q rest (a.put o.dst (.slice (some ⟨w.heap.size,0,none⟩) n n)) w'):
  wpList Tryz.prog d Q (o::rest) a w:=by
 obtain⟨i,hi,k,m,p⟩:=info_parts NM
 refine wpList_make_full w f l c t ho base 80 i _ 2 ht hi k m .i64 .i64 L L n hl hc hL hL (by rw[p];omega) (by simp only[maxLen];omega) b fun w' h1 h2=>h w' ?_ h2
 have e:(madeCells (Value.agg #[.int .i64 0,.int .i64 0]).cells (n*2)).toList=FZ (List.replicate n (0,0)):=by
  apply List.ext_getElem?
  intro j
  by_cases hj:j<n*2
  ·have h3:=LZ (List.replicate n (0,0)) (j/2) (j%2) (by simp;omega) (by omega);rw[show j/2*2+j%2=j by omega]at h3;rw[h3]
   have:j%2=0\/j%2=1:=by omega
   rcases this with h4|h4<;>simp[madeCells,hj,h4,prC,Value.cells]
  ·rw[List.getElem?_eq_none (by simp[madeCells];omega),List.getElem?_eq_none (by rw[QW];simp;omega)]
 unfold OQ;rw[List.length_replicate,<-e];exact h1
section
variable {σ:Type} [BEq σ] [LawfulBEq σ]
def Il(S:List σ)(q:σ):List σ:=if q∈S then S else S++[q]
def rwG(f:Nat->σ)(S:List σ):Nat->List σ
 |0=>S
 |i+1=>Il (rwG f S i) (f i)
def Gu(f:Nat->σ)(S:List σ)(n:Nat):List Int:=(List.range n).map fun i=>(((rwG f S i).idxOf (f i):Nat):Int)
def UH(nx:σ->Nat->σ)(s0 d:σ)(n:Nat):Nat->List σ
 |0=>[s0]
 |k+1=>rwG (nx ((UH nx s0 d n k).getD k d)) (UH nx s0 d n k) n
def gP(nx:σ->Nat->σ)(s0 d:σ)(n k:Nat):σ:=(UH nx s0 d n k).getD k d
def UG(nx:σ->Nat->σ)(s0 d:σ)(n k:Nat):List (List Int):=(List.range k).map fun j=>Gu (nx (gP nx s0 d n j)) (UH nx s0 d n j) n
def Kj(nx:σ->Nat->σ)(s0 d:σ)(n K:Nat):Prop:=(UH nx s0 d n K).length=K/\∀j,j<K->j<(UH nx s0 d n j).length
variable {nx:σ->Nat->σ} {s0 d:σ} {n:Nat} {f:Nat->σ} {S:List σ}
theorem Qw{q:σ}:S<+:Il S q:=by
 unfold Il
 split
 ·exact List.prefix_rfl
 ·exact List.prefix_append _ _
theorem IA{i j:Nat}(h:i<=j):rwG f S i<+:rwG f S j:=by
 induction j with
 |zero=>
  obtain rfl:i=0:=by omega
  exact List.prefix_rfl
 |succ j ih=>
  rcases Nat.lt_or_ge j i with h1|h1
  ·obtain rfl:i=j+1:=by omega
   exact List.prefix_rfl
  ·exact(ih h1).trans Qw
theorem Tt{i j:Nat}(h:i<=j):UH nx s0 d n i<+:UH nx s0 d n j:=by
 induction j with
 |zero=>
  obtain rfl:i=0:=by omega
  exact List.prefix_rfl
 |succ j ih=>
  rcases Nat.lt_or_ge j i with h1|h1
  ·obtain rfl:i=j+1:=by omega
   exact List.prefix_rfl
  ·exact(ih h1).trans (IA (Nat.zero_le n))
theorem NH{k:Nat}:UG nx s0 d n (k+1)=UG nx s0 d n k++[Gu (nx (gP nx s0 d n k)) (UH nx s0 d n k) n]:=by simp[UG,List.range_succ]
theorem Ez{k:Nat}:(UG nx s0 d n k).length=k:=by simp[UG]
def nwG(f:Nat->σ)(S:List σ)(n i:Nat):List Int:=(List.range i).map (fun j=>(((rwG f S j).idxOf (f j):Nat):Int))++List.replicate (n-i) 0
theorem NX{i:Nat}(h:i<=n):(nwG f S n i).length=n:=by simp[nwG];omega
theorem LQ:nwG f S n 0=List.replicate n 0:=by simp[nwG]
theorem NY{i:Nat}(h:i<n):(nwG f S n i).set i (((rwG f S i).idxOf (f i):Nat):Int)=nwG f S n (i+1):=by
 obtain⟨k,hk⟩:∃k,n-i=k+1:=⟨n-i-1,by omega⟩;unfold nwG;rw[hk,show n-(i+1)=k by omega,List.replicate_succ,List.range_succ,List.map_append,List.append_assoc];rw[List.set_append_right _ _ (by simp)];simp
theorem NW:nwG f S n n=Gu f S n:=by simp[nwG,Gu]
theorem Lz{q:σ}(h:q∉S):S.idxOf q=S.length:=by
 have h1:=List.idxOf_le_length (a:=q) (l:=S);have h2:=List.idxOf_lt_length_iff (a:=q) (l:=S)
 have:¬S.idxOf q<S.length:=fun h3=>h (h2.1 h3)
 omega
theorem Sw{i j:Nat}(h:i<=j):(rwG f S i).length<=(rwG f S j).length:=(IA h).length_le
theorem GV{K k i:Nat}(h:Kj nx s0 d n K)(hk:k<K)(hi:i<=n):(rwG (nx (gP nx s0 d n k)) (UH nx s0 d n k) i).length<=K:=by
 have h1:=Sw (f:=nx (gP nx s0 d n k)) (S:=UH nx s0 d n k) hi;have h2:=(Tt (nx:=nx) (s0:=s0) (d:=d) (n:=n) (i:=k+1) (j:=K) hk).length_le;have h3:=h.1;have h4:(UH nx s0 d n (k+1))=rwG (nx (gP nx s0 d n k)) (UH nx s0 d n k) n:=rfl;rw[h4]at h2;omega
end
theorem Ng{f:Nat->Pr}{S:List Pr}:∀i,rwS f S i=rwG f S i
 |0=>rfl
 |i+1=>by show Im (rwS f S i) (f i)=Il (rwG f S i) (f i);rw[Ng i];rfl
theorem IP{a b:My}{n:Nat}:∀k,bfS a b n k=UH (nxP a b) (a.start.toNat,b.start.toNat) (0,0) n k
 |0=>rfl
 |k+1=>by
  show rwS (nxP a b ((bfS a b n k).getD k (0,0))) (bfS a b n k) n=rwG _ _ n;rw[IP k,Ng]
theorem PZ{a b:My}{n k:Nat}:bfP a b n k=gP (nxP a b) (a.start.toNat,b.start.toNat) (0,0) n k:=by unfold bfP gP;rw[IP]
theorem Tl{a b:My}{n k:Nat}:bfN a b n k=UG (nxP a b) (a.start.toNat,b.start.toNat) (0,0) n k:=by
 unfold bfN UG rwN Gu;simp only[IP,PZ,Ng]
theorem EF.g{a b:My}{n K:Nat}(h:EF a b n K):Kj (nxP a b) (a.start.toNat,b.start.toNat) (0,0) n K:=by
 unfold Kj;simp only[<-IP];exact h
def K7(l:List Pr)(J:(Nat->Prop)->World->Prop)(H:Nat->Prop)(W:World)(e:Ending)(W':World):Prop:=∃v H',e=.returned (.tuple #[v,.bool true])/\OQ W' W.heap.size v l/\(∀q,v.ownBlock=some q->¬H' q)/\J H' W'/\Af H W W'/\∀q,H' q->H q\/W.heap.size<=q
structure GI(B:Nat)(f:Nat)(lb:Array Value)(n K:Nat)(st:Nat->Pr)(nx:Pr->Nat->Pr)(J:Nat->(Nat->Prop)->World->Prop):Prop where
 lt:∀k H W,J k H W->∀q,H q->q<W.heap.size
 keep:∀k H W W',J k H W->Af (fun q=>B<=q/\¬H q) W W'->J k H W'
 call:∀k H W,J k H W->B<=W.heap.size->k<K->Calls Tryz.prog f (#[prV (st k)]++lb) W (K7 ((List.range n).map (nx (st k))) (J (k+1)) H W)
def Bv(zm:Nat)(vS vT vR:Value)(q:Nat):Prop:=q=zm\/vS.ownBlock=some q\/vT.ownBlock=some q\/vR.ownBlock=some q
structure SQ(B zm:Nat)(J:Nat->(Nat->Prop)->World->Prop)(k:Nat)(S:List Pr)(tR:List (List Int))(R:List Int)(vS vT vR:Value)(vals:List Value)(H:Nat->Prop)(W:World):Prop where
 j:J k H W
 z:B<=zm
 o:OQ W B vS S
 m:Gh W zm S
 t:W.ownsRow B 26 1 vT tR.length vals
 r:OI W B vR R
 kr:KR (fun q=>q<B\/Bv zm vS vT vR q\/H q) W vals tR
 a1:vS.ownBlock≠some zm
 a2:vT.ownBlock≠some zm
 a3:vR.ownBlock≠some zm
 a4:AR vS vT
 a5:AR vS vR
 a6:AR vT vR
 h:∀q,H q->¬Bv zm vS vT vR q
section
variable {B zm:Nat} {f:Nat} {lb:Array Value} {n K:Nat} {st:Nat->Pr} {nx:Pr->Nat->Pr} {J:Nat->(Nat->Prop)->World->Prop} {k:Nat} {S:List Pr} {tR:List (List Int)} {R:List Int} {vS vT vR v':Value} {vals:List Value} {H H':Nat->Prop} {W W':World}
theorem SQ.hlt(h:SQ B zm J k S tR R vS vT vR vals H W):∀q,Bv zm vS vT vR q->B<=q/\q<W.heap.size:=by
 rintro q (e|e|e|e)
 ·rw[e];exact⟨h.z,h.m.lt⟩
 ·exact⟨h.o.ge q e,h.o.lt' q e⟩
 ·exact World.ownsRow.lt h.t q e
 ·exact⟨h.r.ge q e,h.r.lt' q e⟩
theorem SQ.only(hn:GI B f lb n K st nx J)(h:SQ B zm J k S tR R vS vT vR vals H W)(ho:Af (fun q=>False) W W'):SQ B zm J k S tR R vS vT vR vals H W':=
 ⟨hn.keep _ _ _ _ h.j (ho.mono fun _ _ e=>e.elim),h.z,h.o.only ho fun _ _ e=>e,h.m.blk (ho.block _ h.m.lt fun e=>e),Ax h.t ho fun _ _ e=>e,h.r.only ho fun _ _ e=>e,h.kr.move (ho.mono fun _ _ e=>e.elim) fun _ _ e=>e,h.a1,h.a2,h.a3,h.a4,h.a5,h.a6,h.h⟩
theorem SQ.below(hn:GI B f lb n K st nx J)(h:SQ B zm J k S tR R vS vT vR vals H W)(hb:Below W.heap.size W W'):SQ B zm J k S tR R vS vT vR vals H W':=h.only hn (Af.of_below hb)
theorem SQ.asked(h:SQ B zm J k S tR R vS vT vR vals H W)(hj:J (k+1) H' W')(ho:Af H W W')(hH:∀q,H' q->H q\/W.heap.size<=q):SQ B zm J (k+1) S tR R vS vT vR vals H' W':=by
 have a:∀q,Bv zm vS vT vR q->¬H q:=fun q e1 e2=>h.h q e2 e1
 refine⟨hj,h.z,h.o.only ho fun q e=>a q (.inr (.inl e)),h.m.blk (ho.block _ h.m.lt (a _ (.inl rfl))),Ax h.t ho fun q e=>a q (.inr (.inr (.inl e))),h.r.only ho fun q e=>a q (.inr (.inr (.inr e))),h.kr.move (ho.mono fun _ _ e=>.inr (.inr e)) fun q hq e=> ?_,h.a1,h.a2,h.a3,h.a4,h.a5,h.a6,fun q e1 e2=> ?_⟩
 ·rcases e with e|e|e
  ·exact .inl e
  ·exact .inr (.inl e)
  ·rcases hH q e with e|e
   ·exact .inr (.inr e)
   ·omega
 ·rcases hH q e1 with e|e
  ·exact h.h q e e2
  ·have:=(h.hlt q e2).2;omega
theorem SQ.row(hn:GI B f lb n K st nx J)(h:SQ B zm J k S tR [] vS vT (.slice none 0 0) vals H W){m:Nat}(ho:OI W' B (.slice (some ⟨W.heap.size,0,none⟩) m m) R)(hg:W.grownBy W' none):SQ B zm J k S tR R vS vT (.slice (some ⟨W.heap.size,0,none⟩) m m) vals H W':=by
 have hb:Below W.heap.size W W':=Ad.grown hg leR (fun k hk=>by cases hk);have g:=h.below hn hb
 have hv:∀q,(Value.slice (some ⟨W.heap.size,0,none⟩) m m).ownBlock=some q->q=W.heap.size:=fun q e=>by simpa[Value.ownBlock]using e.symm
 have a:=hn.lt _ _ _ h.j;refine⟨g.j,g.z,g.o,g.m,g.t,ho,h.kr.move (Af.of_below hb) fun q hq e=> ?_,g.a1,g.a2,fun e=> ?_,g.a4,fun q e e2=> ?_,fun q e e2=> ?_,fun q e1 e2=> ?_⟩
 ·rcases e with e|(e|e|e|e)|e
  ·exact .inl e
  ·exact .inr (.inl (.inl e))
  ·exact .inr (.inl (.inr (.inl e)))
  ·exact .inr (.inl (.inr (.inr (.inl e))))
  ·have:=hv q e;omega
  ·exact .inr (.inr e)
 ·have:=hv _ e;have:=h.m.lt;omega
 ·have:=h.o.lt' q e;have:=hv q e2;omega
 ·have:=(World.ownsRow.lt h.t q e).2;have:=hv q e2;omega
 ·rcases e2 with e|e|e|e
  ·exact h.h q e1 (.inl e)
  ·exact h.h q e1 (.inr (.inl e))
  ·exact h.h q e1 (.inr (.inr (.inl e)))
  ·have:=hv q e;have:=a q e1;omega
theorem SQ.jk(hn:GI B f lb n K st nx J)(h:SQ B zm J k S tR R vS vT vR vals H W){T:Nat->Prop}(ho:Af T W W')(hT:∀q,T q->Bv zm vS vT vR q):J k H W':=
 hn.keep _ _ _ _ h.j (ho.mono fun q _ e=>⟨(h.hlt q (hT q e)).1,fun e2=>h.h q e2 (hT q e)⟩)
theorem SQ.kk(h:SQ B zm J k S tR R vS vT vR vals H W){T:Nat->Prop}{vS' vT' vR':Value}(ho:Af T W W')(hT:∀q,T q->Bv zm vS vT vR q)(h':∀q,q<W.heap.size->Bv zm vS' vT' vR' q->Bv zm vS vT vR q):KR (fun q=>q<B\/Bv zm vS' vT' vR' q\/H q) W' vals tR:=
 h.kr.move (ho.mono fun q _ e=>.inr (.inl (hT q e))) fun q hq e=>by
  rcases e with e|e|e
  ·exact .inl e
  ·exact .inr (.inl (h' q hq e))
  ·exact .inr (.inr e)
theorem SQ.num(hn:GI B f lb n K st nx J)(h:SQ B zm J k S tR R vS vT vR vals H W){y:Pr}{S':List Pr}(hm:Gh W' zm S')(hg:W.grownBy W' (some zm)){W2:World}(hb:Below W'.heap.size W' W2){W3:World}(ho:OQ W3 B v' (S++[y]))(b:W2.grownBy W3 vS.ownBlock)(d:AS W2 vS v')(he:S'=S++[y]):SQ B zm J k (S++[y]) tR R v' vT vR vals H W3:=by
 have o1:Af (Bv zm vS vT vR) W W':=(Af.of_grown hg).mono fun q _ e=>.inl (Option.some.inj e).symm
 have o2:Af (Bv zm vS vT vR) W' W2:=Af.of_below hb
 have o3:Af (Bv zm vS vT vR) W2 W3:=(Af.of_grown b).mono fun q _ e=>.inr (.inl e)
 have oA:=(o1.trans o2).trans o3;have i:W.heap.size<=W2.heap.size:=(o1.trans o2).size
 have a:∀q,v'.ownBlock=some q->vS.ownBlock=some q\/W.heap.size<=q:=fun q e=>(d q e).imp id fun k=>Nat.le_trans i k
 have c:∀q,q<W.heap.size->Bv zm v' vT vR q->Bv zm vS vT vR q:=by
  rintro q hq (e|e|e|e)
  ·exact .inl e
  ·exact(a q e).elim (fun k=>.inr (.inl k)) fun k=>by omega
  ·exact .inr (.inr (.inl e))
  ·exact .inr (.inr (.inr e))
 have ot:Af (fun q=>q=zm\/vS.ownBlock=some q) W W3:=(((Af.of_grown hg).mono fun q _ e=>.inl (Option.some.inj e).symm).trans (Af.of_below hb)).trans ((Af.of_grown b).mono fun q _ e=>.inr e);have l:=h.m.lt;refine⟨h.jk hn oA fun _ e=>e,h.z,ho, ?_,Ax h.t ot fun q e k=> ?_,h.r.only ot fun q e k=> ?_,h.kk oA (fun _ e=>e) c,fun e=> ?_,h.a2,h.a3,fun q e e2=> ?_,fun q e e2=> ?_,h.a6,fun q e1 e2=>h.h q e1 (c q (hn.lt _ _ _ h.j q e1) e2)⟩
 ·rw[<-he];refine hm.blk ?_;rw[b.block _ (Nat.lt_of_lt_of_le hm.lt hb.size) fun e=>h.a1 e.symm,hb.block _ hm.lt]
 ·rcases k with k|k
  ·exact h.a2 (k▸e)
  ·exact h.a4 q k e
 ·rcases k with k|k
  ·exact h.a3 (k▸e)
  ·exact h.a5 q k e
 ·rcases a _ e with k|k
  ·exact h.a1 k
  ·omega
 ·rcases a _ e with k|k
  ·exact h.a4 q k e2
  ·have:=(World.ownsRow.lt h.t q e2).2;omega
 ·rcases a _ e with k|k
  ·exact h.a5 q k e2
  ·have:=h.r.lt' q e2;omega
theorem SQ.set(hn:GI B f lb n K st nx J){g c j m:Nat}{x:Int}(h:SQ B zm J k S tR R vS vT (.slice (some ⟨g,0,none⟩) m c) vals H W)(hm:m=R.length):SQ B zm J k S tR (R.set j x) vS vT (.slice (some ⟨g,0,none⟩) m c) vals H (W.setCell ⟨g,j,none⟩ (.int .i64 x)):=by
 have o1:Af (fun q=>q=g) W (W.setCell ⟨g,j,none⟩ (.int .i64 x)):=Af.set g j _ rfl
 have hT:∀q,q=g->Bv zm vS vT (.slice (some ⟨g,0,none⟩) m c) q:=fun q e=>.inr (.inr (.inr (by rw[e];rfl)))
 refine⟨h.jk hn o1 hT,h.z,h.o.only o1 fun q e k=> ?_,h.m.blk (o1.block _ h.m.lt fun e=>h.a3 (by rw[e];rfl)),Ax h.t o1 fun q e k=> ?_,h.r.set hm j x,h.kk o1 hT fun _ _ e=>e,h.a1,h.a2,h.a3,h.a4,h.a5,h.a6,h.h⟩
 ·exact h.a5 q e (by rw[k];rfl)
 ·exact h.a6 q e (by rw[k];rfl)
theorem SQ.app(hn:GI B f lb n K st nx J)(h:SQ B zm J k S tR R vS vT vR vals H W)(hl:R.length<=100000)(hr:∀x∈R,I64 x){W2:World}(hb:Below W.heap.size W W2)(ho:W'.ownsRow B 26 1 v' (tR.length+1) (vals++[vR]))(hg:W2.grownBy W' vT.ownBlock)(hm:AS W2 vT v'):SQ B zm J k S (tR++[R]) [] vS v' (.slice none 0 0) (vals++[vR]) H W':=by
 have o1:Af (fun q=>vT.ownBlock=some q) W W':=(Af.of_below hb).trans (Af.of_grown hg)
 have b:∀q,v'.ownBlock=some q->vT.ownBlock=some q\/W.heap.size<=q:=fun q e=>(hm q e).imp id fun k=>Nat.le_trans hb.size k
 have hT:∀q,vT.ownBlock=some q->Bv zm vS vT vR q:=fun q e=>.inr (.inr (.inl e))
 have c:∀q,q<W.heap.size->Bv zm vS v' (.slice none 0 0) q->q=zm\/vS.ownBlock=some q\/vT.ownBlock=some q:=by
  rintro q hq (e|e|e|e)
  ·exact .inl e
  ·exact .inr (.inl e)
  ·exact(b q e).elim (fun k=>.inr (.inr k)) fun k=>by omega
  ·cases e
 have a:∀q,q<W.heap.size->Bv zm vS v' (.slice none 0 0) q->Bv zm vS vT vR q:=fun q hq e=>by
  rcases c q hq e with k|k|k
  ·exact .inl k
  ·exact .inr (.inl k)
  ·exact .inr (.inr (.inl k))
 have hR:∀q,vR.ownBlock=some q->¬(q<B\/Bv zm vS v' (.slice none 0 0) q\/H q):=fun q e k=>by
  have hq:=h.r.lt' q e
  rcases k with k|k|k
  ·have:=h.r.ge q e;omega
  ·rcases c q hq k with k|k|k
   ·exact h.a3 (k▸e)
   ·exact h.a5 q k e
   ·exact h.a6 q k e
  ·exact h.h q k (.inr (.inr (.inr e)))
 refine⟨h.jk hn o1 hT,h.z,h.o.only o1 fun q e k=>h.a4 q e k,h.m.blk (o1.block _ h.m.lt fun e=>h.a2 e),by rw[List.length_append];exact ho,Br _ _,(h.kk o1 hT a).add fun W9 hW=> ?_,h.a1,fun e=> ?_,(fun e=>by cases e),fun q e e2=> ?_,BQ _,BQ _,fun q e1 e2=>h.h q e1 (a q (hn.lt _ _ _ h.j q e1) e2)⟩
 ·have r1:OI W' B vR R:=h.r.only o1 fun q e k=>h.a6 q k e
  exact(r1.only hW fun q e k=>hR q e k).is (by unfold Bg;omega) hr
 ·rcases b _ e with k|k
  ·exact h.a2 k
  ·have:=h.m.lt;omega
 ·rcases b _ e2 with k|k
  ·exact h.a4 q e k
  ·have:=h.o.lt' q e;omega
end
end Go.Proofs.YtncjeamdkjcebaaGreatDoor
