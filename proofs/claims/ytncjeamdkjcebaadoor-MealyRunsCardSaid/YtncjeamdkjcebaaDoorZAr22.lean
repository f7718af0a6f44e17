/- The reference's number: a place is looked for in a list, and appended to it. -/
import Derived.Test.YtncjeamdkjcebaaDoorZAr15
set_option linter.all false
set_option maxHeartbeats 8000000
set_option maxRecDepth 100000
namespace Go.Proofs.YtncjeamdkjcebaaDoor
open Go.RowKit
theorem JT{a b c:World}{r:Option Nat}(h:a.grownBy b r)(k:b.grownBy c r):a.grownBy c r:=
 ⟨k.os.trans h.os,k.tape.trans h.tape,k.output.trans h.output,Nat.le_trans h.size k.size,fun i hi hr=>(k.block i (Nat.lt_of_lt_of_le hi h.size) hr).trans (h.block i hi hr)⟩
theorem B7.dat{w:World}{g:Gm}{N:Nat}{a0 a1 a2:Option Addr}{n0 n1 n2 k0 k1 k2:Nat}(h:B7 w (.agg #[.slice a0 n0 k0,.slice a1 n1 k1,.slice a2 n2 k2]) g)(l0:g.owner.length=N)(l1:g.prio.length=N)(l2:g.succ.length=N):
  N=n0/\N=n1/\N=n2/\∃b0 o0 b1 o1 b2 o2,∃V:Nat->Value,(0<N->a0=some ⟨b0,o0,none⟩/\a1=some ⟨b1,o1,none⟩/\a2=some ⟨b2,o2,none⟩)/\
   ∀j,j<N->w.cell? ⟨b0,o0+j,none⟩=some (.int .i64 (g.owner.getD j 0))/\w.cell? ⟨b1,o1+j,none⟩=some (.int .i64 (g.prio.getD j 0))/\w.cell? ⟨b2,o2+j,none⟩=some (V j)/\Af w (V j) (g.succ.getD j []):=by
 obtain⟨v0,v1,v2,hv,⟨⟨ao0,cap0,b0,off0,rfl,g0⟩,_⟩,⟨⟨ao1,cap1,b1,off1,rfl,g1⟩,_⟩,⟨V,⟨ao2,cap2,b2,off2,rfl,g2⟩,hr⟩⟩:=h
 injection hv with hv
 injection hv with hv
 simp only[List.cons.injEq,Value.slice.injEq,and_true]at hv;obtain⟨⟨rfl,rfl,rfl⟩,⟨rfl,rfl,rfl⟩,rfl,rfl,rfl⟩:=hv;exact⟨l0.symm,l1.symm,l2.symm,b0,off0,b1,off1,b2,off2,V,fun hN=>⟨g0.ad (by omega),g1.ad (by omega),g2.ad (by omega)⟩,fun j hj=>⟨g0.el j (by omega),g1.el j (by omega),g2.el j (by omega),hr j (by omega)⟩⟩
theorem Af.shp{w:World}{v:Value}{l:List Int}(h:Af w v l):∃a c,v=.slice a l.length c:=by
 obtain⟨⟨a,c,b,o,rfl,-⟩,-⟩:=h;exact⟨a,c,rfl⟩
theorem Af.dat{w:World}{a:Option Addr}{n c:Nat}{l:List Int}(h:Af w (.slice a n c) l):∃b o,(0<n->a=some ⟨b,o,none⟩)/\n<=140737488351232/\∀j,j<n->w.cell? ⟨b,o+j,none⟩=some (.int .i64 (l.getD j 0)):=by
 obtain⟨⟨a',c',b,o,hv,ha⟩,-⟩:=h
 injection hv with h1 h2 h3
 subst h1 h2 h3;exact⟨b,o,fun h=>ha.ad h,ha.nb,fun j hj=>ha.el j hj⟩
theorem B4.shp{w:World}{v:Value}{a:Au}(h:B4 w v a):∃p2 n2 k2 p3 n3 k3,v=.agg #[.int .i64 a.letters,.int .i64 a.start,.slice p2 n2 k2,.slice p3 n3 k3]:=by
 obtain⟨v2,v3,rfl,-,⟨V2,⟨a2,c2,b2,o2,rfl,-⟩,-⟩,⟨V3,⟨a3,c3,b3,o3,rfl,-⟩,-⟩⟩:=h;exact⟨_,_,_,_,_,_,rfl⟩
theorem Cd.shp{w:World}{v:Value}{l:List Pl}(h:Cd w v l):∃ao cap,v=.slice ao l.length cap:=by
 obtain⟨ao,cap,b,off,rfl,-⟩:=h;exact⟨ao,cap,rfl⟩
theorem Cd.dat{w:World}{a:Option Addr}{n c:Nat}{l:List Pl}(h:Cd w (.slice a n c) l):∃b o,(0<n->a=some ⟨b,o,none⟩)/\n<=140737488351232/\∀j,(hj:j<l.length)->w.cell? ⟨b,o+j*3,none⟩=some (.int .i64 l[j].st)/\w.cell? ⟨b,o+j*3+1,none⟩=some (.int .i64 l[j].inn)/\w.cell? ⟨b,o+j*3+2,none⟩=some (.int .i64 l[j].pr):=by
 obtain⟨a',c',b,o,hv,ha,-⟩:=h
 injection hv with h1 h2 h3
 subst h1 h2 h3;exact⟨b,o,fun h=>ha.ad h,by have:=ha.nm;unfold Bg at this;omega,fun j hj=>⟨ha.e0 j hj,ha.e1 j hj,ha.e2 j hj⟩⟩
end Go.Proofs.YtncjeamdkjcebaaDoor
namespace Go.Proofs.YtncjeamdkjcebaaDoor
def nxL(a:Au)(q x:Int):Int:=(a.next.getD q.toNat []).getD x.toNat 0
def prL(a:Au)(q x:Int):Int:=(a.prio.getD q.toNat []).getD x.toNat 0
def CC(a:Au)(s:Int×Int)(ls:List Int):Int×Int:=ls.foldl (fun s x=>(nxL a s.1 x,min s.2 (prL a s.1 x))) s
theorem Lk(a:Au)(s:Int×Int)(ls:List Int)(x:Int):CC a s (ls++[x])=(nxL a (CC a s ls).1 x,min (CC a s ls).2 (prL a (CC a s ls).1 x)):=by simp[CC]
def stN(a:Au)(w:Ls):Nat->Int
 |0=>(CC a (a.start,20000) w.stem).1
 |i+1=>(CC a (stN a w i,20000) w.loop).1
def lsN(a:Au)(w:Ls)(i:Nat):Int:=(CC a (stN a w i,20000) w.loop).2
def RC(f:Nat->Int)(j d:Nat)(v:Int):Prop:=(∃i,i<d/\f (j+i)=v)/\∀i,i<d->v<=f (j+i)
end Go.Proofs.YtncjeamdkjcebaaDoor
namespace Go.Proofs.YtncjeamdkjcebaaDoor
open Go.RowKit
theorem Df.shp{w:World}{v:Value}{l:Ls}(h:Df w v l):∃a0 c0 a1 c1,v=.agg #[.slice a0 l.stem.length c0,.slice a1 l.loop.length c1]:=by
 obtain⟨v0,v1,rfl,⟨⟨a0,c0,-,-,rfl,-⟩,-⟩,⟨⟨a1,c1,-,-,rfl,-⟩,-⟩⟩:=h;exact⟨_,_,_,_,rfl⟩
theorem Df.parts{w:World}{v0 v1:Value}{l:Ls}(h:Df w (.agg #[v0,v1]) l):Af w v0 l.stem/\Af w v1 l.loop:=by
 obtain⟨u0,u1,e,h0,h1⟩:=h;simp only[Value.agg.injEq,Array.mk.injEq,List.cons.injEq,and_true]at e;obtain⟨rfl,rfl⟩:=e;exact⟨h0,h1⟩
def GC(l:List Int)(k:Nat):Int:=(l.take k).foldl min (l.getD 0 0)
theorem J8{l:List Int}(h:0<l.length):GC l 1=l.getD 0 0:=by
 cases l with
 |nil=>simp at h
 |cons x l=>simp[GC,List.getD]
theorem Iw{l:List Int}{k:Nat}(h:k<l.length):GC l (k+1)=min (GC l k) (l.getD k 0):=by
 unfold GC;rw[List.take_succ_eq_append_getElem h,List.foldl_append,Ag l 0 k h];rfl
theorem MK{l:List Int}(h:0<l.length):∀k,1<=k->k<=l.length->(∃i,i<k/\l.getD i 0=GC l k)/\∀i,i<k->GC l k<=l.getD i 0:=by
 intro k
 induction k with
 |zero=>intro h;omega
 |succ k ih=>
  intro h1 h2
  by_cases hk:k=0
  ·subst hk;rw[J8 h];exact⟨⟨0,by omega,rfl⟩,fun i hi=>by rw[show i=0 by omega];exact Int.le_refl _⟩
  ·obtain⟨⟨i,hi,e⟩,h3⟩:=ih (by omega) (by omega);rw[Iw (by omega)];refine⟨?_,fun j hj=> ?_⟩
   ·by_cases hc:GC l k<=l.getD k 0
    ·exact⟨i,by omega,by rw[e];omega⟩
    ·exact⟨k,by omega,by omega⟩
   ·by_cases hjk:j=k
    ·rw[hjk];omega
    ·have:=h3 j (by omega);omega
theorem RD(w:World)(v:Value)(l:List Int)(hl:Af w v l)(h0:0<l.length):Calls Tryd.prog 60 #[v] w fun e w'=>e=.returned (.int .i64 (GC l l.length))/\w'=w:=by
 obtain⟨a,c,rfl⟩:=hl.shp;obtain⟨b,o,had,hn,hc⟩:=hl.dat;obtain rfl:=had h0;have HC:=Ab hc;have c0:=hc 0 h0;rw[Nat.add_zero]at c0;have hM:=J8 h0;rw[<-hM]at c0;clear hl had hc hM;have s0:decide ((l.length:Int)<1)=false:=decide_eq_false (by omega)
 have hi1:(0:Int)<l.length:=by omega
 go_enter Tryd.func60,Tryd.ntmps60
 go_wp2
 go_loopg [3,4] (l.length-1) (fun gh m i wr=>∃k:Nat,gh=l.length-k/\i=.int .i64 k/\m=.int .i64 (GC l k)/\1<=k/\k<=l.length/\wr=w)
 case atStart=>exact⟨1,by omega,rfl,rfl,by omega,by omega,rfl⟩
 case round=>
  obtain⟨k,hgk,rfl,rfl,hk1,hk,rfl⟩:=hrel
  by_cases hlt:k<l.length
  ·have e1:=HC.out k hlt;have HE:=Ab (Iw hlt);have HGK:=Ab hgk;clear c0 s0 hi1 hgk;generalize GC l k=m at*;generalize l.getD k 0=x at*;go_wp2
   all_goals
    go_roundg (l.length-(k+1))
    case measure=>have:=HGK.out;omega
    case rel=>exact⟨k+1,rfl,by go_num,by rw[HE.out];congr 1;first|omega|(simp;omega),by omega,by omega,rfl⟩
  ·obtain rfl:k=l.length:=by omega
   go_wp2;go_ret;exact⟨rfl,rfl⟩
end Go.Proofs.YtncjeamdkjcebaaDoor
namespace Go.Proofs.YtncjeamdkjcebaaDoor
open Go.RowKit Go.Maps Go.WideMaps
theorem JV{l e:List Int}{y:Int}(h:y∈l):(l++e).idxOf y=l.idxOf y:=by
 induction l with
 |nil=>cases h
 |cons z l ih=>
  rw[List.cons_append,List.idxOf_cons,List.idxOf_cons]
  by_cases e:z=y
  ·subst e;simp
  ·have hb:(z==y)=false:=by simpa using e
   rw[hb,ih ((List.mem_cons.1 h).resolve_left fun x=>e x.symm)]
theorem PT{l:List Int}{y:Int}(h:y∈l):l.idxOf y<l.length:=List.idxOf_lt_length_iff.2 h
theorem JU{l:List Int}{y:Int}(h:y∉l):(l++[y]).idxOf y=l.length:=by
 induction l with
 |nil=>simp
 |cons z l ih=>
  have e:¬z=y:=fun x=>h (by rw[x];exact List.mem_cons_self)
  have hb:(z==y)=false:=by simpa using e
  rw[List.cons_append,List.idxOf_cons,hb,ih (fun x=>h (List.mem_cons_of_mem _ x))];simp
theorem Ey:Keyed Tryd.prog 3:=int_keyed Tryd.underlying3
theorem Jb{q:Int}(h:I64 q):keyOf Tryd.prog 3 (.int .i64 q)=some (.int .i64 q):=keyOf_int_mk Tryd.underlying3 (DL h)
theorem FT{q:Int}(h:I64 q):Go.WideAt.IsKeyLit (.int .i64 q):=Keyed.key Ey (Jb h)
def CS(w:World)(b:Nat)(l:List Int):Prop:=∃D:DataW Unit,w.ownsMap Tryd.prog 3 (plainElem Tryd.prog 3) b l.length D/\IsMap D/\
 (∀y,I64 y->Maps.has D (.int .i64 y)=decide (y∈l))/\∀y,I64 y->y∈l->D.atKey (.int .i64 y) (.lit (.int .i64 0))=.lit (.int .i64 (l.idxOf y))
theorem CS.kept{w w':World}{b:Nat}{l:List Int}{row:Option Nat}(h:CS w b l)(hg:w.grownBy w' row)(hne:some b≠row):CS w' b l:=by
 obtain⟨D,h1,h2⟩:=h;exact⟨D,h1.kept hg hne,h2⟩
theorem CS.lt{w:World}{b:Nat}{l:List Int}(h:CS w b l):b<w.heap.size:=by
 obtain⟨D,h1,-⟩:=h;exact h1.lt
theorem CS.below{w w':World}{b:Nat}{l:List Int}(h:CS w b l)(hb:Below w.heap.size w w'):CS w' b l:=h.kept (AS hb) (by simp)
theorem CS.made(w:World):CS (w.alloc (.map #[] 0)) w.heap.size []:=
 ⟨_,World.ownsMap_made w Tryd.prog 3 _,isMap_empty,fun y _=>by simp[Maps.has],fun y _ hy=>absurd hy (by simp)⟩
theorem CS.put{w':World}{b:Nat}{l:List Int}{y:Int}{D:DataW Unit}(hm:IsMap D)(hy:I64 y)(hn:y∉l)
  (h1:∀z,I64 z->Maps.has D (.int .i64 z)=decide (z∈l)) (h2:∀z,I64 z->z∈l->D.atKey (.int .i64 z) (.lit (.int .i64 0))=.lit (.int .i64 (l.idxOf z)))
  (h:w'.ownsMap Tryd.prog 3 (plainElem Tryd.prog 3) b (l.length+1) (D.put (.int .i64 y) (.lit (.int .i64 l.length)))):CS w' b (l++[y]):=by
 refine⟨_,by rw[List.length_append,List.length_singleton];exact h,hm.put _ _,fun z hz=> ?_,fun z hz hzl=> ?_⟩
 ·by_cases e:z=y
  ·subst e;rw[has_put_same hm (FT hz)];simp
  ·rw[has_put_other (fun k=>e (by injection k)),h1 z hz];simp[e]
 ·by_cases e:z=y
  ·subst e;rw[JU hn,atKey_put_same hm (FT hz)]
  ·have hzl':z∈l:=by
    rcases List.mem_append.1 hzl with h|h
    ·exact h
    ·exact absurd (List.mem_singleton.1 h) e
   rw[atKey_put_other (fun k=>e (by injection k)),h2 z hz hzl',JV hzl']
theorem CS.get{w:World}{b:Nat}{l:List Int}(h:CS w b l){y:Int}(hy:I64 y):
  (y∈l->(Instr.lookup 115 (.map (some b)) (.int .i64 y) true).run Tryd.prog w=.ok (.tuple #[.int .i64 (l.idxOf y:Int),.bool true]) w)/\
  (y∉l->∃c,(Instr.lookup 115 (.map (some b)) (.int .i64 y) true).run Tryd.prog w=.ok (.tuple #[.int .i64 c,.bool false]) w):=by
 obtain⟨D,h1,h2,h3,h4⟩:=h;obtain⟨v,ps,hrun,hv⟩:=h1.look_ok Ey Tryd.underlying115 (F8 w) (plainElem_int Tryd.underlying3 (q:=.i64) (a:=0) rfl) (Jb hy);obtain⟨c,rfl,hc,hwc⟩:=plainElem_int_inv Tryd.underlying3 hv;rw[h3 y hy]at hrun;simp only[Prod.mk.injEq]at hc;refine⟨fun hm=> ?_,fun hm=>⟨c,by rw[hrun,decide_eq_false hm]⟩⟩;have h5:=h4 y hy hm;rw[hc.1]at h5;simp only[DataW.lit.injEq,Lit.int.injEq,true_and]at h5;rw[hrun,decide_eq_true hm,h5]
theorem CS.upd{w:World}{b:Nat}{l:List Int}(h:CS w b l){y:Int}(hy:I64 y)(hn:y∉l)(hl:l.length<=3000):
  ∃w',(Instr.mapUpdate 115 (.map (some b)) (.int .i64 y) (.int .i64 (l.length:Int))).run Tryd.prog w=.ok () w'/\CS w' b (l++[y])/\w.grownBy w' (some b):=by
 obtain⟨D,h1,h2,h3,h4⟩:=h;obtain⟨w',hrun,r1,r2⟩:=h1.update Ey Tryd.underlying115 (by simp only[maxLen];omega) (Jb hy) (plainElem_int Tryd.underlying3 (q:=.i64) (a:=(l.length:Int)) (DL (by unfold I64;omega)));exact⟨w',hrun,CS.put h2 hy hn h3 h4 r1,r2⟩
theorem GJ{w:World}{z:Nat}{t:TypeId}{c d:Value}(h:w.heap[z]? =some (.cells #[c] t (0,0))):(w.setCell ⟨z,0,none⟩ d).heap[z]? =some (.cells #[d] t (0,0)):=by
 have:=heap_setCell_same w z 0 _ _ d h;simpa using this
theorem Qz{a:Au}(hv:Az a=true){q x:Int}(h0:0<=q)(h1:q<a.next.length)(hx0:0<=x)(hx1:x<a.letters):0<=nxL a q x/\nxL a q x<a.next.length:=by
 obtain⟨h2,-,h3⟩:=Cb hv (s:=q.toNat) (by omega);exact h3 x.toNat (by omega)
theorem Hf{a:Au}(hv:Az a=true){q m:Int}(h0:0<=q)(h1:q<a.next.length):∀{ls:List Int},(∀x∈ls,0<=x/\x<a.letters)->0<=(CC a (q,m) ls).1/\(CC a (q,m) ls).1<a.next.length:=by
 intro ls
 induction ls generalizing q m with
 |nil=>intro _;exact⟨h0,h1⟩
 |cons x ls ih=>
  intro hl;have hx:=hl x List.mem_cons_self;have:=Qz hv h0 h1 hx.1 hx.2
  exact ih this.1 this.2 fun y hy=>hl y (List.mem_cons_of_mem _ hy)
theorem Rn(w0 w:World)(vls:Value)(ls:List Int)(a:Au)(zp zs n2 k2 n3 k3:Nat)(p2 p3:Option Addr)(q:Int)(hv:Az a=true)(hB:Below w0.heap.size w0 w)(hl:Af w0 vls ls)(hx:w0.heap[zp]? =some (.cells #[.int .i64 a.letters,.int .i64 a.start,.slice p2 n2 k2,.slice p3 n3 k3] 44 (0,0)))
  (hN:Ao w0 (.slice p2 n2 k2) a.next) (hP:Ao w0 (.slice p3 n3 k3) a.prio) (hz:w0.heap.size<=zs) (hs:w.heap[zs]? =some (.cells #[.int .i64 q] 3 (0,0))) (h0:0<=q) (h1:q<a.next.length) (hls:∀x∈ls,0<=x/\x<a.letters):
  Calls Tryd.prog 59 #[vls,.pointer (some ⟨zp,0,none⟩),.pointer (some ⟨zs,0,none⟩)] w (fun e w'=>e=.returned (.int .i64 (CC a (q,20000) ls).2)/\Below w0.heap.size w0 w'/\w.grownBy w' (some zs)/\w'.heap[zs]? =some (.cells #[.int .i64 (CC a (q,20000) ls).1] 3 (0,0))):=by
 obtain⟨al,cl,rfl⟩:=hl.shp;obtain⟨lb,lo,had,hlm,hlc⟩:=hl.dat;obtain⟨V2,⟨a2,c2,b2,o2,hv2,f2⟩,r2⟩:=hN;obtain⟨V3,⟨a3,c3,b3,o3,hv3,f3⟩,r3⟩:=hP;simp only[Value.slice.injEq]at hv2 hv3;obtain⟨rfl,rfl,rfl⟩:=hv2;obtain⟨rfl,rfl,rfl⟩:=hv3
 have hpl:a.prio.length=a.next.length:=by
  have h:=hv;simp only[Az,Bool.and_eq_true,decide_eq_true_eq]at h;exact h.1.1.2
 obtain rfl:=f2.ad (by omega);obtain rfl:=f3.ad (by omega);have HC:=Ab hlc;have HAD:=Ab had;have hs0:=hs;clear had hlc hl
 go_enter Tryd.func59,Tryd.ntmps59
 go_wp2
 go_loopg [5,10] ls.length (fun gh m i wr=>∃k:Nat,gh=ls.length-k/\i=.int .i64 k/\m=.int .i64 (CC a (q,20000) (ls.take k)).2/\k<=ls.length/\Below w0.heap.size w0 wr/\w.grownBy wr (some zs)/\wr.heap[zs]? =some (.cells #[.int .i64 (CC a (q,20000) (ls.take k)).1] 3 (0,0)))
 case atStart=>exact⟨0,by omega,rfl,rfl,by omega,hB,Fm _ _,hs⟩
 case round=>
  obtain⟨k,hgk,rfl,rfl,hk,hBr,hgr,hsr⟩:=hrel;have HGK:=Ab hgk;clear hgk hs hs0 hB
  by_cases hlt:k<ls.length
  ·obtain rfl:=HAD.out (by omega);have lc:=Aj hBr (HC.out k hlt)
   have hxm:ls.getD k 0∈ls:=by rw[Ag _ _ _ hlt];exact List.getElem_mem hlt
   obtain⟨x0,x1⟩:=hls _ hxm;obtain⟨x,hxe⟩:=Int.eq_ofNat_of_zero_le x0
   obtain⟨q0,q1⟩:=Hf hv h0 h1 (m:=20000) (ls:=ls.take k) fun y hy=>hls y (List.mem_of_mem_take hy)
   have hstep:=Lk a (q,20000) (ls.take k) (ls.getD k 0);rw[show ls.take k++[ls.getD k 0]=ls.take (k+1)by rw[List.take_succ_eq_append_getElem hlt,Ag _ _ _ hlt]]at hstep;have HST:=Ab hstep;generalize CC a (q,20000) (ls.take k)=s at*;obtain⟨sn,hsn⟩:=Int.eq_ofNat_of_zero_le q0
   have hnx:nxL a s.1 (ls.getD k 0)=(a.next.getD sn []).getD x 0:=by unfold nxL;rw[hsn,hxe];rfl
   have hpx:prL a s.1 (ls.getD k 0)=(a.prio.getD sn []).getD x 0:=by unfold prL;rw[hsn,hxe];rfl
   have hsN:sn<a.next.length:=by omega
   have hrow:=Cb hv hsN;have i2:=r2 sn hsN;have i3:=r3 sn (by omega);have e2:=Aj hBr (f2.el sn hsN);have e3:=Aj hBr (f3.el sn (by omega));obtain⟨ar2,cr2,hvr2⟩:=i2.shp;obtain⟨ar3,cr3,hvr3⟩:=i3.shp;rw[hvr2]at e2 i2;rw[hvr3]at e3 i3;obtain⟨nb,no,na,-,nc⟩:=i2.dat;obtain⟨mb,mo,ma,-,mc⟩:=i3.dat
   have hxl2:x<(a.next.getD sn []).length:=by omega
   have hxl3:x<(a.prio.getD sn []).length:=by omega
   obtain rfl:=na (by omega);obtain rfl:=ma (by omega);have n1:=Aj hBr (nc x hxl2);have n2:=Aj hBr (mc x hxl3);rw[<-hnx]at n1;rw[<-hpx]at n2;rw[hxe]at lc;have hxc:=Am hBr hx;have d2:=Aa 2 hxc;have d3:=Aa 3 hxc;have s1:=Aa 0 hsr;have s2:=Aw 0 hsr;have HS2:=Ab (GJ (d:=.int .i64 (nxL a s.1 (ls.getD k 0))) hsr);have HBS:=Ab (hBr.setCell (p:=⟨zs,0,none⟩) hz (.int .i64 (nxL a s.1 (ls.getD k 0))));have HGS:=Ab (JT hgr (Cl wr zs 0 (.int .i64 (nxL a s.1 (ls.getD k 0)))))
   have hpn:(sn:Int)<a.prio.length:=by omega
   rw[hsn]at s1;clear hrow hvr2 hvr3 i2 i3 na ma nc mc hnx hpx hxe hsn hstep x0 x1 hxm hBr hgr hsr q0 q1;generalize nxL a s.1 (ls.getD k 0)=nq at*;generalize prL a s.1 (ls.getD k 0)=np at*;generalize(a.next.getD sn []).length=L2 at*;generalize(a.prio.getD sn []).length=L3 at*;have hln:ls.length<=140737488351232:=hlm;go_wp2
   all_goals
    go_roundg (ls.length-(k+1))
    case measure=>have:=HGK.out;omega
    case rel=>exact⟨k+1,rfl,by go_num,by rw[HST.out];congr 1;first|omega|(simp;omega),by omega,HBS.out,HGS.out,by rw[HST.out];exact HS2.out⟩
  ·obtain rfl:k=ls.length:=by omega
   rw[List.take_length]at hsr⊢;go_wp2;go_ret;exact⟨rfl,hBr,hgr,hsr⟩
def prC(y:Pr):Array Value:=#[.int .i64 (y.1:Int),.int .i64 (y.2:Int)]
def prV(y:Pr):Value:=.agg (prC y)
def WfQ(y:Pr):Prop:=y.1<100000/\y.2<100000
noncomputable def klQ (y:Pr):Lit:=(keyOf Tryd.prog 104 (prV y)).getD (.bool false)
theorem QA:104<Tryd.prog.types.size:=of_decide_eq_true (by kernel_rfl)
theorem Rm:(match Tryd.prog.underlying 104 with|some (.array _ _)|some (.struct _)=>true| _=>false)=true:=by kernel_rfl
theorem Sn:Tryd.prog.keyTypeAt 2 104=true:=by kernel_rfl
theorem GK:Keyed Tryd.prog 104:=Keyed.of_law (deep_law_laid FX (m:=2) (by omega) QA Sn Rm)
theorem Rl:Tryd.prog.keyType 104=true:=by kernel_rfl
theorem Md:Tryd.prog.cellsOf 104=2:=by kernel_rfl
theorem Kl(y:Pr)(h:WfQ y):keyOf Tryd.prog 104 (prV y)=some (klQ y):=by
 have hs:(keyOf Tryd.prog 104 (prV y)).isSome=true:=by
  obtain⟨a,b⟩:=y;obtain⟨ha,hb⟩:=h;have wa:=DL (a:=(a:Int)) (by unfold I64;simp only at ha;omega);have wb:=DL (a:=(b:Int)) (by unfold I64;simp only at hb;omega)
  have hf:(prV ⟨a,b⟩).formed Tryd.prog 104=true:=by simp[prV,prC,Value.formed,Tryd.underlying104,Md]
  obtain⟨m,hm⟩:∃m,Tryd.prog.types.size=m+1:=⟨Tryd.prog.types.size-1,by have:=QA;omega⟩;unfold keyOf;rw[Rl,hf,hm];simp only[Tryd.underlying104,Bool.and_self,if_true,Option.isSome_map];simp[Program.keyLits,Tryd.underlying104,Tryd.underlying3,Md,JZ,prV,prC,Value.cells,wa,wb,List.range_succ]
 obtain⟨k,hk⟩:=Option.isSome_iff_exists.1 hs;unfold klQ;rw[hk];rfl
theorem Qi{y z:Pr}(h:prV y=prV z):y=z:=by
 obtain⟨a,b⟩:=y;obtain⟨a',b'⟩:=z;simp only[prV,prC,Value.agg.injEq,Array.mk.injEq,List.cons.injEq,Value.int.injEq,true_and,and_true]at h;exact Prod.ext (by omega) (by omega)
theorem LZ{y z:Pr}(hy:WfQ y)(hz:WfQ z)(h:klQ y=klQ z):y=z:=by
 have h1:=Kl y hy;have h2:=Kl z hz;rw[<-h]at h2;generalize klQ y=k at*;exact Qi (Keyed.inj GK h1 h2)
theorem L0{y:Pr}(hy:WfQ y):∃k,klQ y=k/\Go.WideAt.IsKeyLit k:=by
 have h1:=Kl y hy;generalize klQ y=k at*;exact⟨k,rfl,Keyed.key GK h1⟩
theorem Od{α:Type} [BEq α] [LawfulBEq α] {l e:List α}{y:α}(h:y∈l):(l++e).idxOf y=l.idxOf y:=by
 rw[List.idxOf_append,if_pos h]
theorem Oc{α:Type} [BEq α] [LawfulBEq α] {l:List α}{y:α}(h:y∉l):(l++[y]).idxOf y=l.length:=by
 rw[List.idxOf_append,if_neg h];simp
def Fe(w:World)(b:Nat)(l:List Pr):Prop:=∃D:DataW Unit,w.ownsMap Tryd.prog 104 (plainElem Tryd.prog 3) b l.length D/\IsMap D/\
 (∀y,WfQ y->Maps.has D (klQ y)=decide (y∈l))/\∀y,WfQ y->y∈l->D.atKey (klQ y) (.lit (.int .i64 0))=.lit (.int .i64 (l.idxOf y))
section
variable {w w':World} {b:Nat} {l:List Pr} {y:Pr}
theorem Fe.blk(h:Fe w b l)(e:w'.heap[b]? =w.heap[b]?):Fe w' b l:=by
 obtain⟨D,⟨es,c,h1,h2⟩,h3⟩:=h;exact⟨D,⟨es,c,e.trans h1,h2⟩,h3⟩
theorem Fe.lt(h:Fe w b l):b<w.heap.size:=by
 obtain⟨D,h1,-⟩:=h;exact h1.lt
theorem Fe.made(w:World):Fe (w.alloc (.map #[] 0)) w.heap.size []:=
 ⟨_,World.ownsMap_made w Tryd.prog 104 _,isMap_empty,fun y _=>by simp[Maps.has],fun y _ hy=>absurd hy (by simp)⟩
theorem Fe.get(h:Fe w b l)(hy:WfQ y):
  (y∈l->(Instr.lookup 136 (.map (some b)) (prV y) true).run Tryd.prog w=.ok (.tuple #[.int .i64 (l.idxOf y:Int),.bool true]) w)/\
  (y∉l->∃c,(Instr.lookup 136 (.map (some b)) (prV y) true).run Tryd.prog w=.ok (.tuple #[.int .i64 c,.bool false]) w):=by
 obtain⟨D,h1,h2,h3,h4⟩:=h;obtain⟨v,ps,hrun,hv⟩:=h1.look_ok GK Tryd.underlying136 (F8 w) (plainElem_int Tryd.underlying3 (q:=.i64) (a:=0) rfl) (Kl y hy);obtain⟨c,rfl,hc,hwc⟩:=plainElem_int_inv Tryd.underlying3 hv;rw[h3 y hy]at hrun;simp only[Prod.mk.injEq]at hc;refine⟨fun hm=> ?_,fun hm=>⟨c,by rw[hrun,decide_eq_false hm]⟩⟩;have h5:=h4 y hy hm;rw[hc.1]at h5;simp only[DataW.lit.injEq,Lit.int.injEq,true_and]at h5;rw[hrun,decide_eq_true hm,h5]
theorem Fe.upd(h:Fe w b l)(hy:WfQ y)(hn:y∉l)(hl:l.length<=4000):
  ∃w',(Instr.mapUpdate 136 (.map (some b)) (prV y) (.int .i64 (l.length:Int))).run Tryd.prog w=.ok () w'/\Fe w' b (l++[y])/\w.grownBy w' (some b):=by
 obtain⟨D,h1,h2,h3⟩:=h;obtain⟨w',hrun,r1,r2⟩:=h1.update GK Tryd.underlying136 (by simp only[maxLen];omega) (Kl y hy) (plainElem_int Tryd.underlying3 (q:=.i64) (a:=(l.length:Int)) (DL (by unfold I64;omega)));refine⟨w',hrun, ?_,r2⟩;refine⟨_,by rw[List.length_append,List.length_singleton];exact r1,h2.put _ _,fun z hz=> ?_,fun z hz hzl=> ?_⟩
 ·by_cases e:z=y
  ·subst e;obtain⟨k,e,hk⟩:=L0 hz;rw[e,has_put_same h2 hk];simp
  ·rw[has_put_other (fun k=>e (LZ hz hy k)),h3.1 z hz];simp[e]
 ·by_cases e:z=y
  ·subst e;obtain⟨k,e,hk⟩:=L0 hz;rw[Oc hn,e,atKey_put_same h2 hk]
  ·have hzl':z∈l:=by
    rcases List.mem_append.1 hzl with h|h
    ·exact h
    ·exact absurd (List.mem_singleton.1 h) e
   rw[atKey_put_other (fun k=>e (LZ hz hy k)),h3.2 z hz hzl',Od hzl']
end
end Go.Proofs.YtncjeamdkjcebaaDoor
