/- The board's position of a place, and its iterator of the places that follow. -/
import Derived.RangeFuncKeeps
import Derived.Test.YtncjeamdkjcebaaGreatDoorZSt1
set_option linter.all false
set_option maxHeartbeats 4000000
set_option maxRecDepth 100000
namespace Go.Proofs.YtncjeamdkjcebaaGreatDoor
open Go.RowKit
def Fh(w:World)(v:Value)(a:Au)(l:List Sig):Prop:=∃v2 v3 vt,v=.agg #[.int .i64 a.letters,.int .i64 a.start,v2,v3,.int .i64 (AT a),vt]/\Ar w v2 a.next/\Ar w v3 a.prio/\Ar w vt (Aq l)
theorem Fh.below{w wr:World}{v:Value}{a:Au}{l:List Sig}(h:Fh w v a l)(hb:Below w.heap.size w wr):Fh wr v a l:=by
 obtain⟨v2,v3,vt,rfl,h2,h3,h4⟩:=h;exact⟨v2,v3,vt,rfl,h2.below hb,h3.below hb,h4.below hb⟩
theorem Gb.is{w w':World}{va:Value}{a:Au}{l:List Sig}{e:Ending}(h:Gb va a l w e w')(ha:Cm w va a):∃vb,e=.returned vb/\Fh w' vb a l/\Below w.heap.size w w':=by
 obtain⟨v2,v3,vt,rfl,rfl,ht,hb⟩:=h;obtain⟨x2,x3,e,-,h2,h3⟩:=ha
 obtain⟨rfl,rfl⟩:v2=x2/\v3=x3:=by simpa using e
 exact⟨_,rfl,⟨_,_,_,rfl,h2.below hb,h3.below hb,ht⟩,hb⟩
theorem ML(w:World)(vb:Value)(a:Au)(l:List Sig)(y:T4)(hb:Fh w vb a l):
  Calls Tryz.prog 76 #[vb,plV y] w fun e w'=>e=.returned (.tuple #[.int .i64 (D1 y),.int .i64 (D2 (AT a) y)])/\Below w.heap.size w w':=by
 obtain⟨v2,v3,vt,rfl,⟨V2,⟨ao2,cap2,b2,off2,rfl,-⟩,-⟩,⟨V3,⟨ao3,cap3,b3,off3,rfl,-⟩,-⟩,⟨VT,⟨aot,capt,bt,offt,rfl,-⟩,-⟩⟩:=hb;generalize AT a=tp;generalize a.letters=L;generalize a.start=St;obtain⟨st,inn,pr⟩:=y;unfold plV
 by_cases hy:inn<0
 ·have e1:Hid (D1 ⟨st,inn,pr⟩=1):=if_pos hy;have e2:Hid (D2 tp ⟨st,inn,pr⟩=pr):=if_pos hy
  have e3:decide (inn<0)=true:=by simpa using hy
  go_enter Tryz.func76,Tryz.ntmps76
  go_wp2;refine wp_region_quiet_lit (by kernel_rfl) (by kernel_rfl) ?_
  ((repeat(go_big_quiet_step (fail)));refine wpQuiet_nil ?_;rintro _ ⟨nq,rfl⟩)
  go_wp2_with fail
  go_ret2;rw[e1.out,e2.out];exact⟨rfl,(by repeat(first|exact Ad|assumption|apply AD|apply AE))⟩
 ·have e1:Hid (D1 ⟨st,inn,pr⟩=0):=if_neg hy;have e2:Hid (D2 tp ⟨st,inn,pr⟩=tp):=if_neg hy
  have e3:decide (inn<0)=false:=by simpa using hy
  go_enter Tryz.func76,Tryz.ntmps76
  go_wp2;refine wp_region_quiet_lit (by kernel_rfl) (by kernel_rfl) ?_
  ((repeat(go_big_quiet_step (fail)));refine wpQuiet_nil ?_;rintro _ ⟨nq,rfl⟩)
  go_wp2_with fail
  go_ret2;rw[e1.out,e2.out];exact⟨rfl,(by repeat(first|exact Ad|assumption|apply AD|apply AE))⟩
def plC(y:T4):Array Value:=#[.int .i64 y.st,.int .i64 y.inn,.int .i64 y.pr]
theorem SX(w:World)(L St tp:Int)(ao2 ao3 aot:Option Addr)(n2 cap2 n3 cap3 nt capt:Nat)(y:T4):
  Calls Tryz.prog 75 #[.agg #[.int .i64 L,.int .i64 St,.slice ao2 n2 cap2,.slice ao3 n3 cap3,.int .i64 tp,.slice aot nt capt],plV y] w fun e w'=>
   e=.returned (.func (.func 112) #[] #[.pointer (some ⟨w.heap.size+1,0,none⟩),.pointer (some ⟨w.heap.size,0,none⟩)])/\
   w'=(w.alloc (.cells #[.int .i64 L,.int .i64 St,.slice ao2 n2 cap2,.slice ao3 n3 cap3,.int .i64 tp,.slice aot nt capt] 105)).alloc (.cells (plC y) 108):=by
 unfold plV plC
 go_enter Tryz.func75,Tryz.ntmps75
 go_wp2;go_ret;exact⟨rfl,rfl⟩
end Go.Proofs.YtncjeamdkjcebaaGreatDoor
namespace Go.Proofs.YtncjeamdkjcebaaGreatDoor
open Go.RowKit Go.Shelf
attribute [local go_sem] Oper.semAt_some
def AZ(a:Au)(T:List (List Int))(y:T4):List T4:=
 if y.inn<0 then(List.range T.length).map fun(i:Nat)=>⟨y.st,(i:Int),-1⟩
 else(T.getD y.inn.toNat []).map fun v=>⟨(a.next.getD y.st.toNat []).getD v.toNat 0,-1,(a.prio.getD y.st.toNat []).getD v.toNat 0⟩
def KpN(n₀ Bp Bb:Nat)(W W':World):Prop:=Below n₀ W W'/\W'.heap[Bp]? =W.heap[Bp]? /\W'.heap[Bb]? =W.heap[Bb]?
theorem KpN.trans{n₀ Bp Bb:Nat}{A B C:World}(h:KpN n₀ Bp Bb A B)(k:KpN n₀ Bp Bb B C):KpN n₀ Bp Bb A C:=⟨h.1.trans k.1,k.2.1.trans h.2.1,k.2.2.trans h.2.2⟩
theorem KpN.refl(n₀ Bp Bb:Nat)(A:World):KpN n₀ Bp Bb A A:=⟨Ad,rfl,rfl⟩
theorem KpN.put{n₀ Bp Bb:Nat}{w:World}(hn:n₀<=w.heap.size)(hB:Bp<w.heap.size)(hC:Bb<w.heap.size)(W:World)(l:Nat)(o o':Obj)(hl:w.heap.size<=l)(h:W.heap[l]? =some o)(h1:o.isCells=false)(h2:o.isWalk=false):KpN n₀ Bp Bb W (W.putObj l o'):=
 ⟨belowK_b hn W l o o' hl h h1 h2,(grownBy_putObj' W l o').block Bp (by have:=(ltE h);omega) (by simp;omega),(grownBy_putObj' W l o').block Bb (by have:=(ltE h);omega) (by simp;omega)⟩
theorem KpN.of_below{n₀ Bp Bb:Nat}{W W':World}(h:Below W.heap.size W W')(hn:n₀<=W.heap.size)(hB:Bp<W.heap.size)(hC:Bb<W.heap.size):KpN n₀ Bp Bb W W':=⟨h.mono hn,h.block _ hB,h.block _ hC⟩
def K1(S:List T4)(x:Fin S.length):Array Value:=#[plV S[x]]
theorem MI(F:Fence)(n:Nat)(h7:F.fn 112)(hro:F.round=none)(hn:1<=n)(lY Bp Bb n₀:Nat)(a:Au)(T:List (List Int))(y:T4)(S:List T4)(hS:S=AZ a T y)(hy:y.inn<0)(hT:T.length<=64)
  (L St tp:Int) (ao2 ao3 aot:Option Addr) (n2 cap2 n3 cap3 capt:Nat) (J Jx:List (Fin S.length)->World->Prop)
  (hY:∀pre x W,J pre W->pre.length<S.length->YieldAt F (n-1) Tryz.prog lY (K1 S x) W fun e W'=>
   (e=.returned (.bool true)/\J (pre++[x]) W'/\KpN n₀ Bp Bb W W')\/(e=.returned (.bool false)/\Jx (pre++[x]) W'))
  (W:World) (hBp:W.heap[Bp]? =some (.cells (plC y) 108 (0,0))) (hBb:W.heap[Bb]? =some (.cells #[.int .i64 L,.int .i64 St,.slice ao2 n2 cap2,.slice ao3 n3 cap3,.int .i64 tp,.slice aot T.length capt] 105 (0,0))) (h0:J [] W):
  CallsIn F n Tryz.prog 112 #[.func (.yield lY) #[] #[],.pointer (some ⟨Bp,0,none⟩),.pointer (some ⟨Bb,0,none⟩)] W fun e W'=>(∃v,e=.returned v)/\
   ((∃ys,ys=CK S.length/\J ys W')\/(∃pre,(∃k,k<=S.length/\pre=(CK S.length).take k)/\Jx pre W')):=by
 have hlen:S.length=T.length:=by rw[hS,AZ,if_pos hy,List.length_map,List.length_range]
 have HE:Hid (∀k(h:k<S.length),K1 S ⟨k,h⟩=#[.agg #[.int .i64 y.st,.int .i64 (k:Int),.int .i64 (-1)]]):=fun k h=>by
  subst hS;simp only[K1,plV,AZ];simp[hy]
 have HCP:Hid (∀W':World,W'.heap[Bp]? =W.heap[Bp]? ->W'.cell? ⟨Bp,0,none⟩=some (.int .i64 y.st)):=fun W' h=>cell_of_row W' Bp 0 _ _ _ (h.trans hBp)
 have p1:W.cell? ⟨Bp,1,none⟩=some (.int .i64 y.inn):=Aa 1 hBp;have b5:W.cell? ⟨Bb,5,none⟩=some (.slice aot T.length capt):=Aa 5 hBb
 have e3:decide (y.inn<0)=true:=by simpa using hy
 generalize T.length=m at*;generalize hst:y.st=st at*;clear hS hBp hBb hst;refine callsIn_of_wp Tryz.func112 rfl h7 ?_ hro;simp only[Tryz.ntmps112,List.size_toArray,List.length_cons,List.length_nil,Nat.reduceAdd,Nat.reduceSub,Array.replicate_succ,Array.replicate_zero,List.push_toArray,List.append_toArray,List.nil_append,List.cons_append]
 gi_wp2
 gi_loopw [14] (fun i wr=>∃k:Nat,k<=m/\i=.int .i64 k/\J ((CK S.length).take k) wr/\KpN n₀ Bp Bb W wr)
  (fun i _=>m-(intOf i).toNat)
 case atStart=>exact⟨0,Nat.zero_le _,rfl,h0,KpN.refl _ _ _ _⟩
 case round=>
  obtain⟨k,hk,rfl,hJs,hnx⟩:=hrel
  by_cases hlt:k<m
  ·have hltS:k<S.length:=by omega
   obtain⟨fn,tmps,assign,body,hy',hR⟩:=hY _ ⟨k,hltS⟩ wr hJs (by rw[List.length_take,Cb];omega);rw[HE.out k hltS]at hy';have p0:=HCP.out wr hnx.2.1
   gi_wp2
   refine hR.mono ?_;rintro e W3 (⟨rfl,hJ3,hk3⟩|⟨rfl,hJx3⟩)
   ·have hk4:=hnx.trans hk3
    gi_wp2
    go_roundw
    case rel=>exact⟨k+1,by omega,by go_num,by rw[Cy hltS];exact hJ3,hk4⟩
    case measure=>simp[intOf];omega
   ·gi_wp2
    refine bodyPost_ret (results_none rfl _ _ _) rfl ?_;exact⟨⟨_,rfl⟩,.inr ⟨_,⟨k+1,by omega,(Cy hltS).symm⟩,hJx3⟩⟩
  ·obtain rfl:k=m:=by omega
   gi_wp2
   refine bodyPost_ret (results_none rfl _ _ _) rfl ?_;exact⟨⟨_,rfl⟩,.inl ⟨_,rfl,by rw[List.take_of_length_le (by rw[Cb];omega)]at hJs;exact hJs⟩⟩
attribute [local go_sem] Oper.semAt_some
def R9(Bp Bb b2 off2 n2 cap2 b3 off3 cap3 s v bx ox L cx by' oy cy:Nat)(nv pv:Int)(B:Nat)(ix:Nat)(u:Value)(W:World):Prop:=
 match ix with
 |0|10=>u=.pointer (some ⟨Bb,0,none⟩)
 |1=>u=.pointer (some ⟨Bb,2,none⟩)
 |2=>u=.slice (some ⟨b2,off2,none⟩) n2 cap2
 |3|13=>u=.pointer (some ⟨Bp,0,none⟩)
 |4|14=>u=.int .i64 (s:Int)
 |5=>u=.pointer (some ⟨b2,off2+s,none⟩)
 |6=>u=.slice (some ⟨bx,ox,none⟩) L cx
 |7|17=>u=.int .i64 (v:Int)
 |8=>u=.pointer (some ⟨bx,ox+v,none⟩)
 |9=>u=.int .i64 nv
 |11=>u=.pointer (some ⟨Bb,3,none⟩)
 |12=>u=.slice (some ⟨b3,off3,none⟩) n2 cap3
 |15=>u=.pointer (some ⟨b3,off3+s,none⟩)
 |16=>u=.slice (some ⟨by',oy,none⟩) L cy
 |18=>u=.pointer (some ⟨by',oy+v,none⟩)
 |19=>u=.int .i64 pv
 |20=>u=.agg #[.int .i64 nv,.int .i64 (-1),.int .i64 pv]
 |21=>∃z,u=.pointer (some ⟨z,0,none⟩)/\B<=z/\W.heap[z]? =some (.cells #[.int .i64 0,.int .i64 0,.int .i64 0] 108 (0,0))
 | _=>True
theorem R9.mono(Bp Bb b2 off2 n2 cap2 b3 off3 cap3 s v bx ox L cx by' oy cy:Nat)(nv pv:Int)(B:Nat)(ix:Nat)(u:Value)(W W':World)(h:R9 Bp Bb b2 off2 n2 cap2 b3 off3 cap3 s v bx ox L cx by' oy cy nv pv B ix u W)(hb:Below W.heap.size W W'):R9 Bp Bb b2 off2 n2 cap2 b3 off3 cap3 s v bx ox L cx by' oy cy nv pv B ix u W':=by
 unfold R9 at*
 split at h<;>first|exact h|(obtain⟨o,h1,h2,h3⟩:=h;exact⟨o,h1,h2,(hb.block o (ltE h3)).trans h3⟩)
structure F9(Bp Bb b2 off2 n2 cap2 b3 off3 cap3 s v bx ox L cx by' oy cy:Nat)(nv pv:Int)(W:World):Prop where
 c2:W.cell? ⟨Bb,2,none⟩=some (.slice (some ⟨b2,off2,none⟩) n2 cap2)
 c3:W.cell? ⟨Bb,3,none⟩=some (.slice (some ⟨b3,off3,none⟩) n2 cap3)
 c0:W.cell? ⟨Bp,0,none⟩=some (.int .i64 (s:Int))
 cx:W.cell? ⟨b2,off2+s,none⟩=some (.slice (some ⟨bx,ox,none⟩) L cx)
 cy:W.cell? ⟨b3,off3+s,none⟩=some (.slice (some ⟨by',oy,none⟩) L cy)
 cn:W.cell? ⟨bx,ox+v,none⟩=some (.int .i64 nv)
 cp:W.cell? ⟨by',oy+v,none⟩=some (.int .i64 pv)
theorem F9.below{Bp Bb b2 off2 n2 cap2 b3 off3 cap3 s v bx ox L cx by' oy cy:Nat}{nv pv:Int}{W W':World}(h:F9 Bp Bb b2 off2 n2 cap2 b3 off3 cap3 s v bx ox L cx by' oy cy nv pv W)(hb:Below W.heap.size W W'):F9 Bp Bb b2 off2 n2 cap2 b3 off3 cap3 s v bx ox L cx by' oy cy nv pv W':=
 ⟨Ah hb h.c2,Ah hb h.c3,Ah hb h.c0,Ah hb h.cx,Ah hb h.cy,Ah hb h.cn,Ah hb h.cp⟩
theorem Lr(F:Fence)(n:Nat)(h7:F.fn 112)(hro:F.round=none)(hn:1<=n)(lY Bp Bb:Nat)(w0:World)(a:Au)(T:List (List Int))(y:T4)(S:List T4)(hS:S=AZ a T y)(hy:0<=y.inn/\y.inn<T.length)(hst:0<=y.st/\y.st<a.next.length)(hpl:a.prio.length=a.next.length)
  (hL:(a.next.getD y.st.toNat []).length=(a.prio.getD y.st.toNat []).length) (hr:∀v∈T.getD y.inn.toNat [],0<=v/\v<(a.next.getD y.st.toNat []).length) (hT64:(T.getD y.inn.toNat []).length<=64)
  (Lt St tp:Int) (ao2 ao3 aot:Option Addr) (cap2 cap3 capt:Nat) (J Jx:List (Fin S.length)->World->Prop) (hJA:∀pre W W',J pre W->Below W.heap.size W W'->J pre W')
  (hY:∀pre x W,J pre W->pre.length<S.length->YieldAt F (n-1) Tryz.prog lY (K1 S x) W fun e W'=>
   (e=.returned (.bool true)/\J (pre++[x]) W'/\KpN w0.heap.size Bp Bb W W')\/(e=.returned (.bool false)/\Jx (pre++[x]) W'))
  (W:World) (hW0:Below w0.heap.size w0 W) (hBp:W.heap[Bp]? =some (.cells (plC y) 108 (0,0))) (hBb:W.heap[Bb]? =some (.cells #[.int .i64 Lt,.int .i64 St,.slice ao2 a.next.length cap2,.slice ao3 a.next.length cap3,.int .i64 tp,.slice aot T.length capt] 105 (0,0)))
  (hN:Ar w0 (.slice ao2 a.next.length cap2) a.next) (hP:Ar w0 (.slice ao3 a.next.length cap3) a.prio) (hT:Ar w0 (.slice aot T.length capt) T) (h0:J [] W):
  CallsIn F n Tryz.prog 112 #[.func (.yield lY) #[] #[],.pointer (some ⟨Bp,0,none⟩),.pointer (some ⟨Bb,0,none⟩)] W fun e W'=>(∃v,e=.returned v)/\
   ((∃ys,ys=CK S.length/\J ys W')\/(∃pre,(∃k,k<=S.length/\pre=(CK S.length).take k)/\Jx pre W')):=by
 have hmx:Tryz.prog.follows .mixedOrders=true:=by kernel_rfl
 obtain⟨V2,⟨ao2',cap2',b2,off2,e2,g2⟩,hr2⟩:=hN;obtain⟨V3,⟨ao3',cap3',b3,off3,e3,g3⟩,hr3⟩:=hP;obtain⟨VT,⟨aot',capt',bt,offt,et,gt⟩,hrt⟩:=hT;simp only[Value.slice.injEq]at e2 e3 et;obtain⟨rfl,-,rfl⟩:=e2;obtain⟨rfl,-,rfl⟩:=e3;obtain⟨rfl,-,rfl⟩:=et
 have hny:¬y.inn<0:=by omega
 have hlen:S.length=(T.getD y.inn.toNat []).length:=by rw[hS,AZ,if_neg hny,List.length_map]
 have HE:Hid (∀k(h:k<S.length),K1 S ⟨k,h⟩=#[.agg #[.int .i64 ((a.next.getD y.st.toNat []).getD ((T.getD y.inn.toNat []).getD k 0).toNat 0),.int .i64 (-1),.int .i64 ((a.prio.getD y.st.toNat []).getD ((T.getD y.inn.toNat []).getD k 0).toNat 0)]]):=fun k h=>by
  rw[Af (T.getD y.inn.toNat []) _ _ (show k<_ from hlen▸h)];subst hS;simp only[K1,plV,AZ];simp[hny]
 have HBP:Hid (∀W':World,W'.heap[Bp]? =W.heap[Bp]? ->W'.cell? ⟨Bp,0,none⟩=some (.int .i64 y.st)):=fun W' h=>cell_of_row W' Bp 0 _ _ _ (h.trans hBp)
 have HBB:Hid (∀W':World,W'.heap[Bb]? =W.heap[Bb]? ->W'.cell? ⟨Bb,2,none⟩=some (.slice ao2 a.next.length cap2)/\W'.cell? ⟨Bb,3,none⟩=some (.slice ao3 a.next.length cap3)):=fun W' h=>⟨cell_of_row W' Bb 2 _ _ _ (h.trans hBb),cell_of_row W' Bb 3 _ _ _ (h.trans hBb)⟩
 have p1:W.cell? ⟨Bp,1,none⟩=some (.int .i64 y.inn):=Aa 1 hBp;have b5:W.cell? ⟨Bb,5,none⟩=some (.slice aot T.length capt):=Aa 5 hBb;have hBpl:=(ltE hBp);have hBbl:=(ltE hBb);obtain⟨i,hi⟩:=Int.eq_ofNat_of_zero_le hy.1;obtain⟨s,hs⟩:=Int.eq_ofNat_of_zero_le hst.1;rw[hi]at hny p1 hy HE hr hT64 hlen;rw[hs]at hst HE hL hr HBP;simp only[Int.toNat_natCast]at HE hL hr hT64 hlen
 have hiT:i<T.length:=by omega
 have hsN:s<a.next.length:=by omega
 obtain rfl:=gt.ad (by omega);obtain rfl:=g2.ad (by omega);obtain rfl:=g3.ad (by omega);obtain⟨⟨aor,cr,br,fr,hvr,gr⟩,hrr⟩:=hrt i hiT;obtain⟨⟨aox,cx,bx,ox,hvx,gx⟩,-⟩:=hr2 s hsN;obtain⟨⟨aoy,cy,by',oy,hvy,gy⟩,-⟩:=hr3 s (by omega);have ct:W.cell? ⟨bt,offt+i,none⟩=some (VT i):=Ah hW0 (gt.el i hiT);have k2:=g2.el s hsN;have k3:=g3.el s (by omega);rw[hvr]at ct;rw[hvx]at k2;rw[hvy]at k3;rw[<-hL]at k3 gy;clear hL;have HK2:=Ab k2;have HK3:=Ab k3;have HGR:=Ab gr;have HGX:=Ab gx;have HGY:=Ab gy;have HRV:=Ab hr
 have e3:decide ((i:Int)<0)=false:=by simp
 generalize hrow:T.getD i []=row at*;generalize a.next.getD s []=rx at*;generalize a.prio.getD s []=ry at*;generalize rx.length=L at*;generalize a.next.length=n2 at*;have hnb:=gt.nb
 have hTi:(i:Int)<(T.length:Int):=by omega
 clear hr k2 k3 hvr hvx hvy hrr gr gx gy hS hBp hBb hr2 hr3 hrt g2 g3 gt hi hs hrow;generalize T.length=nt at*;refine callsIn_of_wp Tryz.func112 rfl h7 ?_ hro;simp only[Tryz.ntmps112,List.size_toArray,List.length_cons,List.length_nil,Nat.reduceAdd,Nat.reduceSub,Array.replicate_succ,Array.replicate_zero,List.push_toArray,List.append_toArray,List.nil_append,List.cons_append]
 gi_wp2
 clear ct p1 b5
 gi_loopw [32] (fun i wr=>∃k:Nat,k<=row.length/\i=.int .i64 k/\J ((CK S.length).take k) wr/\KpN w0.heap.size Bp Bb W wr)
  (fun i _=>row.length-(intOf i).toNat)
 case atStart=>exact⟨0,Nat.zero_le _,rfl,h0,KpN.refl _ _ _ _⟩
 case round=>
  obtain⟨k,hk,rfl,hJs,hnx⟩:=hrel
  by_cases hlt:k<row.length
  ·have hltS:k<S.length:=by omega
   have hB0:=hW0.trans hnx.1;obtain rfl:=HGR.out.ad (by omega);have cr0:=Ah hB0 (HGR.out.el k hlt);unfold ivF at cr0;obtain⟨v,hv⟩:=Int.eq_ofNat_of_zero_le (HRV.out (row.getD k 0) (by rw[Af _ _ _ hlt];exact List.getElem_mem hlt)).1
   have hvL:v<L:=by have:=(HRV.out (row.getD k 0) (by rw[Af _ _ _ hlt];exact List.getElem_mem hlt)).2;omega
   have HEk:=Ab (HE.out k hltS);rw[hv]at cr0;have HV:=Ab hv;clear hv;obtain rfl:=HGX.out.ad (by omega);obtain rfl:=HGY.out.ad (by omega);have hF:F9 Bp Bb b2 off2 n2 cap2 b3 off3 cap3 s v bx ox L cx by' oy cy (rx.getD v 0) (ry.getD v 0) wr:=⟨(HBB.out wr hnx.2.2).1,(HBB.out wr hnx.2.2).2,HBP.out wr hnx.2.1,Ah hB0 HK2.out,Ah hB0 (by first|exact HK3.out|(rw[hL];exact HK3.out)),Ah hB0 (HGX.out.el v hvL),Ah hB0 (HGY.out.el v (by omega))⟩;have hEk:=HE.out k hltS;rw[HV.out]at hEk;simp only[Int.toNat_natCast]at hEk;generalize rx.getD v 0=nv at*;generalize ry.getD v 0=pv at*;have HEk:=Ab hEk
   have HF:Hid (∀W',Below wr.drew.heap.size wr.drew W'->F9 Bp Bb b2 off2 n2 cap2 b3 off3 cap3 s v bx ox L cx by' oy cy nv pv W'):=fun W' h=>hF.below ((Below.drew (B:=wr.heap.size) Ad).trans h)
   clear hF hEk
   gi_wp2
   clear cr0;refine FI hmx (R9 Bp Bb b2 off2 n2 cap2 b3 off3 cap3 s v bx ox L cx by' oy cy nv pv wr.heap.size) (fun vs=>{tmps:=(_::_::_::_::_::_::_::vs 21::_::_::_::_::_::_::_::_::_::_::_::_::_::_::_::_::_::_::_::_::_::_::_::_::_::_::_::_::vs 0::vs 1::vs 2::vs 3::vs 4::vs 5::vs 6::vs 7::vs 8::vs 9::vs 10::vs 11::vs 12::vs 13::vs 14::vs 15::vs 16::vs 17::vs 18::vs 19::vs 20::_::_::_::_::_::[]).toArray,defers:=[]}) (fun n=>[u36,u37,u38,u39,u40,u41,u42,u43,u44,u45,u46,u47,u48,u49,u50,u51,u52,u53,u54,u55,u56,u7].getD n undef) 22 rfl (by kernel_rfl) (by kernel_rfl) (R9.mono Bp Bb b2 off2 n2 cap2 b3 off3 cap3 s v bx ox L cx by' oy cy nv pv wr.heap.size) ?step ?last
   case step=>
    intro ix o hlt ho
    match ix,hlt,ho with
    |0,hlt,ho|1,hlt,ho|3,hlt,ho|5,hlt,ho|7,hlt,ho|8,hlt,ho|10,hlt,ho|11,hlt,ho|13,hlt,ho|15,hlt,ho|17,hlt,ho|18,hlt,ho|20,hlt,ho=>
     obtain rfl:=osI ho;intro vs W K hB hD hK;have HK:=Ab hK
     try have e0:vs 0=.pointer (some ⟨Bb,0,none⟩):=Ac hD 0 rfl
     try have e2:vs 2=.slice (some ⟨b2,off2,none⟩) n2 cap2:=Ac hD 2 rfl
     try have e4:vs 4=.int .i64 (s:Int):=Ac hD 4 rfl
     try have e6:vs 6=.slice (some ⟨bx,ox,none⟩) L cx:=Ac hD 6 rfl
     try have e7:vs 7=.int .i64 (v:Int):=Ac hD 7 rfl
     try have e9:vs 9=.int .i64 nv:=Ac hD 9 rfl
     try have e10:vs 10=.pointer (some ⟨Bb,0,none⟩):=Ac hD 10 rfl
     try have e12:vs 12=.slice (some ⟨b3,off3,none⟩) n2 cap3:=Ac hD 12 rfl
     try have e14:vs 14=.int .i64 (s:Int):=Ac hD 14 rfl
     try have e16:vs 16=.slice (some ⟨by',oy,none⟩) L cy:=Ac hD 16 rfl
     try have e17:vs 17=.int .i64 (v:Int):=Ac hD 17 rfl
     try have e19:vs 19=.int .i64 pv:=Ac hD 19 rfl
     clear hK hD ho hlt;dsimp only;go_simp;have h:=HK.out _ _ Ad rfl;simp only[upd,Nat.reduceEqDiff,reduceIte, *]at h;exact h
    |2,hlt,ho=>
     obtain rfl:=osI ho;intro vs W K hB hD hK;have HK:=Ab hK;have e1:vs 1=.pointer (some ⟨Bb,2,none⟩):=Ac hD 1 rfl;have c1:=(HF.out W hB).c2;clear hK hD ho hlt;dsimp only;go_simp;have h:=HK.out _ _ Ad rfl;simp only[upd,Nat.reduceEqDiff,reduceIte,e1]at h;exact h
    |4,hlt,ho|14,hlt,ho=>
     obtain rfl:=osI ho;intro vs W K hB hD hK;have HK:=Ab hK
     try have e3:vs 3=.pointer (some ⟨Bp,0,none⟩):=Ac hD 3 rfl
     try have e13:vs 13=.pointer (some ⟨Bp,0,none⟩):=Ac hD 13 rfl
     have c1:=(HF.out W hB).c0;clear hK hD ho hlt;dsimp only;go_simp;have h:=HK.out _ _ Ad rfl;simp only[upd,Nat.reduceEqDiff,reduceIte, *]at h;exact h
    |6,hlt,ho=>
     obtain rfl:=osI ho;intro vs W K hB hD hK;have HK:=Ab hK;have e5:vs 5=.pointer (some ⟨b2,off2+s,none⟩):=Ac hD 5 rfl;have c1:=(HF.out W hB).cx;clear hK hD ho hlt;dsimp only;go_simp;have h:=HK.out _ _ Ad rfl;simp only[upd,Nat.reduceEqDiff,reduceIte,e5]at h;exact h
    |9,hlt,ho=>
     obtain rfl:=osI ho;intro vs W K hB hD hK;have HK:=Ab hK;have e8:vs 8=.pointer (some ⟨bx,ox+v,none⟩):=Ac hD 8 rfl;have c1:=(HF.out W hB).cn;clear hK hD ho hlt;dsimp only;go_simp;have h:=HK.out _ _ Ad rfl;simp only[upd,Nat.reduceEqDiff,reduceIte,e8]at h;exact h
    |12,hlt,ho=>
     obtain rfl:=osI ho;intro vs W K hB hD hK;have HK:=Ab hK;have e11:vs 11=.pointer (some ⟨Bb,3,none⟩):=Ac hD 11 rfl;have c1:=(HF.out W hB).c3;clear hK hD ho hlt;dsimp only;go_simp;have h:=HK.out _ _ Ad rfl;simp only[upd,Nat.reduceEqDiff,reduceIte,e11]at h;exact h
    |16,hlt,ho=>
     obtain rfl:=osI ho;intro vs W K hB hD hK;have HK:=Ab hK;have e15:vs 15=.pointer (some ⟨b3,off3+s,none⟩):=Ac hD 15 rfl;have c1:=(HF.out W hB).cy;clear hK hD ho hlt;dsimp only;go_simp;have h:=HK.out _ _ Ad rfl;simp only[upd,Nat.reduceEqDiff,reduceIte,e15]at h;exact h
    |19,hlt,ho=>
     obtain rfl:=osI ho;intro vs W K hB hD hK;have HK:=Ab hK;have e18:vs 18=.pointer (some ⟨by',oy+v,none⟩):=Ac hD 18 rfl;have c1:=(HF.out W hB).cp;clear hK hD ho hlt;dsimp only;go_simp;have h:=HK.out _ _ Ad rfl;simp only[upd,Nat.reduceEqDiff,reduceIte,e18]at h;exact h
    |21,hlt,ho=>
     obtain rfl:=osI ho;intro vs W K hB hD hK;have HK:=Ab hK;clear hK hD ho hlt;dsimp only;go_simp;have h:=HK.out _ _ (Ao _) ⟨_,rfl,hB.size,heap_alloc_new _ _⟩;simp only[upd,Nat.reduceEqDiff,reduceIte]at h;exact h
    |q+22,hlt,ho=>omega
   case last=>
    intro o ho;obtain rfl:=osI ho;intro vs W1 K hB hall hK;have HK:=Ab hK;have e20:vs 20=.agg #[.int .i64 nv,.int .i64 (-1),.int .i64 pv]:=hall 20 (by omega);obtain⟨z,e21,hz,hzh⟩:∃z,vs 21=.pointer (some ⟨z,0,none⟩)/\wr.heap.size<=z/\W1.heap[z]? =some (.cells #[.int .i64 0,.int .i64 0,.int .i64 0] 108 (0,0)):=hall 21 (by omega);have c0:=Aa 0 hzh;have c1:=Aa 1 hzh;have c2:=Aa 2 hzh;have f0:=Ay 0 hzh;have f1:=Ay 1 hzh;have f2:=Ay 2 hzh;have S3:=Fu (a:=.int .i64 nv) (b:=.int .i64 (-1)) (c:=.int .i64 pv) hzh;have B3:Below wr.heap.size wr (((W1.setCell ⟨z,0,none⟩ (.int .i64 nv)).setCell ⟨z,1,none⟩ (.int .i64 (-1))).setCell ⟨z,2,none⟩ (.int .i64 pv)):=((((Below.drew (B:=wr.heap.size) Ad).trans hB).setCell (p:=⟨z,0,none⟩) hz _).setCell (p:=⟨z,1,none⟩) hz _).setCell (p:=⟨z,2,none⟩) hz _;have HS3:=Ab S3;have HB3:=Ab B3;clear hK hall ho hzh S3 B3;dsimp only;go_simp;refine HK.out _ _ ?_;clear c0 c1 c2 f0 f1 f2;generalize(((W1.setCell ⟨z,0,none⟩ (.int .i64 nv)).setCell ⟨z,1,none⟩ (.int .i64 (-1))).setCell ⟨z,2,none⟩ (.int .i64 pv))=w3 at*;have c0:w3.cell? ⟨z,0,none⟩=some (.int .i64 nv):=Aa 0 HS3.out;have c1:w3.cell? ⟨z,1,none⟩=some (.int .i64 (-1)):=Aa 1 HS3.out;have c2:w3.cell? ⟨z,2,none⟩=some (.int .i64 pv):=Aa 2 HS3.out;obtain⟨fn,tmps,assign,body,hy',hR⟩:=hY _ ⟨k,hltS⟩ w3 (hJA _ _ _ hJs HB3.out) (by rw[List.length_take,Cb];omega);rw[HEk.out]at hy';have hk3:=hnx.trans (KpN.of_below HB3.out (Nat.le_trans hW0.size hnx.1.size) (Nat.lt_of_lt_of_le hBpl hnx.1.size) (Nat.lt_of_lt_of_le hBbl hnx.1.size))
    gi_wp2
    refine hR.mono ?_;rintro e W4 (⟨rfl,hJ4,hk4⟩|⟨rfl,hJx4⟩)
    ·have hk5:=hk3.trans hk4
     gi_wp2
     go_roundw
     case rel=>exact⟨k+1,by omega,by go_num,by rw[Cy hltS];exact hJ4,hk5⟩
     case measure=>simp[intOf];omega
    ·gi_wp2
     refine bodyPost_ret (results_none rfl _ _ _) rfl ?_;exact⟨⟨_,rfl⟩,.inr ⟨_,⟨k+1,by omega,(Cy hltS).symm⟩,hJx4⟩⟩
  ·obtain rfl:k=row.length:=by omega
   gi_wp2
   go_end0
   exact⟨⟨_,rfl⟩,.inl ⟨_,rfl,by rw[List.take_of_length_le (by rw[Cb];omega)]at hJs;exact hJs⟩⟩
structure Hl(a:Au)(T:List (List Int))(y:T4):Prop where
 st:0<=y.st/\y.st<a.next.length
 inn:y.inn<T.length
 rows:(a.next.getD y.st.toNat []).length=(a.prio.getD y.st.toNat []).length
 lets:∀i:Nat,i<T.length->∀v∈T.getD i [],0<=v/\v<(a.next.getD y.st.toNat []).length
 len:∀i:Nat,i<T.length->(T.getD i []).length<=64
theorem Lu(F:Fence)(n:Nat)(h7:F.fn 112)(hro:F.round=none)(hn:1<=n)(Bp Bb:Nat)(w0:World)(a:Au)(T:List (List Int))(y:T4)(S:List T4)(hS:S=AZ a T y)(hok:Hl a T y)(hpl:a.prio.length=a.next.length)(hT64:T.length<=64)
  (Lt St tp:Int) (ao2 ao3 aot:Option Addr) (cap2 cap3 capt:Nat) (w:World) (hw:Below w0.heap.size w0 w)
  (hBp:w.heap[Bp]? =some (.cells (plC y) 108 (0,0))) (hBb:w.heap[Bb]? =some (.cells #[.int .i64 Lt,.int .i64 St,.slice ao2 a.next.length cap2,.slice ao3 a.next.length cap3,.int .i64 tp,.slice aot T.length capt] 105 (0,0)))
  (hN:Ar w0 (.slice ao2 a.next.length cap2) a.next) (hP:Ar w0 (.slice ao3 a.next.length cap3) a.prio) (hT:Ar w0 (.slice aot T.length capt) T):
  SeqStopsK F n Tryz.prog 112 #[.pointer (some ⟨Bp,0,none⟩),.pointer (some ⟨Bb,0,none⟩)] (K1 S) (KpN w0.heap.size Bp Bb) (fun ys=>ys=CK S.length) (fun pre=>∃k,k<=S.length/\pre=(CK S.length).take k) S.length w:=fun lY J Jx W hW hJ _ hY h0=>by
 have b1:=Ae hW hBp;have b2:=Ae hW hBb
 by_cases hi:y.inn<0
 ·exact MI F n h7 hro hn lY Bp Bb w0.heap.size a T y S hS hi hT64 Lt St tp ao2 ao3 aot _ cap2 _ cap3 capt J Jx hY W b1 b2 h0
 ·have hin:=hok.inn
  have hiT:y.inn.toNat<T.length:=by omega
  exact Lr F n h7 hro hn lY Bp Bb w0 a T y S hS ⟨by omega,hin⟩ hok.st hpl hok.rows (hok.lets _ hiT) (hok.len _ hiT) Lt St tp ao2 ao3 aot cap2 cap3 capt J Jx (fun pre W1 W2 hp hb=>hJ pre W1 W2 none hp (AV hb) (by simp)) hY W (hw.trans (hW.mono hw.size)) b1 b2 hN hP hT h0
structure L6(a:Au)(T:List (List Int)):Prop where
 pl:a.prio.length=a.next.length
 rows:∀s:Nat,s<a.next.length->(a.next.getD s []).length=(a.prio.getD s []).length
 nx:∀s:Nat,s<a.next.length->∀x∈a.next.getD s [],0<=x/\x<a.next.length
 lets:∀s:Nat,s<a.next.length->∀i:Nat,i<T.length->∀v∈T.getD i [],0<=v/\v<(a.next.getD s []).length
 len:∀i:Nat,i<T.length->(T.getD i []).length<=64
 t:1<=T.length/\T.length<=64
theorem L6.pl'{a:Au}{T:List (List Int)}(h:L6 a T){y:T4}(h1:0<=y.st/\y.st<a.next.length)(h2:y.inn<T.length):Hl a T y:=by
 have hs:y.st.toNat<a.next.length:=by omega
 exact⟨h1,h2,h.rows _ hs,h.lets _ hs,h.len⟩
theorem L6.succ{a:Au}{T:List (List Int)}(h:L6 a T){y:T4}(hy:Hl a T y):∀x∈AZ a T y,Hl a T x:=by
 intro x hx
 have hs:y.st.toNat<a.next.length:=by have:=hy.st;omega
 unfold AZ at hx
 split at hx
 ·obtain⟨i,hi,rfl⟩:=List.mem_map.1 hx;have:=List.mem_range.1 hi;exact h.pl' hy.st (by show(i:Int)<_;omega)
 ·rename_i hn;have hin:=hy.inn;obtain⟨v,hv,rfl⟩:=List.mem_map.1 hx;have hvL:=hy.lets _ (by omega) v hv
  have hvl:v.toNat<(a.next.getD y.st.toNat []).length:=by omega
  refine h.pl' ?_ (by show(-1:Int)<_;have:=h.t;omega);show 0<=(a.next.getD y.st.toNat []).getD v.toNat 0/\_;rw[Af _ _ _ hvl];exact h.nx _ hs _ (List.getElem_mem hvl)
attribute [local go_sem] Oper.semAt_some
theorem FJ{P:Program}{fn:Func}{p q r:Tmp}{t1 t2 t3:TypeId}(h:fn.results=#[.cell p t1,.cell q t2,.cell r t3])(tmps:Array Value)(w:World)(g1 g2 g3:Addr)(v1 v2 v3:Value)
  (hp:tmps.getD p undef=.pointer (some g1)) (hq:tmps.getD q undef=.pointer (some g2)) (hr:tmps.getD r undef=.pointer (some g3))
  (l1:(loadVar t1 g1).run P w=.ok v1 w) (l2:(loadVar t2 g2).run P w=.ok v2 w) (l3:(loadVar t3 g3).run P w=.ok v3 w):
  (results fn tmps).run P w=.ok (.tuple #[v1,v2,v3]) w:=by
 have hp':tmps[p]?.getD undef=.pointer (some g1):=by simpa using hp
 have hq':tmps[q]?.getD undef=.pointer (some g2):=by simpa using hq
 have hr':tmps[r]?.getD undef=.pointer (some g3):=by simpa using hr
 simp[results,h,hp',hq',hr',asAddr,l1,l2,l3]
end Go.Proofs.YtncjeamdkjcebaaGreatDoor
namespace Go.Proofs.YtncjeamdkjcebaaGreatDoor
open Go.RowKit
theorem Ju{l:List Sig}{i:Nat}(hi:i<(Ap l).toNat):(Aq l).getD i []=(List.range (Aj l).toNat).map fun(o:Nat)=>AO l (i:Int) (o:Int):=by
 have hlen:i<(Aq l).length:=by simpa[Aq]using hi
 rw[Af _ _ _ hlen];simp only[Aq,List.getElem_map,List.getElem_range]
theorem Jt(l:List Sig):(Aq l).length=(Ap l).toNat:=by simp[Aq]
theorem Cr{a:Au}(hv:AF a=true){s:Nat}(hs:s<a.next.length):((a.next.getD s []).length:Int)=a.letters/\((a.prio.getD s []).length:Int)=a.letters/\
  ∀k:Nat,k<(a.next.getD s []).length->0<=(a.next.getD s []).getD k 0/\(a.next.getD s []).getD k 0<a.next.length:=by
 simp only[AF,Bool.and_eq_true,decide_eq_true_eq]at hv;have hr:=List.all_eq_true.1 hv.2 s (List.mem_range.2 hs);simp only[Km,Bool.and_eq_true,decide_eq_true_eq]at hr;refine⟨hr.1.1,hr.1.2,fun k hk=> ?_⟩;have hm:=List.all_eq_true.1 hr.2 k (List.mem_range.2 hk);simp only[FG,Bool.and_eq_true,decide_eq_true_eq]at hm;exact hm.1.1
theorem T0{a:Au}{l:List Sig}(hs:At l=true)(hv:AF a=true)(he:a.letters=AC l):L6 a (Aq l):=by
 obtain⟨⟨hi0,hi1⟩,⟨ho0,ho1⟩⟩:=C7 hs;have hv':=hv;simp only[AF,Bool.and_eq_true,decide_eq_true_eq]at hv';have hjt:=Jt l;refine⟨by have:=hv'.1;omega,fun s h=> ?_,fun s h x hx=> ?_,fun s h i hi v hx=> ?_,fun i hi=> ?_,by omega⟩
 ·obtain⟨h1,h2,-⟩:=Cr hv h;omega
 ·obtain⟨k,hk,rfl⟩:=List.mem_iff_getElem.1 hx;have h3:=(Cr hv h).2.2 k hk
  rwa [Af _ _ _ hk]at h3
 ·have h1:=(Cr hv h).1;rw[Ju (by omega)]at hx;obtain⟨o,ho,rfl⟩:=List.mem_map.1 hx;have ho:=List.mem_range.1 ho;have h2:=(Cc hs (i:=(i:Int)) (o:=(o:Int)) (by omega) (by omega) (by omega) (by omega)).1;omega
 ·rw[Ju (by omega),List.length_map,List.length_range];omega
theorem Ha{a:Au}(hv:AF a=true){s:Nat}(hs:s<a.next.length)(k:Nat)(hk:k<(a.next.getD s []).length):0<=(a.prio.getD s []).getD k 0/\(a.prio.getD s []).getD k 0<=20000:=by
 simp only[AF,Bool.and_eq_true,decide_eq_true_eq]at hv;have hr:=List.all_eq_true.1 hv.2 s (List.mem_range.2 hs);simp only[Km,Bool.and_eq_true,decide_eq_true_eq]at hr;have hm:=List.all_eq_true.1 hr.2 k (List.mem_range.2 hk);simp only[FG,Bool.and_eq_true,decide_eq_true_eq]at hm;exact⟨hm.1.2,hm.2⟩
def PlW(y:T4):Prop:=-1<=y.inn/\-1<=y.pr/\y.pr<=20000
theorem NN{a:Au}{T:List (List Int)}{y:T4}(hv:AF a=true)(hy:Hl a T y):∀x∈AZ a T y,PlW x:=by
 intro x hx
 have hs:y.st.toNat<a.next.length:=by have:=hy.st;omega
 unfold AZ at hx
 split at hx
 ·obtain⟨i,hi,rfl⟩:=List.mem_map.1 hx;refine⟨?_, ?_, ?_⟩
  ·show -1<=(i:Int);omega
  ·show(-1:Int)<=-1;omega
  ·show(-1:Int)<=20000;omega
 ·rename_i hn;have hin:=hy.inn;obtain⟨v,hvx,rfl⟩:=List.mem_map.1 hx;have hvL:=hy.lets _ (by omega) v hvx;obtain⟨h1,h2⟩:=Ha hv hs v.toNat (by omega);refine⟨?_, ?_,h2⟩
  ·show(-1:Int)<=-1;omega
  ·show -1<=(a.prio.getD y.st.toNat []).getD v.toNat 0;omega
theorem wfP{a:Au}{T:List (List Int)}{y:T4}(hv:AF a=true)(hT:T.length<=64)(hy:Hl a T y)(hw:PlW y):WfP y:=by
 simp only[AF,Bool.and_eq_true,decide_eq_true_eq]at hv;have h1:=hy.st;have h2:=hy.inn;obtain⟨h3,h4,h5⟩:=hw;have h6:=hv.1.1.1.2;refine⟨?_, ?_, ?_⟩<;>unfold I64<;>omega
end Go.Proofs.YtncjeamdkjcebaaGreatDoor
