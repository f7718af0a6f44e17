/- The board's position of a place, and its ite. -/
import Derived.RangeFuncKeeps
import Derived.Test.YtncjeamdkjcebaaGreatDoorYSt1
set_option linter.all false
set_option maxHeartbeats 4000000
set_option maxRecDepth 100000
namespace Go.Proofs.YtncjeamdkjcebaaGreatDoor
open Go.RowKit
def FG(w:World)(v:Value)(a:Au)(l:List Sig):Prop:=∃v2 v3 vt,v=.agg #[.int .i64 a.letters,.int .i64 a.start,v2,v3,.int .i64 (AU a),vt]/\Ar w v2 a.next/\Ar w v3 a.prio/\Ar w vt (Ap l)
theorem FG.below{w wr:World}{v:Value}{a:Au}{l:List Sig}(h:FG w v a l)(hb:Below w.heap.size w wr):FG wr v a l:=by
 obtain⟨v2,v3,vt,rfl,h2,h3,h4⟩:=h;exact⟨v2,v3,vt,rfl,h2.below hb,h3.below hb,h4.below hb⟩
theorem GF.is{w w':World}{va:Value}{a:Au}{l:List Sig}{e:Ending}(h:GF va a l w e w')(ha:Cw w va a):∃vb,e=.returned vb/\FG w' vb a l/\Below w.heap.size w w':=by
 obtain⟨v2,v3,vt,rfl,rfl,ht,hb⟩:=h;obtain⟨x2,x3,e,-,h2,h3⟩:=ha
 obtain⟨rfl,rfl⟩:v2=x2/\v3=x3:=by simpa using e
 exact⟨_,rfl,⟨_,_,_,rfl,h2.below hb,h3.below hb,ht⟩,hb⟩
theorem M4(w:World)(vb:Value)(a:Au)(l:List Sig)(y:UE)(hb:FG w vb a l):
  Calls Tryz.prog 76 #[vb,plV y] w fun e w'=>e=.returned (.tuple #[.int .i64 (Ex y),.int .i64 (Ey (AU a) y)])/\Below w.heap.size w w':=by
 obtain⟨v2,v3,vt,rfl,⟨V2,⟨k,b,b2,f,rfl,-⟩,-⟩,⟨V3,⟨m,c,b3,i,rfl,-⟩,-⟩,⟨VT,⟨n,d,bt,j,rfl,-⟩,-⟩⟩:=hb;generalize AU a=tp;generalize a.letters=L;generalize a.start=St;obtain⟨st,inn,pr⟩:=y;unfold plV
 by_cases hy:inn<0
 ·have e1:Hid (Ex ⟨st,inn,pr⟩=1):=if_pos hy;have e2:Hid (Ey tp ⟨st,inn,pr⟩=pr):=if_pos hy
  have e3:decide (inn<0)=true:=by simpa using hy
  go_enter Tryz.func76,Tryz.ntmps76
  go_wp2;refine wp_region_quiet_lit (by kernel_rfl) (by kernel_rfl) ?_
  ((repeat(go_big_quiet_step (fail)));refine wpQuiet_nil ?_;rintro _ ⟨nq,rfl⟩)
  go_wp2_with fail
  go_ret2;rw[e1.out,e2.out];exact⟨rfl,(by repeat(first|exact Ad|assumption|apply AE|apply AB))⟩
 ·have e1:Hid (Ex ⟨st,inn,pr⟩=0):=if_neg hy;have e2:Hid (Ey tp ⟨st,inn,pr⟩=tp):=if_neg hy
  have e3:decide (inn<0)=false:=by simpa using hy
  go_enter Tryz.func76,Tryz.ntmps76
  go_wp2;refine wp_region_quiet_lit (by kernel_rfl) (by kernel_rfl) ?_
  ((repeat(go_big_quiet_step (fail)));refine wpQuiet_nil ?_;rintro _ ⟨nq,rfl⟩)
  go_wp2_with fail
  go_ret2;rw[e1.out,e2.out];exact⟨rfl,(by repeat(first|exact Ad|assumption|apply AE|apply AB))⟩
def plC(y:UE):Array Value:=#[.int .i64 y.st,.int .i64 y.inn,.int .i64 y.pr]
theorem TA(w:World)(L St tp:Int)(d f i:Option Addr)(n2 a n3 b nt c:Nat)(y:UE):
  Calls Tryz.prog 75 #[.agg #[.int .i64 L,.int .i64 St,.slice d n2 a,.slice f n3 b,.int .i64 tp,.slice i nt c],plV y] w fun e w'=>
   e=.returned (.func (.func 112) #[] #[.pointer (some ⟨w.heap.size+1,0,none⟩),.pointer (some ⟨w.heap.size,0,none⟩)])/\
   w'=(w.alloc (.cells #[.int .i64 L,.int .i64 St,.slice d n2 a,.slice f n3 b,.int .i64 tp,.slice i nt c] 105)).alloc (.cells (plC y) 108):=by
 unfold plV plC
 go_enter Tryz.func75,Tryz.ntmps75
 go_wp2;go_ret;exact⟨rfl,rfl⟩
end Go.Proofs.YtncjeamdkjcebaaGreatDoor
namespace Go.Proofs.YtncjeamdkjcebaaGreatDoor
open Go.RowKit Go.Shelf
attribute [local go_sem] Oper.semAt_some
def AZ(a:Au)(T:List (List Int))(y:UE):List UE:=
 if y.inn<0 then(List.range T.length).map fun(i:Nat)=>⟨y.st,(i:Int),-1⟩
 else(T.getD y.inn.toNat []).map fun v=>⟨(a.next.getD y.st.toNat []).getD v.toNat 0,-1,(a.prio.getD y.st.toNat []).getD v.toNat 0⟩
def KpN(n₀ Bp Bb:Nat)(W W':World):Prop:=Below n₀ W W'/\W'.heap[Bp]? =W.heap[Bp]? /\W'.heap[Bb]? =W.heap[Bb]?
theorem KpN.trans{n₀ Bp Bb:Nat}{A B C:World}(h:KpN n₀ Bp Bb A B)(k:KpN n₀ Bp Bb B C):KpN n₀ Bp Bb A C:=⟨h.1.trans k.1,k.2.1.trans h.2.1,k.2.2.trans h.2.2⟩
theorem KpN.refl(n₀ Bp Bb:Nat)(A:World):KpN n₀ Bp Bb A A:=⟨Ad,rfl,rfl⟩
theorem KpN.put{n₀ Bp Bb:Nat}{w:World}(hn:n₀<=w.heap.size)(hB:Bp<w.heap.size)(hC:Bb<w.heap.size)(W:World)(l:Nat)(o o':Obj)(hl:w.heap.size<=l)(h:W.heap[l]? =some o)(h1:o.isCells=false)(h2:o.isWalk=false):KpN n₀ Bp Bb W (W.putObj l o'):=
 ⟨belowK_b hn W l o o' hl h h1 h2,(grownBy_putObj' W l o').block Bp (by have:=(ltE h);omega) (by simp;omega),(grownBy_putObj' W l o').block Bb (by have:=(ltE h);omega) (by simp;omega)⟩
theorem KpN.of_below{n₀ Bp Bb:Nat}{W W':World}(h:Below W.heap.size W W')(hn:n₀<=W.heap.size)(hB:Bp<W.heap.size)(hC:Bb<W.heap.size):KpN n₀ Bp Bb W W':=⟨h.mono hn,h.block _ hB,h.block _ hC⟩
def Lm(S:List UE)(x:Fin S.length):Array Value:=#[plV S[x]]
theorem MZ(F:Fence)(n:Nat)(h7:F.fn 112)(hro:F.round=none)(hn:1<=n)(lY Bp Bb n₀:Nat)(a:Au)(T:List (List Int))(y:UE)(S:List UE)(hS:S=AZ a T y)(hy:y.inn<0)(hT:T.length<=64)
  (L St tp:Int) (w z j:Option Addr) (n2 l n3 o c:Nat) (J Jx:List (Fin S.length)->World->Prop)
  (hY:∀pre x W,J pre W->pre.length<S.length->YieldAt F (n-1) Tryz.prog lY (Lm S x) W fun e W'=>
   (e=.returned (.bool true)/\J (pre++[x]) W'/\KpN n₀ Bp Bb W W')\/(e=.returned (.bool false)/\Jx (pre++[x]) W'))
  (W:World) (d:W.heap[Bp]? =some (.cells (plC y) 108 (0,0))) (p:W.heap[Bb]? =some (.cells #[.int .i64 L,.int .i64 St,.slice w n2 l,.slice z n3 o,.int .i64 tp,.slice j T.length c] 105 (0,0))) (h0:J [] W):
  CallsIn F n Tryz.prog 112 #[.func (.yield lY) #[] #[],.pointer (some ⟨Bp,0,none⟩),.pointer (some ⟨Bb,0,none⟩)] W fun e W'=>(∃v,e=.returned v)/\
   ((∃ys,ys=CT S.length/\J ys W')\/(∃pre,(∃k,k<=S.length/\pre=(CT S.length).take k)/\Jx pre W')):=by
 have af:S.length=T.length:=by rw[hS,AZ,if_pos hy,List.length_map,List.length_range]
 have HE:Hid (∀k(h:k<S.length),Lm S ⟨k,h⟩=#[.agg #[.int .i64 y.st,.int .i64 (k:Int),.int .i64 (-1)]]):=fun k h=>by
  subst hS;simp only[Lm,plV,AZ];simp[hy]
 have u:Hid (∀W':World,W'.heap[Bp]? =W.heap[Bp]? ->W'.cell? ⟨Bp,0,none⟩=some (.int .i64 y.st)):=fun W' h=>cell_of_row W' Bp 0 _ _ _ (h.trans d)
 have p1:W.cell? ⟨Bp,1,none⟩=some (.int .i64 y.inn):=Aa 1 d;have b5:W.cell? ⟨Bb,5,none⟩=some (.slice j T.length c):=Aa 5 p
 have e3:decide (y.inn<0)=true:=by simpa using hy
 generalize T.length=m at*;generalize hst:y.st=st at*;clear hS d p hst;refine callsIn_of_wp Tryz.func112 rfl h7 ?_ hro;simp only[Tryz.ntmps112,List.size_toArray,List.length_cons,List.length_nil,Nat.reduceAdd,Nat.reduceSub,Array.replicate_succ,Array.replicate_zero,List.push_toArray,List.append_toArray,List.nil_append,List.cons_append]
 gi_wp2
 gi_loopw [14] (fun i wr=>∃k:Nat,k<=m/\i=.int .i64 k/\J ((CT S.length).take k) wr/\KpN n₀ Bp Bb W wr)
  (fun i _=>m-(intOf i).toNat)
 case atStart=>exact⟨0,Nat.zero_le _,rfl,h0,KpN.refl _ _ _ _⟩
 case round=>
  obtain⟨k,hk,rfl,f,r⟩:=hrel
  by_cases hlt:k<m
  ·have b:k<S.length:=by omega
   obtain⟨fn,ag,s,ae,ad,hR⟩:=hY _ ⟨k,b⟩ wr f (by rw[List.length_take,Co];omega);rw[HE.out k b]at ad;have p0:=u.out wr r.2.1
   gi_wp2
   refine hR.mono ?_;rintro e W3 (⟨rfl,aa,ab⟩|⟨rfl,q⟩)
   ·have ac:=r.trans ab
    gi_wp2
    go_roundw
    case rel=>exact⟨k+1,by omega,by go_num,by rw[CG b];exact aa,ac⟩
    case measure=>simp[intOf];omega
   ·gi_wp2
    refine bodyPost_ret (results_none rfl _ _ _) rfl ?_;exact⟨⟨_,rfl⟩,.inr ⟨_,⟨k+1,by omega,(CG b).symm⟩,q⟩⟩
  ·obtain rfl:k=m:=by omega
   gi_wp2
   refine bodyPost_ret (results_none rfl _ _ _) rfl ?_;exact⟨⟨_,rfl⟩,.inl ⟨_,rfl,by rw[List.take_of_length_le (by rw[Co];omega)]at f;exact f⟩⟩
attribute [local go_sem] Oper.semAt_some
def R9(Bp Bb b2 off2 n2 cap2 b3 off3 cap3 s v bx ox L cx by' oy cy:Nat)(nv pv:Int)(B:Nat)(ix:Nat)(u:Value)(W:World):Prop:=
 match ix with
 |0|10=>u=.pointer (some ⟨Bb,0,none⟩)
 |1=>u=.pointer (some ⟨Bb,2,none⟩)
 |2=>u=.slice (some ⟨b2,off2,none⟩) n2 cap2
 |3|13=>u=.pointer (some ⟨Bp,0,none⟩)
 |4|14=>u=.int .i64 (s:Int)
 |5=>u=.pointer (some ⟨b2,off2+s,none⟩)
 |6=>u=.slice (some ⟨bx,ox,none⟩) L cx
 |7|17=>u=.int .i64 (v:Int)
 |8=>u=.pointer (some ⟨bx,ox+v,none⟩)
 |9=>u=.int .i64 nv
 |11=>u=.pointer (some ⟨Bb,3,none⟩)
 |12=>u=.slice (some ⟨b3,off3,none⟩) n2 cap3
 |15=>u=.pointer (some ⟨b3,off3+s,none⟩)
 |16=>u=.slice (some ⟨by',oy,none⟩) L cy
 |18=>u=.pointer (some ⟨by',oy+v,none⟩)
 |19=>u=.int .i64 pv
 |20=>u=.agg #[.int .i64 nv,.int .i64 (-1),.int .i64 pv]
 |21=>∃z,u=.pointer (some ⟨z,0,none⟩)/\B<=z/\W.heap[z]? =some (.cells #[.int .i64 0,.int .i64 0,.int .i64 0] 108 (0,0))
 | _=>True
theorem R9.mono(Bp Bb b2 c n2 a b3 d b s v bx ox L cx e oy cy:Nat)(nv pv:Int)(B:Nat)(ix:Nat)(u:Value)(W W':World)(h:R9 Bp Bb b2 c n2 a b3 d b s v bx ox L cx e oy cy nv pv B ix u W)(hb:Below W.heap.size W W'):R9 Bp Bb b2 c n2 a b3 d b s v bx ox L cx e oy cy nv pv B ix u W':=by
 unfold R9 at*
 split at h<;>first|exact h|(obtain⟨o,h1,h2,h3⟩:=h;exact⟨o,h1,h2,(hb.block o (ltE h3)).trans h3⟩)
structure F9(Bp Bb b2 off2 n2 cap2 b3 off3 cap3 s v bx ox L cx by' oy cy:Nat)(nv pv:Int)(W:World):Prop where
 c2:W.cell? ⟨Bb,2,none⟩=some (.slice (some ⟨b2,off2,none⟩) n2 cap2)
 c3:W.cell? ⟨Bb,3,none⟩=some (.slice (some ⟨b3,off3,none⟩) n2 cap3)
 c0:W.cell? ⟨Bp,0,none⟩=some (.int .i64 (s:Int))
 cx:W.cell? ⟨b2,off2+s,none⟩=some (.slice (some ⟨bx,ox,none⟩) L cx)
 cy:W.cell? ⟨b3,off3+s,none⟩=some (.slice (some ⟨by',oy,none⟩) L cy)
 cn:W.cell? ⟨bx,ox+v,none⟩=some (.int .i64 nv)
 cp:W.cell? ⟨by',oy+v,none⟩=some (.int .i64 pv)
theorem F9.below{Bp Bb b2 c n2 a b3 d b s v bx ox L cx e oy cy:Nat}{nv pv:Int}{W W':World}(h:F9 Bp Bb b2 c n2 a b3 d b s v bx ox L cx e oy cy nv pv W)(hb:Below W.heap.size W W'):F9 Bp Bb b2 c n2 a b3 d b s v bx ox L cx e oy cy nv pv W':=
 ⟨Ag hb h.c2,Ag hb h.c3,Ag hb h.c0,Ag hb h.cx,Ag hb h.cy,Ag hb h.cn,Ag hb h.cp⟩
theorem LM(F:Fence)(n:Nat)(h7:F.fn 112)(hro:F.round=none)(hn:1<=n)(lY Bp Bb:Nat)(w0:World)(a:Au)(T:List (List Int))(y:UE)(S:List UE)(hS:S=AZ a T y)(hy:0<=y.inn/\y.inn<T.length)(ba:0<=y.st/\y.st<a.next.length)(cl:a.prio.length=a.next.length)
  (hL:(a.next.getD y.st.toNat []).length=(a.prio.getD y.st.toNat []).length) (hr:∀v∈T.getD y.inn.toNat [],0<=v/\v<(a.next.getD y.st.toNat []).length) (ai:(T.getD y.inn.toNat []).length<=64)
  (Lt St tp:Int) (ak al am:Option Addr) (d f aa:Nat) (J Jx:List (Fin S.length)->World->Prop) (bo:∀pre W W',J pre W->Below W.heap.size W W'->J pre W')
  (hY:∀pre x W,J pre W->pre.length<S.length->YieldAt F (n-1) Tryz.prog lY (Lm S x) W fun e W'=>
   (e=.returned (.bool true)/\J (pre++[x]) W'/\KpN w0.heap.size Bp Bb W W')\/(e=.returned (.bool false)/\Jx (pre++[x]) W'))
  (W:World) (ap:Below w0.heap.size w0 W) (ag:W.heap[Bp]? =some (.cells (plC y) 108 (0,0))) (ac:W.heap[Bb]? =some (.cells #[.int .i64 Lt,.int .i64 St,.slice ak a.next.length d,.slice al a.next.length f,.int .i64 tp,.slice am T.length aa] 105 (0,0)))
  (hN:Ar w0 (.slice ak a.next.length d) a.next) (hP:Ar w0 (.slice al a.next.length f) a.prio) (hT:Ar w0 (.slice am T.length aa) T) (h0:J [] W):
  CallsIn F n Tryz.prog 112 #[.func (.yield lY) #[] #[],.pointer (some ⟨Bp,0,none⟩),.pointer (some ⟨Bb,0,none⟩)] W fun e W'=>(∃v,e=.returned v)/\
   ((∃ys,ys=CT S.length/\J ys W')\/(∃pre,(∃k,k<=S.length/\pre=(CT S.length).take k)/\Jx pre W')):=by
 have bu:Tryz.prog.follows .mixedOrders=true:=by kernel_rfl
 obtain⟨V2,⟨b0,bh,b2,j,e2,g2⟩,a6⟩:=hN;obtain⟨V3,⟨b1,bi,b3,l,e3,g3⟩,a7⟩:=hP;obtain⟨VT,⟨b4,bj,bt,be,et,gt⟩,a8⟩:=hT;simp only[Value.slice.injEq]at e2 e3 et;obtain⟨rfl,-,rfl⟩:=e2;obtain⟨rfl,-,rfl⟩:=e3;obtain⟨rfl,-,rfl⟩:=et
 have aq:¬y.inn<0:=by omega
 have af:S.length=(T.getD y.inn.toNat []).length:=by rw[hS,AZ,if_neg aq,List.length_map]
 have HE:Hid (∀k(h:k<S.length),Lm S ⟨k,h⟩=#[.agg #[.int .i64 ((a.next.getD y.st.toNat []).getD ((T.getD y.inn.toNat []).getD k 0).toNat 0),.int .i64 (-1),.int .i64 ((a.prio.getD y.st.toNat []).getD ((T.getD y.inn.toNat []).getD k 0).toNat 0)]]):=fun k h=>by
  rw[Ae (T.getD y.inn.toNat []) _ _ (show k<_ from af▸h)];subst hS;simp only[Lm,plV,AZ];simp[aq]
 have av:Hid (∀W':World,W'.heap[Bp]? =W.heap[Bp]? ->W'.cell? ⟨Bp,0,none⟩=some (.int .i64 y.st)):=fun W' h=>cell_of_row W' Bp 0 _ _ _ (h.trans ag)
 have au:Hid (∀W':World,W'.heap[Bb]? =W.heap[Bb]? ->W'.cell? ⟨Bb,2,none⟩=some (.slice ak a.next.length d)/\W'.cell? ⟨Bb,3,none⟩=some (.slice al a.next.length f)):=fun W' h=>⟨cell_of_row W' Bb 2 _ _ _ (h.trans ac),cell_of_row W' Bb 3 _ _ _ (h.trans ac)⟩
 have p1:W.cell? ⟨Bp,1,none⟩=some (.int .i64 y.inn):=Aa 1 ag;have b5:W.cell? ⟨Bb,5,none⟩=some (.slice am T.length aa):=Aa 5 ac;have a3:=(ltE ag);have a2:=(ltE ac);obtain⟨i,hi⟩:=Int.eq_ofNat_of_zero_le hy.1;obtain⟨s,hs⟩:=Int.eq_ofNat_of_zero_le ba.1;rw[hi]at aq p1 hy HE hr ai af;rw[hs]at ba HE hL hr av;simp only[Int.toNat_natCast]at HE hL hr ai af
 have a5:i<T.length:=by omega
 have a9:s<a.next.length:=by omega
 obtain rfl:=gt.ad (by omega);obtain rfl:=g2.ad (by omega);obtain rfl:=g3.ad (by omega);obtain⟨⟨b7,cr,br,fr,bb,gr⟩,bv⟩:=a8 i a5;obtain⟨⟨b8,cx,bx,ox,bc,gx⟩,-⟩:=a6 s a9;obtain⟨⟨b9,cy,w,oy,bd,gy⟩,-⟩:=a7 s (by omega);have ct:W.cell? ⟨bt,be+i,none⟩=some (VT i):=Ag ap (gt.el i a5);have k2:=g2.el s a9;have k3:=g3.el s (by omega);rw[bb]at ct;rw[bc]at k2;rw[bd]at k3;rw[<-hL]at k3 gy;clear hL;have bg:=Ab k2;have a0:=Ab k3;have ax:=Ab gr;have ay:=Ab gx;have az:=Ab gy;have a1:=Ab hr
 have e3:decide ((i:Int)<0)=false:=by simp
 generalize hrow:T.getD i []=row at*;generalize a.next.getD s []=rx at*;generalize a.prio.getD s []=ry at*;generalize rx.length=L at*;generalize a.next.length=n2 at*;have ck:=gt.nb
 have cj:(i:Int)<(T.length:Int):=by omega
 clear hr k2 k3 bb bc bd bv gr gx gy hS ag ac a6 a7 a8 g2 g3 gt hi hs hrow;generalize T.length=nt at*;refine callsIn_of_wp Tryz.func112 rfl h7 ?_ hro;simp only[Tryz.ntmps112,List.size_toArray,List.length_cons,List.length_nil,Nat.reduceAdd,Nat.reduceSub,Array.replicate_succ,Array.replicate_zero,List.push_toArray,List.append_toArray,List.nil_append,List.cons_append]
 gi_wp2
 clear ct p1 b5
 gi_loopw [32] (fun i wr=>∃k:Nat,k<=row.length/\i=.int .i64 k/\J ((CT S.length).take k) wr/\KpN w0.heap.size Bp Bb W wr)
  (fun i _=>row.length-(intOf i).toNat)
 case atStart=>exact⟨0,Nat.zero_le _,rfl,h0,KpN.refl _ _ _ _⟩
 case round=>
  obtain⟨k,hk,rfl,ao,r⟩:=hrel
  by_cases hlt:k<row.length
  ·have m:k<S.length:=by omega
   have ab:=ap.trans r.1;obtain rfl:=ax.out.ad (by omega);have an:=Ag ab (ax.out.el k hlt);unfold ivF at an;obtain⟨v,hv⟩:=Int.eq_ofNat_of_zero_le (a1.out (row.getD k 0) (by rw[Ae _ _ _ hlt];exact List.getElem_mem hlt)).1
   have bw:v<L:=by have:=(a1.out (row.getD k 0) (by rw[Ae _ _ _ hlt];exact List.getElem_mem hlt)).2;omega
   have aw:=Ab (HE.out k m);rw[hv]at an;have HV:=Ab hv;clear hv;obtain rfl:=ay.out.ad (by omega);obtain rfl:=az.out.ad (by omega);have hF:F9 Bp Bb b2 j n2 d b3 l f s v bx ox L cx w oy cy (rx.getD v 0) (ry.getD v 0) wr:=⟨(au.out wr r.2.2).1,(au.out wr r.2.2).2,av.out wr r.2.1,Ag ab bg.out,Ag ab (by first|exact a0.out|(rw[hL];exact a0.out)),Ag ab (ay.out.el v bw),Ag ab (az.out.el v (by omega))⟩;have ah:=HE.out k m;rw[HV.out]at ah;simp only[Int.toNat_natCast]at ah;generalize rx.getD v 0=nv at*;generalize ry.getD v 0=pv at*;have aw:=Ab ah
   have HF:Hid (∀W',Below wr.drew.heap.size wr.drew W'->F9 Bp Bb b2 j n2 d b3 l f s v bx ox L cx w oy cy nv pv W'):=fun W' h=>hF.below ((Below.drew (B:=wr.heap.size) Ad).trans h)
   clear hF ah
   gi_wp2
   clear an;refine Gd bu (R9 Bp Bb b2 j n2 d b3 l f s v bx ox L cx w oy cy nv pv wr.heap.size) (fun vs=>{tmps:=(_::_::_::_::_::_::_::vs 21::_::_::_::_::_::_::_::_::_::_::_::_::_::_::_::_::_::_::_::_::_::_::_::_::_::_::_::_::vs 0::vs 1::vs 2::vs 3::vs 4::vs 5::vs 6::vs 7::vs 8::vs 9::vs 10::vs 11::vs 12::vs 13::vs 14::vs 15::vs 16::vs 17::vs 18::vs 19::vs 20::_::_::_::_::_::[]).toArray,defers:=[]}) (fun n=>[u36,u37,u38,u39,u40,u41,u42,u43,u44,u45,u46,u47,u48,u49,u50,u51,u52,u53,u54,u55,u56,u7].getD n undef) 22 rfl (by kernel_rfl) (by kernel_rfl) (R9.mono Bp Bb b2 j n2 d b3 l f s v bx ox L cx w oy cy nv pv wr.heap.size) ?step ?last
   case step=>
    intro ix o hlt ho
    match ix,hlt,ho with
    |0,hlt,ho|1,hlt,ho|3,hlt,ho|5,hlt,ho|7,hlt,ho|8,hlt,ho|10,hlt,ho|11,hlt,ho|13,hlt,ho|15,hlt,ho|17,hlt,ho|18,hlt,ho|20,hlt,ho=>
     obtain rfl:=osI ho;intro vs W K hB hD hK;have HK:=Ab hK
     try have e0:vs 0=.pointer (some ⟨Bb,0,none⟩):=Ac hD 0 rfl
     try have e2:vs 2=.slice (some ⟨b2,j,none⟩) n2 d:=Ac hD 2 rfl
     try have e4:vs 4=.int .i64 (s:Int):=Ac hD 4 rfl
     try have e6:vs 6=.slice (some ⟨bx,ox,none⟩) L cx:=Ac hD 6 rfl
     try have e7:vs 7=.int .i64 (v:Int):=Ac hD 7 rfl
     try have e9:vs 9=.int .i64 nv:=Ac hD 9 rfl
     try have ca:vs 10=.pointer (some ⟨Bb,0,none⟩):=Ac hD 10 rfl
     try have cb:vs 12=.slice (some ⟨b3,l,none⟩) n2 f:=Ac hD 12 rfl
     try have cd:vs 14=.int .i64 (s:Int):=Ac hD 14 rfl
     try have ce:vs 16=.slice (some ⟨w,oy,none⟩) L cy:=Ac hD 16 rfl
     try have cf:vs 17=.int .i64 (v:Int):=Ac hD 17 rfl
     try have cg:vs 19=.int .i64 pv:=Ac hD 19 rfl
     clear hK hD ho hlt;dsimp only;go_simp;have h:=HK.out _ _ Ad rfl;simp only[upd,Nat.reduceEqDiff,reduceIte, *]at h;exact h
    |2,hlt,ho=>
     obtain rfl:=osI ho;intro vs W K hB hD hK;have HK:=Ab hK;have e1:vs 1=.pointer (some ⟨Bb,2,none⟩):=Ac hD 1 rfl;have c1:=(HF.out W hB).c2;clear hK hD ho hlt;dsimp only;go_simp;have h:=HK.out _ _ Ad rfl;simp only[upd,Nat.reduceEqDiff,reduceIte,e1]at h;exact h
    |4,hlt,ho|14,hlt,ho=>
     obtain rfl:=osI ho;intro vs W K hB hD hK;have HK:=Ab hK
     try have e3:vs 3=.pointer (some ⟨Bp,0,none⟩):=Ac hD 3 rfl
     try have cc:vs 13=.pointer (some ⟨Bp,0,none⟩):=Ac hD 13 rfl
     have c1:=(HF.out W hB).c0;clear hK hD ho hlt;dsimp only;go_simp;have h:=HK.out _ _ Ad rfl;simp only[upd,Nat.reduceEqDiff,reduceIte, *]at h;exact h
    |6,hlt,ho=>
     obtain rfl:=osI ho;intro vs W K hB hD hK;have HK:=Ab hK;have e5:vs 5=.pointer (some ⟨b2,j+s,none⟩):=Ac hD 5 rfl;have c1:=(HF.out W hB).cx;clear hK hD ho hlt;dsimp only;go_simp;have h:=HK.out _ _ Ad rfl;simp only[upd,Nat.reduceEqDiff,reduceIte,e5]at h;exact h
    |9,hlt,ho=>
     obtain rfl:=osI ho;intro vs W K hB hD hK;have HK:=Ab hK;have e8:vs 8=.pointer (some ⟨bx,ox+v,none⟩):=Ac hD 8 rfl;have c1:=(HF.out W hB).cn;clear hK hD ho hlt;dsimp only;go_simp;have h:=HK.out _ _ Ad rfl;simp only[upd,Nat.reduceEqDiff,reduceIte,e8]at h;exact h
    |12,hlt,ho=>
     obtain rfl:=osI ho;intro vs W K hB hD hK;have HK:=Ab hK;have bk:vs 11=.pointer (some ⟨Bb,3,none⟩):=Ac hD 11 rfl;have c1:=(HF.out W hB).c3;clear hK hD ho hlt;dsimp only;go_simp;have h:=HK.out _ _ Ad rfl;simp only[upd,Nat.reduceEqDiff,reduceIte,bk]at h;exact h
    |16,hlt,ho=>
     obtain rfl:=osI ho;intro vs W K hB hD hK;have HK:=Ab hK;have bl:vs 15=.pointer (some ⟨b3,l+s,none⟩):=Ac hD 15 rfl;have c1:=(HF.out W hB).cy;clear hK hD ho hlt;dsimp only;go_simp;have h:=HK.out _ _ Ad rfl;simp only[upd,Nat.reduceEqDiff,reduceIte,bl]at h;exact h
    |19,hlt,ho=>
     obtain rfl:=osI ho;intro vs W K hB hD hK;have HK:=Ab hK;have bm:vs 18=.pointer (some ⟨w,oy+v,none⟩):=Ac hD 18 rfl;have c1:=(HF.out W hB).cp;clear hK hD ho hlt;dsimp only;go_simp;have h:=HK.out _ _ Ad rfl;simp only[upd,Nat.reduceEqDiff,reduceIte,bm]at h;exact h
    |21,hlt,ho=>
     obtain rfl:=osI ho;intro vs W K hB hD hK;have HK:=Ab hK;clear hK hD ho hlt;dsimp only;go_simp;have h:=HK.out _ _ (Ao _) ⟨_,rfl,hB.size,heap_alloc_new _ _⟩;simp only[upd,Nat.reduceEqDiff,reduceIte]at h;exact h
    |q+22,hlt,ho=>omega
   case last=>
    intro o ho;obtain rfl:=osI ho;intro vs W1 K hB ae hK;have HK:=Ab hK;have ch:vs 20=.agg #[.int .i64 nv,.int .i64 (-1),.int .i64 pv]:=ae 20 (by omega);obtain⟨z,ci,hz,u⟩:∃z,vs 21=.pointer (some ⟨z,0,none⟩)/\wr.heap.size<=z/\W1.heap[z]? =some (.cells #[.int .i64 0,.int .i64 0,.int .i64 0] 108 (0,0)):=ae 21 (by omega);have c0:=Aa 0 u;have c1:=Aa 1 u;have c2:=Aa 2 u;have f0:=At 0 u;have f1:=At 1 u;have f2:=At 2 u;have S3:=FU (a:=.int .i64 nv) (b:=.int .i64 (-1)) (c:=.int .i64 pv) u;have B3:Below wr.heap.size wr (((W1.setCell ⟨z,0,none⟩ (.int .i64 nv)).setCell ⟨z,1,none⟩ (.int .i64 (-1))).setCell ⟨z,2,none⟩ (.int .i64 pv)):=((((Below.drew (B:=wr.heap.size) Ad).trans hB).setCell (p:=⟨z,0,none⟩) hz _).setCell (p:=⟨z,1,none⟩) hz _).setCell (p:=⟨z,2,none⟩) hz _;have aj:=Ab S3;have ar:=Ab B3;clear hK ae ho u S3 B3;dsimp only;go_simp;refine HK.out _ _ ?_;clear c0 c1 c2 f0 f1 f2;generalize(((W1.setCell ⟨z,0,none⟩ (.int .i64 nv)).setCell ⟨z,1,none⟩ (.int .i64 (-1))).setCell ⟨z,2,none⟩ (.int .i64 pv))=w3 at*;have c0:w3.cell? ⟨z,0,none⟩=some (.int .i64 nv):=Aa 0 aj.out;have c1:w3.cell? ⟨z,1,none⟩=some (.int .i64 (-1)):=Aa 1 aj.out;have c2:w3.cell? ⟨z,2,none⟩=some (.int .i64 pv):=Aa 2 aj.out;obtain⟨fn,tmps,bf,b6,bz,hR⟩:=hY _ ⟨k,m⟩ w3 (bo _ _ _ ao ar.out) (by rw[List.length_take,Co];omega);rw[aw.out]at bz;have bp:=r.trans (KpN.of_below ar.out (Nat.le_trans ap.size r.1.size) (Nat.lt_of_lt_of_le a3 r.1.size) (Nat.lt_of_lt_of_le a2 r.1.size))
    gi_wp2
    refine hR.mono ?_;rintro e W4 (⟨rfl,bn,bq⟩|⟨rfl,a4⟩)
    ·have bs:=bp.trans bq
     gi_wp2
     go_roundw
     case rel=>exact⟨k+1,by omega,by go_num,by rw[CG m];exact bn,bs⟩
     case measure=>simp[intOf];omega
    ·gi_wp2
     refine bodyPost_ret (results_none rfl _ _ _) rfl ?_;exact⟨⟨_,rfl⟩,.inr ⟨_,⟨k+1,by omega,(CG m).symm⟩,a4⟩⟩
  ·obtain rfl:k=row.length:=by omega
   gi_wp2
   go_end0
   exact⟨⟨_,rfl⟩,.inl ⟨_,rfl,by rw[List.take_of_length_le (by rw[Co];omega)]at ao;exact ao⟩⟩
structure Ij(a:Au)(T:List (List Int))(y:UE):Prop where
 st:0<=y.st/\y.st<a.next.length
 inn:y.inn<T.length
 rows:(a.next.getD y.st.toNat []).length=(a.prio.getD y.st.toNat []).length
 lets:∀i:Nat,i<T.length->∀v∈T.getD i [],0<=v/\v<(a.next.getD y.st.toNat []).length
 len:∀i:Nat,i<T.length->(T.getD i []).length<=64
theorem LN(F:Fence)(n:Nat)(h7:F.fn 112)(o:F.round=none)(hn:1<=n)(Bp Bb:Nat)(w0:World)(a:Au)(T:List (List Int))(y:UE)(S:List UE)(hS:S=AZ a T y)(e:Ij a T y)(s:a.prio.length=a.next.length)(l:T.length<=64)
  (Lt St tp:Int) (f i j:Option Addr) (b c d:Nat) (w:World) (hw:Below w0.heap.size w0 w)
  (q:w.heap[Bp]? =some (.cells (plC y) 108 (0,0))) (p:w.heap[Bb]? =some (.cells #[.int .i64 Lt,.int .i64 St,.slice f a.next.length b,.slice i a.next.length c,.int .i64 tp,.slice j T.length d] 105 (0,0)))
  (hN:Ar w0 (.slice f a.next.length b) a.next) (hP:Ar w0 (.slice i a.next.length c) a.prio) (hT:Ar w0 (.slice j T.length d) T):
  SeqStopsK F n Tryz.prog 112 #[.pointer (some ⟨Bp,0,none⟩),.pointer (some ⟨Bb,0,none⟩)] (Lm S) (KpN w0.heap.size Bp Bb) (fun ys=>ys=CT S.length) (fun pre=>∃k,k<=S.length/\pre=(CT S.length).take k) S.length w:=fun lY J Jx W hW hJ _ hY h0=>by
 have b1:=B8 hW q;have b2:=B8 hW p
 by_cases hi:y.inn<0
 ·exact MZ F n h7 o hn lY Bp Bb w0.heap.size a T y S hS hi l Lt St tp f i j _ b _ c d J Jx hY W b1 b2 h0
 ·have r:=e.inn
  have m:y.inn.toNat<T.length:=by omega
  exact LM F n h7 o hn lY Bp Bb w0 a T y S hS ⟨by omega,r⟩ e.st s e.rows (e.lets _ m) (e.len _ m) Lt St tp f i j b c d J Jx (fun pre W1 W2 hp hb=>hJ pre W1 W2 none hp (AW hb) (by simp)) hY W (hw.trans (hW.mono hw.size)) b1 b2 hN hP hT h0
structure Ml(a:Au)(T:List (List Int)):Prop where
 pl:a.prio.length=a.next.length
 rows:∀s:Nat,s<a.next.length->(a.next.getD s []).length=(a.prio.getD s []).length
 nx:∀s:Nat,s<a.next.length->∀x∈a.next.getD s [],0<=x/\x<a.next.length
 lets:∀s:Nat,s<a.next.length->∀i:Nat,i<T.length->∀v∈T.getD i [],0<=v/\v<(a.next.getD s []).length
 len:∀i:Nat,i<T.length->(T.getD i []).length<=64
 t:1<=T.length/\T.length<=64
theorem Ml.pl'{a:Au}{T:List (List Int)}(h:Ml a T){y:UE}(h1:0<=y.st/\y.st<a.next.length)(h2:y.inn<T.length):Ij a T y:=by
 have hs:y.st.toNat<a.next.length:=by omega
 exact⟨h1,h2,h.rows _ hs,h.lets _ hs,h.len⟩
theorem Ml.succ{a:Au}{T:List (List Int)}(h:Ml a T){y:UE}(hy:Ij a T y):∀x∈AZ a T y,Ij a T x:=by
 intro x hx
 have hs:y.st.toNat<a.next.length:=by have:=hy.st;omega
 unfold AZ at hx
 split at hx
 ·obtain⟨i,hi,rfl⟩:=List.mem_map.1 hx;have:=List.mem_range.1 hi;exact h.pl' hy.st (by show(i:Int)<_;omega)
 ·rename_i hn;have c:=hy.inn;obtain⟨v,hv,rfl⟩:=List.mem_map.1 hx;have d:=hy.lets _ (by omega) v hv
  have b:v.toNat<(a.next.getD y.st.toNat []).length:=by omega
  refine h.pl' ?_ (by show(-1:Int)<_;have:=h.t;omega);show 0<=(a.next.getD y.st.toNat []).getD v.toNat 0/\_;rw[Ae _ _ _ b];exact h.nx _ hs _ (List.getElem_mem b)
attribute [local go_sem] Oper.semAt_some
theorem Ge{P:Program}{fn:Func}{p q r:Tmp}{t1 t2 t3:TypeId}(h:fn.results=#[.cell p t1,.cell q t2,.cell r t3])(a:Array Value)(w:World)(g1 g2 g3:Addr)(v1 v2 v3:Value)
  (hp:a.getD p undef=.pointer (some g1)) (hq:a.getD q undef=.pointer (some g2)) (hr:a.getD r undef=.pointer (some g3))
  (l1:(loadVar t1 g1).run P w=.ok v1 w) (l2:(loadVar t2 g2).run P w=.ok v2 w) (l3:(loadVar t3 g3).run P w=.ok v3 w):
  (results fn a).run P w=.ok (.tuple #[v1,v2,v3]) w:=by
 have b:a[p]?.getD undef=.pointer (some g1):=by simpa using hp
 have c:a[q]?.getD undef=.pointer (some g2):=by simpa using hq
 have d:a[r]?.getD undef=.pointer (some g3):=by simpa using hr
 simp[results,h,b,c,d,asAddr,l1,l2,l3]
end Go.Proofs.YtncjeamdkjcebaaGreatDoor
namespace Go.Proofs.YtncjeamdkjcebaaGreatDoor
open Go.RowKit
theorem JT{l:List Sig}{i:Nat}(hi:i<(Al l).toNat):(Ap l).getD i []=(List.range (Ai l).toNat).map fun(o:Nat)=>AI l (i:Int) (o:Int):=by
 have a:i<(Ap l).length:=by simpa[Ap]using hi
 rw[Ae _ _ _ a];simp only[Ap,List.getElem_map,List.getElem_range]
theorem JS(l:List Sig):(Ap l).length=(Al l).toNat:=by simp[Ap]
theorem Cy{a:Au}(hv:AC a=true){s:Nat}(hs:s<a.next.length):((a.next.getD s []).length:Int)=a.letters/\((a.prio.getD s []).length:Int)=a.letters/\
  ∀k:Nat,k<(a.next.getD s []).length->0<=(a.next.getD s []).getD k 0/\(a.next.getD s []).getD k 0<a.next.length:=by
 simp only[AC,Bool.and_eq_true,decide_eq_true_eq]at hv;have hr:=List.all_eq_true.1 hv.2 s (List.mem_range.2 hs);simp only[KQ,Bool.and_eq_true,decide_eq_true_eq]at hr;refine⟨hr.1.1,hr.1.2,fun k hk=> ?_⟩;have hm:=List.all_eq_true.1 hr.2 k (List.mem_range.2 hk);simp only[Gb,Bool.and_eq_true,decide_eq_true_eq]at hm;exact hm.1.1
theorem Uz{a:Au}{l:List Sig}(hs:As l=true)(hv:AC a=true)(he:a.letters=Ay l):Ml a (Ap l):=by
 obtain⟨⟨c,d⟩,⟨f,j⟩⟩:=Dv hs;have b:=hv;simp only[AC,Bool.and_eq_true,decide_eq_true_eq]at b;have e:=JS l;refine⟨by have:=b.1;omega,fun s h=> ?_,fun s h x hx=> ?_,fun s h i hi v hx=> ?_,fun i hi=> ?_,by omega⟩
 ·obtain⟨h1,h2,-⟩:=Cy hv h;omega
 ·obtain⟨k,hk,rfl⟩:=List.mem_iff_getElem.1 hx;have h3:=(Cy hv h).2.2 k hk
  rwa [Ae _ _ _ hk]at h3
 ·have h1:=(Cy hv h).1;rw[JT (by omega)]at hx;obtain⟨o,ho,rfl⟩:=List.mem_map.1 hx;have ho:=List.mem_range.1 ho;have h2:=(DP hs (i:=(i:Int)) (o:=(o:Int)) (by omega) (by omega) (by omega) (by omega)).1;omega
 ·rw[JT (by omega),List.length_map,List.length_range];omega
theorem H6{a:Au}(hv:AC a=true){s:Nat}(hs:s<a.next.length)(k:Nat)(hk:k<(a.next.getD s []).length):0<=(a.prio.getD s []).getD k 0/\(a.prio.getD s []).getD k 0<=20000:=by
 simp only[AC,Bool.and_eq_true,decide_eq_true_eq]at hv;have hr:=List.all_eq_true.1 hv.2 s (List.mem_range.2 hs);simp only[KQ,Bool.and_eq_true,decide_eq_true_eq]at hr;have hm:=List.all_eq_true.1 hr.2 k (List.mem_range.2 hk);simp only[Gb,Bool.and_eq_true,decide_eq_true_eq]at hm;exact⟨hm.1.2,hm.2⟩
def PlW(y:UE):Prop:=-1<=y.inn/\-1<=y.pr/\y.pr<=20000
theorem Od{a:Au}{T:List (List Int)}{y:UE}(hv:AC a=true)(hy:Ij a T y):∀x∈AZ a T y,PlW x:=by
 intro x hx
 have hs:y.st.toNat<a.next.length:=by have:=hy.st;omega
 unfold AZ at hx
 split at hx
 ·obtain⟨i,hi,rfl⟩:=List.mem_map.1 hx;refine⟨?_, ?_, ?_⟩
  ·show -1<=(i:Int);omega
  ·show(-1:Int)<=-1;omega
  ·show(-1:Int)<=20000;omega
 ·rename_i hn;have c:=hy.inn;obtain⟨v,b,rfl⟩:=List.mem_map.1 hx;have d:=hy.lets _ (by omega) v b;obtain⟨h1,h2⟩:=H6 hv hs v.toNat (by omega);refine⟨?_, ?_,h2⟩
  ·show(-1:Int)<=-1;omega
  ·show -1<=(a.prio.getD y.st.toNat []).getD v.toNat 0;omega
theorem wfP{a:Au}{T:List (List Int)}{y:UE}(hv:AC a=true)(hT:T.length<=64)(hy:Ij a T y)(hw:PlW y):WfP y:=by
 simp only[AC,Bool.and_eq_true,decide_eq_true_eq]at hv;have h1:=hy.st;have h2:=hy.inn;obtain⟨h3,h4,h5⟩:=hw;have h6:=hv.1.1.1.2;refine⟨?_, ?_, ?_⟩<;>unfold I64<;>omega
end Go.Proofs.YtncjeamdkjcebaaGreatDoor
