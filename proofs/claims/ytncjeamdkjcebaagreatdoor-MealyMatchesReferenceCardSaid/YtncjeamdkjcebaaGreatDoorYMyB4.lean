/- What the reference's Both computes. -/
import Derived.Test.YtncjeamdkjcebaaGreatDoorYMyB3
set_option linter.all false
set_option maxHeartbeats 4000000
set_option maxRecDepth 100000
namespace Go.Proofs.YtncjeamdkjcebaaGreatDoor
open Go.RowKit
theorem Bx{W:World}{a:Option Addr}{n c:Nat}{ll:List (List Int)}(h:Ar W (.slice a n c) ll)(hn:0<n):∃b o,a=some ⟨b,o,none⟩:=by
 obtain⟨b,o,d,-,-⟩:=h.dat2;exact⟨b,o,d hn⟩
theorem Bm{W:World}{b o n c q x:Nat}{ll:List (List Int)}(h:Ar W (.slice (some ⟨b,o,none⟩) n c) ll)(hq:q<n)(hx:x<(ll.getD q []).length):
  ∃b2 o2 c2,W.cell? ⟨b,o+q,none⟩=some (.slice (some ⟨b2,o2,none⟩) (ll.getD q []).length c2)/\W.cell? ⟨b2,o2+x,none⟩=some (.int .i64 ((ll.getD q []).getD x 0)):=by
 obtain⟨b',o',d,-,f⟩:=h.dat2;have e:=d (by omega);simp only[Option.some.injEq,Addr.mk.injEq]at e;obtain⟨rfl,rfl,-⟩:=e;obtain⟨r,z,k,i⟩:=f q hq;obtain⟨u,y,yy,-,g⟩:=i.data;obtain rfl:=yy (by omega);exact⟨u,y,z,k,g x hx⟩
theorem RQ{S:List Pr}{k:Nat}(h:k<(cds S).length)(h2:k<S.length):(cds S)[k]=cdP (S.getD k (0,0)):=by
 have h3:(cds S)[k]=cdP S[k]:=List.getElem_map _;rw[h3,Ae _ _ _ h2]
def CW(l:List Sig)(own:List Bool)(a b:My)(n K:Nat):List (List Int):=(List.range K).map fun j=>Hq l own a b n (bfP a b n j)
theorem M0{l:List Sig}{own:List Bool}{a b:My}{n K:Nat}:CW l own a b n (K+1)=CW l own a b n K++[Hq l own a b n (bfP a b n K)]:=by simp[CW,List.range_succ]
theorem PY{a b:My}{n K:Nat}:bfN a b n (K+1)=bfN a b n K++[rwN (nxP a b (bfP a b n K)) (bfS a b n K) n]:=by simp[bfN,List.range_succ]
def Gs(l:List Sig)(own:List Bool)(a b:My)(p:Pr)(i:Nat):List Int:=(List.range i).map fun j=>D4 l own (Bt a p.1 j) (Bt b p.2 j)
theorem I9{l:List Sig}{own:List Bool}{a b:My}{p:Pr}{i:Nat}:(Gs l own a b p i).length=i:=by simp[Gs]
theorem OL{l:List Sig}{own:List Bool}{a b:My}{p:Pr}{i:Nat}:Gs l own a b p (i+1)=Gs l own a b p i++[D4 l own (Bt a p.1 i) (Bt b p.2 i)]:=by simp[Gs,List.range_succ]
def nwT(f:Nat->Pr)(S:List Pr)(n i:Nat):List Int:=(List.range i).map (fun j=>(((rwS f S j).idxOf (f j):Nat):Int))++List.replicate (n-i) 0
theorem Sl{f:Nat->Pr}{S:List Pr}{n i:Nat}(h:i<=n):(nwT f S n i).length=n:=by simp[nwT];omega
theorem QQ{f:Nat->Pr}{S:List Pr}{n:Nat}:nwT f S n 0=List.replicate n 0:=by simp[nwT]
theorem Sm{f:Nat->Pr}{S:List Pr}{n i:Nat}(h:i<n):(nwT f S n i).set i (((rwS f S i).idxOf (f i):Nat):Int)=nwT f S n (i+1):=by
 obtain⟨k,hk⟩:∃k,n-i=k+1:=⟨n-i-1,by omega⟩;unfold nwT;rw[hk,show n-(i+1)=k by omega,List.replicate_succ,List.range_succ,List.map_append,List.append_assoc];rw[List.set_append_right _ _ (by simp)];simp
theorem Sk{f:Nat->Pr}{S:List Pr}{n:Nat}:nwT f S n n=rwN f S n:=by simp[nwT,rwN]
theorem EM{d:Array Oper}{rest:List Oper}{o:Oper}{a:Act}{Q:Exit->Act->World->Prop}{w:World}(e:o.guard=none)(s x:Operand)(u:Value)
  (ho:o.op=.call {callee:=.builtin .append,args:=#[s,x],argTypes:=#[23,23]})
  (base:Nat) (v:Value) (n:Nat) (l:List Value) (c:w.ownsRow base 26 1 v n l) (hs:a.eval s=v) (m:Nat) (hm:m=w.heap.size) (hx:a.eval x=.slice (some ⟨m,0,none⟩) 1 1) (hu:u.oneCell'=true)
  (hn:n<5864062014000) (b:base<=w.heap.size)
  (h:∀v' w',w'.ownsRow base 26 1 v' (n+1) (l++[u])->w.grownBy w' v.ownBlock->AS w v v'->wpList Tryz.prog d Q rest (a.put o.dst v') w'):
  wpList Tryz.prog d Q (o::rest) a (w.alloc (.cells #[u] 26)):=
 Ii e s x _ _ 24 _ _ ho Tryz.underlying23 D9 rfl base v n _ hs c m hm hx hu (by omega) (by decide) b h
def PA(zA zB b3 o3 na p1 r3 t3 l3 i b5 o5 nb p2 r5 t5 l5 ln no cO sc c3 d3 c5 d5 oc:Nat)(aO sa oa:Option Addr)(x y z:Int)(ix:Nat)(u:Value)(W:World):Prop:=
 match ix with
 |0=>u=.slice aO i cO
 |1=>u=.slice sa ln sc
 |2=>u=.pointer (some ⟨zA,3,none⟩)
 |3=>u=.slice (some ⟨b3,o3,none⟩) na c3
 |4=>u=.int .i64 (p1:Int)
 |5=>u=.pointer (some ⟨b3,o3+p1,none⟩)
 |6=>u=.slice (some ⟨r3,t3,none⟩) l3 d3
 |7|15=>u=.int .i64 (i:Int)
 |8=>u=.pointer (some ⟨r3,t3+i,none⟩)
 |9=>u=.int .i64 x
 |10=>u=.pointer (some ⟨zB,3,none⟩)
 |11=>u=.slice (some ⟨b5,o5,none⟩) nb c5
 |12=>u=.int .i64 (p2:Int)
 |13=>u=.pointer (some ⟨b5,o5+p2,none⟩)
 |14=>u=.slice (some ⟨r5,t5,none⟩) l5 d5
 |16=>u=.pointer (some ⟨r5,t5+i,none⟩)
 |17=>u=.int .i64 y
 |18=>u=.slice oa no oc
 |19=>u=.int .i64 z
 |20=>ElI z u W
 |21|22=>True
 | _=>True
theorem PA.mono(zA zB b3 o3 na p1 r3 t3 l3 i b5 o5 nb p2 r5 t5 l5 ln no cO sc c3 d3 c5 d5 oc:Nat)(aO sa oa:Option Addr)(x y z:Int)(jx:Nat)(v:Value)(W W':World)(h:PA zA zB b3 o3 na p1 r3 t3 l3 i b5 o5 nb p2 r5 t5 l5 ln no cO sc c3 d3 c5 d5 oc aO sa oa x y z jx v W)(hb:Below W.heap.size W W'):PA zA zB b3 o3 na p1 r3 t3 l3 i b5 o5 nb p2 r5 t5 l5 ln no cO sc c3 d3 c5 d5 oc aO sa oa x y z jx v W':=by
 match jx,h with
 |0,h=>exact h
 |1,h=>exact h
 |2,h=>exact h
 |3,h=>exact h
 |4,h=>exact h
 |5,h=>exact h
 |6,h=>exact h
 |7,h=>exact h
 |8,h=>exact h
 |9,h=>exact h
 |10,h=>exact h
 |11,h=>exact h
 |12,h=>exact h
 |13,h=>exact h
 |14,h=>exact h
 |15,h=>exact h
 |16,h=>exact h
 |17,h=>exact h
 |18,h=>exact h
 |19,h=>exact h
 |20,h=>exact ElI.below h hb
 |21,h=>exact h
 |22,h=>exact h
 | _+23,h=>exact h
def Uy(zA zB b4 o4 na p1 r4 t4 l4 i b6 o6 nb p2 r6 t6 l6 q1 q2 ix gN n ls cS c4 d4 c6 d6:Nat)(aS:Option Addr)(xq:Value)(jq:Nat)(u:Value):Prop:=
 match jq with
 |0=>u=.slice (some ⟨gN,0,none⟩) n n
 |1|8|17=>u=.int .i64 (i:Int)
 |2=>u=.slice aS ls cS
 |3=>u=.pointer (some ⟨zA,4,none⟩)
 |4=>u=.slice (some ⟨b4,o4,none⟩) na c4
 |5=>u=.int .i64 (p1:Int)
 |6=>u=.pointer (some ⟨b4,o4+p1,none⟩)
 |7=>u=.slice (some ⟨r4,t4,none⟩) l4 d4
 |9=>u=.pointer (some ⟨r4,t4+i,none⟩)
 |10=>u=.int .i64 (q1:Int)
 |11=>u=.int .i64 ((q1:Int)*3000)
 |12=>u=.pointer (some ⟨zB,4,none⟩)
 |13=>u=.slice (some ⟨b6,o6,none⟩) nb c6
 |14=>u=.int .i64 (p2:Int)
 |15=>u=.pointer (some ⟨b6,o6+p2,none⟩)
 |16=>u=.slice (some ⟨r6,t6,none⟩) l6 d6
 |18=>u=.pointer (some ⟨r6,t6+i,none⟩)
 |19=>u=.int .i64 (q2:Int)
 |20=>u=.int .i64 ((q1:Int)*3000+(q2:Int))
 |21|22=>u=.tuple #[xq,.int .i64 (ix:Int)]
 |23|25=>u=xq
 |24=>u=.int .i64 (ix:Int)
 |26=>u=.pointer (some ⟨gN,i,none⟩)
 |27=>True
 | _=>True
theorem Rw(w:World)(vl va vb vo:Value)(l:List Sig)(a b:My)(own:List Bool)(hl:AD w vl l)(ha:BB w va a)(hb:BB w vb b)(ho:Bf w vo own)(eh:a.out.length<=50)(ei:b.out.length<=50):
  Calls Tryz.prog 15 #[vl,va,vb,vo] w (H8 (DN l a b own).1 (DN l a b own).2 w):=by
 have eu:Tryz.prog.follows .mixedOrders=true:=by kernel_rfl
 have dp:Hid (∀W,Below w.heap.size w W->Calls Tryz.prog 27 #[vl,va] W (Av (.bool (BH l a)) W)):=fun W h=>GJ W _ _ l a (hl.below h) (ha.below h)
 have dq:Hid (∀W,Below w.heap.size w W->Calls Tryz.prog 27 #[vl,vb] W (Av (.bool (BH l b)) W)):=fun W h=>GJ W _ _ l b (hl.below h) (hb.below h)
 have dw:Hid (own.length=l.length->As l=true->∀W x y,0<=x/\x<Ai l->0<=y/\y<Ai l->Below w.heap.size w W->Calls Tryz.prog 51 #[vl,.int .i64 x,.int .i64 y,vo] W (Av (.int .i64 (D4 l own x y)) W)):=fun h1 h2 W x y hx hy h=>Ta W _ _ l own x y (hl.below h) (ho.below h) h1 h2 hx hy
 obtain⟨v3,v4,rfl,⟨-,-,hh⟩,i3,i4⟩:=ha;obtain⟨v5,v6,rfl,⟨-,-,hk⟩,j3,j4⟩:=hb
 have ch:Hid (∀W,Below w.heap.size w W->Ar W v3 a.out):=fun W h=>i3.below h
 have ci:Hid (∀W,Below w.heap.size w W->Ar W v4 a.next):=fun W h=>i4.below h
 have cj:Hid (∀W,Below w.heap.size w W->Ar W v5 b.out):=fun W h=>j3.below h
 have ck:Hid (∀W,Below w.heap.size w W->Ar W v6 b.next):=fun W h=>j4.below h
 obtain⟨a3,c3,rfl⟩:=i3.shape;obtain⟨a4,c4,rfl⟩:=i4.shape;obtain⟨a5,c5,rfl⟩:=j3.shape;obtain⟨a6,c6,rfl⟩:=j4.shape;obtain⟨sa,sc,rfl⟩:=hl.shape;obtain⟨oa,oc,rfl⟩:=ho.shape;clear hl ho i3 i4 j3 j4
 go_enter Tryz.func15,Tryz.ntmps15
 go_upto_region 1 with(fail)
 obtain⟨ac,-,ea⟩:=Aw (w0:=w) Ad leR #[.int .i64 a.ins,.int .i64 a.outs,.int .i64 a.start,.slice a3 a.out.length c3,.slice a4 a.next.length c4] 25
 have dd:(w.alloc (.cells #[.int .i64 a.ins,.int .i64 a.outs,.int .i64 a.start,.slice a3 a.out.length c3,.slice a4 a.next.length c4] 25)).heap.size=w.heap.size+1:=by simp
 generalize w.alloc (.cells #[.int .i64 a.ins,.int .i64 a.outs,.int .i64 a.start,.slice a3 a.out.length c3,.slice a4 a.next.length c4] 25)=w1 at*;obtain⟨ad,-,eb⟩:=Aw (w0:=w) ea (by omega) #[.int .i64 b.ins,.int .i64 b.outs,.int .i64 b.start,.slice a5 b.out.length c5,.slice a6 b.next.length c6] 25
 have de:(w1.alloc (.cells #[.int .i64 b.ins,.int .i64 b.outs,.int .i64 b.start,.slice a5 b.out.length c5,.slice a6 b.next.length c6] 25)).heap.size=w.heap.size+1+1:=by simp[dd]
 have cb:=(Dm w1 (.cells #[.int .i64 b.ins,.int .i64 b.outs,.int .i64 b.start,.slice a5 b.out.length c5,.slice a6 b.next.length c6] 25) (r:=w.heap.size) (by omega)).trans ac;generalize w1.alloc (.cells #[.int .i64 b.ins,.int .i64 b.outs,.int .i64 b.start,.slice a5 b.out.length c5,.slice a6 b.next.length c6] 25)=w2 at*;obtain⟨p,-,ab⟩:=Aw (w0:=w) eb (by omega) #[.int .i64 0,.int .i64 0,.int .i64 0,.slice none 0 0,.slice none 0 0] 25
 have ik:(w2.alloc (.cells #[.int .i64 0,.int .i64 0,.int .i64 0,.slice none 0 0,.slice none 0 0] 25)).heap.size=w.heap.size+1+1+1:=by simp[de]
 have ac:=(Dm w2 (.cells #[.int .i64 0,.int .i64 0,.int .i64 0,.slice none 0 0,.slice none 0 0] 25) (r:=w.heap.size) (by omega)).trans cb;have ad:=(Dm w2 (.cells #[.int .i64 0,.int .i64 0,.int .i64 0,.slice none 0 0,.slice none 0 0] 25) (r:=w1.heap.size) (by omega)).trans ad;generalize w2.alloc (.cells #[.int .i64 0,.int .i64 0,.int .i64 0,.slice none 0 0,.slice none 0 0] 25)=w3 at*;clear cb ea eb;rw[dd]at ad;rw[de]at p;have k0:=Aa 0 ac;have k1:=Aa 1 ac;have k2:=Aa 2 ac;have k3:=Aa 3 ac;have k4:=Aa 4 ac
 go_wp2_with fail
 refine(dp.out _ ab).mono ?_;rintro e w4 ⟨rfl,hb⟩;replace ac:=(hb.block _ (by omega)).trans ac;replace ad:=(hb.block _ (by omega)).trans ad;replace p:=(hb.block _ (by omega)).trans p;replace ab:=ab.trans (hb.mono ab.size)
 have ij:w.heap.size+1+1+1<=w4.heap.size:=by have:=hb.size;omega
 clear hb ik k0 k1 k2 k3 k4 dd de;have q0:=Aa 0 p;have q1:=Aa 1 p;have q2:=Aa 2 p;have q3:=Aa 3 p;have q4:=Aa 4 p;have f0:=At 0 p;have f1:=At 1 p;have f2:=At 2 p;have f3:=At 3 p;have f4:=At 4 p;have u0:=Aa 0 ad;have u1:=Aa 1 ad;have u2:=Aa 2 ad;have u3:=Aa 3 ad;have u4:=Aa 4 ad
 cases hfa:BH l a with
 |false=>
  have HE:Hid (DN l a b own=(Fh,1)):=if_neg (by rw[hfa];simp);go_wp2;rw[HE.out];have aa:=C4 (a:=.int .i64 0) (b:=.int .i64 0) (c:=.int .i64 0) (d:=.slice none 0 0) (e:=.slice none 0 0) p;have ai:=Aa 0 aa;have aj:=Aa 1 aa;have ak:=Aa 2 aa;have al:=Aa 3 aa;have ap:=Aa 4 aa;refine bodyPost_ret (v:=.tuple #[.agg #[.int .i64 0,.int .i64 0,.int .i64 0,.slice none 0 0,.slice none 0 0],.int .i64 1]) (by simp[results,Tryz.results15,go_sem,ai,aj,ak,al,ap]) rfl ?_;exact D3 ab (by omega) (fun W' _=>Et W')
 |true=>
 go_wp2_with fail
 refine(dq.out _ ab).mono ?_;rintro e w5 ⟨rfl,hb⟩;replace ac:=(hb.block _ (by omega)).trans ac;replace ad:=(hb.block _ (by omega)).trans ad;replace p:=(hb.block _ (by omega)).trans p;replace ab:=ab.trans (hb.mono ab.size)
 replace ij:w.heap.size+1+1+1<=w5.heap.size:=by have:=hb.size;omega
 clear hb q0 q1 q2 q3 q4 f0 f1 f2 f3 f4 u0 u1 u2 u3 u4;have q0:=Aa 0 p;have q1:=Aa 1 p;have q2:=Aa 2 p;have q3:=Aa 3 p;have q4:=Aa 4 p;have f0:=At 0 p;have f1:=At 1 p;have f2:=At 2 p;have f3:=At 3 p;have f4:=At 4 p
 cases hfb:BH l b with
 |false=>
  have HE:Hid (DN l a b own=(Fh,1)):=if_neg (by rw[hfb];simp);go_wp2;rw[HE.out];have aa:=C4 (a:=.int .i64 0) (b:=.int .i64 0) (c:=.int .i64 0) (d:=.slice none 0 0) (e:=.slice none 0 0) p;have ai:=Aa 0 aa;have aj:=Aa 1 aa;have ak:=Aa 2 aa;have al:=Aa 3 aa;have ap:=Aa 4 aa;refine bodyPost_ret (v:=.tuple #[.agg #[.int .i64 0,.int .i64 0,.int .i64 0,.slice none 0 0,.slice none 0 0],.int .i64 1]) (by simp[results,Tryz.results15,go_sem,ai,aj,ak,al,ap]) rfl ?_;exact D3 ab (by omega) (fun W' _=>Et W')
 |true=>
 by_cases ah:own.length=l.length
 case neg=>
  have HE:Hid (DN l a b own=(Fh,1)):=if_neg (fun h=>ah h.2.2)
  have tA:((own.length:Int) !=(l.length:Int))=true:=by simp;omega
  go_wp2;rw[HE.out];have aa:=C4 (a:=.int .i64 0) (b:=.int .i64 0) (c:=.int .i64 0) (d:=.slice none 0 0) (e:=.slice none 0 0) p;have ai:=Aa 0 aa;have aj:=Aa 1 aa;have ak:=Aa 2 aa;have al:=Aa 3 aa;have ap:=Aa 4 aa;refine bodyPost_ret (v:=.tuple #[.agg #[.int .i64 0,.int .i64 0,.int .i64 0,.slice none 0 0,.slice none 0 0],.int .i64 1]) (by simp[results,Tryz.results15,go_sem,ai,aj,ak,al,ap]) rfl ?_;exact D3 ab (by omega) (fun W' _=>Et W')
 have HE:Hid (DN l a b own=(IQ l own a b,0)):=if_pos ⟨hfa,hfb,ah⟩
 have tA:((own.length:Int) !=(l.length:Int))=false:=by simp[ah]
 obtain⟨dc,ag,eq,ew⟩:=BT.1 hfa;obtain⟨-,az,er,bz⟩:=BT.1 hfb;have dv:=Ab ag;have cn:=Ab az;have b2:=Ab (dw.out ah dc);have cx:b.ins=a.ins:=er.trans eq.symm;have dy:=Ab ew;have gz:=Ab bz;have g5:=Ab dc;have ia:=ag.i1;have ib:=ag.i2;have jw:=ag.o2;have jv:=ag.o1;have jl:=ag.s0;have jm:=ag.s1;have jn:=az.s0;have jo:=az.s1;have b7:=ag.nl;have b8:=az.nl;obtain⟨n,hn⟩:∃n:Nat,a.ins=(n:Int):=⟨a.ins.toNat,by omega⟩
 have c2:a.ins.toNat=n:=by omega
 have dn:Hid (∀K,EF a b n K->IQ l own a b=⟨a.ins,a.outs,0,CW l own a b n K,bfN a b n K⟩):=fun K h=>by
  rw[IR (by rw[c2];exact h)];unfold Nx;rw[c2];rfl
 have co:Hid (∀k,(∀j,j<k->j<(bfS a b n j).length)->∀x∈bfS a b n k,okP a b x):=MC ag az cx (by omega)
 have cl:Hid (∀k,(∀j,j<k->j<(bfS a b n j).length)->(bfS a b n k).length<=2500):=fun k h=>by
  have:=JZ (MA k) (co.out k h);have h2:a.out.length*b.out.length<=50*50:=Nat.mul_le_mul eh ei;omega
 have i3:=ch.out _ ab;have i4:=ci.out _ ab;have j3:=cj.out _ ab;have j4:=ck.out _ ab;rw[b7]at i4 ac;rw[b8]at j4 ad;obtain⟨b3,o3,rfl⟩:=Bx i3 (by omega);obtain⟨b4,o4,rfl⟩:=Bx i4 (by omega);obtain⟨b5,o5,rfl⟩:=Bx j3 (by omega);obtain⟨b6,o6,rfl⟩:=Bx j4 (by omega);have ch:=Ab i3;have ci:=Ab i4;have cj:=Ab j3;have ck:=Ab j4;have k0:=Aa 0 ac;have k1:=Aa 1 ac;have jq:=Ab ah;have HN:=Ab hn;have ce:=Ab cx;rw[hn]at ac k0 dn ia ib;clear i3 i4 j3 j4 hfa hfb ah dc ag az eq ew er bz dp dq dw q0 q1 q2 q3 q4 f0 f1 f2 f3 f4 hn c2 cx
 have cp:Hid (∀W,Below w5.heap.size w5 W->W.heap[w.heap.size]? =some (.cells #[.int .i64 (n:Int),.int .i64 a.outs,.int .i64 a.start,.slice (some ⟨b3,o3,none⟩) a.out.length c3,.slice (some ⟨b4,o4,none⟩) a.out.length c4] 25 (0,0))):=fun W h=>(h.block _ (by omega)).trans ac
 have cq:Hid (∀W,Below w5.heap.size w5 W->W.heap[w.heap.size+1]? =some (.cells #[.int .i64 b.ins,.int .i64 b.outs,.int .i64 b.start,.slice (some ⟨b5,o5,none⟩) b.out.length c5,.slice (some ⟨b6,o6,none⟩) b.out.length c6] 25 (0,0))):=fun W h=>(h.block _ (by omega)).trans ad
 have g8:Hid (∀W,Below w5.heap.size w5 W->W.heap[w.heap.size+1+1]? =some (.cells #[.int .i64 0,.int .i64 0,.int .i64 0,.slice none 0 0,.slice none 0 0] 25 (0,0))):=fun W h=>(h.block _ (by omega)).trans p
 have dj:Hid (∀W,Below w5.heap.size w5 W->Below w.heap.size w W):=fun W h=>ab.trans (h.mono ab.size)
 have ej:a.start*3000+b.start=cdP (a.start.toNat,b.start.toNat):=by
  show _=((a.start.toNat*3000+b.start.toNat:Nat):Int);omega
 have dk:=Ab ej;clear ej p ab b7 b8 hh hk
 go_upto_region 4 with(fail)
 have av:IntKind.i64.wrap (a.start*3000)=a.start*3000:=IntWalk.i64_in _ ⟨by omega,by omega⟩;have aw:IntKind.i64.wrap (a.start*3000+b.start)=a.start*3000+b.start:=IntWalk.i64_in _ ⟨by omega,by omega⟩;obtain⟨fc,bx,-⟩:=Aw (w0:=w5) (B:=w5.heap.size) Ad leR #[.int .i64 (n:Int),.int .i64 a.outs,.int .i64 0,.slice none 0 0,.slice none 0 0] 25
 have il:(w5.alloc (.cells #[.int .i64 (n:Int),.int .i64 a.outs,.int .i64 0,.slice none 0 0,.slice none 0 0] 25)).heap.size=w5.heap.size+1:=by simp
 generalize w5.alloc (.cells #[.int .i64 (n:Int),.int .i64 a.outs,.int .i64 0,.slice none 0 0,.slice none 0 0] 25)=w6 at*;have g0:=Aa 2 (cp.out _ bx);have g1:=Aa 2 (cq.out _ bx);clear ac ad k0 k1
 go_upto_region 5 with(fail)
 have ef:IB w5 (n:Int) a.outs (.slice none 0 0) (.slice none 0 0) [] [] [] [] (cds (bfS a b n 0)) [] [] (.slice (some ⟨w5.heap.size+1,0,none⟩) 1 1) (.slice none 0 0) (.slice none 0 0) (w6.alloc (.cells #[.int .i64 (a.start*3000+b.start)] 3)):=by
  have ho:OI (w6.alloc (.cells #[.int .i64 (a.start*3000+b.start)] 3)) w6.heap.size (.slice (some ⟨w6.heap.size,0,none⟩) 1 1) [a.start*3000+b.start]:=Mt w6 _;rw[il,dk.out]at ho;rw[dk.out];refine IB.start ?_ (bx.trans ((Ao _).mono bx.size)) (ho.base (by omega)) (by simp[Value.ownBlock]);exact((Ao _).block _ (by omega)).trans fc
 have ds:=Ab ef;have gu:Hid ((cds (bfS a b n 0)).length=1):=rfl;clear ef fc av aw g0 g1;generalize w6.alloc (.cells #[.int .i64 (a.start*3000+b.start)] 3)=w7 at*
 go_wp2_with fail
 go_loopg [11,12] 3000 (fun gh sv kv wr=>∃(k:Nat)(v3 v4:Value)(n3 n4:List Value),gh=3000-k/\kv=.int .i64 (k:Int)/\Hid (IB w5 (n:Int) a.outs v3 v4 n3 n4 (CW l own a b n k) (bfN a b n k) (cds (bfS a b n k)) [] [] sv (.slice none 0 0) (.slice none 0 0) wr/\(∀j,j<k->j<(bfS a b n j).length)))
 case atStart=>exact⟨0,_,_,_,_,rfl,rfl,ds.out,fun j hj=>absurd hj (by omega)⟩
 case round=>
  clear ds gu;obtain⟨k,v3,v4,n3,n4,eo,rfl,HK⟩:=hrel;have gp:=Ab eo;clear eo;have b9:=cl.out k HK.out.2
  have c0:(cds (bfS a b n k)).length=(bfS a b n k).length:=by simp[cds]
  obtain⟨aS,cS,fa⟩:=HK.out.1.s.slice;rw[c0]at fa;subst fa
  by_cases hlt:k<(bfS a b n k).length
  ·have i1:(k:Int)<((bfS a b n k).length:Int):=by omega
   have i2:¬(3000:Int)<=(k:Int):=by omega
   have ju:(0:Int)<=(k:Int):=by omega
   obtain⟨g,af,he,h5,h6⟩:=HK.out.1.s.row (by omega);rw[c0]at he;simp only[Value.slice.injEq]at he;obtain⟨rfl,-,rfl⟩:=he
   have cz:k<(cds (bfS a b n k)).length:=by omega
   have bm:=HK.out.1.s.at' c0.symm k cz
   have hp:okP a b (bfP a b n k):=by
    show okP a b ((bfS a b n k).getD k (0,0));rw[Ae _ _ _ hlt];exact co.out k HK.out.2 _ (List.getElem_mem _)
   have ek:(cds (bfS a b n k))[k]=cdP (bfP a b n k):=RQ cz hlt;rw[ek]at bm;have HP:=Ab hp
   have jr:(bfP a b n k).1<50:=by have:=hp.1;omega
   have js:(bfP a b n k).2<50:=by have:=hp.2;omega
   have hr:(cdP (bfP a b n k)).tdiv 3000=((bfP a b n k).1:Int):=by unfold cdP;rw[Int.tdiv_eq_ediv_of_nonneg (by omega)];omega
   have hs:(cdP (bfP a b n k)).tmod 3000=((bfP a b n k).2:Int):=by unfold cdP;rw[Int.tmod_eq_emod_of_nonneg (by omega)];omega
   have ht:cdP (bfP a b n k)/3000=((bfP a b n k).1:Int):=by unfold cdP;omega
   have hv:cdP (bfP a b n k)%3000=((bfP a b n k).2:Int):=by unfold cdP;omega
   have av:IntKind.i64.wrap ((bfP a b n k).1:Int)=((bfP a b n k).1:Int):=IntWalk.i64_in _ ⟨by omega,by omega⟩;have aw:IntKind.i64.wrap ((bfP a b n k).2:Int)=((bfP a b n k).2:Int):=IntWalk.i64_in _ ⟨by omega,by omega⟩;have z0:=Aa 0 HK.out.1.am.box;have hq:=HK.out.1.bl.size;have b1:=Ab HK.out.1;have cg:=Ab HK.out.2;clear hp ek h5 h6 HK
   go_upto_region 13 with(fail)
   go_upto_region 14 with(at_make;refine FA rfl _ _ _ Tryz.underlying26 rfl w5.heap.size (n:Int) n rfl rfl rfl (by omega) hq ?_;intro wm ca ep;have HM:=Ab (b1.out.make ca ep);clear ca ep)
   have dz:Hid (IB w5 (n:Int) a.outs v3 v4 n3 n4 (CW l own a b n k) (bfN a b n k) (cds (rwS (nxP a b (bfP a b n k)) (bfS a b n k) 0)) (Gs l own a b (bfP a b n k) 0) (nwT (nxP a b (bfP a b n k)) (bfS a b n k) n 0) (.slice (some ⟨g,0,none⟩) (bfS a b n k).length cS) (.slice none 0 0) (.slice (some ⟨wr.heap.size,0,none⟩) n n) wm):=by
    rw[QQ];exact HM.out
   have gw:=Ab b9;have cm:=Ab hlt;clear HM b1 z0 bm cz b9 hr hs ht hv av aw;generalize wr.heap.size=gN at*
   go_wp2_with fail
   go_loopg [11,15,17] n (fun gh sv ov iv wx=>∃(i:Nat),gh=n-i/\iv=.int .i64 (i:Int)/\i<=n/\Hid (IB w5 (n:Int) a.outs v3 v4 n3 n4 (CW l own a b n k) (bfN a b n k) (cds (rwS (nxP a b (bfP a b n k)) (bfS a b n k) i)) (Gs l own a b (bfP a b n k) i) (nwT (nxP a b (bfP a b n k)) (bfS a b n k) n i) sv ov (.slice (some ⟨gN,0,none⟩) n n) wx))
   case atStart=>exact⟨0,rfl,rfl,by omega,dz⟩
   case round=>
    clear dz;obtain⟨i,en,rfl,bq,HI⟩:=hrel;have go:=Ab en;clear en;have z0:=Aa 0 HI.out.am.box
    by_cases hlti:i<n
    ·have h7:(i:Int)<(n:Int):=by omega
     have jt:(0:Int)<=(i:Int):=by omega
     have ao:=dv.out.out' HP.out.1 (x:=i) (by rw[HN.out];omega);have bo:=cn.out.out' HP.out.2 (x:=i) (by rw[ce.out,HN.out];omega);have an:=dv.out.nx' HP.out.1 (x:=i) (by rw[HN.out];omega);have bn:=cn.out.nx' HP.out.2 (x:=i) (by rw[ce.out,HN.out];omega);obtain⟨r3,t3,d3,A3,cc⟩:=Bm ch.out HP.out.1 ao.1;obtain⟨r4,t4,d4,A4,bs⟩:=Bm ci.out HP.out.1 an.1;obtain⟨r5,t5,d5,B5,cd⟩:=Bm cj.out HP.out.2 bo.1;obtain⟨r6,t6,d6,B6,bu⟩:=Bm ck.out HP.out.2 bn.1;rw[show(a.out.getD (bfP a b n k).1 []).getD i 0=Bt a (bfP a b n k).1 i from rfl]at cc;rw[show(b.out.getD (bfP a b n k).2 []).getD i 0=Bt b (bfP a b n k).2 i from rfl]at cd;rw[show(a.next.getD (bfP a b n k).1 []).getD i 0=nxI a (bfP a b n k).1 i from rfl]at bs;rw[show(b.next.getD (bfP a b n k).2 []).getD i 0=nxI b (bfP a b n k).2 i from rfl]at bu;obtain⟨q1,da⟩:∃q1:Nat,nxI a (bfP a b n k).1 i=(q1:Int):=⟨(nxI a (bfP a b n k).1 i).toNat,by omega⟩;obtain⟨q2,a0⟩:∃q2:Nat,nxI b (bfP a b n k).2 i=(q2:Int):=⟨(nxI b (bfP a b n k).2 i).toNat,by omega⟩
     have ev:nxP a b (bfP a b n k) i=(q1,q2):=by show((nxI a (bfP a b n k).1 i).toNat,(nxI b (bfP a b n k).2 i).toNat)=_;rw[da,a0];rfl
     have ba:=Ab ev;rw[da]at bs an;rw[a0]at bu bn
     have ex:q1<50:=by omega
     have ey:q2<50:=by omega
     have hz:=b2.out w5
     have dx:Hid (∀W,Below w.heap.size w W->Calls Tryz.prog 51 #[.slice sa l.length sc,.int .i64 (Bt a (bfP a b n k).1 i),.int .i64 (Bt b (bfP a b n k).2 i),.slice oa own.length oc] W (Av (.int .i64 (D4 l own (Bt a (bfP a b n k).1 i) (Bt b (bfP a b n k).2 i))) W)):=fun W h=>b2.out W _ _ ⟨ao.2.1,dy.out▸ao.2.2⟩ ⟨bo.2.1,gz.out▸bo.2.2⟩ h
     have g2:Hid (Gs l own a b (bfP a b n k) (i+1)=Gs l own a b (bfP a b n k) i++[D4 l own (Bt a (bfP a b n k).1 i) (Bt b (bfP a b n k).2 i)]):=OL;have hm:=HI.out.o;obtain⟨aO,cO,rfl⟩:=HI.out.o.slice' I9;obtain⟨aS,af,rfl⟩:=HI.out.s.slice;have HO:=Ab HI.out.o;have ee:=HI.out.bl.size
     have et:∀i,i<=n->∀x∈rwS (nxP a b (bfP a b n k)) (bfS a b n k) i,x.2<3000:=fun i hi x hx=>by
      have ie:∀x∈bfS a b n k,x.2<3000:=fun x hx=>by have:=(co.out k cg.out x hx).2;omega
      refine KU (P:=fun x=>x.2<3000) ie n (fun j hj=> ?_) i hi x hx;have:=cn.out.nx' HP.out.2 (x:=j) (by rw[ce.out,HN.out];omega);show(nxI b (bfP a b n k).2 j).toNat<3000;omega
     have a2:=Ab et
     have es:(cds (rwS (nxP a b (bfP a b n k)) (bfS a b n k) i)).length<=10000000:=by
      have h1:(cds (rwS (nxP a b (bfP a b n k)) (bfS a b n k) i)).length=(rwS (nxP a b (bfP a b n k)) (bfS a b n k) i).length:=by simp[cds]
      have h2:=(IC (f:=nxP a b (bfP a b n k)) (S:=bfS a b n k) (i:=i) (j:=n) bq).length_le
      have h3:=cl.out (k+1) (fun j hj=>by
       rcases Nat.lt_or_ge j k with h|h;exact cg.out j h;obtain rfl:j=k:=by omega
       exact cm.out)
      have h4:bfS a b n (k+1)=rwS (nxP a b (bfP a b n k)) (bfS a b n k) n:=rfl;rw[h4]at h3;omega
     have gv:=Ab es;have jp:=Ab bq
     have em:(q1:Int)*3000+(q2:Int)=cdP (q1,q2):=by show _=((q1*3000+q2:Nat):Int);omega
     have dl:=Ab em;have av:IntKind.i64.wrap ((q1:Int)*3000)=(q1:Int)*3000:=IntWalk.i64_in _ ⟨by omega,by omega⟩;have aw:IntKind.i64.wrap ((q1:Int)*3000+(q2:Int))=(q1:Int)*3000+(q2:Int):=IntWalk.i64_in _ ⟨by omega,by omega⟩;have g6:=Ab av;have g7:=Ab aw;have gi:=Ab A3;have df:=Ab cc;have gj:=Ab A4;have dg:=Ab bs;have gk:=Ab B5;have dh:=Ab cd;have gl:=Ab B6;have di:=Ab bu
     have jx:(i:Int)<((a.out.getD (bfP a b n k).1 []).length:Int):=by have:=ao.1;omega
     have jy:(i:Int)<((a.next.getD (bfP a b n k).1 []).length:Int):=by have:=an.1;omega
     have ac:(i:Int)<((b.out.getD (bfP a b n k).2 []).length:Int):=by have:=bo.1;omega
     have ad:(i:Int)<((b.next.getD (bfP a b n k).2 []).length:Int):=by have:=bn.1;omega
     have jg:(0:Int)<=((bfP a b n k).1:Int):=by omega
     have ji:(0:Int)<=((bfP a b n k).2:Int):=by omega
     have jh:((bfP a b n k).1:Int)<(a.out.length:Int):=by have:=HP.out.1;omega
     have jj:((bfP a b n k).2:Int)<(b.out.length:Int):=by have:=HP.out.2;omega
     have ae:Hid (∀W,Below wr.drew.heap.size wr.drew W->Below w5.heap.size w5 W):=fun W h=>HI.out.bl.trans ((Below.drew Ad).trans (h.mono ee))
     clear hm ao bo an bn A3 cc A4 bs B5 cd B6 bu da a0 ev hz et es em av aw ex ey;generalize Bt a (bfP a b n k).1 i=x at*;generalize Bt b (bfP a b n k).2 i=y at*;generalize D4 l own x y=z at*;generalize aq:(a.out.getD (bfP a b n k).1 []).length=l3 at*;generalize ar:(a.next.getD (bfP a b n k).1 []).length=l4 at*;generalize hl5:(b.out.getD (bfP a b n k).2 []).length=l5 at*;generalize hl6:(b.next.getD (bfP a b n k).2 []).length=l6 at*;clear aq ar hl5 hl6;generalize hls:(cds (rwS (nxP a b (bfP a b n k)) (bfS a b n k) i)).length=ls at*;have gt:=Ab hls;clear hls
     go_wp2_with fail
     refine KP eu (PA w.heap.size (w.heap.size+1) b3 o3 a.out.length (bfP a b n k).1 r3 t3 l3 i b5 o5 b.out.length (bfP a b n k).2 r5 t5 l5 l.length own.length cO sc c3 d3 c5 d5 oc aO sa oa x y z) (TO w5.heap.size z (.slice aO i cO) (Gs l own a b (bfP a b n k) i)) (fun v' u W'=>u=v'/\Hid (IB w5 (n:Int) a.outs v3 v4 n3 n4 (CW l own a b n k) (bfN a b n k) (cds (rwS (nxP a b (bfP a b n k)) (bfS a b n k) i)) (Gs l own a b (bfP a b n k) (i+1)) (nwT (nxP a b (bfP a b n k)) (bfS a b n k) n i) (.slice aS ls af) v' (.slice (some ⟨gN,0,none⟩) n n) W')) (fun i=>false) 21 22 (fun vs=>{tmps:=(_::_::_::_::_::_::_::_::_::_::_::_::_::_::_::vs 22::_::_::_::_::_::_::_::_::_::_::_::_::_::_::_::_::_::_::_::_::_::_::_::_::_::_::_::_::_::_::_::_::_::_::_::_::_::_::_::_::_::_::_::_::_::_::_::_::_::_::_::_::_::_::_::_::_::_::_::_::vs 0::vs 1::vs 2::vs 3::vs 4::vs 5::vs 6::vs 7::vs 8::vs 9::vs 10::vs 11::vs 12::vs 13::vs 14::vs 15::vs 16::vs 17::vs 18::vs 19::vs 20::vs 21::_::_::_::_::_::_::_::_::_::_::_::_::_::_::_::_::_::_::_::_::_::_::_::_::_::_::_::_::_::_::_::_::_::_::_::_::_::_::_::[]).toArray,defers:=_}) (fun n=>[u76,u77,u78,u79,u80,u81,u82,u83,u84,u85,u86,u87,u88,u89,u90,u91,u92,u93,u94,u95,u96,u97,.slice aO i cO].getD n undef) rfl (by kernel_rfl) (PA.mono w.heap.size (w.heap.size+1) b3 o3 a.out.length (bfP a b n k).1 r3 t3 l3 i b5 o5 b.out.length (bfP a b n k).2 r5 t5 l5 l.length own.length cO sc c3 d3 c5 d5 oc aO sa oa x y z) ?step ?free ?app ?last ?fin
     case step=>
      intro ix o hp hm2 hf ho
      match ix,hp,hm2,hf,ho with
      |0,_,_,_,ho=>
        obtain rfl:=osI ho;intro vs W K hU hB hD hK;have HK:=Ab hK;have eU:vs 22=.slice aO i cO:=hU;clear hK hD hU ho;dsimp only;go_simp;have h:=HK.out _ _ Ad rfl;simp only[upd,Nat.reduceEqDiff,reduceIte,eU]at h;exact h
      |1,_,_,_,ho|2,_,_,_,ho|4,_,_,_,ho|7,_,_,_,ho|10,_,_,_,ho|12,_,_,_,ho|15,_,_,_,ho|18,_,_,_,ho=>
        obtain rfl:=osI ho;intro vs W K hU hB hD hK;have HK:=Ab hK;clear hK hD hU ho;dsimp only;go_simp;have h:=HK.out _ _ Ad rfl;simp only[upd,Nat.reduceEqDiff,reduceIte]at h;exact h
      |3,_,_,_,ho=>
        obtain rfl:=osI ho;intro vs W K hU hB hD hK;have HK:=Ab hK;have e2:vs 2=.pointer (some ⟨w.heap.size,3,none⟩):=hD 2 (by rfl);have c:=Aa 3 (cp.out W (ae.out W hB));clear hK hD hU ho;dsimp only;go_simp;have h:=HK.out _ _ Ad rfl;simp only[upd,Nat.reduceEqDiff,reduceIte,e2]at h;exact h
      |5,_,_,_,ho=>
        obtain rfl:=osI ho;intro vs W K hU hB hD hK;have HK:=Ab hK;have e3:vs 3=.slice (some ⟨b3,o3,none⟩) a.out.length c3:=hD 3 (by rfl);have e4:vs 4=.int .i64 ((bfP a b n k).1:Int):=hD 4 (by rfl);clear hK hD hU ho;dsimp only;go_simp;have h:=HK.out _ _ Ad rfl;simp only[upd,Nat.reduceEqDiff,reduceIte,e3,e4]at h;exact h
      |6,_,_,_,ho=>
        obtain rfl:=osI ho;intro vs W K hU hB hD hK;have HK:=Ab hK;have e5:vs 5=.pointer (some ⟨b3,o3+(bfP a b n k).1,none⟩):=hD 5 (by rfl);have c:=Ag (ae.out W hB) gi.out;clear hK hD hU ho;dsimp only;go_simp;have h:=HK.out _ _ Ad rfl;simp only[upd,Nat.reduceEqDiff,reduceIte,e5]at h;exact h
      |8,_,_,_,ho=>
        obtain rfl:=osI ho;intro vs W K hU hB hD hK;have HK:=Ab hK;have e6:vs 6=.slice (some ⟨r3,t3,none⟩) l3 d3:=hD 6 (by rfl);have e7:vs 7=.int .i64 (i:Int):=hD 7 (by rfl);clear hK hD hU ho;dsimp only;go_simp;have h:=HK.out _ _ Ad rfl;simp only[upd,Nat.reduceEqDiff,reduceIte,e6,e7]at h;exact h
      |9,_,_,_,ho=>
        obtain rfl:=osI ho;intro vs W K hU hB hD hK;have HK:=Ab hK;have e8:vs 8=.pointer (some ⟨r3,t3+i,none⟩):=hD 8 (by rfl);have c:=Ag (ae.out W hB) df.out;clear hK hD hU ho;dsimp only;go_simp;have h:=HK.out _ _ Ad rfl;simp only[upd,Nat.reduceEqDiff,reduceIte,e8]at h;exact h
      |11,_,_,_,ho=>
        obtain rfl:=osI ho;intro vs W K hU hB hD hK;have HK:=Ab hK;have bb:vs 10=.pointer (some ⟨w.heap.size+1,3,none⟩):=hD 10 (by rfl);have c:=Aa 3 (cq.out W (ae.out W hB));clear hK hD hU ho;dsimp only;go_simp;have h:=HK.out _ _ Ad rfl;simp only[upd,Nat.reduceEqDiff,reduceIte,bb]at h;exact h
      |13,_,_,_,ho=>
        obtain rfl:=osI ho;intro vs W K hU hB hD hK;have HK:=Ab hK;have bc:vs 11=.slice (some ⟨b5,o5,none⟩) b.out.length c5:=hD 11 (by rfl);have bd:vs 12=.int .i64 ((bfP a b n k).2:Int):=hD 12 (by rfl);clear hK hD hU ho;dsimp only;go_simp;have h:=HK.out _ _ Ad rfl;simp only[upd,Nat.reduceEqDiff,reduceIte,bc,bd]at h;exact h
      |14,_,_,_,ho=>
        obtain rfl:=osI ho;intro vs W K hU hB hD hK;have HK:=Ab hK;have be:vs 13=.pointer (some ⟨b5,o5+(bfP a b n k).2,none⟩):=hD 13 (by rfl);have c:=Ag (ae.out W hB) gk.out;clear hK hD hU ho;dsimp only;go_simp;have h:=HK.out _ _ Ad rfl;simp only[upd,Nat.reduceEqDiff,reduceIte,be]at h;exact h
      |16,_,_,_,ho=>
        obtain rfl:=osI ho;intro vs W K hU hB hD hK;have HK:=Ab hK;have bf:vs 14=.slice (some ⟨r5,t5,none⟩) l5 d5:=hD 14 (by rfl);have bg:vs 15=.int .i64 (i:Int):=hD 15 (by rfl);clear hK hD hU ho;dsimp only;go_simp;have h:=HK.out _ _ Ad rfl;simp only[upd,Nat.reduceEqDiff,reduceIte,bf,bg]at h;exact h
      |17,_,_,_,ho=>
        obtain rfl:=osI ho;intro vs W K hU hB hD hK;have HK:=Ab hK;have bh:vs 16=.pointer (some ⟨r5,t5+i,none⟩):=hD 16 (by rfl);have c:=Ag (ae.out W hB) dh.out;clear hK hD hU ho;dsimp only;go_simp;have h:=HK.out _ _ Ad rfl;simp only[upd,Nat.reduceEqDiff,reduceIte,bh]at h;exact h
      |19,_,_,_,ho=>
        obtain rfl:=osI ho;intro vs W K hU hB hD hK;have HK:=Ab hK;have e1:vs 1=.slice sa l.length sc:=hD 1 (by rfl);have e9:vs 9=.int .i64 x:=hD 9 (by rfl);have bi:vs 17=.int .i64 y:=hD 17 (by rfl);have bj:vs 18=.slice oa own.length oc:=hD 18 (by rfl);clear hK hD hU ho;dsimp only;go_simp;refine(dx.out W (dj.out _ (ae.out W hB))).mono ?_;rintro e W' ⟨rfl,hb⟩;have h:=HK.out _ _ hb rfl;simp only[upd,Nat.reduceEqDiff,reduceIte,e1,e9,bi,bj]at h;exact h
      |20,_,_,_,ho=>
        obtain rfl:=osI ho;intro vs W K hU hB hD hK;have HK:=Ab hK;have bk:vs 19=.int .i64 z:=hD 19 (by rfl);clear hK hD hU ho;dsimp only;go_simp;have h:=HK.out _ _ (Ao (.cells #[.int .i64 z] 3)) (ElI.made z W);simp only[upd,Nat.reduceEqDiff,reduceIte,bk]at h;exact h
      |21,hp,_,_,_=>exact absurd rfl hp
      |22,_,hm2,_,_=>exact absurd rfl hm2
      |q+23,_,_,_,ho=>exact absurd ho (by simp)
     case free=>
      intro ix o hf ho
      match ix,hf,ho with
      |0,hf,_=>exact absurd hf (by decide)
      |1,hf,_=>exact absurd hf (by decide)
      |2,hf,_=>exact absurd hf (by decide)
      |3,hf,_=>exact absurd hf (by decide)
      |4,hf,_=>exact absurd hf (by decide)
      |5,hf,_=>exact absurd hf (by decide)
      |6,hf,_=>exact absurd hf (by decide)
      |7,hf,_=>exact absurd hf (by decide)
      |8,hf,_=>exact absurd hf (by decide)
      |9,hf,_=>exact absurd hf (by decide)
      |10,hf,_=>exact absurd hf (by decide)
      |11,hf,_=>exact absurd hf (by decide)
      |12,hf,_=>exact absurd hf (by decide)
      |13,hf,_=>exact absurd hf (by decide)
      |14,hf,_=>exact absurd hf (by decide)
      |15,hf,_=>exact absurd hf (by decide)
      |16,hf,_=>exact absurd hf (by decide)
      |17,hf,_=>exact absurd hf (by decide)
      |18,hf,_=>exact absurd hf (by decide)
      |19,hf,_=>exact absurd hf (by decide)
      |20,hf,_=>exact absurd hf (by decide)
      |21,hf,_=>exact absurd hf (by decide)
      |22,hf,_=>exact absurd hf (by decide)
      |q+23,_,ho=>exact absurd ho (by simp)
     case app=>
      intro o ho;obtain rfl:=osI ho;intro vs W K hU hB hD hK;have e1:vs 0=.slice aO i cO:=hD 0 (by rfl);have hw:ElI z (vs 20) W:=hD 20 (by rfl);rw[if_pos (by rfl)]
      exact Mk W _ _ (by rfl) w5.heap.size (.slice aO i cO) (Gs l own a b (bfP a b n k) i) (by show vs 0=_;exact e1) (HO.out.below ((Below.drew Ad).trans hB)) _ rfl hw (by rw[I9];omega) (Nat.le_trans ee hB.size) fun v' w' hA=>hK v' w' hA
     case last=>
      intro o ho;obtain rfl:=osI ho;intro vs W9 W K hU hB hR hA hK;have HK:=Ab hK;obtain⟨hO,hG,hM⟩:=hA;rw[<-g2.out]at hO;have dr:Hid ((fun v' u W'=>u=v'/\Hid (IB w5 (n:Int) a.outs v3 v4 n3 n4 (CW l own a b n k) (bfN a b n k) (cds (rwS (nxP a b (bfP a b n k)) (bfS a b n k) i)) (Gs l own a b (bfP a b n k) (i+1)) (nwT (nxP a b (bfP a b n k)) (bfS a b n k) n i) (.slice aS ls af) v' (.slice (some ⟨gN,0,none⟩) n n) W')) (vs 21) (vs 21) W):=⟨rfl,(HI.out.below ((Below.drew Ad).trans hB)).outs hO hG hM⟩;clear hO hG hM;clear hK hR hU ho;dsimp only;go_simp;have h:=HK.out (vs 21) _ dr.out;simp only[upd,Nat.reduceEqDiff,reduceIte]at h;exact h
     case fin=>
      intro vs W hR hF;obtain⟨hu,ay⟩:=hF;clear hR;rw[hu];obtain⟨aP,cP,ez⟩:=ay.out.o.slice' I9;rw[ez]at ay⊢;generalize vs 0=im at*;generalize vs 1=io at*;generalize vs 2=ip at*;generalize vs 3=iq at*;generalize vs 4=ir at*;generalize vs 5=it at*;generalize vs 6=iu at*;generalize vs 7=iw at*;generalize vs 8=iy at*;generalize vs 9=iz at*;generalize vs 10=fd at*;generalize vs 11=fe at*;generalize vs 12=ff at*;generalize vs 13=fg at*;generalize vs 14=fh at*;generalize vs 15=fi at*;generalize vs 16=fj at*;generalize vs 17=fk at*;generalize vs 18=fl at*;generalize vs 19=fm at*;generalize vs 20=fo at*;clear hu ez vs;obtain⟨w8,ih⟩:∃w8,w8=W:=⟨_,rfl⟩;subst ih
      have cf:Hid (∀W,Below w8.drew.heap.size w8.drew W->Below w8.heap.size w8 W):=fun W h=>(Below.drew Ad).trans h
      have hc:=ay.out.bl.size
      have ae:Hid (∀W,Below w8.drew.heap.size w8.drew W->Below w5.heap.size w5 W):=fun W h=>ay.out.bl.trans ((cf.out W h).mono hc)
      obtain⟨ix,cy⟩:∃ix,ix=(rwS (nxP a b (bfP a b n k)) (bfS a b n k) i).idxOf (nxP a b (bfP a b n k) i):=⟨_,rfl⟩;have bv:Hid (n=(nwT (nxP a b (bfP a b n k)) (bfS a b n k) n i).length):=(Sl bq).symm
      have gy:Hid ((nwT (nxP a b (bfP a b n k)) (bfS a b n k) n i).set i (ix:Int)=nwT (nxP a b (bfP a b n k)) (bfS a b n k) n (i+1)):=by rw[cy];exact Sm hlti
      have g3:Hid (∀W,Below w8.drew.heap.size w8.drew W->Calls Tryz.prog 52 #[.slice aS ls af,.int .i64 ((q1:Int)*3000+(q2:Int))] W (fun e w'=>∃v',e=.returned (.tuple #[v',.int .i64 (ix:Int)])/\OI w' w5.heap.size v' (cds (rwS (nxP a b (bfP a b n k)) (bfS a b n k) (i+1)))/\W.grownBy w' (Value.slice aS ls af).ownBlock/\AS W (.slice aS ls af) v')):=fun W h=>by
       have h1:=ay.out.below (cf.out W h);have h2:=II W w5.heap.size _ _ ((q1:Int)*3000+(q2:Int)) h1.s h1.bl.size (by rw[gt.out];exact gv.out)
       have a0:q2<3000:=by
        have:=a2.out (i+1) hlti _ (Sx (f:=nxP a b (bfP a b n k)) (S:=bfS a b n k) (Nat.lt_succ_self i));rw[ba.out]at this;exact this
       rw[dl.out,<-ba.out]at h2;rw[dl.out,<-ba.out];rw[RR (a2.out i bq) (by rw[ba.out];exact a0),RS (a2.out i bq) (by rw[ba.out];exact a0),<-cy]at h2;exact h2
      clear cy;have av:=g6.out;have aw:=g7.out
      go_upto_region 18 with(fail)
      refine Jj eu (JX (fun n=>[u99,u100,u101,u102,u103,u104,u105,u106,u107,u108,u109,u110,u111,u112,u113,u114,u115,u116,u117,u118,u119,u120,u98,u121,u122,.slice aS ls af,u123,undef].getD n undef) (fun W'=>Below w8.drew.heap.size w8.drew W') (fun x W'=>IB w5 (n:Int) a.outs v3 v4 n3 n4 (CW l own a b n k) (bfN a b n k) (cds (rwS (nxP a b (bfP a b n k)) (bfS a b n k) (i+1))) (Gs l own a b (bfP a b n k) (i+1)) (nwT (nxP a b (bfP a b n k)) (bfS a b n k) n i) x (.slice aP (i+1) cP) (.slice (some ⟨gN,0,none⟩) n n) W') (fun x W'=>IB w5 (n:Int) a.outs v3 v4 n3 n4 (CW l own a b n k) (bfN a b n k) (cds (rwS (nxP a b (bfP a b n k)) (bfS a b n k) (i+1))) (Gs l own a b (bfP a b n k) (i+1)) (nwT (nxP a b (bfP a b n k)) (bfS a b n k) n (i+1)) x (.slice aP (i+1) cP) (.slice (some ⟨gN,0,none⟩) n n) W') (Uy w.heap.size (w.heap.size+1) b4 o4 a.out.length (bfP a b n k).1 r4 t4 l4 i b6 o6 b.out.length (bfP a b n k).2 r6 t6 l6 q1 q2 ix gN n ls af c4 d4 c6 d6 aS) 21 27) (fun vs=>{tmps:=(_::_::_::_::_::_::_::_::_::_::_::vs 25::_::_::_::_::_::_::_::_::_::_::_::_::_::_::_::_::_::_::_::_::_::_::_::_::_::_::_::_::_::_::_::_::_::_::_::_::_::_::_::_::_::_::_::_::_::_::_::_::_::_::_::_::_::_::_::_::_::_::_::_::_::_::_::_::_::_::_::_::_::_::_::_::_::_::_::_::_::_::_::_::_::_::_::_::_::_::vs 22::vs 0::vs 1::vs 2::vs 3::vs 4::vs 5::vs 6::vs 7::vs 8::vs 9::vs 10::vs 11::vs 12::vs 13::vs 14::vs 15::vs 16::vs 17::vs 18::vs 19::vs 20::vs 21::vs 23::vs 24::vs 26::_::_::_::_::_::_::_::_::_::_::_::_::_::[]).toArray,defers:=_}) (fun n=>[u99,u100,u101,u102,u103,u104,u105,u106,u107,u108,u109,u110,u111,u112,u113,u114,u115,u116,u117,u118,u119,u120,u98,u121,u122,.slice aS ls af,u123,undef].getD n undef) rfl (by kernel_rfl) (JX.start Ad) ?step ?fin
      case step=>
       intro jz o ho
       match jz,ho with
       |0,ho|1,ho=>
        obtain rfl:=osI ho;rintro S vs W K hS hd m ⟨x,hJ⟩ hK;have HK:=Ab hK;have HJ:=Ab hJ;clear hK hd m hS hJ ho;dsimp only;go_simp;have h:=HK.out _ _ (HJ.out.keep (by decide) (by decide) rfl);simp only[upd,Nat.reduceEqDiff,reduceIte]at h;exact h
       |2,ho=>
        obtain rfl:=osI ho;rintro S vs W K hS hd m ⟨x,hJ⟩ hK;have HK:=Ab hK;have HJ:=Ab hJ;have je:S 25=false:=Bo m hS 25 (by kernel_rfl);have bw:vs 25=.slice aS ls af:=hJ.un 25 je;have sp:S 21=false:=Bo m hS 21 (by kernel_rfl);have h0:=hJ.p0 sp;have s0:=Ab h0;clear h0;clear hK hd m hS hJ ho;dsimp only;go_simp;have h:=HK.out _ _ (HJ.out.keep (by decide) (by decide) rfl);simp only[upd,Nat.reduceEqDiff,reduceIte,bw]at h;exact h
       |3,ho|5,ho|8,ho|12,ho|14,ho|17,ho=>
        obtain rfl:=osI ho;rintro S vs W K hS hd m ⟨x,hJ⟩ hK;have HK:=Ab hK;have HJ:=Ab hJ;have sp:S 21=false:=Bo m hS 21 (by kernel_rfl);have h0:=hJ.p0 sp;have s0:=Ab h0;clear h0;clear hK hd m hS hJ ho;dsimp only;go_simp;have h:=HK.out _ _ (HJ.out.keep (by decide) (by decide) rfl);simp only[upd,Nat.reduceEqDiff,reduceIte]at h;exact h
       |4,ho=>
        obtain rfl:=osI ho;rintro S vs W K hS hd m ⟨x,hJ⟩ hK;have HK:=Ab hK;have HJ:=Ab hJ;have e3:vs 3=.pointer (some ⟨w.heap.size,4,none⟩):=hJ.pv 3 (hd 3 (by rfl));have sp:S 21=false:=Bo m hS 21 (by kernel_rfl);have h0:=hJ.p0 sp;have c:=Aa 4 (cp.out W (ae.out W h0));have s0:=Ab h0;clear h0;clear hK hd m hS hJ ho;dsimp only;go_simp;have h:=HK.out _ _ (HJ.out.keep (by decide) (by decide) rfl);simp only[upd,Nat.reduceEqDiff,reduceIte,e3]at h;exact h
       |6,ho=>
        obtain rfl:=osI ho;rintro S vs W K hS hd m ⟨x,hJ⟩ hK;have HK:=Ab hK;have HJ:=Ab hJ;have e4:vs 4=.slice (some ⟨b4,o4,none⟩) a.out.length c4:=hJ.pv 4 (hd 4 (by rfl));have e5:vs 5=.int .i64 ((bfP a b n k).1:Int):=hJ.pv 5 (hd 5 (by rfl));have sp:S 21=false:=Bo m hS 21 (by kernel_rfl);have h0:=hJ.p0 sp;have s0:=Ab h0;clear h0;clear hK hd m hS hJ ho;dsimp only;go_simp;have h:=HK.out _ _ (HJ.out.keep (by decide) (by decide) rfl);simp only[upd,Nat.reduceEqDiff,reduceIte,e4,e5]at h;exact h
       |7,ho=>
        obtain rfl:=osI ho;rintro S vs W K hS hd m ⟨x,hJ⟩ hK;have HK:=Ab hK;have HJ:=Ab hJ;have e6:vs 6=.pointer (some ⟨b4,o4+(bfP a b n k).1,none⟩):=hJ.pv 6 (hd 6 (by rfl));have sp:S 21=false:=Bo m hS 21 (by kernel_rfl);have h0:=hJ.p0 sp;have c:=Ag (ae.out W h0) gj.out;have s0:=Ab h0;clear h0;clear hK hd m hS hJ ho;dsimp only;go_simp;have h:=HK.out _ _ (HJ.out.keep (by decide) (by decide) rfl);simp only[upd,Nat.reduceEqDiff,reduceIte,e6]at h;exact h
       |9,ho=>
        obtain rfl:=osI ho;rintro S vs W K hS hd m ⟨x,hJ⟩ hK;have HK:=Ab hK;have HJ:=Ab hJ;have e7:vs 7=.slice (some ⟨r4,t4,none⟩) l4 d4:=hJ.pv 7 (hd 7 (by rfl));have e8:vs 8=.int .i64 (i:Int):=hJ.pv 8 (hd 8 (by rfl));have sp:S 21=false:=Bo m hS 21 (by kernel_rfl);have h0:=hJ.p0 sp;have s0:=Ab h0;clear h0;clear hK hd m hS hJ ho;dsimp only;go_simp;have h:=HK.out _ _ (HJ.out.keep (by decide) (by decide) rfl);simp only[upd,Nat.reduceEqDiff,reduceIte,e7,e8]at h;exact h
       |10,ho=>
        obtain rfl:=osI ho;rintro S vs W K hS hd m ⟨x,hJ⟩ hK;have HK:=Ab hK;have HJ:=Ab hJ;have e9:vs 9=.pointer (some ⟨r4,t4+i,none⟩):=hJ.pv 9 (hd 9 (by rfl));have sp:S 21=false:=Bo m hS 21 (by kernel_rfl);have h0:=hJ.p0 sp;have c:=Ag (ae.out W h0) dg.out;have s0:=Ab h0;clear h0;clear hK hd m hS hJ ho;dsimp only;go_simp;have h:=HK.out _ _ (HJ.out.keep (by decide) (by decide) rfl);simp only[upd,Nat.reduceEqDiff,reduceIte,e9]at h;exact h
       |11,ho=>
        obtain rfl:=osI ho;rintro S vs W K hS hd m ⟨x,hJ⟩ hK;have HK:=Ab hK;have HJ:=Ab hJ;have bb:vs 10=.int .i64 (q1:Int):=hJ.pv 10 (hd 10 (by rfl));have sp:S 21=false:=Bo m hS 21 (by kernel_rfl);have h0:=hJ.p0 sp;have s0:=Ab h0;clear h0;clear hK hd m hS hJ ho;dsimp only;go_simp;have h:=HK.out _ _ (HJ.out.keep (by decide) (by decide) rfl);simp only[upd,Nat.reduceEqDiff,reduceIte,bb]at h;exact h
       |13,ho=>
        obtain rfl:=osI ho;rintro S vs W K hS hd m ⟨x,hJ⟩ hK;have HK:=Ab hK;have HJ:=Ab hJ;have bd:vs 12=.pointer (some ⟨w.heap.size+1,4,none⟩):=hJ.pv 12 (hd 12 (by rfl));have sp:S 21=false:=Bo m hS 21 (by kernel_rfl);have h0:=hJ.p0 sp;have c:=Aa 4 (cq.out W (ae.out W h0));have s0:=Ab h0;clear h0;clear hK hd m hS hJ ho;dsimp only;go_simp;have h:=HK.out _ _ (HJ.out.keep (by decide) (by decide) rfl);simp only[upd,Nat.reduceEqDiff,reduceIte,bd]at h;exact h
       |15,ho=>
        obtain rfl:=osI ho;rintro S vs W K hS hd m ⟨x,hJ⟩ hK;have HK:=Ab hK;have HJ:=Ab hJ;have be:vs 13=.slice (some ⟨b6,o6,none⟩) b.out.length c6:=hJ.pv 13 (hd 13 (by rfl));have bf:vs 14=.int .i64 ((bfP a b n k).2:Int):=hJ.pv 14 (hd 14 (by rfl));have sp:S 21=false:=Bo m hS 21 (by kernel_rfl);have h0:=hJ.p0 sp;have s0:=Ab h0;clear h0;clear hK hd m hS hJ ho;dsimp only;go_simp;have h:=HK.out _ _ (HJ.out.keep (by decide) (by decide) rfl);simp only[upd,Nat.reduceEqDiff,reduceIte,be,bf]at h;exact h
       |16,ho=>
        obtain rfl:=osI ho;rintro S vs W K hS hd m ⟨x,hJ⟩ hK;have HK:=Ab hK;have HJ:=Ab hJ;have bg:vs 15=.pointer (some ⟨b6,o6+(bfP a b n k).2,none⟩):=hJ.pv 15 (hd 15 (by rfl));have sp:S 21=false:=Bo m hS 21 (by kernel_rfl);have h0:=hJ.p0 sp;have c:=Ag (ae.out W h0) gl.out;have s0:=Ab h0;clear h0;clear hK hd m hS hJ ho;dsimp only;go_simp;have h:=HK.out _ _ (HJ.out.keep (by decide) (by decide) rfl);simp only[upd,Nat.reduceEqDiff,reduceIte,bg]at h;exact h
       |18,ho=>
        obtain rfl:=osI ho;rintro S vs W K hS hd m ⟨x,hJ⟩ hK;have HK:=Ab hK;have HJ:=Ab hJ;have bh:vs 16=.slice (some ⟨r6,t6,none⟩) l6 d6:=hJ.pv 16 (hd 16 (by rfl));have bi:vs 17=.int .i64 (i:Int):=hJ.pv 17 (hd 17 (by rfl));have sp:S 21=false:=Bo m hS 21 (by kernel_rfl);have h0:=hJ.p0 sp;have s0:=Ab h0;clear h0;clear hK hd m hS hJ ho;dsimp only;go_simp;have h:=HK.out _ _ (HJ.out.keep (by decide) (by decide) rfl);simp only[upd,Nat.reduceEqDiff,reduceIte,bh,bi]at h;exact h
       |19,ho=>
        obtain rfl:=osI ho;rintro S vs W K hS hd m ⟨x,hJ⟩ hK;have HK:=Ab hK;have HJ:=Ab hJ;have bj:vs 18=.pointer (some ⟨r6,t6+i,none⟩):=hJ.pv 18 (hd 18 (by rfl));have sp:S 21=false:=Bo m hS 21 (by kernel_rfl);have h0:=hJ.p0 sp;have c:=Ag (ae.out W h0) di.out;have s0:=Ab h0;clear h0;clear hK hd m hS hJ ho;dsimp only;go_simp;have h:=HK.out _ _ (HJ.out.keep (by decide) (by decide) rfl);simp only[upd,Nat.reduceEqDiff,reduceIte,bj]at h;exact h
       |20,ho=>
        obtain rfl:=osI ho;rintro S vs W K hS hd m ⟨x,hJ⟩ hK;have HK:=Ab hK;have HJ:=Ab hJ;have bc:vs 11=.int .i64 ((q1:Int)*3000):=hJ.pv 11 (hd 11 (by rfl));have bk:vs 19=.int .i64 (q2:Int):=hJ.pv 19 (hd 19 (by rfl));have sp:S 21=false:=Bo m hS 21 (by kernel_rfl);have h0:=hJ.p0 sp;have s0:=Ab h0;clear h0;clear hK hd m hS hJ ho;dsimp only;go_simp;have h:=HK.out _ _ (HJ.out.keep (by decide) (by decide) rfl);simp only[upd,Nat.reduceEqDiff,reduceIte,bc,bk]at h;exact h
       |21,ho=>
        obtain rfl:=osI ho;rintro S vs W K hS hd m ⟨x,hJ⟩ hK;have HK:=Ab hK;have HJ:=Ab hJ;have e2:vs 2=.slice aS ls af:=hJ.pv 2 (hd 2 (by rfl));have cr:vs 20=.int .i64 ((q1:Int)*3000+(q2:Int)):=hJ.pv 20 (hd 20 (by rfl));have h0:=hJ.p0 hS;have H0:=Ab h0;have sm:S 27=false:=Bo m hS 27 (by kernel_rfl);have d2:S 22=false:=Bo m hS 22 (by kernel_rfl);have d7:S 23=false:=Bo m hS 23 (by kernel_rfl);have d8:S 24=false:=Bo m hS 24 (by kernel_rfl);have d9:S 25=false:=Bo m hS 25 (by kernel_rfl);have HS:=Ab hS;have gc:=Ab d2;have gd:=Ab d7;have gf:=Ab d8;have gg:=Ab d9;have SM:=Ab sm;clear hK hd m hS hJ ho h0 sm d2 d7 d8 d9;dsimp only;go_simp;refine(g3.out W H0.out).mono ?_;rintro e W' ⟨y,rfl,ho,hg,h8⟩;have ii:=(ay.out.below (cf.out W H0.out)).seen ho hg h8;have h:=HK.out _ _ (HJ.out.call (y:=y) (by decide) SM.out (fun i hi h=> ?_) rfl ii)
        ·simp only[upd,Nat.reduceEqDiff,reduceIte,e2,cr]at h;exact h
        ·match i,hi,h with
         |0,_,h=>exact h
         |1,_,h=>exact h
         |2,_,h=>exact h
         |3,_,h=>exact h
         |4,_,h=>exact h
         |5,_,h=>exact h
         |6,_,h=>exact h
         |7,_,h=>exact h
         |8,_,h=>exact h
         |9,_,h=>exact h
         |10,_,h=>exact h
         |11,_,h=>exact h
         |12,_,h=>exact h
         |13,_,h=>exact h
         |14,_,h=>exact h
         |15,_,h=>exact h
         |16,_,h=>exact h
         |17,_,h=>exact h
         |18,_,h=>exact h
         |19,_,h=>exact h
         |20,_,h=>exact h
         |21,hi,_=>rw[HS.out]at hi;cases hi
         |22,hi,_=>rw[gc.out]at hi;cases hi
         |23,hi,_=>rw[gd.out]at hi;cases hi
         |24,hi,_=>rw[gf.out]at hi;cases hi
         |25,hi,_=>rw[gg.out]at hi;cases hi
         |26,_,h=>exact h
         |27,_,h=>exact h
         |q+28,_,h=>exact h
       |22,ho=>
        obtain rfl:=osI ho;rintro S vs W K hS hd m ⟨x,hJ⟩ hK;have HK:=Ab hK;have HJ:=Ab hJ;have cs:vs 21=.tuple #[x,.int .i64 (ix:Int)]:=hJ.pv 21 (hd 21 (by rfl));clear hK hd m hS hJ ho;dsimp only;go_simp;have h:=HK.out _ _ (HJ.out.keep (by decide) (by decide) rfl);simp only[upd,Nat.reduceEqDiff,reduceIte,cs]at h;exact h
       |23,ho|24,ho=>
        obtain rfl:=osI ho;rintro S vs W K hS hd m ⟨x,hJ⟩ hK;have HK:=Ab hK;have HJ:=Ab hJ;have ct:vs 22=.tuple #[x,.int .i64 (ix:Int)]:=hJ.pv 22 (hd 22 (by rfl));clear hK hd m hS hJ ho;dsimp only;go_simp;have h:=HK.out _ _ (HJ.out.keep (by decide) (by decide) rfl);simp only[upd,Nat.reduceEqDiff,reduceIte,ct]at h;exact h
       |25,ho=>
        obtain rfl:=osI ho;rintro S vs W K hS hd m ⟨x,hJ⟩ hK;have HK:=Ab hK;have HJ:=Ab hJ;have cu:vs 23=x:=hJ.pv 23 (hd 23 (by rfl));clear hK hd m hS hJ ho;dsimp only;go_simp;have h:=HK.out _ _ (HJ.out.keep (by decide) (by decide) rfl);simp only[upd,Nat.reduceEqDiff,reduceIte,cu]at h;exact h
       |26,ho=>
        obtain rfl:=osI ho;rintro S vs W K hS hd m ⟨x,hJ⟩ hK;have HK:=Ab hK;have HJ:=Ab hJ;have e0:vs 0=.slice (some ⟨gN,0,none⟩) n n:=hJ.pv 0 (hd 0 (by rfl));have e1:vs 1=.int .i64 (i:Int):=hJ.pv 1 (hd 1 (by rfl));clear hK hd m hS hJ ho;dsimp only;go_simp;have h:=HK.out _ _ (HJ.out.keep (by decide) (by decide) rfl);simp only[upd,Nat.reduceEqDiff,reduceIte,e0,e1]at h;exact h
       |27,ho=>
        obtain rfl:=osI ho;rintro S vs W K hS hd m ⟨x,hJ⟩ hK;have HK:=Ab hK;have HJ:=Ab hJ;have cv:vs 24=.int .i64 (ix:Int):=hJ.pv 24 (hd 24 (by rfl));have cw:vs 26=.pointer (some ⟨gN,i,none⟩):=hJ.pv 26 (hd 26 (by rfl));have sp:S 21=true:=NA m (hd 24 (by rfl)) (by kernel_rfl);have h1:=hJ.p1 sp hS;have SP:=Ab sp;have c1:=h1.n.at' bv.out i (by rw[<-bv.out];exact hlti);have f1:=h1.n.fz bv.out i;have h9:=h1.set (j:=i) (x:=(ix:Int)) bv.out;rw[gy.out]at h9;have g4:=Ab h9;clear h9;clear hK hd m hS hJ ho h1 sp;dsimp only;go_simp;have h:=HK.out undef _ (HJ.out.store (by decide) SP.out trivial g4.out);simp only[upd,Nat.reduceEqDiff,reduceIte,cv,cw]at h;exact h
       |q+28,ho=>exact absurd ho (by simp)
      case fin=>
       rintro S vs W hS ⟨x,hJ⟩;have e0:vs 0=.slice (some ⟨gN,0,none⟩) n n:=hJ.pv 0 (hS 0 (by decide));have e1:vs 1=.int .i64 (i:Int):=hJ.pv 1 (hS 1 (by decide));have e2:vs 2=.slice aS ls af:=hJ.pv 2 (hS 2 (by decide));have e3:vs 3=.pointer (some ⟨w.heap.size,4,none⟩):=hJ.pv 3 (hS 3 (by decide));have e4:vs 4=.slice (some ⟨b4,o4,none⟩) a.out.length c4:=hJ.pv 4 (hS 4 (by decide));have e5:vs 5=.int .i64 ((bfP a b n k).1:Int):=hJ.pv 5 (hS 5 (by decide));have e6:vs 6=.pointer (some ⟨b4,o4+(bfP a b n k).1,none⟩):=hJ.pv 6 (hS 6 (by decide));have e7:vs 7=.slice (some ⟨r4,t4,none⟩) l4 d4:=hJ.pv 7 (hS 7 (by decide));have e8:vs 8=.int .i64 (i:Int):=hJ.pv 8 (hS 8 (by decide));have e9:vs 9=.pointer (some ⟨r4,t4+i,none⟩):=hJ.pv 9 (hS 9 (by decide));have bb:vs 10=.int .i64 (q1:Int):=hJ.pv 10 (hS 10 (by decide));have bc:vs 11=.int .i64 ((q1:Int)*3000):=hJ.pv 11 (hS 11 (by decide));have bd:vs 12=.pointer (some ⟨w.heap.size+1,4,none⟩):=hJ.pv 12 (hS 12 (by decide));have be:vs 13=.slice (some ⟨b6,o6,none⟩) b.out.length c6:=hJ.pv 13 (hS 13 (by decide));have bf:vs 14=.int .i64 ((bfP a b n k).2:Int):=hJ.pv 14 (hS 14 (by decide));have bg:vs 15=.pointer (some ⟨b6,o6+(bfP a b n k).2,none⟩):=hJ.pv 15 (hS 15 (by decide));have bh:vs 16=.slice (some ⟨r6,t6,none⟩) l6 d6:=hJ.pv 16 (hS 16 (by decide));have bi:vs 17=.int .i64 (i:Int):=hJ.pv 17 (hS 17 (by decide));have bj:vs 18=.pointer (some ⟨r6,t6+i,none⟩):=hJ.pv 18 (hS 18 (by decide));have bk:vs 19=.int .i64 (q2:Int):=hJ.pv 19 (hS 19 (by decide));have cr:vs 20=.int .i64 ((q1:Int)*3000+(q2:Int)):=hJ.pv 20 (hS 20 (by decide));have cs:vs 21=.tuple #[x,.int .i64 (ix:Int)]:=hJ.pv 21 (hS 21 (by decide));have ct:vs 22=.tuple #[x,.int .i64 (ix:Int)]:=hJ.pv 22 (hS 22 (by decide));have cu:vs 23=x:=hJ.pv 23 (hS 23 (by decide));have cv:vs 24=.int .i64 (ix:Int):=hJ.pv 24 (hS 24 (by decide));have bw:vs 25=x:=hJ.pv 25 (hS 25 (by decide));have cw:vs 26=.pointer (some ⟨gN,i,none⟩):=hJ.pv 26 (hS 26 (by decide));have h2:=hJ.p2 (hS 27 (by decide));rw[<-bw]at h2;have b0:=Ab h2;obtain⟨aX,cX,fb⟩:=h2.s.slice;rw[fb]at b0⊢;clear h2 hS hJ bw e0 e1 e2 e3 e4 e5 e6 e7 e8 e9 bb bc bd be bf bg bh bi bj bk cr cs ct cu cv cw;generalize vs 0=i0 at*;generalize vs 1=i5 at*;generalize vs 2=i6 at*;generalize vs 3=i7 at*;generalize vs 4=i8 at*;generalize vs 5=i9 at*;generalize vs 6=ja at*;generalize vs 7=jb at*;generalize vs 8=jc at*;generalize vs 9=jd at*;generalize vs 10=fp at*;generalize vs 11=fq at*;generalize vs 12=fr at*;generalize vs 13=fs at*;generalize vs 14=ft at*;generalize vs 15=fu at*;generalize vs 16=fv at*;generalize vs 17=fw at*;generalize vs 18=fx at*;generalize vs 19=fy at*;generalize vs 20=f5 at*;generalize vs 21=f6 at*;generalize vs 22=f7 at*;generalize vs 23=f8 at*;generalize vs 24=ga at*;generalize vs 26=gb at*;clear fb vs;go_wp2
       go_roundg (n-(i+1))
       case measure=>have:=go.out;omega
       case rel=>exact⟨i+1,rfl,by go_num,hlti,b0⟩
    ·have h7:¬(i:Int)<(n:Int):=by omega
     have HF:Hid (IB w5 (n:Int) a.outs v3 v4 n3 n4 (CW l own a b n k) (bfN a b n k) (cds (bfS a b n (k+1))) (Hq l own a b n (bfP a b n k)) (rwN (nxP a b (bfP a b n k)) (bfS a b n k) n) u11 u15 (.slice (some ⟨gN,0,none⟩) n n) wr):=by
      have h1:=HI.out;rw[show i=n by omega,Sk]at h1;exact h1
     clear HI;have g9:=HF.out.bl.size
     have dm:Hid (∀j,j<k+1->j<(bfS a b n j).length):=fun j hj=>by
      rcases Nat.lt_or_ge j k with h|h
      ·exact cg.out j h
      ·obtain rfl:j=k:=by omega
       exact cm.out
     have gs:Hid ((rwS (nxP a b (bfP a b n k)) (bfS a b n k) n).length<=2500):=cl.out (k+1) dm.out
     have bz:Hid (∀x∈Hq l own a b n (bfP a b n k),I64 x):=fun x hx=>by
      obtain⟨j,-,rfl⟩:=List.mem_map.1 hx;have:=MU g5.out own (Bt a (bfP a b n k).1 j) (Bt b (bfP a b n k).2 j);unfold I64;have h2:=dy.out;omega
     have ah:Hid ((Hq l own a b n (bfP a b n k)).length=n):=by show _=_;simp[Hq]
     have ic:Hid (∀x∈rwN (nxP a b (bfP a b n k)) (bfS a b n k) n,I64 x):=fun x hx=>by
      obtain⟨j,hj,rfl⟩:=List.mem_map.1 hx;have h1:=List.idxOf_le_length (a:=nxP a b (bfP a b n k) j) (l:=rwS (nxP a b (bfP a b n k)) (bfS a b n k) j);have h2:=(IC (f:=nxP a b (bfP a b n k)) (S:=bfS a b n k) (i:=j) (j:=n) (Nat.le_of_lt (List.mem_range.1 hj))).length_le;have h3:=gs.out;unfold I64;omega
     have id:Hid ((rwN (nxP a b (bfP a b n k)) (bfS a b n k) n).length=n):=by show _=_;simp[rwN]
     obtain⟨aO,cO,rfl⟩:=HF.out.o.slice' ah.out
     have aq:(CW l own a b n k).length=k:=by simp[CW]
     have ar:(bfN a b n k).length=k:=by simp[bfN]
     have dt:=Ab aq;have du:=Ab ar;obtain⟨a7,c7,e7⟩:=AG HF.out.am.oN;obtain⟨a9,c9,e9⟩:=AG HF.out.am.oP;rw[aq]at e7;rw[ar]at e9;subst e7 e9;have z3:=Aa 3 HF.out.am.box;clear aq ar
     go_upto_region 20 with(at_builtin;refine EM rfl _ _ (.slice aO n cO) rfl w5.heap.size (.slice a7 k c7) k n3 (by have:=HF.out.am.oN;rwa [dt.out]at this) rfl _ (by simp) rfl rfl (by omega) g9 ?_;intro v' w8 au bp br;obtain⟨a8,c8,db⟩:=AG au;subst db;have HA:=Ab (HF.out.appO (by rw[ah.out];omega) bz.out (by rw[dt.out];exact au) bp br);have z9:=Aa 3 HA.out.1;have f9:=At 3 HA.out.1;clear au bp br)
     have a1:=Ab HA.out.2;have ig:=a1.out.bl.size;clear z0 z3 z9 f9 HA HF;generalize w8.setCell ⟨w5.heap.size,3,none⟩ (.slice a8 (k+1) c8)=w9 at*;have z4:=Aa 4 a1.out.am.box
     go_wp2_with (at_builtin;refine EM rfl _ _ (.slice (some ⟨gN,0,none⟩) n n) rfl w5.heap.size (.slice a9 k c9) k n4 (by have:=a1.out.am.oP;rwa [du.out]at this) rfl _ (by simp) rfl rfl (by omega) ig ?_;intro v' jf au bp br;obtain⟨d0,d1,db⟩:=AG au;subst db;have HA:=Ab (a1.out.appN (by rw[id.out];omega) ic.out (by rw[du.out];exact au) bp br);have z9:=Aa 4 HA.out.1;have f9:=At 4 HA.out.1;clear au bp br)
     have gq:Hid (IB w5 (n:Int) a.outs (.slice a8 (k+1) c8) (.slice d0 (k+1) d1) (n3++[.slice aO n cO]) (n4++[.slice (some ⟨gN,0,none⟩) n n]) (CW l own a b n (k+1)) (bfN a b n (k+1)) (cds (bfS a b n (k+1))) [] [] u11 (.slice none 0 0) (.slice none 0 0) (jf.setCell ⟨w5.heap.size,4,none⟩ (.slice d0 (k+1) d1))):=by
      show IB _ _ _ _ _ _ _ _ _ _ _ _ _ _ _ _;rw[M0,PY];exact HA.out.2
     clear HA z4 z9 f9 a1;go_wp2
     go_roundg (3000-(k+1))
     case measure=>have:=gp.out;have:=cm.out;have:=gw.out;omega
     case rel=>exact⟨k+1,_,_,_,_,rfl,by go_num,gq.out,dm.out⟩
  ·have i1:¬(k:Int)<((bfS a b n k).length:Int):=by omega
   have ax:EF a b n k:=⟨by
    rcases Nat.eq_zero_or_pos k with h0|h0
    ·subst h0;exact absurd (show 0<(bfS a b n 0).length by simp[bfS]) hlt
    ·have h1:=HK.out.2 (k-1) (by omega);have h2:=(Nw (a:=a) (b:=b) (n:=n) (i:=k-1) (j:=k) (by omega)).length_le
     omega,HK.out.2⟩
   have ed:DN l a b own=(⟨(n:Int),a.outs,0,CW l own a b n k,bfN a b n k⟩,0):=by rw[HE.out,dn.out k ax]
   have gn:=Ab ed
   have aq:(CW l own a b n k).length=k:=by simp[CW]
   have ar:(bfN a b n k).length=k:=by simp[bfN]
   have eg:∀W',Af (fun q=>q<w5.heap.size) wr W'->BB W' (.agg #[.int .i64 (n:Int),.int .i64 a.outs,.int .i64 0,v3,v4]) ⟨(n:Int),a.outs,0,CW l own a b n k,bfN a b n k⟩:=HK.out.1.is (by unfold I64;omega) (by unfold I64;omega) (by have:=ax.1;omega) (by have:=ax.1;omega);have gr:=Ab eg;obtain⟨a7,c7,rfl⟩:=AG HK.out.1.am.oN;obtain⟨a9,c9,rfl⟩:=AG HK.out.1.am.oP;generalize(CW l own a b n k).length=k3 at*;generalize(bfN a b n k).length=k4 at*;have z0:=Aa 0 HK.out.1.am.box;have z1:=Aa 1 HK.out.1.am.box;have z2:=Aa 2 HK.out.1.am.box;have z3:=Aa 3 HK.out.1.am.box;have z4:=Aa 4 HK.out.1.am.box;have p:=g8.out _ HK.out.1.bl;have ec:=dj.out _ HK.out.1.bl;have f0:=At 0 p;have f1:=At 1 p;have f2:=At 2 p;have f3:=At 3 p;have f4:=At 4 p;have q0:=Aa 0 p;have q1:=Aa 1 p;have q2:=Aa 2 p;have q3:=Aa 3 p;have q4:=Aa 4 p;have HX:=Ab p;have gm:=Ab ec;clear ax ed aq ar eg p ec HK hlt;go_wp2;have aa:=C4 (a:=.int .i64 (n:Int)) (b:=.int .i64 a.outs) (c:=.int .i64 0) (d:=.slice a7 k3 c7) (e:=.slice a9 k4 c9) HX.out;have ai:=Aa 0 aa;have aj:=Aa 1 aa;have ak:=Aa 2 aa;have al:=Aa 3 aa;have ap:=Aa 4 aa;refine bodyPost_ret (v:=.tuple #[.agg #[.int .i64 (n:Int),.int .i64 a.outs,.int .i64 0,.slice a7 k3 c7,.slice a9 k4 c9],.int .i64 0]) (by simp[results,Tryz.results15,go_sem,ai,aj,ak,al,ap]) rfl ?_;rw[gn.out];exact D3 gm.out (by omega) (fun W' h=>gr.out W' (h.mono fun q _ e=>by omega))
end Go.Proofs.YtncjeamdkjcebaaGreatDoor
