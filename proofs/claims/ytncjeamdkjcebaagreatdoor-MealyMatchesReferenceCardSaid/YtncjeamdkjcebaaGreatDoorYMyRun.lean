/- The iterator over the states of a machine. -/
import Derived.Test.YtncjeamdkjcebaaGreatDoorYMyJ
set_option linter.all false
set_option maxHeartbeats 4000000
set_option maxRecDepth 100000
namespace Go.Proofs.YtncjeamdkjcebaaGreatDoor
open Go.RowKit Go.Shelf
attribute [local go_sem] Oper.semAt_some
theorem Uq(w:World)(first:Int)(fv:Value)(hf:∃f lb,fv=.func (.func f) #[] lb):
  Calls Tryz.prog 98 #[.int .i64 first,fv] w fun e w'=>e=.returned (.func (.func 122) #[] #[.pointer (some ⟨w.heap.size,0,none⟩),.pointer (some ⟨w.heap.size+1,0,none⟩)])/\w'=(w.alloc (.cells #[.int .i64 first] 3)).alloc (.cells #[fv] 92):=by
 obtain⟨f,lb,rfl⟩:=hf
 go_enter Tryz.func98,Tryz.ntmps98
 go_wp2;go_ret;exact⟨by simp,rfl⟩
def SJ(w0:World)(f:Nat)(lb:Array Value)(st:Nat->Nat)(le:Nat->Int)(N:Nat):Prop:=
 ∀(W:World)(k:Nat),Below w0.heap.size w0 W->k<N->Calls Tryz.prog f (#[.int .i64 (st k:Int)]++lb) W (fun e W'=>e=.returned (.tuple #[.int .i64 (le k),.int .i64 (st (k+1):Int)])/\Below W.heap.size W W')
def To(st:Nat->Nat)(le:Nat->Int)(k:Nat):Array Value:=#[.int .i64 (st k:Int),.int .i64 (le k)]
theorem Pa(n N Bs:Nat)(hn:1<=n)(f:Nat)(lb:Array Value)(HE:∀args W,(callFunc f args).run Tryz.prog W=.ok (.enter f args) W)(st:Nat->Nat)(le:Nat->Int)(w0 w:World)(hb:Below w0.heap.size w0 w)(hs:SJ w0 f lb st le N)
  (h0:w.heap[Bs]? =some (.cells #[.int .i64 (st 0:Int)] 3 (0,0))) (h1:w.heap[Bs+1]? =some (.cells #[.func (.func f) #[] lb] 92 (0,0))):
  Jy Fence.wide n Tryz.prog 122 #[.pointer (some ⟨Bs,0,none⟩),.pointer (some ⟨Bs+1,0,none⟩)] (To st le) (fun _=>KpL w0.heap.size Bs) N w:=by
 intro lY J Jx W hW hJ ac hY hN d;have r0:=B8 hW h0;have r1:=B8 hW h1;have k0:W.cell? ⟨Bs,0,none⟩=some (.int .i64 (st 0:Int)):=Aa 0 r0;have s:=hb.trans (hW.mono hb.size);have HS:=Ab hs;have o:=Ab r0;have c:=Ab r1;clear hs hb h0 h1 r0 r1 hW;refine callsIn_of_wp Tryz.func122 rfl trivial ?_ rfl;simp only[Tryz.ntmps122,List.size_toArray,List.length_cons,List.length_nil,Nat.reduceAdd,Nat.reduceSub,Array.replicate_succ,Array.replicate_zero,List.push_toArray,List.append_toArray,List.nil_append,List.cons_append]
 gi_wp2_with fail
 gi_loopg [4] N (fun gh av wr=>∃k:Nat,gh=N-k/\av=.int .i64 (st k:Int)/\k<N/\J k wr/\Below w0.heap.size w0 wr/\wr.heap[Bs]? =W.heap[Bs]? /\wr.heap[Bs+1]? =W.heap[Bs+1]? /\W.heap.size<=wr.heap.size)
 case atStart=>exact⟨0,by omega,rfl,hN,d,s,rfl,rfl,Nat.le_refl _⟩
 case round=>
  clear k0 d;obtain⟨k,rfl,rfl,hk,i,hB,e0,e1,z⟩:=hrel;have k1:wr.cell? ⟨Bs+1,0,none⟩=some (.func (.func f) #[] lb):=Aa 0 (e1.trans c.out)
  gi_wp2_with fail
  refine⟨trivial, ?_⟩;refine(callsIn_wide.2 (HS.out wr k hB hk)).mono ?_;rintro e W2 ⟨rfl,a⟩;have u:=hJ k _ _ none i (AW a) (fun r e=>by cases e);have p:=hB.trans (a.mono hB.size);have l:W.heap.size<=W2.heap.size:=Nat.le_trans z a.size;have E0:Hid (W2.heap[Bs]? =W.heap[Bs]?):=(a.block _ (by rw[o.out]at e0;exact(ltE e0))).trans e0;have E1:Hid (W2.heap[Bs+1]? =W.heap[Bs+1]?):=(a.block _ (by rw[c.out]at e1;exact(ltE e1))).trans e1;obtain⟨fn,ab,m,aa,hy,hR⟩:=hY k W2 u l hk;dsimp only[To]at hy;clear e0 e1 k1 i a
  gi_wp2
  refine hR.mono ?_;rintro e W3 (⟨rfl,x,v,b⟩|⟨rfl,j⟩)
  ·have y:W.heap.size<=W3.heap.size:=Nat.le_trans l b.1.size;have F0:=b.2.1.trans E0.out;have F1:=b.2.2.trans E1.out;have q:=p.trans b.1
   gi_wp2
   go_roundg (N-(k+1))
   case rel=>exact⟨k+1,rfl,rfl,x,v,q,F0,F1,y⟩
   case measure=>omega
  ·gi_wp2
   refine bodyPost_ret (results_none (by rfl) _ _ _) rfl ?_;exact⟨⟨_,rfl⟩,k+1,j⟩
end Go.Proofs.YtncjeamdkjcebaaGreatDoor
namespace Go.Proofs.YtncjeamdkjcebaaGreatDoor
open Go.RowKit
def Bd(l:List Int)(m k:Nat):Prop:=k<m/\∀i,i<k->l.getD i 0=l.getD (m-k+i) 0
structure LB(l:List Int)(m k:Nat):Prop where
 b:Bd l m k
 max:∀j,Bd l m j->j<=k
structure KI(l:List Int)(m k:Nat):Prop where
 b:Bd l m k
 max:∀j,Bd l (m+1) (j+1)->j<=k
theorem Bd.trans{l:List Int}{m k j:Nat}(h:Bd l m k)(h':Bd l k j):Bd l m j:=by
 refine⟨Nat.lt_trans h'.1 h.1,fun i hi=> ?_⟩;have h1:=h.1;have h2:=h'.1;rw[h'.2 i hi,h.2 (k-j+i) (by omega)]
 congr 1
 omega
theorem Bd.sub{l:List Int}{m k j:Nat}(h:Bd l m k)(h':Bd l m j)(hj:j<k):Bd l k j:=by
 refine⟨hj,fun i hi=> ?_⟩;have h1:=h.1;rw[h'.2 i hi,h.2 (k-j+i) (by omega)]
 congr 1
 omega
theorem Bd.pred{l:List Int}{m k:Nat}(h:Bd l (m+1) (k+1)):Bd l m k/\l.getD k 0=l.getD m 0:=by
 have h1:=h.1;refine⟨⟨by omega,fun i hi=> ?_⟩, ?_⟩
 ·rw[h.2 i (by omega)]
  congr 1
  omega
 ·rw[h.2 k (by omega)]
  congr 1
  omega
theorem Bd.succ{l:List Int}{m k:Nat}(h:Bd l m k)(he:l.getD k 0=l.getD m 0):Bd l (m+1) (k+1):=by
 have h1:=h.1;refine⟨by omega,fun i hi=> ?_⟩
 rcases Nat.lt_or_ge i k with a|a
 ·rw[h.2 i a]
  congr 1
  omega
 ·obtain rfl:i=k:=by omega
  rw[he]
  congr 1
  omega
theorem LB.one(l:List Int):LB l 1 0:=⟨⟨by omega,fun i hi=>absurd hi (by omega)⟩,fun j hj=>by have:=hj.1;omega⟩
theorem KI.start{l:List Int}{m k:Nat}(h:LB l m k):KI l m k:=⟨h.b,fun j hj=>h.max j hj.pred.1⟩
theorem KI.step{l:List Int}{m k j:Nat}(h:KI l m k)(a:l.getD m 0≠l.getD k 0)(hj:LB l k j):KI l m j:=by
 refine⟨h.b.trans hj.b,fun i hi=> ?_⟩;obtain⟨h1,h2⟩:=hi.pred;have h3:=h.max i hi
 have h4:i≠k:=by
  rintro rfl;exact a h2.symm
 exact hj.max i (h.b.sub h1 (by omega))
theorem KI.hit{l:List Int}{m k:Nat}(h:KI l m k)(he:l.getD m 0=l.getD k 0):LB l (m+1) (k+1):=by
 refine⟨h.b.succ he.symm,fun j hj=> ?_⟩
 cases j with
 |zero=>omega
 |succ j=>have:=h.max j hj;omega
theorem KI.miss{l:List Int}{m:Nat}(h:KI l m 0)(a:l.getD m 0≠l.getD 0 0):LB l (m+1) 0:=by
 refine⟨⟨by omega,fun i hi=>absurd hi (by omega)⟩,fun j hj=> ?_⟩
 cases j with
 |zero=>omega
 |succ j=>
  have h1:=h.max j hj
  obtain rfl:j=0:=by omega
  exact absurd hj.pred.2.symm a
theorem Bd.per{l:List Int}{k:Nat}(h:Bd l l.length k):∀i,l.length-k+i<l.length->l.getD (l.length-k+i) 0=l.getD i 0:=fun i hi=>(h.2 i (by have:=h.1;omega)).symm
theorem JC{l:List Int}{p:Nat}(h0:0<p)(hp:p<=l.length)(h:∀i,p+i<l.length->l.getD (p+i) 0=l.getD i 0):Bd l l.length (l.length-p):=by
 refine⟨by omega,fun i hi=> ?_⟩;rw[<-h i (by omega)]
 congr 1
 omega
theorem MD{l:List Int}{k:Nat}(h:LB l l.length k):(if l.length%(l.length-k)≠0 then l.length else l.length-k)=AX l:=by
 have hk:=h.b.1
 have hl:0<l.length:=by omega
 have a:∀r,0<r->r<l.length->Ca l r=true->l.length-k<=r:=fun r h0 hr hb=>by
  have:=h.max _ (JC h0 (Nat.le_of_lt hr) (Dl.1 hb).2);omega
 by_cases hd:l.length%(l.length-k)≠0
 ·rw[if_pos hd];refine(KN hl hl Hw fun r h0 hr=> ?_).symm
  refine Classical.byContradiction fun hb=> ?_
  have hb:Ca l r=true:=by simpa using hb
  have hp:=a r h0 hr hb;obtain⟨h1,h2⟩:=Dl.1 hb
  have j:r+r<=l.length:=by
   obtain⟨q,hq⟩:=Nat.dvd_of_mod_eq_zero h1
   match q,hq with
   |0,hq=>rw[Nat.mul_zero]at hq;omega
   |1,hq=>simp at hq;omega
   |q+2,hq=>rw[hq,Nat.mul_add];omega
  obtain⟨p,e⟩:∃p,p=l.length-k:=⟨_,rfl⟩;rw[<-e]at hp hd;have c:=h.b.per;rw[<-e]at c
  have d:0<p:=by omega
  have hu:Per (fun i=>l.getD (i%r) 0) 0 r:=fun i _=>by simp
  have hv:Per (fun i=>l.getD (i%r) 0) 0 p:=fun i _=>by
   show l.getD ((i+p)%r) 0=l.getD (i%r) 0;have hi:i%r<r:=Nat.mod_lt _ h0
   have e1:(i+p)%r=(i%r+p)%r:=by rw[Nat.mod_add_mod]
   rw[e1,<-G4 hb h0 (i%r+p) (by omega),Nat.add_comm,c (i%r) (by omega)]
  have hg:=hv.mod d r hu
  by_cases hz:r%p=0
  ·exact hd (Nat.mod_eq_zero_of_dvd (Nat.dvd_trans (Nat.dvd_of_mod_eq_zero hz) (Nat.dvd_of_mod_eq_zero h1)))
  ·have hlt:r%p<p:=Nat.mod_lt _ d
   have f:Bd l l.length (l.length-r%p):=JC (Nat.pos_of_ne_zero hz) (by omega) fun i hi=>by
    have:=hg i (Nat.zero_le _);rw[G4 hb h0 (r%p+i) hi,G4 hb h0 i (by omega),Nat.add_comm];exact this
   have:=h.max _ f;omega
 ·rw[if_neg hd];refine(KN hl (by omega) (Dl.2 ⟨by simpa using hd,h.b.per⟩) fun r h0 hr=> ?_).symm
  refine Classical.byContradiction fun hb=> ?_
  have:=a r h0 (by omega) (by simpa using hb);omega
def u8F(l:List Int)(j:Nat):Value:=.int .u8 (l.getD j 0)
def Df(w:World)(v:Value)(l:List Int):Prop:=Ec w v l.length (u8F l)/\∀x∈l,0<=x/\x<=255
theorem Df.below{w wr:World}{v:Value}{l:List Int}(h:Df w v l)(hb:Below w.heap.size w wr):Df wr v l:=⟨Ec.below h.1 hb,h.2⟩
theorem Df.shape{w:World}{v:Value}{l:List Int}(h:Df w v l):∃a c,v=.slice a l.length c:=by
 obtain⟨⟨a,c,b,o,rfl,-⟩,-⟩:=h;exact⟨a,c,rfl⟩
theorem Df.data{w:World}{a:Option Addr}{n c:Nat}{l:List Int}(h:Df w (.slice a n c) l):∃b o,(0<n->a=some ⟨b,o,none⟩)/\n<=c/\c<=maxLen/\n<=140737488351232/\∀j,j<n->w.cell? ⟨b,o+j,none⟩=some (.int .u8 (l.getD j 0)):=by
 obtain⟨⟨a',c',b,o,hv,ha⟩,-⟩:=h
 injection hv with h1 h2 h3
 subst h1 h2 h3;exact⟨b,o,fun h=>ha.ad h,ha.lc,ha.cm,ha.nb,fun j hj=>ha.el j hj⟩
theorem Df.take{w:World}{a:Option Addr}{n c:Nat}{l:List Int}(h:Df w (.slice a n c) l)(k:Nat)(hk:k<=n):Df w (.slice a k c) (l.take k):=by
 obtain⟨⟨a',c',b,o,hv,ha⟩,hr⟩:=h
 injection hv with h1 h2 h3
 subst h1 h2 h3
 have hl:(l.take k).length=k:=by rw[List.length_take];omega
 refine⟨?_,fun x hx=>hr x (List.mem_of_mem_take hx)⟩;rw[hl];refine⟨_,_,b,o,rfl,⟨Nat.le_trans hk ha.lc,ha.cm,Nat.le_trans hk ha.nm,ha.nc,fun h=>ha.ad (by omega),fun j hj=> ?_⟩⟩
 ·rw[ha.el j (by omega)];simp[u8F,List.getD,hj]
theorem Df.drop{w:World}{b a n c k:Nat}{l:List Int}(h:Df w (.slice (some ⟨b,a,none⟩) n c) l)(hk:k<n):Df w (.slice (some ⟨b,a+k,none⟩) (n-k) (c-k)) (l.drop k):=by
 obtain⟨⟨a',c',b',o',hv,ha⟩,hr⟩:=h;simp only[Value.slice.injEq]at hv;obtain⟨rfl,rfl,rfl⟩:=hv;have d:=ha.ad (by omega);simp only[Option.some.injEq,Addr.mk.injEq,and_true]at d;obtain⟨rfl,rfl⟩:=d;have h1:=ha.lc;have h2:=ha.cm;have h3:=ha.nm;refine⟨⟨_,c-k,b,a+k,by rw[List.length_drop],by rw[List.length_drop];omega,by omega,by rw[List.length_drop];omega,(fun h=>by cases h),(fun _=>rfl),fun i hi=> ?_⟩,fun x hx=>hr x (List.mem_of_mem_drop hx)⟩;rw[List.length_drop]at hi;have:=ha.el (k+i) (by omega);rw[show a+k+i=a+(k+i)by omega,this];simp[u8F,List.getD]
theorem Qv:(Tryz.prog.info? 21).map (fun i=>(i.zero,i.size,i.bytes))=some (some (.int .i32 0),1,4):=by kernel_rfl
theorem R5:(Tryz.prog.info? 5).map (fun i=>(i.zero,i.size,i.bytes))=some (some (.int .u8 0),1,1):=by kernel_rfl
def O32(w:World)(base:Nat)(v:Value)(l:List Int):Prop:=w.ownsRow base 21 1 v l.length (l.map (Value.int .i32))
def O8(w:World)(base:Nat)(v:Value)(l:List Int):Prop:=w.ownsRow base 5 1 v l.length (l.map (Value.int .u8))
theorem QM{d:Array Oper}{rest:List Oper}{o:Oper}{a:Act}{Q:Exit->Act->World->Prop}{w:World}(e:o.guard=none)(l c:Operand)(t:TypeId)(ht:Tryz.prog.underlying t=some (.slice 21))
  (ho:o.op=Op.makeSlice t l c) (base:Nat) (L:Int) (n:Nat) (hl:a.eval l=.int .i64 L) (hc:a.eval c=.int .i64 L) (hL:L=(n:Int)) (hn:n<=17592186044416) (b:base<=w.heap.size)
  (h:∀w',O32 w' base (.slice (some ⟨w.heap.size,0,none⟩) n n) (List.replicate n 0)->w.grownBy w' none->wpList Tryz.prog d Q rest (a.put o.dst (.slice (some ⟨w.heap.size,0,none⟩) n n)) w'):
  wpList Tryz.prog d Q (o::rest) a w:=by
 refine GD e l c t _ 4 _ ho ht Qv rfl base L n hl hc hL (by omega) (by omega) b fun w' h1 h2=>h w' ?_ h2
 unfold O32;simpa using h1
theorem O32.at'{w:World}{base g n a:Nat}{l:List Int}(h:O32 w base (.slice (some ⟨g,0,none⟩) n a) l)(hn:n=l.length)(j:Nat)(hj:j<l.length):w.cell? ⟨g,j,none⟩=some (.int .i32 (l.getD j 0)):=by
 subst hn;rw[World.ownsRow.cellAt h j (by omega)];simp[hj]
theorem O32.fz{w:World}{base g n a:Nat}{l:List Int}(h:O32 w base (.slice (some ⟨g,0,none⟩) n a) l)(hn:n=l.length)(j:Nat):w.frozen? ⟨g,j,none⟩=false:=by
 subst hn;exact World.ownsRow.frozenAt h j
theorem O32.set{w:World}{base g n a:Nat}{l:List Int}(h:O32 w base (.slice (some ⟨g,0,none⟩) n a) l)(hn:n=l.length)(j:Nat)(b:Int):
  O32 (w.setCell ⟨g,j,none⟩ (.int .i32 b)) base (.slice (some ⟨g,0,none⟩) n a) (l.set j b):=by
 subst hn;have:=(World.ownsRow.stored h j (.int .i32 b)).1;unfold O32;simpa using this
theorem O32.grown{w w':World}{base:Nat}{v:Value}{l:List Int}{row:Option Nat}(h:O32 w base v l)(hg:w.grownBy w' row)(a:v.ownBlock=none\/v.ownBlock≠row):O32 w' base v l:=World.ownsRow.kept h hg a
theorem O32.below{w w':World}{base:Nat}{v:Value}{l:List Int}(h:O32 w base v l)(hb:Below w.heap.size w w'):O32 w' base v l:=h.grown (AW hb) (by cases v.ownBlock<;>simp)
theorem O8.grown{w w':World}{base:Nat}{v:Value}{l:List Int}{row:Option Nat}(h:O8 w base v l)(hg:w.grownBy w' row)(a:v.ownBlock=none\/v.ownBlock≠row):O8 w' base v l:=World.ownsRow.kept h hg a
theorem O8.below{w w':World}{base:Nat}{v:Value}{l:List Int}(h:O8 w base v l)(hb:Below w.heap.size w w'):O8 w' base v l:=h.grown (AW hb) (by cases v.ownBlock<;>simp)
theorem S8(w:World)(base:Nat):O8 w base (.slice none 0 0) []:=World.ownsRow_nil _ _ _ _
theorem O8.is{w:World}{base:Nat}{v:Value}{l:List Int}(h:O8 w base v l)(hn:l.length<=Bg)(hr:∀x∈l,0<=x/\x<=255):Df w v l:=
 ⟨Ct h hn _ fun j hj=>by simp[u8F,hj],hr⟩
theorem OK(w:World)(vl:Value)(l:List Int)(hl:Df w vl l)(h0:0<l.length)(hm:l.length<=10000000):
  Calls Tryz.prog 123 #[vl] w (Av (.int .i64 (AX l)) w):=by
 have a8:Tryz.prog.follows .mixedOrders=true:=by kernel_rfl
 obtain⟨al,cl,rfl⟩:=hl.shape;obtain⟨bl,ol,dl,-,-,-,fl⟩:=hl.data;obtain rfl:=dl h0;have aj:=Ab fl
 have ar:Hid (∀k,LB l l.length k->(if l.length%(l.length-k)≠0 then l.length else l.length-k)=AX l):=fun k h=>MD h
 clear fl hl dl;generalize hn:l.length=n at*;clear hn;generalize AX l=R at*
 go_enter Tryz.func123,Tryz.ntmps123
 go_upto_region 3 with(at_make;refine QM rfl _ _ _ Tryz.underlying139 rfl w.heap.size (n:Int) n rfl rfl rfl (by omega) leR ?_;intro wm s ao)
 have ah:Below w.heap.size w wm:=Ad.grown ao leR (fun k hk=>by cases hk);obtain⟨ZB,af⟩:∃z,z=w.heap.size:=⟨_,rfl⟩;rw[<-af]at s ah⊢;have v:=Ab af;clear ao af;have ax:=Ab s;have aq:=Ab ah;clear s ah
 go_wp2_with fail
 go_loopg [5,6] n (fun gh kv iv wr=>∃(i k:Nat)(L:List Int),gh=n+1-i/\kv=.int .i64 (k:Int)/\iv=.int .i64 (i:Int)/\1<=i/\i<=n/\k<i/\Hid (LB l i k)/\Hid (L.length=n)/\Hid (∀j,j<i->∃b:Nat,L.getD j 0=(b:Int)/\b<=j/\LB l (j+1) b)/\Hid (O32 wr ZB (.slice (some ⟨ZB,0,none⟩) n n) L)/\Hid (Below ZB w wr))
 case atStart=>exact⟨1,0,_,by omega,rfl,rfl,by omega,by omega,by omega,LB.one l,by show _=_;simp,fun j h2=>⟨0,by simp[List.getD];cases h:(List.replicate n (0:Int))[j]? with
  |none=>rfl
  |some x=>simp[List.getElem?_replicate]at h;rw[Option.getD_some,<-h.2],by omega,by rw[show j=0 by omega];exact LB.one l⟩,ax,aq⟩
 case round=>
  obtain⟨i,k,L,am,rfl,rfl,a5,a6,a7,HK,HL,HA,HO,HB⟩:=hrel;have ad:=Ab am;clear am
  have r:Hid (Below w.heap.size w wr):=by
   show Below _ _ _;have:=HB.out
   rwa [v.out]at this
  by_cases hlt:i<n
  ·have a4:(0:Int)<=(i:Int):=by omega
   have ay:(i:Int)<(n:Int):=by omega
   have cI:=Ag r.out (aj.out i hlt);obtain⟨w5,rfl⟩:∃x:World,x=wr:=⟨_,rfl⟩
   go_wp2_with fail
   go_loopg [5] k (fun gh kv wx=>∃q:Nat,gh=q/\kv=.int .i64 (q:Int)/\q<=k/\Hid (KI l i q)/\Hid (Below w5.heap.size w5 wx)/\Hid (O32 wx ZB (.slice (some ⟨ZB,0,none⟩) n n) L))
   case atStart=>exact⟨k,rfl,rfl,Nat.le_refl _,KI.start HK.out,Ad,HO⟩
   case round=>
    obtain⟨q,an,rfl,bf,HQ,ab,a⟩:=hrel;have au:=Ab an;clear an;have u:=Ab (r.out.trans (ab.out.mono r.out.size));have cI:=Ag ab.out cI
    have a9:(q:Int)<(n:Int):=by omega
    have cQ:=Ag u.out (aj.out q (by omega))
    have ac:Hid (l.getD i 0=l.getD q 0->KI l i q):=fun _=>HQ.out
    by_cases hq0:0<q
    ·have az:(0:Int)<(q:Int):=by omega
     have a0:(0:Int)<=(q:Int):=by omega
     cases hne:(l.getD i 0 !=l.getD q 0)with
     |true=>
      have aw:Hid (l.getD i 0≠l.getD q 0):=by show _≠_;simpa using hne
      obtain⟨b,ak,a3,ag⟩:=HA.out (q-1) (by omega)
      have av:Hid (KI l i b):=by
       have:=HQ.out.step aw.out (j:=b);rw[show q-1+1=q by omega]at ag;exact this ag
      have cB:=a.out.at' HL.out.symm (q-1) (by rw[HL.out];omega);rw[ak]at cB
      have bg:((q:Int)-1)=((q-1:Nat):Int):=by omega
      have ba:((q-1:Nat):Int)<(n:Int):=by omega
      have bb:(0:Int)<=((q-1:Nat):Int):=by omega
      clear ak ag;generalize l.getD i 0=x at*;generalize l.getD q 0=y at*
      go_upto_region 7 with(fail)
      go_quiet (fail)
      go_upto_region 8 with(fail)
      have a2:(wr.drewN nq).cell? ⟨ZB,q-1,none⟩=some (.int .i32 (b:Int)):=cB
      have bc:(0:Int)<=(q:Int)-1:=by omega
      have bd:(q:Int)-1<(n:Int):=by omega
      have be:((q:Int)-1).toNat=q-1:=by omega
      go_wp2
      go_roundg b
      case measure=>have:=au.out;omega
      case rel=>exact⟨b,rfl,by go_num,by omega,av,ab.out.trans (Aj _ _ _),a.out.below (Aj _ _ _)⟩
     |false=>
      have e:l.getD i 0=l.getD q 0:=by simpa using hne
      have c:Hid (LB l (i+1) (q+1)):=HQ.out.hit e
      have o:Hid ((L.set i ((q:Int)+1)).length=n):=by show _=_;rw[List.length_set];exact HL.out
      have f:Hid (∀j,j<i+1->∃b:Nat,(L.set i ((q:Int)+1)).getD j 0=(b:Int)/\b<=j/\LB l (j+1) b):=fun j hj=>by
       by_cases hji:j=i
       ·subst hji;exact⟨q+1,AA _ _ _ _ (by rw[HL.out];exact hlt),by omega,c.out⟩
       ·rw[AJ _ _ _ _ _ (Ne.symm hji)];exact HA.out j (by omega)
      have e2:=a.out.at' HL.out.symm i (by rw[HL.out];exact hlt);have f2:=a.out.fz HL.out.symm i
      have p:Hid (∀nn,O32 ((wr.drewN nn).setCell ⟨ZB,i,none⟩ (.int .i32 ((q:Int)+1))) ZB (.slice (some ⟨ZB,0,none⟩) n n) (L.set i ((q:Int)+1))):=fun nn=>(a.out.below (Aj _ _ nn)).set HL.out.symm i ((q:Int)+1)
      have m:Hid (∀nn,Below ZB w ((wr.drewN nn).setCell ⟨ZB,i,none⟩ (.int .i32 ((q:Int)+1)))):=fun nn=>by
       rw[v.out];exact BS (u.out.trans (Aj _ _ nn)) leR
      have aa:IntKind.i32.wrap ((q:Int)+1)=((q:Int)+1):=by rw[IntKind.wrap_i32];omega
      rw[e]at cI;clear ac e hne;generalize l.getD q 0=y at*
      have tA:(y !=y)=false:=by simp
      have tB:(y==y)=true:=by simp
      go_upto_region 7 with(fail)
      go_quiet (fail)
      go_upto_region 9 with(fail)
      go_quiet (fail)
      go_wp2
      go_roundg (n+1-(i+1))
      case measure=>have:=ad.out;omega
      case rel=>exact⟨i+1,q+1,_,rfl,by go_num,by go_num,by omega,by omega,by omega,c,o,f,p.out _,m.out _⟩
    ·have az:¬(0:Int)<(q:Int):=by omega
     have a0:(0:Int)<=(q:Int):=by omega
     cases hne:(l.getD i 0==l.getD q 0)with
     |true=>
      have e:l.getD i 0=l.getD q 0:=by simpa using hne
      have c:Hid (LB l (i+1) (q+1)):=HQ.out.hit e
      have o:Hid ((L.set i ((q:Int)+1)).length=n):=by show _=_;rw[List.length_set];exact HL.out
      have f:Hid (∀j,j<i+1->∃b:Nat,(L.set i ((q:Int)+1)).getD j 0=(b:Int)/\b<=j/\LB l (j+1) b):=fun j hj=>by
       by_cases hji:j=i
       ·subst hji;exact⟨q+1,AA _ _ _ _ (by rw[HL.out];exact hlt),by omega,c.out⟩
       ·rw[AJ _ _ _ _ _ (Ne.symm hji)];exact HA.out j (by omega)
      have e2:=a.out.at' HL.out.symm i (by rw[HL.out];exact hlt);have f2:=a.out.fz HL.out.symm i
      have p:Hid (∀nn,O32 ((wr.drewN nn).setCell ⟨ZB,i,none⟩ (.int .i32 ((q:Int)+1))) ZB (.slice (some ⟨ZB,0,none⟩) n n) (L.set i ((q:Int)+1))):=fun nn=>(a.out.below (Aj _ _ nn)).set HL.out.symm i ((q:Int)+1)
      have m:Hid (∀nn,Below ZB w ((wr.drewN nn).setCell ⟨ZB,i,none⟩ (.int .i32 ((q:Int)+1)))):=fun nn=>by
       rw[v.out];exact BS (u.out.trans (Aj _ _ nn)) leR
      have aa:IntKind.i32.wrap ((q:Int)+1)=((q:Int)+1):=by rw[IntKind.wrap_i32];omega
      clear ac e;generalize l.getD q 0=y at*;generalize l.getD i 0=x at*
      go_upto_region 7 with(fail)
      go_quiet (fail)
      go_upto_region 9 with(fail)
      go_quiet (fail)
      go_wp2
      go_roundg (n+1-(i+1))
      case measure=>have:=ad.out;omega
      case rel=>exact⟨i+1,q+1,_,rfl,by go_num,by go_num,by omega,by omega,by omega,c,o,f,p.out _,m.out _⟩
     |false=>
      have ai:l.getD i 0≠l.getD q 0:=by simpa using hne
      have c:Hid (LB l (i+1) (q)):=by
             have hz:q=0:=by omega
             have h1:=HQ.out;rw[hz]at h1 ai;show LB _ _ _;rw[hz];exact h1.miss ai
      have o:Hid ((L.set i ((q:Int))).length=n):=by show _=_;rw[List.length_set];exact HL.out
      have f:Hid (∀j,j<i+1->∃b:Nat,(L.set i ((q:Int))).getD j 0=(b:Int)/\b<=j/\LB l (j+1) b):=fun j hj=>by
       by_cases hji:j=i
       ·subst hji;exact⟨q,AA _ _ _ _ (by rw[HL.out];exact hlt),by omega,c.out⟩
       ·rw[AJ _ _ _ _ _ (Ne.symm hji)];exact HA.out j (by omega)
      have e2:=a.out.at' HL.out.symm i (by rw[HL.out];exact hlt);have f2:=a.out.fz HL.out.symm i
      have p:Hid (∀nn,O32 ((wr.drewN nn).setCell ⟨ZB,i,none⟩ (.int .i32 ((q:Int)))) ZB (.slice (some ⟨ZB,0,none⟩) n n) (L.set i ((q:Int)))):=fun nn=>(a.out.below (Aj _ _ nn)).set HL.out.symm i ((q:Int))
      have m:Hid (∀nn,Below ZB w ((wr.drewN nn).setCell ⟨ZB,i,none⟩ (.int .i32 ((q:Int))))):=fun nn=>by
       rw[v.out];exact BS (u.out.trans (Aj _ _ nn)) leR
      have aa:IntKind.i32.wrap ((q:Int))=((q:Int)):=by rw[IntKind.wrap_i32];omega
      clear ac ai;generalize l.getD q 0=y at*;generalize l.getD i 0=x at*
      go_upto_region 7 with(fail)
      go_quiet (fail)
      go_upto_region 9 with(fail)
      go_quiet (fail)
      go_wp2
      go_roundg (n+1-(i+1))
      case measure=>have:=ad.out;omega
      case rel=>exact⟨i+1,q,_,rfl,by go_num,by go_num,by omega,by omega,by omega,c,o,f,p.out _,m.out _⟩
  ·have ap:i=n:=by omega
   have ay:¬(i:Int)<(n:Int):=by omega
   have HR:=Ab (ar.out k (by rw[<-ap];exact HK.out))
   have a1:((n:Int)-(k:Int)==0)=false:=by rw[beq_eq_false_iff_ne];omega
   have d:(n:Int)%((n:Int)-(k:Int))=((n%(n-k):Nat):Int):=by
    rw[show(n:Int)-(k:Int)=((n-k:Nat):Int)by omega]
    first|rfl|exact(Int.natCast_mod _ _).symm|exact(Int.natCast_emod _ _).symm
   by_cases hz:n%(n-k)≠0
   ·have hR:(n:Int)=(R:Int):=by have:=HR.out;rw[if_pos hz]at this;omega
    have hd:((n:Int)%((n:Int)-(k:Int)) !=0)=true:=by rw[d];simp;omega
    have ae:Hid (Av (.int .i64 (R:Int)) w (.returned (.int .i64 (n:Int))) wr):=by rw[hR];exact⟨rfl,r.out⟩
    clear hR hz d HR;go_wp2;go_ret;exact ae
   ·have hR:(n:Int)-(k:Int)=(R:Int):=by have:=HR.out;rw[if_neg hz]at this;omega
    have hd:((n:Int)%((n:Int)-(k:Int)) !=0)=false:=by rw[d];simp;omega
    have ae:Hid (Av (.int .i64 (R:Int)) w (.returned (.int .i64 ((n:Int)-(k:Int)))) wr):=by rw[hR];exact⟨rfl,r.out⟩
    clear hR hz d HR;go_wp2;go_ret;exact ae
structure LX(w:World)(B z:Nat)(v0 v1:Value)(s l:List Int):Prop where
 box:w.heap[z]? =some (.cells #[v0,v1] 30 (0,0))
 zB:B<=z
 o:OI w B v0 s
 p:OI w B v1 l
 sep:Sep [Az z,v0,v1]
section
variable {w w':World} {B z:Nat} {v0 v1:Value} {s l:List Int}
theorem LX.zlt(h:LX w B z v0 v1 s l):z<w.heap.size:=(Array.getElem?_eq_some_iff.1 h.box).1
theorem LX.lts(h:LX w B z v0 v1 s l):∀u∈[Az z,v0,v1],∀g,u.ownBlock=some g->g<w.heap.size:=by
 intro u hu g hg;simp only[List.mem_cons,List.not_mem_nil,or_false]at hu
 rcases hu with rfl|rfl|rfl
 ·cases hg;exact h.zlt
 ·exact h.o.lt' g hg
 ·exact h.p.lt' g hg
theorem LX.n0(h:LX w B z v0 v1 s l):v0.ownBlock≠some z:=Dh (h.sep.get (i:=0) (j:=1) (by omega) rfl rfl)
theorem LX.n1(h:LX w B z v0 v1 s l):v1.ownBlock≠some z:=Dh (h.sep.get (i:=0) (j:=2) (by omega) rfl rfl)
theorem LX.new(w:World)(B:Nat)(hB:B<=w.heap.size):LX (w.alloc (.cells #[.slice none 0 0,.slice none 0 0] 30)) B w.heap.size (.slice none 0 0) (.slice none 0 0) [] []:=by
 refine⟨heap_alloc_new _ _,hB,Br _ _,Br _ _, ?_⟩;refine List.Pairwise.cons (fun u hu=> ?_) (List.Pairwise.cons (fun u hu=> ?_) (List.Pairwise.cons (fun u hu=> ?_) List.Pairwise.nil))
 all_goals
  intro g h1 h2;simp only[List.mem_cons,List.not_mem_nil,or_false]at hu
 ·rcases hu with rfl|rfl<;>cases h2
 ·cases h1
theorem LX.step0(h:LX w B z v0 v1 s l){a:Value}{x:Int}(ho:OI w' B a (s++[x]))(hg:w.grownBy w' v0.ownBlock)(hm:AS w v0 a)(hB:B<=w.heap.size):
  w'.heap[z]? =some (.cells #[v0,v1] 30 (0,0))/\LX (w'.setCell ⟨z,0,none⟩ a) B z a v1 (s++[x]) l/\Below B w (w'.setCell ⟨z,0,none⟩ a):=by
 have b:w'.heap[z]? =some (.cells #[v0,v1] 30 (0,0)):=by rw[hg.block z h.zlt (Ne.symm h.n0)];exact h.box
 have c:Sep [Az z,a,v1]:=h.sep.set (i:=1) rfl hm h.lts;refine⟨b,⟨heap_setCell_same w' z 0 _ _ a b,h.zB, ?_, ?_,c⟩, ?_⟩
 ·exact ho.setNe (Dh (c.get (i:=0) (j:=1) (by omega) rfl rfl))
 ·exact(h.p.grownA hg (h.sep.get (i:=2) (j:=1) (by omega) rfl rfl)).setNe h.n1
 ·exact(Ad.grown hg hB (fun g hg=>h.o.ge g hg)).trans ((Af.set (S:=fun q=>q=z) z 0 a rfl).below _ (fun q e=>by have e:q=z:=e;have:=h.zB;omega) (Nat.le_trans hB hg.size))
theorem LX.step1(h:LX w B z v0 v1 s l){a:Value}{x:Int}(ho:OI w' B a (l++[x]))(hg:w.grownBy w' v1.ownBlock)(hm:AS w v1 a)(hB:B<=w.heap.size):
  w'.heap[z]? =some (.cells #[v0,v1] 30 (0,0))/\LX (w'.setCell ⟨z,1,none⟩ a) B z v0 a s (l++[x])/\Below B w (w'.setCell ⟨z,1,none⟩ a):=by
 have b:w'.heap[z]? =some (.cells #[v0,v1] 30 (0,0)):=by rw[hg.block z h.zlt (Ne.symm h.n1)];exact h.box
 have c:Sep [Az z,v0,a]:=h.sep.set (i:=2) rfl hm h.lts;refine⟨b,⟨heap_setCell_same w' z 1 _ _ a b,h.zB, ?_, ?_,c⟩, ?_⟩
 ·exact(h.o.grownA hg (h.sep.get (i:=1) (j:=2) (by omega) rfl rfl)).setNe h.n0
 ·exact ho.setNe (Dh (c.get (i:=0) (j:=2) (by omega) rfl rfl))
 ·exact(Ad.grown hg hB (fun g hg=>h.p.ge g hg)).trans ((Af.set (S:=fun q=>q=z) z 1 a rfl).below _ (fun q e=>by have e:q=z:=e;have:=h.zB;omega) (Nat.le_trans hB hg.size))
end
theorem CR{w wr:World}{n:Nat}(hb:Below w.heap.size w wr)(hn:w.heap.size<=n):
  Dz C7 w (.returned (.agg #[.slice none 0 0,.slice none 0 0])) ((wr.setCell ⟨n,0,none⟩ (.slice none 0 0)).setCell ⟨n,1,none⟩ (.slice none 0 0)):=
 ⟨_,rfl,⟨_,_,rfl,Fy _,Fy _⟩,Hl hb hn⟩
theorem OI.slice'{w:World}{B n:Nat}{v:Value}{l:List Int}(h:OI w B v l)(hn:l.length=n):∃a c,v=.slice a n c:=by
 obtain⟨a,c,e⟩:=OI.slice h;exact⟨a,c,by rw[e,hn]⟩
def Bh(s l:List Int):Ls:=if(BC ⟨s,l⟩).stem.length<=60/\(BC ⟨s,l⟩).loop.length<=40 then BC ⟨s,l⟩else C7
def NmB(s l:List Int)(b:Nat):Prop:=Bl ⟨s,l⟩ (s.take (s.length-b)) (Cb (l.take (AX l)) ((AX l-b%AX l)%AX l))
theorem FB{l:List Int}(h:0<l.length):(l.take (AX l)).length=AX l/\0<AX l/\AX l<=l.length:=by
 obtain⟨h1,h2,-⟩:=Hr h;exact⟨by rw[List.length_take];omega,h1,h2⟩
theorem NmB.zero{s l:List Int}(h:0<l.length):NmB s l 0:=by
 have h1:=Bl.start' (w:=⟨s,l⟩) h;obtain⟨e1,e2,-⟩:=FB h;unfold NmB;rw[Nat.zero_mod,Nat.sub_zero];simp only[e1]at h1;rw[Nat.sub_zero]at h1;exact h1
theorem NmB.step{s l:List Int}{b:Nat}(h0:0<l.length)(h:NmB s l b)(hb:b<s.length)(he:s.getD (s.length-1-b) 0=l.getD (AX l-1-b%AX l) 0):NmB s l (b+1):=by
 obtain⟨e1,e2,e3⟩:=FB h0;have hm:=Nat.mod_lt b e2;unfold NmB at h⊢
 have h2:=Bl.step (w:=⟨s,l⟩) (s:=s) (l:=l.take (AX l)) (k:=s.length-(b+1)) (b:=b%AX l) (by rw[e1,show s.length-(b+1)+1=s.length-b by omega];exact h) (by omega) (by rw[e1];exact hm) (by
  rw[show s.length-(b+1)=s.length-1-b by omega,he,e1]
  simp[List.getD,show AX l-1-b%AX l<AX l by omega])
 rw[e1,Nat.mod_add_mod]at h2;exact h2
theorem NmB.stop{s l:List Int}{b:Nat}(h0:0<l.length)(h:NmB s l b)(hb:b<=s.length)(he:b=s.length\/s.getD (s.length-1-b) 0≠l.getD (AX l-1-b%AX l) 0):
  BC ⟨s,l⟩=⟨s.take (s.length-b),Cb (l.take (AX l)) ((AX l-b%AX l)%AX l)⟩:=by
 obtain⟨e1,e2,e3⟩:=FB h0;have hm:=Nat.mod_lt b e2;unfold NmB at h
 have h2:=Bl.stop (w:=⟨s,l⟩) (s:=s) (l:=l.take (AX l)) (k:=s.length-b) (b:=b%AX l) h0 (by rw[e1];exact h) (by omega) (by rw[e1];exact hm) (by
  rcases he with he|he
  ·exact .inl (by omega)
  ·refine .inr ?_;rw[show s.length-b-1=s.length-1-b by omega,e1];intro e
   apply he
   rw[e]
   simp[List.getD,show AX l-1-b%AX l<AX l by omega])
 rw[<-h2,e1]
theorem SB{l:List Int}{b i:Nat}(h0:0<l.length)(hi:i<AX l):(Cb (l.take (AX l)) ((AX l-b%AX l)%AX l)).getD i 0=l.getD ((i+AX l-b%AX l)%AX l) 0:=by
 obtain⟨e1,e2,e3⟩:=FB h0;have hm:=Nat.mod_lt b e2;have hk:=Nat.mod_lt (AX l-b%AX l) e2;rw[FV (by rw[e1];omega) i (by rw[e1];exact hi),e1,Nat.mod_add_mod,show AX l-b%AX l+i=i+AX l-b%AX l by omega];have:=Nat.mod_lt (i+AX l-b%AX l) e2;simp[List.getD,this]
end Go.Proofs.YtncjeamdkjcebaaGreatDoor
