/- Games. -/
import Derived.Laws.AppendOwnNone
import Derived.Laws.EntriesVeiled
import Derived.Deep.OwnRows
import Derived.RegionTactic
import Derived.BigRegion
import Derived.Deep.RegionHeld3
import Derived.Deep.AppendLies
import Derived.Deep.RegionLaw
import Derived.Test.YtncjeamdkjcebaaGreatDoorYBase
set_option linter.all false
namespace Go.Proofs.YtncjeamdkjcebaaGreatDoor
open Go.RowKit
open Go Go.RowKit
theorem DH{P:Program}(w:World)(base:Nat)(t ty e:TypeId)(i:TypeInfo)(z:Value)(q p:Nat)(ht:P.underlying t=some (.slice e))(hi:P.info? e=some i)(hz:i.zero=some z)
  (x:i.size=q) (ad:i.bytes=p) (v:Value) (n:Nat) (xs:List Value) (o:w.ownsRow base e q v n xs)
  (a:Addr) (m c:Nat) (b:List Value) (hl:b.length=m*q) (f:∀j u,b[j]? =some u->w.cell? (a.add j)=some u) (h1:∀u∈b,u.oneCell'=true)
  (ac:n+m<=maxLen) (l:(n+m)*p<=140737488355328) (v':Value) (w':World)
  (hr:(Builtin.append_ #[t,t] ty #[v,.slice (some a) m c]).run P w=.ok v' w'):∀g,v'.ownBlock=some g->v.ownBlock=some g\/g=w.heap.size:=by
 subst x
 subst ad
 have ab:n+m<=9223372036854775807:=by simp only[maxLen]at ac;omega
 intro g d
 rcases o.2 with⟨rfl,rfl⟩|⟨g0,r,y,rfl,ag,hg,ai,ah,ae,af⟩
 ·have hx:xs=[]:=List.eq_nil_of_length_eq_zero (by simpa using o.1);subst hx
  by_cases hm:m=0
  ·subst hm;have hn:b=[]:=List.eq_nil_of_length_eq_zero (by simpa using hl);subst hn
   have k:(Builtin.append_ #[t,t] ty #[.slice none 0 0,.slice (some a) 0 c]).run P w=.ok (.slice none 0 0) w:=by
    simp[Builtin.append_,run_underlying ht,sizeOf,typeInfo,hi,Builtin.lenOf,Builtin.firstCells,loadCells,loadCellsFrom]
   rw[k]at hr
   cases hr
   exact .inl d
  ·have k:=run_append_nil (P:=P) w t ty e i z ht hi hz a m c b hl f (by omega) (by omega) (by have hb:=l;simp only[Nat.zero_add]at hb;omega);rw[k]at hr
   cases hr
   simp[Value.ownBlock]at d;exact .inr d.symm
 ·by_cases hroom:n+m<=r
  ·have aa:n*i.size+b.length<=y.size:=by rw[hl,ae,<-Nat.add_mul];exact Nat.mul_le_mul_right _ hroom
   have k:=run_append_room (P:=P) w t ty e i ht hi g0 n r y hg a m c b hl f h1 hroom aa;rw[k]at hr
   cases hr
   simp[Value.ownBlock]at d⊢;exact .inl d
  ·have s:∀j u,xs[j]? =some u->w.cell? ((⟨g0,0,none⟩:Addr).add j)=some u:=o.cells (g:=g0) rfl;have k:=run_append_grow (P:=P) w t ty e i z ht hi hz ⟨g0,0,none⟩ n r xs o.1 s a m c b hl f (by omega) (by omega) (growslice_fits (by omega) l);rw[k]at hr
   cases hr
   simp[Value.ownBlock]at d⊢;exact .inr d.symm
def AS(w:World)(v v':Value):Prop:=∀g,v'.ownBlock=some g->v.ownBlock=some g\/w.heap.size<=g
theorem GC{P:Program}{ae:Array Oper}{rest:List Oper}{o:Oper}{a:Act}{Q:Exit->Act->World->Prop}{w:World}(af:o.guard=none)(s x:Operand)(t e:TypeId)(b f:Nat)(z:Value)
  (ho:o.op=.call {callee:=.builtin .append,args:=#[s,x],argTypes:=#[t,t]})
  (ht:P.underlying t=some (.slice e)) (r:(P.info? e).map (fun i=>(i.zero,i.size,i.bytes))=some (some z,b,f)) (ah:z.cells.size=b) (ag:0<b)
  (base:Nat) (v:Value) (n:Nat) (xs:List Value) (hs:a.eval s=v) (p:w.ownsRow base e b v n xs)
  (ad:Addr) (m c:Nat) (d:List Value) (hx:a.eval x=.slice (some ad) m c) (hl:d.length=m*b) (l:∀j u,d[j]? =some u->w.cell? (ad.add j)=some u) (h1:∀u∈d,u.oneCell'=true)
  (y:n+m<=maxLen) (k:(n+m)*f<=140737488355328) (q:base<=w.heap.size)
  (h:∀v' w',w'.ownsRow base e b v' (n+m) (xs++d)->w.grownBy w' v.ownBlock->(v'=.slice none 0 0↔v=.slice none 0 0/\m=0)->AS w v v'->wpList P ae Q rest (a.put o.dst v') w'):
  wpList P ae Q (o::rest) a w:=by
 refine wpList_plain af fun K hK=> ?_
 obtain⟨i,hi,aa,ab,ac⟩:=info_parts r;obtain⟨v',w',hr,h2,h3,h4⟩:=run_append_own (P:=P) w base t o.type e i z b f ht hi aa ab ac ah ag v n xs p ad m c d hl l h1 y k q;have h5:=DH (P:=P) w base t o.type e i z b f ht hi aa ab ac v n xs p ad m c d hl l h1 y k v' w' hr;unfold Oper.wp execOp;simp only[ho,resolve,invoke,builtin,Sem.run_bind,Sem.run_pure,Result.andThen_ok,List.map_toArray,List.map_cons,List.map_nil,hs,hx,hr];exact hK _ _ (h v' w' h2 h3 h4 (fun g hg=>(h5 g hg).imp id (fun e=>by omega)))
theorem Ii{P:Program}{j:Array Oper}{rest:List Oper}{o:Oper}{a:Act}{Q:Exit->Act->World->Prop}{w:World}(q:o.guard=none)(s x:Operand)(t e:TypeId)(b:Nat)(z u:Value)
  (ho:o.op=.call {callee:=.builtin .append,args:=#[s,x],argTypes:=#[t,t]})
  (ht:P.underlying t=some (.slice e)) (d:(P.info? e).map (fun i=>(i.zero,i.size,i.bytes))=some (some z,1,b)) (r:z.cells.size=1)
  (base:Nat) (v:Value) (n:Nat) (xs:List Value) (hs:a.eval s=v) (f:w.ownsRow base e 1 v n xs)
  (m:Nat) (hm:m=w.heap.size) (hx:a.eval x=.slice (some ⟨m,0,none⟩) 1 1) (hu:u.oneCell'=true)
  (c:(n+1)*b<=140737488355328) (l:0<b) (p:base<=w.heap.size)
  (h:∀v' w',w'.ownsRow base e 1 v' (n+1) (xs++[u])->w.grownBy w' v.ownBlock->AS w v v'->wpList P j Q rest (a.put o.dst v') w'):
  wpList P j Q (o::rest) a (w.alloc (.cells #[u] e)):=by
 subst hm;have hn:n+1<=140737488355328:=Nat.le_trans (Nat.le_mul_of_pos_right _ l) c;refine GC q s x t e 1 b z ho ht d r (by decide) base v n xs hs (f.alloc _) ⟨w.heap.size,0,none⟩ 1 1 [u] hx rfl (cell_one_new _ _ _) (by simpa using hu) (by simp only[maxLen];omega) c (by simp;omega) ?_;intro v' w' h1 h2 _ h4;refine h v' w' h1 ⟨h2.os,h2.tape,h2.output,by have:=h2.size;simp at this;omega,fun k hk hr=> ?_⟩ (fun g hg=> ?_)
 ·rw[h2.block k (by simp;omega) hr];exact Dm w _ hk
 ·rcases h4 g hg with e|e
  ·exact .inl e
  ·refine .inr ?_;simp at e;omega
theorem Ct{w:World}{base:Nat}{e:TypeId}{v:Value}{n:Nat}{xs:List Value}(h:w.ownsRow base e 1 v n xs)(hn:n<=Bg)(f:Nat->Value)(hf:∀j,j<n->xs[j]? =some (f j)):Ec w v n f:=by
 rcases h.2 with⟨rfl,rfl⟩|⟨g,a,i,rfl,hb,hg,c,b,k,d⟩
 ·exact⟨none,0,0,0,rfl,Nat.le_refl _,Nat.zero_le _,hn,(fun _=>rfl),(fun h=>absurd h (by omega)),fun j hj=>absurd hj (by omega)⟩
 ·refine⟨some ⟨g,0,none⟩,a,g,0,rfl,c,b,hn,(fun h=>by cases h),fun _=>rfl,fun j hj=> ?_⟩;rw[Nat.zero_add,World.ownsRow.cellAt h j (by omega),hf j hj]
def OB(w:World)(base:Nat)(v:Value)(l:List Bool):Prop:=w.ownsRow base 4 1 v l.length (l.map Value.bool)
def OI(w:World)(base:Nat)(v:Value)(l:List Int):Prop:=w.ownsRow base 3 1 v l.length (l.map (Value.int .i64))
theorem OB.is{w:World}{base:Nat}{v:Value}{l:List Bool}(h:OB w base v l)(hn:l.length<=Bg):Bf w v l:=
 Ct h hn _ fun j hj=>by simp[bvF,hj]
theorem OI.is{w:World}{base:Nat}{v:Value}{l:List Int}(h:OI w base v l)(hn:l.length<=Bg)(hi:∀x∈l,I64 x):Ah w v l:=
 ⟨Ct h hn _ fun j hj=>by simp[ivF,hj],hi⟩
theorem OE:(Tryz.prog.info? 4).map (fun i=>(i.zero,i.size,i.bytes))=some (some (.bool false),1,1):=by kernel_rfl
theorem Dt:(Tryz.prog.info? 3).map (fun i=>(i.zero,i.size,i.bytes))=some (some (.int .i64 0),1,8):=by kernel_rfl
theorem C8{e:Array Oper}{rest:List Oper}{o:Oper}{a:Act}{Q:Exit->Act->World->Prop}{w:World}(f:o.guard=none)(s x:Operand)(b:Int)
  (ho:o.op=.call {callee:=.builtin .append,args:=#[s,x],argTypes:=#[26,26]})
  (base:Nat) (v:Value) (l:List Int) (d:OI w base v l) (hs:a.eval s=v) (m:Nat) (hm:m=w.heap.size) (hx:a.eval x=.slice (some ⟨m,0,none⟩) 1 1)
  (hn:l.length<17592186043904) (c:base<=w.heap.size)
  (h:∀v' w',OI w' base v' (l++[b])->w.grownBy w' v.ownBlock->AS w v v'->wpList Tryz.prog e Q rest (a.put o.dst v') w'):
  wpList Tryz.prog e Q (o::rest) a (w.alloc (.cells #[.int .i64 b] 3)):=by
 refine Ii f s x _ _ 8 _ _ ho Tryz.underlying26 Dt rfl base v l.length _ hs d m hm hx rfl (by omega) (by decide) c fun v' w' h1 h2 h3=>h v' w' ?_ h2 h3
 unfold OI;simpa using h1
theorem GD{P:Program}{j:Array Oper}{rest:List Oper}{o:Oper}{a:Act}{Q:Exit->Act->World->Prop}{w:World}(k:o.guard=none)(l c:Operand)(t e:TypeId)(b:Nat)(z:Value)
  (ho:o.op=Op.makeSlice t l c) (ht:P.underlying t=some (.slice e)) (f:(P.info? e).map (fun i=>(i.zero,i.size,i.bytes))=some (some z,1,b)) (hz:z.cells=#[z])
  (base:Nat) (L:Int) (n:Nat) (hl:a.eval l=.int .i64 L) (hc:a.eval c=.int .i64 L) (hL:L=(n:Int)) (hb:b*n<=281474976710656) (hn:n<=140737488355328) (d:base<=w.heap.size)
  (h:∀w',w'.ownsRow base e 1 (.slice (some ⟨w.heap.size,0,none⟩) n n) n (List.replicate n z)->w.grownBy w' none->wpList P j Q rest (a.put o.dst (.slice (some ⟨w.heap.size,0,none⟩) n n)) w'):
  wpList P j Q (o::rest) a w:=by
 obtain⟨i,hi,m,p,q⟩:=info_parts f
 refine wpList_make_full w k l c t ho base e i z 1 ht hi m p .i64 .i64 L L n hl hc hL hL (by rw[q];exact hb) (by simp only[maxLen];omega) d fun w' h1 h2=>h w' ?_ h2
 rw[hz,Nat.mul_one,toList_madeCells_one]at h1;exact h1
theorem FA{d:Array Oper}{rest:List Oper}{o:Oper}{a:Act}{Q:Exit->Act->World->Prop}{w:World}(e:o.guard=none)(l c:Operand)(t:TypeId)(ht:Tryz.prog.underlying t=some (.slice 3))
  (ho:o.op=Op.makeSlice t l c) (base:Nat) (L:Int) (n:Nat) (hl:a.eval l=.int .i64 L) (hc:a.eval c=.int .i64 L) (hL:L=(n:Int)) (hn:n<=17592186044416) (b:base<=w.heap.size)
  (h:∀w',OI w' base (.slice (some ⟨w.heap.size,0,none⟩) n n) (List.replicate n 0)->w.grownBy w' none->wpList Tryz.prog d Q rest (a.put o.dst (.slice (some ⟨w.heap.size,0,none⟩) n n)) w'):
  wpList Tryz.prog d Q (o::rest) a w:=by
 refine GD e l c t _ 8 _ ho ht Dt rfl base L n hl hc hL (by omega) (by omega) b fun w' h1 h2=>h w' ?_ h2
 unfold OI;simpa using h1
theorem OB.at'{w:World}{base g n a:Nat}{l:List Bool}(h:OB w base (.slice (some ⟨g,0,none⟩) n a) l)(hn:n=l.length)(j:Nat)(hj:j<l.length):w.cell? ⟨g,j,none⟩=some (.bool l[j]):=by
 subst hn;rw[World.ownsRow.cellAt h j (by omega)];simp[hj]
theorem OI.at'{w:World}{base g n a:Nat}{l:List Int}(h:OI w base (.slice (some ⟨g,0,none⟩) n a) l)(hn:n=l.length)(j:Nat)(hj:j<l.length):w.cell? ⟨g,j,none⟩=some (.int .i64 l[j]):=by
 subst hn;rw[World.ownsRow.cellAt h j (by omega)];simp[hj]
theorem OB.fz{w:World}{base g n a:Nat}{l:List Bool}(h:OB w base (.slice (some ⟨g,0,none⟩) n a) l)(hn:n=l.length)(j:Nat):w.frozen? ⟨g,j,none⟩=false:=by
 subst hn;exact World.ownsRow.frozenAt h j
theorem OI.fz{w:World}{base g n a:Nat}{l:List Int}(h:OI w base (.slice (some ⟨g,0,none⟩) n a) l)(hn:n=l.length)(j:Nat):w.frozen? ⟨g,j,none⟩=false:=by
 subst hn;exact World.ownsRow.frozenAt h j
theorem OB.set{w:World}{base g n a:Nat}{l:List Bool}(h:OB w base (.slice (some ⟨g,0,none⟩) n a) l)(hn:n=l.length)(j:Nat)(b:Bool):
  OB (w.setCell ⟨g,j,none⟩ (.bool b)) base (.slice (some ⟨g,0,none⟩) n a) (l.set j b):=by
 subst hn;have:=(World.ownsRow.stored h j (.bool b)).1;unfold OB;simpa using this
theorem OI.set{w:World}{base g n a:Nat}{l:List Int}(h:OI w base (.slice (some ⟨g,0,none⟩) n a) l)(hn:n=l.length)(j:Nat)(b:Int):
  OI (w.setCell ⟨g,j,none⟩ (.int .i64 b)) base (.slice (some ⟨g,0,none⟩) n a) (l.set j b):=by
 subst hn;have:=(World.ownsRow.stored h j (.int .i64 b)).1;unfold OI;simpa using this
theorem CK(w:World)(g j:Nat)(u:Value):w.grownBy (w.setCell ⟨g,j,none⟩ u) (some g):=
 ⟨rfl,rfl,rfl,by simp,fun k _ hk=>heap_setCell_other w ⟨g,j,none⟩ k u (fun e=>hk (by simp[e]))⟩
theorem E5(w:World)(r:Option Nat):w.grownBy w r:=⟨rfl,rfl,rfl,Nat.le_refl _,fun _ _ _=>rfl⟩
theorem Mj{P:Program}{ac:Array Oper}{rest:List Oper}{o:Oper}{a:Act}{Q:Exit->Act->World->Prop}{w:World}(aa:o.guard=none)(s x:Operand)(t e:TypeId)(c:Nat)(z:Value)
  (ho:o.op=.call {callee:=.builtin .append,args:=#[s,x],argTypes:=#[t,t]})
  (ht:P.underlying t=some (.slice e)) (l:(P.info? e).map (fun i=>(i.zero,i.size,i.bytes))=some (some z,1,c)) (ag:z.cells.size=1)
  (base:Nat) (v:Value) (n:Nat) (xs:List Value) (hs:a.eval s=v) (p:w.ownsRow base e 1 v n xs)
  (ao:Option Addr) (r b ah m:Nat) (f:Nat->Value) (hx:a.eval x=.slice ao m r) (k:Jw w ao r b ah m f) (h1:∀j,(f j).oneCell'=true)
  (d:(n+m)*c<=140737488355328) (ae:0<c) (y:base<=w.heap.size)
  (h:∀v' w',w'.ownsRow base e 1 v' (n+m) (xs++(List.range m).map f)->w.grownBy w' v.ownBlock->AS w v v'->wpList P ac Q rest (a.put o.dst v') w'):
  wpList P ac Q (o::rest) a w:=by
 have hn:n+m<=140737488355328:=Nat.le_trans (Nat.le_mul_of_pos_right _ ae) d
 cases ao with
 |none=>
  have af:m=0:=by rcases Nat.eq_zero_or_pos m with h0|h0;exact h0;have:=k.ad h0;cases this
  subst af;obtain rfl:=k.nc rfl;obtain⟨i,hi,ai,aj,ak⟩:=info_parts l;refine wpList_append_own_none aa s x t ho base e i 1 ht hi v n xs hs p hx ?_;exact h v w (by simpa using p) (E5 _ _) (fun g hg=>.inl hg)
 |some ad=>
  refine GC aa s x t e 1 c z ho ht l ag (by decide) base v n xs hs p ad m r ((List.range m).map f) hx (by simp) ?_ ?_ (by simp only[maxLen];omega) d y ?_
  ·intro j u hj
   have ab:j<m:=by
    rcases Nat.lt_or_ge j m with h|h
    ·exact h
    ·simp[Nat.not_lt.2 h]at hj
   have q:=k.ad (by omega);simp only[Option.some.injEq]at q;subst q
   have:f j=u:=by simpa[ab]using hj
   subst this;have h2:=k.el j ab;unfold Addr.add
   split
   ·subst j;exact h2
   ·exact h2
  ·intro u hu;obtain⟨j,_,rfl⟩:=List.mem_map.1 hu;exact h1 j
  ·intro v' w' h2 h3 _ h5;exact h v' w' h2 h3 h5
theorem EX(w:World)(v:Value)(ll:List (List Int))(a:Int)(h:Ar w v ll):
  Calls Tryz.prog 128 #[.int .i64 a,v] w (DZ (.bool (D6 a ll)) w):=by
 obtain⟨V,⟨ao,n,b,p,rfl,h⟩,hr⟩:=h;have hn:=h.nb
 go_enter Tryz.func128,Tryz.ntmps128
 go_wp2
 go_loop [4,6,8,11,15,16,17] (fun r _ _ i _ _ _=>∃k:Nat,i=.int .i64 k/\r=.bool false/\k<=ll.length/\(ll.take k).all (inB a)=true) (fun _ _ _ i _ _ _=>ll.length-(intOf i).toNat)
 case atStart=>exact⟨0,rfl,rfl,by omega,by simp⟩
 case round=>
  obtain⟨k,rfl,rfl,hk,e⟩:=hrel;have HE:=Ab e;clear e
  by_cases hlt:k<ll.length
  ·obtain rfl:=h.ad (by omega);have c2:=h.el k hlt;obtain⟨⟨m,f,b1,l,hv,h1⟩,_⟩:=hr k hlt;rw[hv]at c2;clear hv hr;rw[Ae _ _ _ hlt]at c2 h1;have o:=h1.nb;go_wp2
   go_loop [4,8,17] (fun r _ i=>∃j:Nat,i=.int .i64 j/\r=.bool false/\j<=ll[k].length/\inB a (ll[k].take j)=true) (fun _ _ i=>ll[k].length-(intOf i).toNat)
   case atStart=>exact⟨0,rfl,rfl,by omega,by simp[inB]⟩
   case round=>
    obtain⟨j,rfl,rfl,hj,c⟩:=hrel;have d:=Ab c;clear c
    by_cases hltj:j<ll[k].length
    ·obtain rfl:=h1.ad (by omega);have c3:=h1.el j hltj;unfold ivF at c3;go_wp2
     ·have h2:ll[k][j]<0\/a<ll[k][j]:=by assumption
      go_ret;refine⟨Ak (Eq.symm (Bu _ _ k hlt (Bu _ _ j hltj ?_))),0,rfl⟩;simp;omega
     ·have h2:0<=ll[k][j]/\ll[k][j]<=a:=by assumption
      go_round
      case rel=>exact⟨j+1,by go_num,rfl,by omega,by have:=d.out;unfold inB at this⊢;rw[By _ _ _ hltj,this];simp;omega⟩
      case measure=>simp[intOf];omega
     ·have h2:ll[k][j]<0:=by assumption
      go_ret;refine⟨Ak (Eq.symm (Bu _ _ k hlt (Bu _ _ j hltj ?_))),0,rfl⟩;simp;omega
    ·go_wp2
     go_round
     case rel=>exact⟨k+1,by go_num,rfl,by omega,by have h3:=d.out;rw[List.take_of_length_le (by omega)]at h3;rw[By _ _ _ hlt,HE.out,h3];rfl⟩
     case measure=>simp[intOf];omega
  ·go_wp2;go_ret;refine⟨Ak ?_,0,rfl⟩;have h3:=HE.out;rw[List.take_of_length_le (by omega)]at h3;exact h3.symm
theorem Ar.one{w:World}{v:Value}{l:List Int}(m:Nat)(e:TypeId)(h:Ah w v l)(hm:m=w.heap.size):Ar (w.alloc (.cells #[v] e)) (.slice (some ⟨m,0,none⟩) 1 1) [l]:=by
 subst hm;have hb:=(Below.refl w.heap.size w).alloc leR (Obj.cells #[v] e);refine⟨fun _=>v,⟨_,_,w.heap.size,0,rfl,Nat.le_refl _,by simp[maxLen],by simp[Bg],(fun h=>by cases h),fun _=>rfl, ?_⟩, ?_⟩
 ·intro j hj
  obtain rfl:j=0:=by simpa using hj
  exact cell_one_new _ _ _ 0 v rfl
 ·intro j hj
  obtain rfl:j=0:=by simpa using hj
  exact h.below hb
theorem Pj(w:World)(vg:Value)(g:Gm)(hg:Cx w vg g):
  Calls Tryz.prog 115 #[vg] w (Av (.bool (Cg g)) w):=by
 obtain⟨v0,v1,v2,rfl,a,l,p⟩:=hg;obtain⟨⟨m,c,b0,y,rfl,g0⟩,_⟩:=id a;obtain⟨⟨n,d,b1,z,rfl,g1⟩,_⟩:=id l;obtain⟨V,⟨x,f,b2,v,rfl,g2⟩,hr⟩:=id p;have ab:=g0.nb;have ac:=g1.nb;have ae:=g2.nb
 by_cases h1:g.owner.length<=3000
 case neg=>
  go_enter Tryz.func115,Tryz.ntmps115
  go_wp2;go_ret;refine⟨Ak ?_,Ad.alloc leR _⟩;simp[Cg,h1]
 by_cases h2:g.prio.length=g.owner.length
 case neg=>
  have q:((g.prio.length:Int) !=g.owner.length)=true:=by simp;omega
  go_enter Tryz.func115,Tryz.ntmps115
  go_wp2;go_ret;refine⟨Ak ?_,Ad.alloc leR _⟩;simp[Cg,h2]
 by_cases h3:g.succ.length=g.owner.length
 case neg=>
  have q:((g.prio.length:Int) !=g.owner.length)=false:=by simp;omega
  have u:((g.succ.length:Int) !=g.owner.length)=true:=by simp;omega
  have H2:=Ab h2;clear h2
  go_enter Tryz.func115,Tryz.ntmps115
  go_wp2;go_ret;refine⟨Ak ?_,Ad.alloc leR _⟩;simp[Cg,h3]
 have q:((g.prio.length:Int) !=g.owner.length)=false:=by simp;omega
 have u:((g.succ.length:Int) !=g.owner.length)=false:=by simp;omega
 have H2:=Ab h2;have H3:=Ab h3;clear h2 h3
 have hI:((g.owner.length:Int))<=3000:=by omega
 go_enter Tryz.func115,Tryz.ntmps115
 go_wp2
 go_loop [2,5,28] (fun r _ i=>∃k:Nat,i=.int .i64 k/\r=.bool false/\k<=g.succ.length/\(g.succ.take k).all (fun s=> !s.isEmpty)=true) (fun _ _ i=>g.succ.length-(intOf i).toNat)
 case atStart=>exact⟨0,rfl,rfl,by omega,by simp⟩
 case round=>
  obtain⟨k,rfl,rfl,hk,o⟩:=hrel;have HE:=Ab o;clear o
  by_cases hlt:k<g.succ.length
  ·obtain rfl:=g2.ad (by omega);have c2:=g2.el k hlt;obtain⟨⟨ao,aa,b,af,hv,g3⟩,_⟩:=hr k hlt;rw[hv]at c2;have hn:=g3.nb;clear hv hr g3;have cB:=Ag (Ad.alloc leR (Obj.cells #[Value.slice m g.owner.length c,Value.slice n g.prio.length d,Value.slice (some ⟨b2,v,none⟩) g.succ.length f] 65)) c2;rw[Ae _ _ _ hlt]at cB hn;go_wp2
   ·have h5:((g.succ[k].length:Int)==0)=true:=by assumption
    go_ret;refine⟨Ak ?_,Ad.alloc leR _⟩;have h3:=Bu g.succ (fun s=> !s.isEmpty) k hlt (by simp at h5⊢;exact h5);simp[Cg,h3]
   ·have h5:((g.succ[k].length:Int)==0)=false:=by assumption
    go_round
    case rel=>exact⟨k+1,by go_num,rfl,by omega,by rw[By _ _ _ hlt,HE.out];simp at h5⊢;exact h5⟩
    case measure=>simp[intOf];omega
  ·have h4:g.succ.all (fun s=> !s.isEmpty)=true:=by
    have h3:=HE.out
    rwa [List.take_of_length_le (by omega)]at h3
   have H4:=Ab h4;clear h4 HE;have j:Below w.heap.size w (w.alloc (Obj.cells #[Value.slice m g.owner.length c,Value.slice n g.prio.length d,Value.slice x g.succ.length f] 65)):=Ad.alloc leR _
   rcases Bool.eq_false_or_eq_true (D6 1 [g.owner])with hq1|hq1
   ·rcases Bool.eq_false_or_eq_true (D6 30000 [g.prio])with hq2|hq2
    ·go_wp2_with fail
     refine(EX _ _ _ _ (Ar.one _ _ (a.below j) (by simp))).mono ?_;rintro e w1 ⟨rfl,n1,rfl⟩
     go_wp2_with fail
     refine(EX _ _ _ _ (Ar.one _ _ (l.below (by repeat(first|exact Ad|assumption|apply AE|apply AB))) (by simp))).mono ?_;rintro e w2 ⟨rfl,n2,rfl⟩
     go_wp2_with fail
     refine(EX _ _ _ _ (p.below (by repeat(first|exact Ad|assumption|apply AE|apply AB)))).mono ?_;rintro e w3 ⟨rfl,n3,rfl⟩
     go_wp2_with fail
     go_ret;refine⟨Ak ?_,(by repeat(first|exact Ad|assumption|apply AE|apply AB))⟩;have h2:=H2.out;have h3:=H3.out;have h4:=H4.out;simp[D6]at hq1 hq2;simp only[Cg,h1,h2,h3,h4,hq1,hq2,D6];simp
    ·go_wp2_with fail
     refine(EX _ _ _ _ (Ar.one _ _ (a.below j) (by simp))).mono ?_;rintro e w1 ⟨rfl,n1,rfl⟩
     go_wp2_with fail
     refine(EX _ _ _ _ (Ar.one _ _ (l.below (by repeat(first|exact Ad|assumption|apply AE|apply AB))) (by simp))).mono ?_;rintro e w2 ⟨rfl,n2,rfl⟩
     go_wp2_with fail
     go_ret;refine⟨Ak ?_,(by repeat(first|exact Ad|assumption|apply AE|apply AB))⟩;simp[D6]at hq2;simp[Cg,hq2]
   ·go_wp2_with fail
    refine(EX _ _ _ _ (Ar.one _ _ (a.below j) (by simp))).mono ?_;rintro e w1 ⟨rfl,n1,rfl⟩
    go_wp2_with fail
    go_ret;refine⟨Ak ?_,(by repeat(first|exact Ad|assumption|apply AE|apply AB))⟩;simp[D6]at hq1;simp[Cg,hq1]
structure SY(g:Gm)(p:Int)(n:Nat):Prop where
 pl:p=0\/p=1
 le:n<=3000
 on:g.owner.length=n
 pn:g.prio.length=n
 sn:g.succ.length=n
 ow:∀i,i<n->0<=g.owner.getD i 0/\g.owner.getD i 0<=1
 ne:∀i,i<n->g.succ.getD i []≠[]
 rg:∀i,i<n->∀x∈g.succ.getD i [],0<=x/\x<n
theorem Es{g:Gm}(h:Cg g=true):g.owner.length<=3000/\g.prio.length=g.owner.length/\g.succ.length=g.owner.length:=by
 simp only[Cg,Bool.and_eq_true,decide_eq_true_eq]at h;exact⟨h.1.1.1.1.1.1,h.1.1.1.1.1.2,h.1.1.1.1.2⟩
structure AH(w wr:World)(cs:Array Value):Prop where
 bl:Below w.heap.size w wr
 bx:wr.heap[w.heap.size]? =some (.cells cs 65 (0,0))
theorem AH.start{w w1:World}{cs:Array Value}(hb:Below (w.alloc (.cells cs 65)).heap.size (w.alloc (.cells cs 65)) w1):AH w w1 cs:=
 ⟨Below.trans (Ao _) (hb.mono (by simp)),(hb.block _ (by simp)).trans (heap_alloc_new _ _)⟩
theorem AH.cell{w wr:World}{cs:Array Value}(h:AH w wr cs)(k:Nat){v:Value}(hv:cs[k]? =some v):wr.cell? ⟨w.heap.size,k,none⟩=some v:=
 (cell_of_row _ _ k _ _ _ h.bx).trans hv
theorem AH.lt{w wr:World}{cs:Array Value}(h:AH w wr cs):w.heap.size<wr.heap.size:=(Array.getElem?_eq_some_iff.1 h.bx).1
theorem AH.step{w wr w1:World}{cs:Array Value}(h:AH w wr cs)(hb:Below wr.heap.size wr w1):AH w w1 cs:=
 ⟨h.bl.trans (hb.mono h.bl.size),(hb.block _ h.lt).trans h.bx⟩
theorem AH.stepB{w wr w1:World}{cs:Array Value}(h:AH w wr cs)(hb:Below (w.heap.size+1) wr w1):AH w w1 cs:=
 ⟨h.bl.trans (hb.mono (by omega)),(hb.block _ (by omega)).trans h.bx⟩
theorem OB.row{w:World}{base:Nat}{v:Value}{l:List Bool}(h:OB w base v l)(hl:0<l.length):∃g a,v=.slice (some ⟨g,0,none⟩) l.length a/\base<=g/\g<w.heap.size:=by
 rcases h.2 with⟨_,h0⟩|⟨g,a,b,hv,hb,hg,_⟩
 ·omega
 ·exact⟨g,a,hv,hb,(ltE hg)⟩
theorem OB.slice{w:World}{base:Nat}{v:Value}{l:List Bool}(h:OB w base v l):∃ao a,v=.slice ao l.length a:=by
 rcases h.2 with⟨hv,h0⟩|⟨g,a,b,hv,hb,hg,_⟩
 ·exact⟨none,0,by rw[hv,h0]⟩
 ·exact⟨_,a,hv⟩
theorem OB.base{w:World}{base a:Nat}{v:Value}{l:List Bool}(h:OB w base v l)(hb:a<=base):OB w a v l:=by
 refine⟨h.1, ?_⟩
 rcases h.2 with h0|⟨g,b,c,hv,hg,r⟩
 ·exact .inl h0
 ·exact .inr ⟨g,b,c,hv,Nat.le_trans hb hg,r⟩
theorem OI.base{w:World}{base a:Nat}{v:Value}{l:List Int}(h:OI w base v l)(hb:a<=base):OI w a v l:=by
 refine⟨h.1, ?_⟩
 rcases h.2 with h0|⟨g,b,c,hv,hg,r⟩
 ·exact .inl h0
 ·exact .inr ⟨g,b,c,hv,Nat.le_trans hb hg,r⟩
theorem OB.grown{w w':World}{base:Nat}{v:Value}{l:List Bool}{row:Option Nat}(h:OB w base v l)(hg:w.grownBy w' row)(a:v.ownBlock=none\/v.ownBlock≠row):OB w' base v l:=World.ownsRow.kept h hg a
theorem OI.grown{w w':World}{base:Nat}{v:Value}{l:List Int}{row:Option Nat}(h:OI w base v l)(hg:w.grownBy w' row)(a:v.ownBlock=none\/v.ownBlock≠row):OI w' base v l:=World.ownsRow.kept h hg a
theorem AW{w w':World}(h:Below w.heap.size w w'):w.grownBy w' none:=⟨h.os,h.tape,h.output,h.size,fun k hk _=>h.block k hk⟩
theorem OB.below{w w':World}{base:Nat}{v:Value}{l:List Bool}(h:OB w base v l)(hb:Below w.heap.size w w'):OB w' base v l:=h.grown (AW hb) (by cases v.ownBlock<;>simp)
theorem OI.below{w w':World}{base:Nat}{v:Value}{l:List Int}(h:OI w base v l)(hb:Below w.heap.size w w'):OI w' base v l:=h.grown (AW hb) (by cases v.ownBlock<;>simp)
theorem Br(w:World)(base:Nat):OI w base (.slice none 0 0) []:=World.ownsRow_nil _ _ _ _
theorem OI.row{w:World}{base:Nat}{v:Value}{l:List Int}(h:OI w base v l)(hl:0<l.length):∃g a,v=.slice (some ⟨g,0,none⟩) l.length a/\base<=g/\g<w.heap.size:=by
 rcases h.2 with⟨_,h0⟩|⟨g,a,b,hv,hb,hg,_⟩
 ·omega
 ·exact⟨g,a,hv,hb,(ltE hg)⟩
theorem OI.slice{w:World}{base:Nat}{v:Value}{l:List Int}(h:OI w base v l):∃ao a,v=.slice ao l.length a:=by
 rcases h.2 with⟨hv,h0⟩|⟨g,a,b,hv,hb,hg,_⟩
 ·exact⟨none,0,by rw[hv,h0]⟩
 ·exact⟨_,a,hv⟩
def AR(v v':Value):Prop:=∀g,v.ownBlock=some g->v'.ownBlock=some g->False
theorem AR.symm{v v':Value}(h:AR v v'):AR v' v:=fun g h1 h2=>h g h2 h1
theorem AR.ne{v v':Value}(h:AR v v'):v.ownBlock=none\/v.ownBlock≠v'.ownBlock:=by
 cases hv:v.ownBlock with
 |none=>exact .inl rfl
 |some g=>exact .inr fun e=>h g hv e.symm
theorem AR.moved{w:World}{v u u':Value}(h:AR v u)(hm:AS w u u')(hl:∀g,v.ownBlock=some g->g<w.heap.size):AR v u':=fun g h1 h2=>by
 rcases hm g h2 with e|e
 ·exact h g h1 e
 ·have:=hl g h1;omega
theorem AR.of_lt{w:World}{v v':Value}(hl:∀g,v.ownBlock=some g->g<w.heap.size)(hg:∀g,v'.ownBlock=some g->w.heap.size<=g):AR v v':=fun g h1 h2=>by
 have:=hl g h1;have:=hg g h2;omega
theorem OB.lt'{w:World}{base:Nat}{v:Value}{l:List Bool}(h:OB w base v l):∀g,v.ownBlock=some g->g<w.heap.size:=fun g hg=>(World.ownsRow.lt h g hg).2
theorem OI.lt'{w:World}{base:Nat}{v:Value}{l:List Int}(h:OI w base v l):∀g,v.ownBlock=some g->g<w.heap.size:=fun g hg=>(World.ownsRow.lt h g hg).2
theorem OB.ge{w:World}{base:Nat}{v:Value}{l:List Bool}(h:OB w base v l):∀g,v.ownBlock=some g->base<=g:=fun g hg=>(World.ownsRow.lt h g hg).1
theorem OI.ge{w:World}{base:Nat}{v:Value}{l:List Int}(h:OI w base v l):∀g,v.ownBlock=some g->base<=g:=fun g hg=>(World.ownsRow.lt h g hg).1
theorem AH.grown{w wr w1:World}{cs:Array Value}{v:Value}(h:AH w wr cs)(hg:wr.grownBy w1 v.ownBlock)(hv:∀g,v.ownBlock=some g->w.heap.size+1<=g):AH w w1 cs:=
 h.stepB (Ad.grown hg h.lt hv)
structure Af(S:Nat->Prop)(w w':World):Prop where
 os:w'.os=w.os
 tape:w'.tape=w.tape
 output:w'.output=w.output
 size:w.heap.size<=w'.heap.size
 block:∀k,k<w.heap.size->¬S k->w'.heap[k]? =w.heap[k]?
theorem Af.refl(S:Nat->Prop)(w:World):Af S w w:=⟨rfl,rfl,rfl,Nat.le_refl _,fun _ _ _=>rfl⟩
theorem Af.trans{S:Nat->Prop}{a b c:World}(h:Af S a b)(k:Af S b c):Af S a c:=
 ⟨k.os.trans h.os,k.tape.trans h.tape,k.output.trans h.output,Nat.le_trans h.size k.size,fun i hi hs=>(k.block i (Nat.lt_of_lt_of_le hi h.size) hs).trans (h.block i hi hs)⟩
theorem Af.mono{S T:Nat->Prop}{a b:World}(h:Af S a b)(hs:∀k,k<a.heap.size->S k->T k):Af T a b:=
 ⟨h.os,h.tape,h.output,h.size,fun i hi ht=>h.block i hi (fun x=>ht (hs i hi x))⟩
theorem Af.of_grown{a b:World}{r:Option Nat}(h:a.grownBy b r):Af (fun k=>r=some k) a b:=⟨h.os,h.tape,h.output,h.size,fun i hi hs=>h.block i hi (fun e=>hs e.symm)⟩
theorem Af.below{S:Nat->Prop}{a b:World}(h:Af S a b)(B:Nat)(hB:∀k,S k->B<=k)(hs:B<=a.heap.size):Below B a b:=
 ⟨h.os,h.tape,h.output,h.size,fun k hk=>h.block k (by omega) (fun x=>by have:=hB k x;omega)⟩
theorem Af.grown{S:Nat->Prop}{a b:World}(h:Af S a b)(g:Nat)(c:g<a.heap.size)(hs:∀k,S k->k=g):a.grownBy b (some g):=
 ⟨h.os,h.tape,h.output,h.size,fun k hk hr=>h.block k hk (fun x=>hr (by rw[hs k x]))⟩
theorem OB.only{S:Nat->Prop}{w w':World}{base:Nat}{v:Value}{l:List Bool}(h:OB w base v l)(hg:Af S w w')(d:∀k,v.ownBlock=some k->¬S k):OB w' base v l:=by
 refine⟨h.1, ?_⟩
 rcases h.2 with hn|⟨g,b,c,rfl,hb,a,rest⟩
 ·exact .inl hn
 ·exact .inr ⟨g,b,c,rfl,hb,by rw[hg.block g (ltE a) (d g rfl)];exact a,rest⟩
theorem OI.only{S:Nat->Prop}{w w':World}{base:Nat}{v:Value}{l:List Int}(h:OI w base v l)(hg:Af S w w')(d:∀k,v.ownBlock=some k->¬S k):OI w' base v l:=by
 refine⟨h.1, ?_⟩
 rcases h.2 with hn|⟨g,b,c,rfl,hb,a,rest⟩
 ·exact .inl hn
 ·exact .inr ⟨g,b,c,rfl,hb,by rw[hg.block g (ltE a) (d g rfl)];exact a,rest⟩
def Mp(ga gi gm gl:Nat)(vq:Value)(k:Nat):Prop:=k=ga\/k=gi\/k=gm\/k=gl\/vq.ownBlock=some k
section
variable {w:World} {B n ga gi gm gl:Nat} {vq:Value} {inn:List Bool} {mv lf q:List Int}
theorem AK(w:World)(g j k:Nat)(u:Value)(h:k≠g):(w.setCell ⟨g,j,none⟩ u).heap[k]? =w.heap[k]? :=heap_setCell_other w ⟨g,j,none⟩ k u h
end
theorem Af.set{w:World}{S:Nat->Prop}(g j:Nat)(u:Value)(h:S g):Af S w (w.setCell ⟨g,j,none⟩ u):=
 (Af.of_grown (CK w g j u)).mono (fun k _ hk=>by cases hk;exact h)
theorem D9:(Tryz.prog.info? 26).map (fun i=>(i.zero,i.size,i.bytes))=some (some (.slice none 0 0),1,24):=by kernel_rfl
structure Rows(w:World)(B n ob:Nat)(vals:List Value)(rows:List (List Int)):Prop where
 o:w.ownsRow B 26 1 (.slice (some ⟨ob,0,none⟩) n n) n vals
 e:∀j,j<n->OI w B (vals.getD j undef) (rows.getD j [])
 a:∀i j,i<n->j<n->i≠j->AR (vals.getD i undef) (vals.getD j undef)
 ob':∀j,j<n->(vals.getD j undef).ownBlock≠some ob
 lv:vals.length=n
 lr:rows.length=n
theorem Am(w:World)(o:Obj)(k:Nat):(w.alloc o).heap[k]? =if k=w.heap.size then some o else w.heap[k]? :=by
 show(w.heap.push o)[k]? =_;rw[Array.getElem?_push]
theorem CH(w:World):w.drew.heap=w.heap:=rfl
theorem Rows.row{w:World}{B n ob:Nat}{vals:List Value}{a:List (List Int)}(h:Rows w B n ob vals a):B<=ob/\ob<w.heap.size:=World.ownsRow.lt h.o ob rfl
theorem Rows.cell{w:World}{B n ob:Nat}{vals:List Value}{a:List (List Int)}(h:Rows w B n ob vals a){j:Nat}(hj:j<n):w.cell? ⟨ob,j,none⟩=some (vals.getD j undef):=by
 rw[World.ownsRow.cellAt h.o j (by omega),List.getD]
 have:j<vals.length:=by rw[h.lv];exact hj
 simp[this]
theorem Rows.fz{w:World}{B n ob:Nat}{vals:List Value}{a:List (List Int)}(h:Rows w B n ob vals a)(j:Nat):w.frozen? ⟨ob,j,none⟩=false:=World.ownsRow.frozenAt h.o j
theorem Ax{S:Nat->Prop}{w w':World}{base e a n:Nat}{v:Value}{l:List Value}(h:w.ownsRow base e a v n l)(hg:Af S w w')(f:∀k,v.ownBlock=some k->¬S k):w'.ownsRow base e a v n l:=by
 refine⟨h.1, ?_⟩
 rcases h.2 with hn|⟨g,c,d,rfl,hb,b,rest⟩
 ·exact .inl hn
 ·exact .inr ⟨g,c,d,rfl,hb,by rw[hg.block g (ltE b) (f g rfl)];exact b,rest⟩
theorem Rows.only{S:Nat->Prop}{w w':World}{B n ob:Nat}{vals:List Value}{a:List (List Int)}(h:Rows w B n ob vals a)(hg:Af S w w')(ho:¬S ob)(hv:∀j,j<n->∀b,(vals.getD j undef).ownBlock=some b->¬S b):Rows w' B n ob vals a:=
 {h with
  o:=Ax h.o hg (fun k hk=>by cases hk;exact ho)
  e:=fun j hj=>(h.e j hj).only hg (hv j hj)}
section
variable {w w':World} {B n ga gi gm gl ob:Nat} {vq vq':Value} {vals:List Value} {inn inn':List Bool} {mv lf q mv' lf' q':List Int} {bf:List (List Int)}
theorem Mp.moved(hm:AS w vq vq'){b:Nat}(hb:b<w.heap.size)(hn:¬Mp ga gi gm gl vq b):¬Mp ga gi gm gl vq' b:=by
 rintro(e|e|e|e|e)
 ·exact hn (.inl e)
 ·exact hn (.inr (.inl e))
 ·exact hn (.inr (.inr (.inl e)))
 ·exact hn (.inr (.inr (.inr (.inl e))))
 ·rcases hm b e with e|e
  ·exact hn (.inr (.inr (.inr (.inr e))))
  ·omega
theorem AS.refl(w:World)(v:Value):AS w v v:=fun _ h=>.inl h
theorem AA{α:Type}(l:List α)(i:Nat)(a d:α)(h:i<l.length):(l.set i a).getD i d=a:=by simp[List.getD,h]
theorem AJ{α:Type}(l:List α)(i j:Nat)(a d:α)(h:i≠j):(l.set i a).getD j d=l.getD j d:=by simp[List.getD,List.getElem?_set_ne h]
end
theorem AH.only{S:Nat->Prop}{w wr w1:World}{cs:Array Value}(h:AH w wr cs)(ho:Af S wr w1)(hS:∀k,S k->w.heap.size+1<=k):AH w w1 cs:=h.stepB (ho.below _ hS h.lt)
structure Att where
 inn:List Bool
 mv:List Int
 lf:List Int
 q:List Int
structure Pk(n N:Nat)(st:Att):Prop where
 li:st.inn.length=n
 lm:st.mv.length=n
 ll:st.lf.length=n
 qc:st.q.length=st.inn.count true
 qr:∀x∈st.q,0<=x/\x<n
 mr:∀i,-(N:Int)<=st.mv.getD i 0/\st.mv.getD i 0<=N
 lr:∀i,-(N:Int)<=st.lf.getD i 0/\st.lf.getD i 0<=N
theorem Pk.mono{n N M:Nat}{st:Att}(h:Pk n N st)(hM:N<=M):Pk n M st:=
 {h with
  mr:=fun i=>by have:=h.mr i;omega
  lr:=fun i=>by have:=h.lr i;omega}
section
variable (g:Gm) (p:Int) (t:List Bool)
def Att.at(st:Att)(x:Int):Int:=st.mv.getD x.toNat 0
end
theorem SY.other{g:Gm}{p:Int}{n:Nat}(F:SY g p n):SY g (1-p) n:={F with pl:=by have:=F.pl;omega}
def Sep(l:List Value):Prop:=l.Pairwise AR
theorem Eg{v u:Value}(h:v.ownBlock=none):AR v u:=fun g hg=>by rw[h]at hg;cases hg
theorem Sep.get{l:List Value}(h:Sep l){i j:Nat}(d:i≠j){u v:Value}(hi:l[i]? =some u)(hj:l[j]? =some v):AR u v:=by
 obtain⟨a,rfl⟩:=List.getElem?_eq_some_iff.1 hi;obtain⟨b,rfl⟩:=List.getElem?_eq_some_iff.1 hj;have h2:=List.pairwise_iff_getElem.1 h
 rcases Nat.lt_or_ge i j with hlt|c
 ·exact h2 i j a b hlt
 ·exact(h2 j i b a (by omega)).symm
theorem Sep.set{l:List Value}(h:Sep l){w:World}{i:Nat}{v v':Value}(hi:l[i]? =some v)(hm:AS w v v')(hlt:∀u∈l,∀g,u.ownBlock=some g->g<w.heap.size):Sep (l.set i v'):=by
 refine List.pairwise_iff_getElem.2 fun a b ha hb hab=> ?_
 rw[List.length_set]at ha hb;rw[List.getElem_set,List.getElem_set]
 have c:∀a(ha:a<l.length),l[a]? =some l[a]:=fun a ha=>by simp
 split
 ·rename_i e;subst e;rw[if_neg (by omega)];exact((h.get (by omega) (c b hb) hi).moved hm (hlt _ (List.getElem_mem hb))).symm
 ·split
  ·rename_i e;subst e;exact(h.get (by omega) (c a ha) hi).moved hm (hlt _ (List.getElem_mem ha))
  ·exact h.get (by omega) (c a ha) (c b hb)
theorem Sep.cons{l:List Value}(h:Sep l){w:World}{v:Value}(hv:∀g,v.ownBlock=some g->w.heap.size<=g)(hlt:∀u∈l,∀g,u.ownBlock=some g->g<w.heap.size):Sep (v::l):=
 List.pairwise_cons.2 ⟨fun u hu=>(AR.of_lt (hlt u hu) hv).symm,h⟩
theorem Sep.perm{l l':List Value}(h:Sep l)(hp:l.Perm l'):Sep l':=(hp.pairwise_iff (fun h=>AR.symm h)).1 h
def Az(z:Nat):Value:=.slice (some ⟨z,0,none⟩) 0 0
structure GB(w:World)(B z:Nat)(v0 v1 v2:Value)(vals:List Value)(gm:Gm)(others:List Value):Prop where
 box:w.heap[z]? =some (.cells #[v0,v1,v2] 65 (0,0))
 zB:B<=z
 o:OI w B v0 gm.owner
 p:OI w B v1 gm.prio
 r:w.ownsRow B 26 1 v2 gm.succ.length vals
 e:∀j,j<gm.succ.length->OI w B (vals.getD j undef) (gm.succ.getD j [])
 sep:Sep (Az z::v0::v1::v2::(vals++others))
 lt:∀u∈others,∀g,u.ownBlock=some g->g<w.heap.size
section
variable {w w':World} {B z:Nat} {v0 v1 v2:Value} {vals others:List Value} {gm:Gm}
theorem GB.vl(h:GB w B z v0 v1 v2 vals gm others):vals.length=gm.succ.length:=by have:=h.r.1;simpa using this
theorem GB.lts(h:GB w B z v0 v1 v2 vals gm others):∀u∈Az z::v0::v1::v2::(vals++others),∀g,u.ownBlock=some g->g<w.heap.size:=by
 intro u hu g hg;simp only[List.mem_cons,List.mem_append]at hu
 rcases hu with rfl|rfl|rfl|rfl|hu|hu
 ·cases hg;exact(Array.getElem?_eq_some_iff.1 h.box).1
 ·exact h.o.lt' g hg
 ·exact h.p.lt' g hg
 ·exact(World.ownsRow.lt h.r g hg).2
 ·obtain⟨j,hj,rfl⟩:=List.getElem_of_mem hu;have:=(h.e j (by rw[<-h.vl];exact hj)).lt' g;rw[Ae _ _ _ hj]at this;exact this hg
 ·exact h.lt u hu g hg
theorem GB.valAt(h:GB w B z v0 v1 v2 vals gm others){j:Nat}(hj:j<gm.succ.length):(Az z::v0::v1::v2::(vals++others))[j+4]? =some (vals.getD j undef):=by
 have hl:j<vals.length:=by rw[h.vl];exact hj
 simp only[List.getElem?_cons_succ];rw[List.getElem?_append_left hl,Ae _ _ _ hl];simp[hl]
theorem GB.otherAt(h:GB w B z v0 v1 v2 vals gm others){i:Nat}{u:Value}(hi:others[i]? =some u):(Az z::v0::v1::v2::(vals++others))[gm.succ.length+i+4]? =some u:=by
 simp only[List.getElem?_cons_succ];rw[List.getElem?_append_right (by rw[h.vl];omega),h.vl,Nat.add_sub_cancel_left];exact hi
theorem Cp{w:World}{base e a n g j:Nat}{v u:Value}{xs:List Value}(h:w.ownsRow base e a v n xs)(b:v.ownBlock≠some g):(w.setCell ⟨g,j,none⟩ u).ownsRow base e a v n xs:=
 Ax (S:=fun k=>k=g) h ((Af.of_grown (CK w g j u)).mono (fun k _ hk=>by cases hk;rfl)) (fun k hk e=>b (by rw[hk,e]))
theorem Dh{v:Value}{z:Nat}(h:AR (Az z) v):v.ownBlock≠some z:=fun e=>h z rfl e
theorem OI.grownA{w w':World}{base:Nat}{v u:Value}{l:List Int}(h:OI w base v l)(hg:w.grownBy w' u.ownBlock)(ha:AR v u):OI w' base v l:=OI.grown h hg ha.ne
theorem OB.grownA{w w':World}{base:Nat}{v u:Value}{l:List Bool}(h:OB w base v l)(hg:w.grownBy w' u.ownBlock)(ha:AR v u):OB w' base v l:=OB.grown h hg ha.ne
theorem GB.other(h:GB w B z v0 v1 v2 vals gm others){i:Nat}{u u':Value}(hi:others[i]? =some u)(hg:w.grownBy w' u.ownBlock)(hm:AS w u u')(hu:∀g,u'.ownBlock=some g->g<w'.heap.size):GB w' B z v0 v1 v2 vals gm (others.set i u'):=by
 have hA:∀{k:Nat}{x:Value},k<4+gm.succ.length->(Az z::v0::v1::v2::(vals++others))[k]? =some x->AR x u:=fun{k x}hk hx=>h.sep.get (by omega) hx (h.otherAt hi)
 have b:AR (Az z) u:=hA (k:=0) (by omega) rfl;refine {box:= ?_,zB:=h.zB,o:=h.o.grownA hg (hA (k:=1) (by omega) rfl),p:=h.p.grownA hg (hA (k:=2) (by omega) rfl),r:= ?_,e:= ?_,sep:= ?_,lt:= ?_}
 ·rw[hg.block z (Array.getElem?_eq_some_iff.1 h.box).1 (fun e=>b z rfl e.symm)];exact h.box
 ·exact World.ownsRow.kept h.r hg (hA (k:=3) (by omega) rfl).ne
 ·intro j hj;exact(h.e j hj).grownA hg (hA (k:=j+4) (by omega) (h.valAt hj))
 ·have:=h.sep.set (h.otherAt hi) hm h.lts
  have e:(Az z::v0::v1::v2::(vals++others)).set (gm.succ.length+i+4) u'=Az z::v0::v1::v2::(vals++others.set i u'):=by
   simp only[List.set_cons_succ];rw[List.set_append_right _ _ (by rw[h.vl];omega),h.vl,Nat.add_sub_cancel_left]
  rwa [e]at this
 ·intro x hx g a
  rcases List.mem_or_eq_of_mem_set hx with hx|rfl
  ·exact Nat.lt_of_lt_of_le (h.lt x hx g a) hg.size
  ·exact hu g a
theorem GB.below(h:GB w B z v0 v1 v2 vals gm others)(hb:Below w.heap.size w w'):GB w' B z v0 v1 v2 vals gm others:=
 {box:=by rw[hb.block z (Array.getElem?_eq_some_iff.1 h.box).1];exact h.box
  zB:=h.zB
  o:=h.o.below hb
  p:=h.p.below hb
  r:=World.ownsRow.kept h.r (AW hb) (by cases v2.ownBlock<;>simp)
  e:=fun j hj=>(h.e j hj).below hb
  sep:=h.sep
  lt:=fun u hu g hg=>Nat.lt_of_lt_of_le (h.lt u hu g hg) hb.size}
theorem GB.add(h:GB w B z v0 v1 v2 vals gm others){u:Value}(hu:u.ownBlock=none):GB w B z v0 v1 v2 vals gm (u::others):=
 {h with
  sep:=by
   have:Sep (u::(Az z::v0::v1::v2::(vals++others))):=List.pairwise_cons.2 ⟨fun x _=>Eg hu,h.sep⟩;exact this.perm (List.perm_middle (l₁:=Az z::v0::v1::v2::vals) (a:=u) (l₂:=others)).symm
  lt:=fun x hx g hg=>by
   rcases List.mem_cons.1 hx with rfl|hx
   ·rw[hu]at hg;cases hg
   ·exact h.lt x hx g hg}
theorem GB.apart(h:GB w B z v0 v1 v2 vals gm others){i j:Nat}(a:i≠j){u v:Value}(hi:others[i]? =some u)(hj:others[j]? =some v):AR u v:=
 h.sep.get (by omega) (h.otherAt hi) (h.otherAt hj)
theorem GB.start{B:Nat}{others:List Value}{w:World}(hB:B<=w.heap.size)(hs:Sep others)(hl:∀u∈others,∀g,u.ownBlock=some g->g<w.heap.size):
  GB (w.alloc (.cells #[.slice none 0 0,.slice none 0 0,.slice none 0 0] 65)) B w.heap.size (.slice none 0 0) (.slice none 0 0) (.slice none 0 0) [] ⟨[],[],[]⟩ others:=
 {box:=heap_alloc_new _ _
  zB:=hB
  o:=Br _ _
  p:=Br _ _
  r:=World.ownsRow_nil _ _ _ _
  e:=fun j hj=>absurd hj (by simp)
  sep:=by
   refine Sep.cons (w:=w) (l:=.slice none 0 0::.slice none 0 0::.slice none 0 0::([]++others)) ?_ (fun g hg=>by cases hg;exact Nat.le_refl _) ?_
   ·exact List.pairwise_cons.2 ⟨fun x _=>Eg rfl,List.pairwise_cons.2 ⟨fun x _=>Eg rfl,List.pairwise_cons.2 ⟨fun x _=>Eg rfl,hs⟩⟩⟩
   ·intro u hu g hg;simp only[List.mem_cons,List.nil_append]at hu
    rcases hu with rfl|rfl|rfl|hu
    ·cases hg
    ·cases hg
    ·cases hg
    ·exact hl u hu g hg
  lt:=fun u hu g hg=>by have:=hl u hu g hg;simp;omega}
structure Rq(B:Nat)(others:List Value)(w w':World):Prop where
 bl:Below B w w'
 oi:∀u∈others,∀b l,OI w b u l->OI w' b u l
theorem GB.atO(h:GB w B z v0 v1 v2 vals gm others){k:Nat}{x:Value}(hk:k≠1)(hx:(Az z::v0::v1::v2::(vals++others))[k]? =some x):AR x v0:=h.sep.get hk hx rfl
theorem GB.atP(h:GB w B z v0 v1 v2 vals gm others){k:Nat}{x:Value}(hk:k≠2)(hx:(Az z::v0::v1::v2::(vals++others))[k]? =some x):AR x v1:=h.sep.get hk hx rfl
theorem GB.atR(h:GB w B z v0 v1 v2 vals gm others){k:Nat}{x:Value}(hk:k≠3)(hx:(Az z::v0::v1::v2::(vals++others))[k]? =some x):AR x v2:=h.sep.get hk hx rfl
theorem GB.atZ(h:GB w B z v0 v1 v2 vals gm others){k:Nat}{x:Value}(hk:k≠0)(hx:(Az z::v0::v1::v2::(vals++others))[k]? =some x):x.ownBlock≠some z:=Dh (h.sep.get (Ne.symm hk) rfl hx)
theorem GB.zlt(h:GB w B z v0 v1 v2 vals gm others):z<w.heap.size:=(Array.getElem?_eq_some_iff.1 h.box).1
theorem OI.setNe{w:World}{base g j:Nat}{v u:Value}{l:List Int}(h:OI w base v l)(a:v.ownBlock≠some g):OI (w.setCell ⟨g,j,none⟩ u) base v l:=Cp h a
theorem KG{w w':World}{B z j:Nat}{v x:Value}{others:List Value}(hg:w.grownBy w' v.ownBlock)(a:∀k,v.ownBlock=some k->B<=k)(b:B<=z)(hB:B<=w.heap.size)
  (ho:∀u∈others,AR u v/\u.ownBlock≠some z):Rq B others w (w'.setCell ⟨z,j,none⟩ x) where
 bl:=((Af.of_grown hg).below B (fun k hk=>a k hk) hB).setCell b _
 oi:=fun u hu _ _ h=>OI.setNe (h.grownA hg (ho u hu).1) (ho u hu).2
theorem GB.stepO(h:GB w B z v0 v1 v2 vals gm others){a:Value}{x:Int}(ho:OI w' B a (gm.owner++[x]))(hg:w.grownBy w' v0.ownBlock)(hm:AS w v0 a)(hB:B<=w.heap.size):
  w'.heap[z]? =some (.cells #[v0,v1,v2] 65 (0,0))/\GB (w'.setCell ⟨z,0,none⟩ a) B z a v1 v2 vals ⟨gm.owner++[x],gm.prio,gm.succ⟩ others/\Rq B others w (w'.setCell ⟨z,0,none⟩ a):=by
 have f:v0.ownBlock≠some z:=h.atZ (k:=1) (by omega) rfl
 have b:w'.heap[z]? =some (.cells #[v0,v1,v2] 65 (0,0)):=by rw[hg.block z h.zlt (Ne.symm f)];exact h.box
 have d:∀u∈others,AR u v0/\u.ownBlock≠some z:=fun u hu=>by
  obtain⟨i,hi,rfl⟩:=List.getElem_of_mem hu;have e:=h.otherAt (i:=i) (u:=others[i]) (by simp[hi]);exact⟨h.atO (by omega) e,h.atZ (by omega) e⟩
 have c:Sep (Az z::a::v1::v2::(vals++others)):=h.sep.set (i:=1) rfl hm h.lts;refine⟨b,{box:=heap_setCell_same w' z 0 _ _ a b,zB:=h.zB,o:= ?_,p:= ?_,r:= ?_,e:= ?_,sep:=c,lt:= ?_},KG hg h.o.ge h.zB hB d⟩
 ·exact ho.setNe (Dh (c.get (i:=0) (j:=1) (by omega) rfl rfl))
 ·exact(h.p.grownA hg (h.atO (k:=2) (by omega) rfl)).setNe (h.atZ (k:=2) (by omega) rfl)
 ·exact Cp (World.ownsRow.kept h.r hg (h.atO (k:=3) (by omega) rfl).ne) (h.atZ (k:=3) (by omega) rfl)
 ·intro j hj;exact((h.e j hj).grownA hg (h.atO (by omega) (h.valAt hj))).setNe (h.atZ (by omega) (h.valAt hj))
 ·intro u hu g l;have:=h.lt u hu g l;simp only[World.size_setCell];exact Nat.lt_of_lt_of_le this hg.size
theorem GB.stepP(h:GB w B z v0 v1 v2 vals gm others){a:Value}{x:Int}(ho:OI w' B a (gm.prio++[x]))(hg:w.grownBy w' v1.ownBlock)(hm:AS w v1 a)(hB:B<=w.heap.size):
  w'.heap[z]? =some (.cells #[v0,v1,v2] 65 (0,0))/\GB (w'.setCell ⟨z,1,none⟩ a) B z v0 a v2 vals ⟨gm.owner,gm.prio++[x],gm.succ⟩ others/\Rq B others w (w'.setCell ⟨z,1,none⟩ a):=by
 have f:v1.ownBlock≠some z:=h.atZ (k:=2) (by omega) rfl
 have b:w'.heap[z]? =some (.cells #[v0,v1,v2] 65 (0,0)):=by rw[hg.block z h.zlt (Ne.symm f)];exact h.box
 have d:∀u∈others,AR u v1/\u.ownBlock≠some z:=fun u hu=>by
  obtain⟨i,hi,rfl⟩:=List.getElem_of_mem hu;have e:=h.otherAt (i:=i) (u:=others[i]) (by simp[hi]);exact⟨h.atP (by omega) e,h.atZ (by omega) e⟩
 have c:Sep (Az z::v0::a::v2::(vals++others)):=h.sep.set (i:=2) rfl hm h.lts;refine⟨b,{box:=heap_setCell_same w' z 1 _ _ a b,zB:=h.zB,o:= ?_,p:= ?_,r:= ?_,e:= ?_,sep:=c,lt:= ?_},KG hg h.p.ge h.zB hB d⟩
 ·exact(h.o.grownA hg (h.atP (k:=1) (by omega) rfl)).setNe (h.atZ (k:=1) (by omega) rfl)
 ·exact ho.setNe (Dh (c.get (i:=0) (j:=2) (by omega) rfl rfl))
 ·exact Cp (World.ownsRow.kept h.r hg (h.atP (k:=3) (by omega) rfl).ne) (h.atZ (k:=3) (by omega) rfl)
 ·intro j hj;exact((h.e j hj).grownA hg (h.atP (by omega) (h.valAt hj))).setNe (h.atZ (by omega) (h.valAt hj))
 ·intro u hu g l;have:=h.lt u hu g l;simp only[World.size_setCell];exact Nat.lt_of_lt_of_le this hg.size
theorem GB.stepR{vS:Value}{row:List Int}(h:GB w B z v0 v1 v2 vals gm (vS::others))(hS:OI w B vS row){a:Value}(ho:w'.ownsRow B 26 1 a (gm.succ.length+1) (vals++[vS]))(hg:w.grownBy w' v2.ownBlock)(hm:AS w v2 a)(hB:B<=w.heap.size):
  w'.heap[z]? =some (.cells #[v0,v1,v2] 65 (0,0))/\GB (w'.setCell ⟨z,2,none⟩ a) B z v0 v1 a (vals++[vS]) ⟨gm.owner,gm.prio,gm.succ++[row]⟩ others/\Rq B others w (w'.setCell ⟨z,2,none⟩ a):=by
 have l:v2.ownBlock≠some z:=h.atZ (k:=3) (by omega) rfl
 have b:w'.heap[z]? =some (.cells #[v0,v1,v2] 65 (0,0)):=by rw[hg.block z h.zlt (Ne.symm l)];exact h.box
 have d:∀i u,(vS::others)[i]? =some u->AR u v2/\u.ownBlock≠some z:=fun i u hi=>⟨h.atR (by omega) (h.otherAt hi),h.atZ (by omega) (h.otherAt hi)⟩
 have f:∀u∈others,AR u v2/\u.ownBlock≠some z:=fun u hu=>by
  obtain⟨i,hi,rfl⟩:=List.getElem_of_mem hu;exact d (i+1) _ (by simp[hi])
 have c:Sep (Az z::v0::v1::a::(vals++vS::others)):=h.sep.set (i:=3) rfl hm h.lts;have n:=h.vl;refine⟨b,{box:=heap_setCell_same w' z 2 _ _ a b,zB:=h.zB,o:= ?_,p:= ?_,r:= ?_,e:= ?_,sep:=by simpa using c,lt:= ?_},KG hg (fun k hk=>(World.ownsRow.lt h.r k hk).1) h.zB hB f⟩
 ·exact(h.o.grownA hg (h.atR (k:=1) (by omega) rfl)).setNe (h.atZ (k:=1) (by omega) rfl)
 ·exact(h.p.grownA hg (h.atR (k:=2) (by omega) rfl)).setNe (h.atZ (k:=2) (by omega) rfl)
 ·simp only[List.length_append,List.length_singleton];exact Cp ho (Dh (c.get (i:=0) (j:=3) (by omega) rfl rfl))
 ·intro j hj;simp only[List.length_append,List.length_singleton]at hj
  by_cases e:j<gm.succ.length
  ·rw[show(vals++[vS]).getD j undef=vals.getD j undef from by simp[List.getD,List.getElem?_append_left (show j<vals.length by omega)],
    show(gm.succ++[row]).getD j []=gm.succ.getD j []from by simp[List.getD,List.getElem?_append_left e]]
   exact((h.e j e).grownA hg (h.atR (by omega) (h.valAt e))).setNe (h.atZ (by omega) (h.valAt e))
  ·obtain rfl:j=gm.succ.length:=by omega
   rw[show(vals++[vS]).getD gm.succ.length undef=vS from by simp[List.getD,<-n],
    show(gm.succ++[row]).getD gm.succ.length []=row from by simp[List.getD]]
   have:=d 0 vS rfl;exact(hS.grownA hg this.1).setNe this.2
 ·intro u hu g m;have:=h.lt u (List.mem_cons_of_mem _ hu) g m;simp only[World.size_setCell];exact Nat.lt_of_lt_of_le this hg.size
theorem GB.setFar(h:GB w B z v0 v1 v2 vals gm others){n j:Nat}{u:Value}(hn:n<B):GB (w.setCell ⟨n,j,none⟩ u) B z v0 v1 v2 vals gm others:=
 {box:=by rw[AK _ _ _ _ _ (by have:=h.zB;omega)];exact h.box
  zB:=h.zB
  o:=h.o.setNe (fun e=>by have:=h.o.ge _ e;omega)
  p:=h.p.setNe (fun e=>by have:=h.p.ge _ e;omega)
  r:=Cp h.r (fun e=>by have:=(World.ownsRow.lt h.r _ e).1;omega)
  e:=fun j hj=>(h.e j hj).setNe (fun e=>by have:=(h.e j hj).ge _ e;omega)
  sep:=h.sep
  lt:=fun u hu g hg=>by have:=h.lt u hu g hg;rw[World.size_setCell];exact this}
theorem OI.setFar{w:World}{B n j:Nat}{v u:Value}{l:List Int}(h:OI w B v l)(hn:n<B):OI (w.setCell ⟨n,j,none⟩ u) B v l:=h.setNe (fun e=>by have:=h.ge _ e;omega)
theorem GB.is(h:GB w B z v0 v1 v2 vals gm others)(h0:gm.owner.length<=Bg/\∀x∈gm.owner,I64 x)(h1:gm.prio.length<=Bg/\∀x∈gm.prio,I64 x)(h2:gm.succ.length<=Bg)(h3:∀j,j<gm.succ.length->(gm.succ.getD j []).length<=Bg/\∀x∈gm.succ.getD j [],I64 x):
  Cx w (.agg #[v0,v1,v2]) gm:=by
 refine⟨_,_,_,rfl,h.o.is h0.1 h0.2,h.p.is h1.1 h1.2,fun j=>vals.getD j undef,Ct h.r h2 _ (fun j hj=> ?_),fun j hj=>(h.e j hj).is (h3 j hj).1 (h3 j hj).2⟩
 have:j<vals.length:=by rw[h.vl];exact hj
 rw[Ae _ _ _ this];simp[this]
end
theorem AG{w:World}{b e sz n:Nat}{v:Value}{l:List Value}(h:w.ownsRow b e sz v n l):∃ao a,v=.slice ao n a:=by
 rcases h.2 with⟨hv,h0⟩|⟨g,a,c,hv,hb,hg,_⟩
 ·exact⟨none,0,by rw[hv,h0]⟩
 ·exact⟨_,a,hv⟩
theorem GE{o:Oper}{a:Act}{K:Act->World->Prop}{Q:Exit->Act->World->Prop}(w:World)(s x:Operand)(b:Int)
  (ho:o.op=.call {callee:=.builtin .append,args:=#[s,x],argTypes:=#[26,26]})
  (base:Nat) (v:Value) (l:List Int) (hs:a.eval s=v) (c:OI w base v l) (hx:a.eval x=.slice (some ⟨w.heap.size,0,none⟩) 1 1)
  (hn:l.length<17592186043904) (d:base<=w.heap.size)
  (h:∀v' w',OI w' base v' (l++[b])->w.grownBy w' v.ownBlock->AS w v v'->K (a.put o.dst v') w'):
  Oper.wp Tryz.prog o a (w.alloc (.cells #[.int .i64 b] 3)).drew K Q:=by
 obtain⟨i0,f,i,j,m⟩:=info_parts Dt;refine wp_append_lies _ s x _ ho base _ i0 _ 1 8 Tryz.underlying26 f i j m rfl (by decide) v l.length _ hs ((World.ownsRow.alloc c _).drew) ⟨w.heap.size,0,none⟩ 1 1 [.int .i64 b] hx rfl (World.news_of_block (cs:=#[.int .i64 b]) (t:=3) (fr:=(0,0)) (heap_alloc_new w _)) (by simp[Value.oneCell']) (by omega) (by simp only[maxLen];omega) (by omega) (by simp;omega) (w.heap.size+1) (by simp) ?_;intro g n w' h1 h2 h3 h4;refine h _ _ (by unfold OI;simpa using h1) ⟨h2.os,h2.tape,h2.output,by have:=h2.size;rw[CH]at this;simp at this;omega,fun k hk hr=> ?_⟩ (fun k hk=> ?_)
 ·rw[h2.block k (by rw[CH];simp;omega) hr];exact Dm w _ hk
 ·obtain rfl:g=k:=by simpa[Value.ownBlock]using hk
  rcases h3 with e|e
  ·exact .inl e
  ·exact .inr (by omega)
structure Fr(w wr:World)(cs:Array Value):Prop where
 bx:AH w wr cs
 rc:wr.heap[w.heap.size+1]? =some (.cells #[.slice none 0 0,.slice none 0 0,.slice none 0 0] 65 (0,0))
theorem Fr.lt{w wr:World}{cs:Array Value}(h:Fr w wr cs):w.heap.size+2<=wr.heap.size:=(Array.getElem?_eq_some_iff.1 h.rc).1
theorem Fr.step{w wr w':World}{cs:Array Value}(h:Fr w wr cs)(hb:Below (w.heap.size+2) wr w'):Fr w w' cs:=
 ⟨h.bx.stepB (hb.mono (by omega)),(hb.block _ (by omega)).trans h.rc⟩
theorem FU{wr:World}{n:Nat}{t:TypeId}{x y z a b c:Value}(h:wr.heap[n]? =some (.cells #[x,y,z] t (0,0))):(((wr.setCell ⟨n,0,none⟩ a).setCell ⟨n,1,none⟩ b).setCell ⟨n,2,none⟩ c).heap[n]? =some (.cells #[a,b,c] t (0,0)):=
 heap_setCell_same _ n 2 _ _ c (heap_setCell_same _ n 1 _ _ b (heap_setCell_same _ n 0 _ _ a h))
theorem Li{w wr:World}{n:Nat}{a b c:Value}(h:Below w.heap.size w wr)(hn:w.heap.size<=n):Below w.heap.size w (((wr.setCell ⟨n,0,none⟩ a).setCell ⟨n,1,none⟩ b).setCell ⟨n,2,none⟩ c):=
 ((h.setCell hn _).setCell hn _).setCell hn _
theorem Fy(w:World):Ah w (.slice none 0 0) []:=⟨⟨none,0,0,0,rfl,Nat.le_refl _,Nat.zero_le _,Nat.zero_le _,fun _=>rfl,(fun h=>absurd h (by simp)),fun j hj=>absurd hj (by simp)⟩,by simp⟩
theorem Q1(w:World):Ar w (.slice none 0 0) []:=⟨fun _=>undef,⟨none,0,0,0,rfl,Nat.le_refl _,Nat.zero_le _,Nat.zero_le _,fun _=>rfl,(fun h=>absurd h (by simp)),fun j hj=>absurd hj (by simp)⟩,fun j hj=>absurd hj (by simp)⟩
end Go.Proofs.YtncjeamdkjcebaaGreatDoor
