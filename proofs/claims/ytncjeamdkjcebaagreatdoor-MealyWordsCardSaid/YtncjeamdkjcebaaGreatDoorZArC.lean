/- Games: the two Valid, Small, Greatest, Part, Swap; rows of one's own. -/
import Derived.Laws.AppendOwnNone
import Derived.Laws.EntriesVeiled
import Derived.Deep.OwnRows
import Derived.RegionTactic
import Derived.BigRegion
import Derived.Deep.RegionHeld3
import Derived.Deep.AppendLies
import Derived.Deep.RegionLaw
import Derived.Test.YtncjeamdkjcebaaGreatDoorZBase
set_option linter.all false
namespace Go.Proofs.YtncjeamdkjcebaaGreatDoor
open Go.RowKit
open Go Go.RowKit
theorem En{P:Program}(w:World)(base:Nat)(t ty e:TypeId)(i:TypeInfo)(z:Value)(size bytes:Nat)(ht:P.underlying t=some (.slice e))(hi:P.info? e=some i)(hz:i.zero=some z)
  (hsize:i.size=size) (hby:i.bytes=bytes) (v:Value) (n:Nat) (xs:List Value) (hown:w.ownsRow base e size v n xs)
  (a:Addr) (m c:Nat) (news:List Value) (hl:news.length=m*size) (hnews:∀j u,news[j]? =some u->w.cell? (a.add j)=some u) (h1:∀u∈news,u.oneCell'=true)
  (h63:n+m<=maxLen) (hbytes:(n+m)*bytes<=140737488355328) (v':Value) (w':World)
  (hr:(Builtin.append_ #[t,t] ty #[v,.slice (some a) m c]).run P w=.ok v' w'):∀g,v'.ownBlock=some g->v.ownBlock=some g\/g=w.heap.size:=by
 subst hsize
 subst hby
 have hsmall:n+m<=9223372036854775807:=by simp only[maxLen]at h63;omega
 intro g hg'
 rcases hown.2 with⟨rfl,rfl⟩|⟨g0,cap,cur,rfl,hbg,hg,hnc,hcm,hcs,htake⟩
 ·have hx:xs=[]:=List.eq_nil_of_length_eq_zero (by simpa using hown.1);subst hx
  by_cases hm:m=0
  ·subst hm;have hn:news=[]:=List.eq_nil_of_length_eq_zero (by simpa using hl);subst hn
   have hr':(Builtin.append_ #[t,t] ty #[.slice none 0 0,.slice (some a) 0 c]).run P w=.ok (.slice none 0 0) w:=by
    simp[Builtin.append_,run_underlying ht,sizeOf,typeInfo,hi,Builtin.lenOf,Builtin.firstCells,loadCells,loadCellsFrom]
   rw[hr']at hr
   cases hr
   exact .inl hg'
  ·have hr':=run_append_nil (P:=P) w t ty e i z ht hi hz a m c news hl hnews (by omega) (by omega) (by have hb:=hbytes;simp only[Nat.zero_add]at hb;omega);rw[hr']at hr
   cases hr
   simp[Value.ownBlock]at hg';exact .inr hg'.symm
 ·by_cases hroom:n+m<=cap
  ·have hfit:n*i.size+news.length<=cur.size:=by rw[hl,hcs,<-Nat.add_mul];exact Nat.mul_le_mul_right _ hroom
   have hr':=run_append_room (P:=P) w t ty e i ht hi g0 n cap cur hg a m c news hl hnews h1 hroom hfit;rw[hr']at hr
   cases hr
   simp[Value.ownBlock]at hg'⊢;exact .inl hg'
  ·have holds:∀j u,xs[j]? =some u->w.cell? ((⟨g0,0,none⟩:Addr).add j)=some u:=hown.cells (g:=g0) rfl;have hr':=run_append_grow (P:=P) w t ty e i z ht hi hz ⟨g0,0,none⟩ n cap xs hown.1 holds a m c news hl hnews (by omega) (by omega) (growslice_fits (by omega) hbytes);rw[hr']at hr
   cases hr
   simp[Value.ownBlock]at hg'⊢;exact .inr hg'.symm
def A7(w:World)(v v':Value):Prop:=∀g,v'.ownBlock=some g->v.ownBlock=some g\/w.heap.size<=g
theorem F8{P:Program}{ops:Array Oper}{rest:List Oper}{o:Oper}{a:Act}{Q:Exit->Act->World->Prop}{w:World}(hgd:o.guard=none)(s x:Operand)(t e:TypeId)(size bytes:Nat)(z:Value)
  (ho:o.op=.call {callee:=.builtin .append,args:=#[s,x],argTypes:=#[t,t]})
  (ht:P.underlying t=some (.slice e)) (hinfo:(P.info? e).map (fun i=>(i.zero,i.size,i.bytes))=some (some z,size,bytes)) (hzs:z.cells.size=size) (hsz:0<size)
  (base:Nat) (v:Value) (n:Nat) (xs:List Value) (hs:a.eval s=v) (hown:w.ownsRow base e size v n xs)
  (ad:Addr) (m c:Nat) (news:List Value) (hx:a.eval x=.slice (some ad) m c) (hl:news.length=m*size) (hnews:∀j u,news[j]? =some u->w.cell? (ad.add j)=some u) (h1:∀u∈news,u.oneCell'=true)
  (h63:n+m<=maxLen) (hbytes:(n+m)*bytes<=140737488355328) (hbase:base<=w.heap.size)
  (h:∀v' w',w'.ownsRow base e size v' (n+m) (xs++news)->w.grownBy w' v.ownBlock->(v'=.slice none 0 0↔v=.slice none 0 0/\m=0)->A7 w v v'->wpList P ops Q rest (a.put o.dst v') w'):
  wpList P ops Q (o::rest) a w:=by
 refine wpList_plain hgd fun K hK=> ?_
 obtain⟨i,hi,hz0,hz1,hz2⟩:=info_parts hinfo;obtain⟨v',w',hr,h2,h3,h4⟩:=run_append_own (P:=P) w base t o.type e i z size bytes ht hi hz0 hz1 hz2 hzs hsz v n xs hown ad m c news hl hnews h1 h63 hbytes hbase;have h5:=En (P:=P) w base t o.type e i z size bytes ht hi hz0 hz1 hz2 v n xs hown ad m c news hl hnews h1 h63 hbytes v' w' hr;unfold Oper.wp execOp;simp only[ho,resolve,invoke,builtin,Sem.run_bind,Sem.run_pure,Result.andThen_ok,List.map_toArray,List.map_cons,List.map_nil,hs,hx,hr];exact hK _ _ (h v' w' h2 h3 h4 (fun g hg=>(h5 g hg).imp id (fun e=>by omega)))
theorem Hj{P:Program}{ops:Array Oper}{rest:List Oper}{o:Oper}{a:Act}{Q:Exit->Act->World->Prop}{w:World}(hgd:o.guard=none)(s x:Operand)(t e:TypeId)(bytes:Nat)(z u:Value)
  (ho:o.op=.call {callee:=.builtin .append,args:=#[s,x],argTypes:=#[t,t]})
  (ht:P.underlying t=some (.slice e)) (hinfo:(P.info? e).map (fun i=>(i.zero,i.size,i.bytes))=some (some z,1,bytes)) (hzs:z.cells.size=1)
  (base:Nat) (v:Value) (n:Nat) (xs:List Value) (hs:a.eval s=v) (hown:w.ownsRow base e 1 v n xs)
  (m:Nat) (hm:m=w.heap.size) (hx:a.eval x=.slice (some ⟨m,0,none⟩) 1 1) (hu:u.oneCell'=true)
  (hbytes:(n+1)*bytes<=140737488355328) (hb0:0<bytes) (hbase:base<=w.heap.size)
  (h:∀v' w',w'.ownsRow base e 1 v' (n+1) (xs++[u])->w.grownBy w' v.ownBlock->A7 w v v'->wpList P ops Q rest (a.put o.dst v') w'):
  wpList P ops Q (o::rest) a (w.alloc (.cells #[u] e)):=by
 subst hm;have hn:n+1<=140737488355328:=Nat.le_trans (Nat.le_mul_of_pos_right _ hb0) hbytes;refine F8 hgd s x t e 1 bytes z ho ht hinfo hzs (by decide) base v n xs hs (hown.alloc _) ⟨w.heap.size,0,none⟩ 1 1 [u] hx rfl (cell_one_new _ _ _) (by simpa using hu) (by simp only[maxLen];omega) hbytes (by simp;omega) ?_;intro v' w' h1 h2 _ h4;refine h v' w' h1 ⟨h2.os,h2.tape,h2.output,by have:=h2.size;simp at this;omega,fun k hk hr=> ?_⟩ (fun g hg=> ?_)
 ·rw[h2.block k (by simp;omega) hr];exact Dt w _ hk
 ·rcases h4 g hg with e|e
  ·exact .inl e
  ·refine .inr ?_;simp at e;omega
theorem Ch{w:World}{base:Nat}{e:TypeId}{v:Value}{n:Nat}{xs:List Value}(h:w.ownsRow base e 1 v n xs)(hn:n<=Bk)(f:Nat->Value)(hf:∀j,j<n->xs[j]? =some (f j)):DK w v n f:=by
 rcases h.2 with⟨rfl,rfl⟩|⟨g,cap,cur,rfl,hb,hg,hnc,hcm,hcs,htake⟩
 ·exact⟨none,0,0,0,rfl,Nat.le_refl _,Nat.zero_le _,hn,(fun _=>rfl),(fun h=>absurd h (by omega)),fun j hj=>absurd hj (by omega)⟩
 ·refine⟨some ⟨g,0,none⟩,cap,g,0,rfl,hnc,hcm,hn,(fun h=>by cases h),fun _=>rfl,fun j hj=> ?_⟩;rw[Nat.zero_add,World.ownsRow.cellAt h j (by omega),hf j hj]
def OB(w:World)(base:Nat)(v:Value)(l:List Bool):Prop:=w.ownsRow base 4 1 v l.length (l.map Value.bool)
def OI(w:World)(base:Nat)(v:Value)(l:List Int):Prop:=w.ownsRow base 3 1 v l.length (l.map (Value.int .i64))
theorem OB.is{w:World}{base:Nat}{v:Value}{l:List Bool}(h:OB w base v l)(hn:l.length<=Bk):Bj w v l:=
 Ch h hn _ fun j hj=>by simp[bvF,hj]
theorem OI.is{w:World}{base:Nat}{v:Value}{l:List Int}(h:OI w base v l)(hn:l.length<=Bk)(hi:∀x∈l,I64 x):Ai w v l:=
 ⟨Ch h hn _ fun j hj=>by simp[ivF,hj],hi⟩
theorem Of:(Tryz.prog.info? 4).map (fun i=>(i.zero,i.size,i.bytes))=some (some (.bool false),1,1):=by kernel_rfl
theorem C5:(Tryz.prog.info? 3).map (fun i=>(i.zero,i.size,i.bytes))=some (some (.int .i64 0),1,8):=by kernel_rfl
theorem DZ{ops:Array Oper}{rest:List Oper}{o:Oper}{a:Act}{Q:Exit->Act->World->Prop}{w:World}(hgd:o.guard=none)(s x:Operand)(b:Int)
  (ho:o.op=.call {callee:=.builtin .append,args:=#[s,x],argTypes:=#[26,26]})
  (base:Nat) (v:Value) (l:List Int) (hown:OI w base v l) (hs:a.eval s=v) (m:Nat) (hm:m=w.heap.size) (hx:a.eval x=.slice (some ⟨m,0,none⟩) 1 1)
  (hn:l.length<17592186043904) (hbase:base<=w.heap.size)
  (h:∀v' w',OI w' base v' (l++[b])->w.grownBy w' v.ownBlock->A7 w v v'->wpList Tryz.prog ops Q rest (a.put o.dst v') w'):
  wpList Tryz.prog ops Q (o::rest) a (w.alloc (.cells #[.int .i64 b] 3)):=by
 refine Hj hgd s x _ _ 8 _ _ ho Tryz.underlying26 C5 rfl base v l.length _ hs hown m hm hx rfl (by omega) (by decide) hbase fun v' w' h1 h2 h3=>h v' w' ?_ h2 h3
 unfold OI;simpa using h1
theorem Ga{P:Program}{ops:Array Oper}{rest:List Oper}{o:Oper}{a:Act}{Q:Exit->Act->World->Prop}{w:World}(hgd:o.guard=none)(l c:Operand)(t e:TypeId)(bytes:Nat)(z:Value)
  (ho:o.op=Op.makeSlice t l c) (ht:P.underlying t=some (.slice e)) (hinfo:(P.info? e).map (fun i=>(i.zero,i.size,i.bytes))=some (some z,1,bytes)) (hz:z.cells=#[z])
  (base:Nat) (L:Int) (n:Nat) (hl:a.eval l=.int .i64 L) (hc:a.eval c=.int .i64 L) (hL:L=(n:Int)) (hb:bytes*n<=281474976710656) (hn:n<=140737488355328) (hbase:base<=w.heap.size)
  (h:∀w',w'.ownsRow base e 1 (.slice (some ⟨w.heap.size,0,none⟩) n n) n (List.replicate n z)->w.grownBy w' none->wpList P ops Q rest (a.put o.dst (.slice (some ⟨w.heap.size,0,none⟩) n n)) w'):
  wpList P ops Q (o::rest) a w:=by
 obtain⟨i,hi,hz0,hz1,hz2⟩:=info_parts hinfo
 refine wpList_make_full w hgd l c t ho base e i z 1 ht hi hz0 hz1 .i64 .i64 L L n hl hc hL hL (by rw[hz2];exact hb) (by simp only[maxLen];omega) hbase fun w' h1 h2=>h w' ?_ h2
 rw[hz,Nat.mul_one,toList_madeCells_one]at h1;exact h1
theorem FY{ops:Array Oper}{rest:List Oper}{o:Oper}{a:Act}{Q:Exit->Act->World->Prop}{w:World}(hgd:o.guard=none)(l c:Operand)(t:TypeId)(ht:Tryz.prog.underlying t=some (.slice 3))
  (ho:o.op=Op.makeSlice t l c) (base:Nat) (L:Int) (n:Nat) (hl:a.eval l=.int .i64 L) (hc:a.eval c=.int .i64 L) (hL:L=(n:Int)) (hn:n<=17592186044416) (hbase:base<=w.heap.size)
  (h:∀w',OI w' base (.slice (some ⟨w.heap.size,0,none⟩) n n) (List.replicate n 0)->w.grownBy w' none->wpList Tryz.prog ops Q rest (a.put o.dst (.slice (some ⟨w.heap.size,0,none⟩) n n)) w'):
  wpList Tryz.prog ops Q (o::rest) a w:=by
 refine Ga hgd l c t _ 8 _ ho ht C5 rfl base L n hl hc hL (by omega) (by omega) hbase fun w' h1 h2=>h w' ?_ h2
 unfold OI;simpa using h1
theorem OB.at'{w:World}{base g n cap:Nat}{l:List Bool}(h:OB w base (.slice (some ⟨g,0,none⟩) n cap) l)(hn:n=l.length)(j:Nat)(hj:j<l.length):w.cell? ⟨g,j,none⟩=some (.bool l[j]):=by
 subst hn;rw[World.ownsRow.cellAt h j (by omega)];simp[hj]
theorem OI.at'{w:World}{base g n cap:Nat}{l:List Int}(h:OI w base (.slice (some ⟨g,0,none⟩) n cap) l)(hn:n=l.length)(j:Nat)(hj:j<l.length):w.cell? ⟨g,j,none⟩=some (.int .i64 l[j]):=by
 subst hn;rw[World.ownsRow.cellAt h j (by omega)];simp[hj]
theorem OB.fz{w:World}{base g n cap:Nat}{l:List Bool}(h:OB w base (.slice (some ⟨g,0,none⟩) n cap) l)(hn:n=l.length)(j:Nat):w.frozen? ⟨g,j,none⟩=false:=by
 subst hn;exact World.ownsRow.frozenAt h j
theorem OI.fz{w:World}{base g n cap:Nat}{l:List Int}(h:OI w base (.slice (some ⟨g,0,none⟩) n cap) l)(hn:n=l.length)(j:Nat):w.frozen? ⟨g,j,none⟩=false:=by
 subst hn;exact World.ownsRow.frozenAt h j
theorem OB.set{w:World}{base g n cap:Nat}{l:List Bool}(h:OB w base (.slice (some ⟨g,0,none⟩) n cap) l)(hn:n=l.length)(j:Nat)(b:Bool):
  OB (w.setCell ⟨g,j,none⟩ (.bool b)) base (.slice (some ⟨g,0,none⟩) n cap) (l.set j b):=by
 subst hn;have:=(World.ownsRow.stored h j (.bool b)).1;unfold OB;simpa using this
theorem OI.set{w:World}{base g n cap:Nat}{l:List Int}(h:OI w base (.slice (some ⟨g,0,none⟩) n cap) l)(hn:n=l.length)(j:Nat)(b:Int):
  OI (w.setCell ⟨g,j,none⟩ (.int .i64 b)) base (.slice (some ⟨g,0,none⟩) n cap) (l.set j b):=by
 subst hn;have:=(World.ownsRow.stored h j (.int .i64 b)).1;unfold OI;simpa using this
theorem CC(w:World)(g j:Nat)(u:Value):w.grownBy (w.setCell ⟨g,j,none⟩ u) (some g):=
 ⟨rfl,rfl,rfl,by simp,fun k _ hk=>heap_setCell_other w ⟨g,j,none⟩ k u (fun e=>hk (by simp[e]))⟩
theorem FV(w:World)(r:Option Nat):w.grownBy w r:=⟨rfl,rfl,rfl,Nat.le_refl _,fun _ _ _=>rfl⟩
theorem L5{P:Program}{ops:Array Oper}{rest:List Oper}{o:Oper}{a:Act}{Q:Exit->Act->World->Prop}{w:World}(hgd:o.guard=none)(s x:Operand)(t e:TypeId)(bytes:Nat)(z:Value)
  (ho:o.op=.call {callee:=.builtin .append,args:=#[s,x],argTypes:=#[t,t]})
  (ht:P.underlying t=some (.slice e)) (hinfo:(P.info? e).map (fun i=>(i.zero,i.size,i.bytes))=some (some z,1,bytes)) (hzs:z.cells.size=1)
  (base:Nat) (v:Value) (n:Nat) (xs:List Value) (hs:a.eval s=v) (hown:w.ownsRow base e 1 v n xs)
  (ao:Option Addr) (cap b off m:Nat) (f:Nat->Value) (hx:a.eval x=.slice ao m cap) (hsrc:I8 w ao cap b off m f) (h1:∀j,(f j).oneCell'=true)
  (hbytes:(n+m)*bytes<=140737488355328) (hb0:0<bytes) (hbase:base<=w.heap.size)
  (h:∀v' w',w'.ownsRow base e 1 v' (n+m) (xs++(List.range m).map f)->w.grownBy w' v.ownBlock->A7 w v v'->wpList P ops Q rest (a.put o.dst v') w'):
  wpList P ops Q (o::rest) a w:=by
 have hn:n+m<=140737488355328:=Nat.le_trans (Nat.le_mul_of_pos_right _ hb0) hbytes
 cases ao with
 |none=>
  have hm0:m=0:=by rcases Nat.eq_zero_or_pos m with h0|h0;exact h0;have:=hsrc.ad h0;cases this
  subst hm0;obtain rfl:=hsrc.nc rfl;obtain⟨i,hi,hz0,hz1,hz2⟩:=info_parts hinfo;refine wpList_append_own_none hgd s x t ho base e i 1 ht hi v n xs hs hown hx ?_;exact h v w (by simpa using hown) (FV _ _) (fun g hg=>.inl hg)
 |some ad=>
  refine F8 hgd s x t e 1 bytes z ho ht hinfo hzs (by decide) base v n xs hs hown ad m cap ((List.range m).map f) hx (by simp) ?_ ?_ (by simp only[maxLen];omega) hbytes hbase ?_
  ·intro j u hj
   have hjm:j<m:=by
    rcases Nat.lt_or_ge j m with h|h
    ·exact h
    ·simp[Nat.not_lt.2 h]at hj
   have hadd:=hsrc.ad (by omega);simp only[Option.some.injEq]at hadd;subst hadd
   have:f j=u:=by simpa[hjm]using hj
   subst this;have h2:=hsrc.el j hjm;unfold Addr.add
   split
   ·subst j;exact h2
   ·exact h2
  ·intro u hu;obtain⟨j,_,rfl⟩:=List.mem_map.1 hu;exact h1 j
  ·intro v' w' h2 h3 _ h5;exact h v' w' h2 h3 h5
theorem Es(w:World)(v:Value)(ll:List (List Int))(most:Int)(h:Ar w v ll):
  Calls Tryz.prog 128 #[.int .i64 most,v] w (DL (.bool (DB most ll)) w):=by
 obtain⟨V,⟨ao,cap,b,off,rfl,h⟩,hr⟩:=h;have hn:=h.nb
 go_enter Tryz.func128,Tryz.ntmps128
 go_wp2
 go_loop [4,6,8,11,15,16,17] (fun r _ _ i _ _ _=>∃k:Nat,i=.int .i64 k/\r=.bool false/\k<=ll.length/\(ll.take k).all (inB most)=true) (fun _ _ _ i _ _ _=>ll.length-(intOf i).toNat)
 case atStart=>exact⟨0,rfl,rfl,by omega,by simp⟩
 case round=>
  obtain⟨k,rfl,rfl,hk,heq⟩:=hrel;have HE:=Ab heq;clear heq
  by_cases hlt:k<ll.length
  ·obtain rfl:=h.ad (by omega);have c2:=h.el k hlt;obtain⟨⟨ao1,cap1,b1,off1,hv,h1⟩,_⟩:=hr k hlt;rw[hv]at c2;clear hv hr;rw[Af _ _ _ hlt]at c2 h1;have hn1:=h1.nb;go_wp2
   go_loop [4,8,17] (fun r _ i=>∃j:Nat,i=.int .i64 j/\r=.bool false/\j<=ll[k].length/\inB most (ll[k].take j)=true) (fun _ _ i=>ll[k].length-(intOf i).toNat)
   case atStart=>exact⟨0,rfl,rfl,by omega,by simp[inB]⟩
   case round=>
    obtain⟨j,rfl,rfl,hj,heq1⟩:=hrel;have HE1:=Ab heq1;clear heq1
    by_cases hltj:j<ll[k].length
    ·obtain rfl:=h1.ad (by omega);have c3:=h1.el j hltj;unfold ivF at c3;go_wp2
     ·have h2:ll[k][j]<0\/most<ll[k][j]:=by assumption
      go_ret;refine⟨Ak (Eq.symm (Bn _ _ k hlt (Bn _ _ j hltj ?_))),0,rfl⟩;simp;omega
     ·have h2:0<=ll[k][j]/\ll[k][j]<=most:=by assumption
      go_round
      case rel=>exact⟨j+1,by go_num,rfl,by omega,by have:=HE1.out;unfold inB at this⊢;rw[Br _ _ _ hltj,this];simp;omega⟩
      case measure=>simp[intOf];omega
     ·have h2:ll[k][j]<0:=by assumption
      go_ret;refine⟨Ak (Eq.symm (Bn _ _ k hlt (Bn _ _ j hltj ?_))),0,rfl⟩;simp;omega
    ·go_wp2
     go_round
     case rel=>exact⟨k+1,by go_num,rfl,by omega,by have h3:=HE1.out;rw[List.take_of_length_le (by omega)]at h3;rw[Br _ _ _ hlt,HE.out,h3];rfl⟩
     case measure=>simp[intOf];omega
  ·go_wp2;go_ret;refine⟨Ak ?_,0,rfl⟩;have h3:=HE.out;rw[List.take_of_length_le (by omega)]at h3;exact h3.symm
theorem Ar.one{w:World}{v:Value}{l:List Int}(m:Nat)(e:TypeId)(h:Ai w v l)(hm:m=w.heap.size):Ar (w.alloc (.cells #[v] e)) (.slice (some ⟨m,0,none⟩) 1 1) [l]:=by
 subst hm;have hb:=(Below.refl w.heap.size w).alloc leR (Obj.cells #[v] e);refine⟨fun _=>v,⟨_,_,w.heap.size,0,rfl,Nat.le_refl _,by simp[maxLen],by simp[Bk],(fun h=>by cases h),fun _=>rfl, ?_⟩, ?_⟩
 ·intro j hj
  obtain rfl:j=0:=by simpa using hj
  exact cell_one_new _ _ _ 0 v rfl
 ·intro j hj
  obtain rfl:j=0:=by simpa using hj
  exact h.below hb
theorem OT(w:World)(vg:Value)(g:Gm)(hg:Cn w vg g):
  Calls Tryz.prog 115 #[vg] w (Av (.bool (B9 g)) w):=by
 obtain⟨v0,v1,v2,rfl,hi0,hi1,hi2⟩:=hg;obtain⟨⟨ao0,cap0,b0,off0,rfl,g0⟩,_⟩:=id hi0;obtain⟨⟨ao1,cap1,b1,off1,rfl,g1⟩,_⟩:=id hi1;obtain⟨V,⟨ao2,cap2,b2,off2,rfl,g2⟩,hr⟩:=id hi2;have hn0:=g0.nb;have hn1:=g1.nb;have hn2:=g2.nb
 by_cases h1:g.owner.length<=3000
 case neg=>
  go_enter Tryz.func115,Tryz.ntmps115
  go_wp2;go_ret;refine⟨Ak ?_,Ad.alloc leR _⟩;simp[B9,h1]
 by_cases h2:g.prio.length=g.owner.length
 case neg=>
  have hne:((g.prio.length:Int) !=g.owner.length)=true:=by simp;omega
  go_enter Tryz.func115,Tryz.ntmps115
  go_wp2;go_ret;refine⟨Ak ?_,Ad.alloc leR _⟩;simp[B9,h2]
 by_cases h3:g.succ.length=g.owner.length
 case neg=>
  have hne:((g.prio.length:Int) !=g.owner.length)=false:=by simp;omega
  have hne2:((g.succ.length:Int) !=g.owner.length)=true:=by simp;omega
  have H2:=Ab h2;clear h2
  go_enter Tryz.func115,Tryz.ntmps115
  go_wp2;go_ret;refine⟨Ak ?_,Ad.alloc leR _⟩;simp[B9,h3]
 have hne:((g.prio.length:Int) !=g.owner.length)=false:=by simp;omega
 have hne2:((g.succ.length:Int) !=g.owner.length)=false:=by simp;omega
 have H2:=Ab h2;have H3:=Ab h3;clear h2 h3
 have hI:((g.owner.length:Int))<=3000:=by omega
 go_enter Tryz.func115,Tryz.ntmps115
 go_wp2
 go_loop [2,5,28] (fun r _ i=>∃k:Nat,i=.int .i64 k/\r=.bool false/\k<=g.succ.length/\(g.succ.take k).all (fun s=> !s.isEmpty)=true) (fun _ _ i=>g.succ.length-(intOf i).toNat)
 case atStart=>exact⟨0,rfl,rfl,by omega,by simp⟩
 case round=>
  obtain⟨k,rfl,rfl,hk,heq⟩:=hrel;have HE:=Ab heq;clear heq
  by_cases hlt:k<g.succ.length
  ·obtain rfl:=g2.ad (by omega);have c2:=g2.el k hlt;obtain⟨⟨ao,cap,b,off,hv,g3⟩,_⟩:=hr k hlt;rw[hv]at c2;have hn:=g3.nb;clear hv hr g3;have cB:=Ah (Ad.alloc leR (Obj.cells #[Value.slice ao0 g.owner.length cap0,Value.slice ao1 g.prio.length cap1,Value.slice (some ⟨b2,off2,none⟩) g.succ.length cap2] 65)) c2;rw[Af _ _ _ hlt]at cB hn;go_wp2
   ·have h5:((g.succ[k].length:Int)==0)=true:=by assumption
    go_ret;refine⟨Ak ?_,Ad.alloc leR _⟩;have h3:=Bn g.succ (fun s=> !s.isEmpty) k hlt (by simp at h5⊢;exact h5);simp[B9,h3]
   ·have h5:((g.succ[k].length:Int)==0)=false:=by assumption
    go_round
    case rel=>exact⟨k+1,by go_num,rfl,by omega,by rw[Br _ _ _ hlt,HE.out];simp at h5⊢;exact h5⟩
    case measure=>simp[intOf];omega
  ·have h4:g.succ.all (fun s=> !s.isEmpty)=true:=by
    have h3:=HE.out
    rwa [List.take_of_length_le (by omega)]at h3
   have H4:=Ab h4;clear h4 HE;have hBx:Below w.heap.size w (w.alloc (Obj.cells #[Value.slice ao0 g.owner.length cap0,Value.slice ao1 g.prio.length cap1,Value.slice ao2 g.succ.length cap2] 65)):=Ad.alloc leR _
   rcases Bool.eq_false_or_eq_true (DB 1 [g.owner])with hq1|hq1
   ·rcases Bool.eq_false_or_eq_true (DB 30000 [g.prio])with hq2|hq2
    ·go_wp2_with fail
     refine(Es _ _ _ _ (Ar.one _ _ (hi0.below hBx) (by simp))).mono ?_;rintro e w1 ⟨rfl,n1,rfl⟩
     go_wp2_with fail
     refine(Es _ _ _ _ (Ar.one _ _ (hi1.below (by repeat(first|exact Ad|assumption|apply AD|apply AE))) (by simp))).mono ?_;rintro e w2 ⟨rfl,n2,rfl⟩
     go_wp2_with fail
     refine(Es _ _ _ _ (hi2.below (by repeat(first|exact Ad|assumption|apply AD|apply AE)))).mono ?_;rintro e w3 ⟨rfl,n3,rfl⟩
     go_wp2_with fail
     go_ret;refine⟨Ak ?_,(by repeat(first|exact Ad|assumption|apply AD|apply AE))⟩;have h2:=H2.out;have h3:=H3.out;have h4:=H4.out;simp[DB]at hq1 hq2;simp only[B9,h1,h2,h3,h4,hq1,hq2,DB];simp
    ·go_wp2_with fail
     refine(Es _ _ _ _ (Ar.one _ _ (hi0.below hBx) (by simp))).mono ?_;rintro e w1 ⟨rfl,n1,rfl⟩
     go_wp2_with fail
     refine(Es _ _ _ _ (Ar.one _ _ (hi1.below (by repeat(first|exact Ad|assumption|apply AD|apply AE))) (by simp))).mono ?_;rintro e w2 ⟨rfl,n2,rfl⟩
     go_wp2_with fail
     go_ret;refine⟨Ak ?_,(by repeat(first|exact Ad|assumption|apply AD|apply AE))⟩;simp[DB]at hq2;simp[B9,hq2]
   ·go_wp2_with fail
    refine(Es _ _ _ _ (Ar.one _ _ (hi0.below hBx) (by simp))).mono ?_;rintro e w1 ⟨rfl,n1,rfl⟩
    go_wp2_with fail
    go_ret;refine⟨Ak ?_,(by repeat(first|exact Ad|assumption|apply AD|apply AE))⟩;simp[DB]at hq1;simp[B9,hq1]
structure Sm(g:Gm)(p:Int)(n:Nat):Prop where
 pl:p=0\/p=1
 le:n<=3000
 on:g.owner.length=n
 pn:g.prio.length=n
 sn:g.succ.length=n
 ow:∀i,i<n->0<=g.owner.getD i 0/\g.owner.getD i 0<=1
 ne:∀i,i<n->g.succ.getD i []≠[]
 rg:∀i,i<n->∀x∈g.succ.getD i [],0<=x/\x<n
theorem DV{g:Gm}(h:B9 g=true):g.owner.length<=3000/\g.prio.length=g.owner.length/\g.succ.length=g.owner.length:=by
 simp only[B9,Bool.and_eq_true,decide_eq_true_eq]at h;exact⟨h.1.1.1.1.1.1,h.1.1.1.1.1.2,h.1.1.1.1.2⟩
structure AI(w wr:World)(cs:Array Value):Prop where
 bl:Below w.heap.size w wr
 bx:wr.heap[w.heap.size]? =some (.cells cs 65 (0,0))
theorem AI.start{w w1:World}{cs:Array Value}(hb:Below (w.alloc (.cells cs 65)).heap.size (w.alloc (.cells cs 65)) w1):AI w w1 cs:=
 ⟨Below.trans (Ao _) (hb.mono (by simp)),(hb.block _ (by simp)).trans (heap_alloc_new _ _)⟩
theorem AI.cell{w wr:World}{cs:Array Value}(h:AI w wr cs)(k:Nat){v:Value}(hv:cs[k]? =some v):wr.cell? ⟨w.heap.size,k,none⟩=some v:=
 (cell_of_row _ _ k _ _ _ h.bx).trans hv
theorem AI.lt{w wr:World}{cs:Array Value}(h:AI w wr cs):w.heap.size<wr.heap.size:=(Array.getElem?_eq_some_iff.1 h.bx).1
theorem AI.step{w wr w1:World}{cs:Array Value}(h:AI w wr cs)(hb:Below wr.heap.size wr w1):AI w w1 cs:=
 ⟨h.bl.trans (hb.mono h.bl.size),(hb.block _ h.lt).trans h.bx⟩
theorem AI.stepB{w wr w1:World}{cs:Array Value}(h:AI w wr cs)(hb:Below (w.heap.size+1) wr w1):AI w w1 cs:=
 ⟨h.bl.trans (hb.mono (by omega)),(hb.block _ (by omega)).trans h.bx⟩
theorem OB.row{w:World}{base:Nat}{v:Value}{l:List Bool}(h:OB w base v l)(hl:0<l.length):∃g cap,v=.slice (some ⟨g,0,none⟩) l.length cap/\base<=g/\g<w.heap.size:=by
 rcases h.2 with⟨_,h0⟩|⟨g,cap,cur,hv,hb,hg,_⟩
 ·omega
 ·exact⟨g,cap,hv,hb,(ltE hg)⟩
theorem OB.slice{w:World}{base:Nat}{v:Value}{l:List Bool}(h:OB w base v l):∃ao cap,v=.slice ao l.length cap:=by
 rcases h.2 with⟨hv,h0⟩|⟨g,cap,cur,hv,hb,hg,_⟩
 ·exact⟨none,0,by rw[hv,h0]⟩
 ·exact⟨_,cap,hv⟩
theorem OB.base{w:World}{base base':Nat}{v:Value}{l:List Bool}(h:OB w base v l)(hb:base'<=base):OB w base' v l:=by
 refine⟨h.1, ?_⟩
 rcases h.2 with h0|⟨g,cap,cur,hv,hg,r⟩
 ·exact .inl h0
 ·exact .inr ⟨g,cap,cur,hv,Nat.le_trans hb hg,r⟩
theorem OI.base{w:World}{base base':Nat}{v:Value}{l:List Int}(h:OI w base v l)(hb:base'<=base):OI w base' v l:=by
 refine⟨h.1, ?_⟩
 rcases h.2 with h0|⟨g,cap,cur,hv,hg,r⟩
 ·exact .inl h0
 ·exact .inr ⟨g,cap,cur,hv,Nat.le_trans hb hg,r⟩
theorem OB.grown{w w':World}{base:Nat}{v:Value}{l:List Bool}{row:Option Nat}(h:OB w base v l)(hg:w.grownBy w' row)(hne:v.ownBlock=none\/v.ownBlock≠row):OB w' base v l:=World.ownsRow.kept h hg hne
theorem OI.grown{w w':World}{base:Nat}{v:Value}{l:List Int}{row:Option Nat}(h:OI w base v l)(hg:w.grownBy w' row)(hne:v.ownBlock=none\/v.ownBlock≠row):OI w' base v l:=World.ownsRow.kept h hg hne
theorem AV{w w':World}(h:Below w.heap.size w w'):w.grownBy w' none:=⟨h.os,h.tape,h.output,h.size,fun k hk _=>h.block k hk⟩
theorem OB.below{w w':World}{base:Nat}{v:Value}{l:List Bool}(h:OB w base v l)(hb:Below w.heap.size w w'):OB w' base v l:=h.grown (AV hb) (by cases v.ownBlock<;>simp)
theorem OI.below{w w':World}{base:Nat}{v:Value}{l:List Int}(h:OI w base v l)(hb:Below w.heap.size w w'):OI w' base v l:=h.grown (AV hb) (by cases v.ownBlock<;>simp)
theorem BC(w:World)(base:Nat):OI w base (.slice none 0 0) []:=World.ownsRow_nil _ _ _ _
theorem OI.row{w:World}{base:Nat}{v:Value}{l:List Int}(h:OI w base v l)(hl:0<l.length):∃g cap,v=.slice (some ⟨g,0,none⟩) l.length cap/\base<=g/\g<w.heap.size:=by
 rcases h.2 with⟨_,h0⟩|⟨g,cap,cur,hv,hb,hg,_⟩
 ·omega
 ·exact⟨g,cap,hv,hb,(ltE hg)⟩
theorem OI.slice{w:World}{base:Nat}{v:Value}{l:List Int}(h:OI w base v l):∃ao cap,v=.slice ao l.length cap:=by
 rcases h.2 with⟨hv,h0⟩|⟨g,cap,cur,hv,hb,hg,_⟩
 ·exact⟨none,0,by rw[hv,h0]⟩
 ·exact⟨_,cap,hv⟩
def AQ(v v':Value):Prop:=∀g,v.ownBlock=some g->v'.ownBlock=some g->False
theorem AQ.symm{v v':Value}(h:AQ v v'):AQ v' v:=fun g h1 h2=>h g h2 h1
theorem AQ.ne{v v':Value}(h:AQ v v'):v.ownBlock=none\/v.ownBlock≠v'.ownBlock:=by
 cases hv:v.ownBlock with
 |none=>exact .inl rfl
 |some g=>exact .inr fun e=>h g hv e.symm
theorem AQ.moved{w:World}{v u u':Value}(h:AQ v u)(hm:A7 w u u')(hl:∀g,v.ownBlock=some g->g<w.heap.size):AQ v u':=fun g h1 h2=>by
 rcases hm g h2 with e|e
 ·exact h g h1 e
 ·have:=hl g h1;omega
theorem AQ.of_lt{w:World}{v v':Value}(hl:∀g,v.ownBlock=some g->g<w.heap.size)(hg:∀g,v'.ownBlock=some g->w.heap.size<=g):AQ v v':=fun g h1 h2=>by
 have:=hl g h1;have:=hg g h2;omega
theorem OB.lt'{w:World}{base:Nat}{v:Value}{l:List Bool}(h:OB w base v l):∀g,v.ownBlock=some g->g<w.heap.size:=fun g hg=>(World.ownsRow.lt h g hg).2
theorem OI.lt'{w:World}{base:Nat}{v:Value}{l:List Int}(h:OI w base v l):∀g,v.ownBlock=some g->g<w.heap.size:=fun g hg=>(World.ownsRow.lt h g hg).2
theorem OB.ge{w:World}{base:Nat}{v:Value}{l:List Bool}(h:OB w base v l):∀g,v.ownBlock=some g->base<=g:=fun g hg=>(World.ownsRow.lt h g hg).1
theorem OI.ge{w:World}{base:Nat}{v:Value}{l:List Int}(h:OI w base v l):∀g,v.ownBlock=some g->base<=g:=fun g hg=>(World.ownsRow.lt h g hg).1
theorem AI.grown{w wr w1:World}{cs:Array Value}{v:Value}(h:AI w wr cs)(hg:wr.grownBy w1 v.ownBlock)(hv:∀g,v.ownBlock=some g->w.heap.size+1<=g):AI w w1 cs:=
 h.stepB (Ad.grown hg h.lt hv)
structure Ag(S:Nat->Prop)(w w':World):Prop where
 os:w'.os=w.os
 tape:w'.tape=w.tape
 output:w'.output=w.output
 size:w.heap.size<=w'.heap.size
 block:∀k,k<w.heap.size->¬S k->w'.heap[k]? =w.heap[k]?
theorem Ag.refl(S:Nat->Prop)(w:World):Ag S w w:=⟨rfl,rfl,rfl,Nat.le_refl _,fun _ _ _=>rfl⟩
theorem Ag.trans{S:Nat->Prop}{a b c:World}(h:Ag S a b)(k:Ag S b c):Ag S a c:=
 ⟨k.os.trans h.os,k.tape.trans h.tape,k.output.trans h.output,Nat.le_trans h.size k.size,fun i hi hs=>(k.block i (Nat.lt_of_lt_of_le hi h.size) hs).trans (h.block i hi hs)⟩
theorem Ag.mono{S T:Nat->Prop}{a b:World}(h:Ag S a b)(hs:∀k,k<a.heap.size->S k->T k):Ag T a b:=
 ⟨h.os,h.tape,h.output,h.size,fun i hi ht=>h.block i hi (fun x=>ht (hs i hi x))⟩
theorem Ag.of_grown{a b:World}{r:Option Nat}(h:a.grownBy b r):Ag (fun k=>r=some k) a b:=⟨h.os,h.tape,h.output,h.size,fun i hi hs=>h.block i hi (fun e=>hs e.symm)⟩
theorem Ag.below{S:Nat->Prop}{a b:World}(h:Ag S a b)(B:Nat)(hB:∀k,S k->B<=k)(hs:B<=a.heap.size):Below B a b:=
 ⟨h.os,h.tape,h.output,h.size,fun k hk=>h.block k (by omega) (fun x=>by have:=hB k x;omega)⟩
theorem Ag.grown{S:Nat->Prop}{a b:World}(h:Ag S a b)(g:Nat)(_hg:g<a.heap.size)(hs:∀k,S k->k=g):a.grownBy b (some g):=
 ⟨h.os,h.tape,h.output,h.size,fun k hk hr=>h.block k hk (fun x=>hr (by rw[hs k x]))⟩
theorem OB.only{S:Nat->Prop}{w w':World}{base:Nat}{v:Value}{l:List Bool}(h:OB w base v l)(hg:Ag S w w')(hne:∀k,v.ownBlock=some k->¬S k):OB w' base v l:=by
 refine⟨h.1, ?_⟩
 rcases h.2 with hn|⟨g,cap,cur,rfl,hb,hgg,rest⟩
 ·exact .inl hn
 ·exact .inr ⟨g,cap,cur,rfl,hb,by rw[hg.block g (ltE hgg) (hne g rfl)];exact hgg,rest⟩
theorem OI.only{S:Nat->Prop}{w w':World}{base:Nat}{v:Value}{l:List Int}(h:OI w base v l)(hg:Ag S w w')(hne:∀k,v.ownBlock=some k->¬S k):OI w' base v l:=by
 refine⟨h.1, ?_⟩
 rcases h.2 with hn|⟨g,cap,cur,rfl,hb,hgg,rest⟩
 ·exact .inl hn
 ·exact .inr ⟨g,cap,cur,rfl,hb,by rw[hg.block g (ltE hgg) (hne g rfl)];exact hgg,rest⟩
def L9(ga gi gm gl:Nat)(vq:Value)(k:Nat):Prop:=k=ga\/k=gi\/k=gm\/k=gl\/vq.ownBlock=some k
section
variable {w:World} {B n ga gi gm gl:Nat} {vq:Value} {inn:List Bool} {mv lf q:List Int}
theorem AK(w:World)(g j k:Nat)(u:Value)(h:k≠g):(w.setCell ⟨g,j,none⟩ u).heap[k]? =w.heap[k]? :=heap_setCell_other w ⟨g,j,none⟩ k u h
end
theorem Ag.set{w:World}{S:Nat->Prop}(g j:Nat)(u:Value)(h:S g):Ag S w (w.setCell ⟨g,j,none⟩ u):=
 (Ag.of_grown (CC w g j u)).mono (fun k _ hk=>by cases hk;exact h)
theorem DF:(Tryz.prog.info? 26).map (fun i=>(i.zero,i.size,i.bytes))=some (some (.slice none 0 0),1,24):=by kernel_rfl
structure Bl(w:World)(B n ob:Nat)(vals:List Value)(rows:List (List Int)):Prop where
 o:w.ownsRow B 26 1 (.slice (some ⟨ob,0,none⟩) n n) n vals
 e:∀j,j<n->OI w B (vals.getD j undef) (rows.getD j [])
 a:∀i j,i<n->j<n->i≠j->AQ (vals.getD i undef) (vals.getD j undef)
 ob':∀j,j<n->(vals.getD j undef).ownBlock≠some ob
 lv:vals.length=n
 lr:rows.length=n
theorem Al(w:World)(o:Obj)(k:Nat):(w.alloc o).heap[k]? =if k=w.heap.size then some o else w.heap[k]? :=by
 show(w.heap.push o)[k]? =_;rw[Array.getElem?_push]
theorem CA(w:World):w.drew.heap=w.heap:=rfl
theorem Bl.row{w:World}{B n ob:Nat}{vals:List Value}{rows:List (List Int)}(h:Bl w B n ob vals rows):B<=ob/\ob<w.heap.size:=World.ownsRow.lt h.o ob rfl
theorem Bl.cell{w:World}{B n ob:Nat}{vals:List Value}{rows:List (List Int)}(h:Bl w B n ob vals rows){j:Nat}(hj:j<n):w.cell? ⟨ob,j,none⟩=some (vals.getD j undef):=by
 rw[World.ownsRow.cellAt h.o j (by omega),List.getD]
 have:j<vals.length:=by rw[h.lv];exact hj
 simp[this]
theorem Bl.fz{w:World}{B n ob:Nat}{vals:List Value}{rows:List (List Int)}(h:Bl w B n ob vals rows)(j:Nat):w.frozen? ⟨ob,j,none⟩=false:=World.ownsRow.frozenAt h.o j
theorem Ax{S:Nat->Prop}{w w':World}{base e size n:Nat}{v:Value}{l:List Value}(h:w.ownsRow base e size v n l)(hg:Ag S w w')(hne:∀k,v.ownBlock=some k->¬S k):w'.ownsRow base e size v n l:=by
 refine⟨h.1, ?_⟩
 rcases h.2 with hn|⟨g,cap,cur,rfl,hb,hgg,rest⟩
 ·exact .inl hn
 ·exact .inr ⟨g,cap,cur,rfl,hb,by rw[hg.block g (ltE hgg) (hne g rfl)];exact hgg,rest⟩
theorem Bl.only{S:Nat->Prop}{w w':World}{B n ob:Nat}{vals:List Value}{rows:List (List Int)}(h:Bl w B n ob vals rows)(hg:Ag S w w')(ho:¬S ob)(hv:∀j,j<n->∀b,(vals.getD j undef).ownBlock=some b->¬S b):Bl w' B n ob vals rows:=
 {h with
  o:=Ax h.o hg (fun k hk=>by cases hk;exact ho)
  e:=fun j hj=>(h.e j hj).only hg (hv j hj)}
section
variable {w w':World} {B n ga gi gm gl ob:Nat} {vq vq':Value} {vals:List Value} {inn inn':List Bool} {mv lf q mv' lf' q':List Int} {bf:List (List Int)}
theorem L9.moved(hm:A7 w vq vq'){b:Nat}(hb:b<w.heap.size)(hn:¬L9 ga gi gm gl vq b):¬L9 ga gi gm gl vq' b:=by
 rintro(e|e|e|e|e)
 ·exact hn (.inl e)
 ·exact hn (.inr (.inl e))
 ·exact hn (.inr (.inr (.inl e)))
 ·exact hn (.inr (.inr (.inr (.inl e))))
 ·rcases hm b e with e|e
  ·exact hn (.inr (.inr (.inr (.inr e))))
  ·omega
theorem A7.refl(w:World)(v:Value):A7 w v v:=fun _ h=>.inl h
theorem AA{α:Type}(l:List α)(i:Nat)(a d:α)(h:i<l.length):(l.set i a).getD i d=a:=by simp[List.getD,h]
theorem AJ{α:Type}(l:List α)(i j:Nat)(a d:α)(h:i≠j):(l.set i a).getD j d=l.getD j d:=by simp[List.getD,List.getElem?_set_ne h]
end
theorem AI.only{S:Nat->Prop}{w wr w1:World}{cs:Array Value}(h:AI w wr cs)(ho:Ag S wr w1)(hS:∀k,S k->w.heap.size+1<=k):AI w w1 cs:=h.stepB (ho.below _ hS h.lt)
structure Att where
 inn:List Bool
 mv:List Int
 lf:List Int
 q:List Int
structure OU(n N:Nat)(st:Att):Prop where
 li:st.inn.length=n
 lm:st.mv.length=n
 ll:st.lf.length=n
 qc:st.q.length=st.inn.count true
 qr:∀x∈st.q,0<=x/\x<n
 mr:∀i,-(N:Int)<=st.mv.getD i 0/\st.mv.getD i 0<=N
 lr:∀i,-(N:Int)<=st.lf.getD i 0/\st.lf.getD i 0<=N
theorem OU.mono{n N M:Nat}{st:Att}(h:OU n N st)(hM:N<=M):OU n M st:=
 {h with
  mr:=fun i=>by have:=h.mr i;omega
  lr:=fun i=>by have:=h.lr i;omega}
section
variable (g:Gm) (p:Int) (t:List Bool)
def Att.at(st:Att)(x:Int):Int:=st.mv.getD x.toNat 0
end
theorem Sm.other{g:Gm}{p:Int}{n:Nat}(F:Sm g p n):Sm g (1-p) n:={F with pl:=by have:=F.pl;omega}
def Sep(l:List Value):Prop:=l.Pairwise AQ
theorem DO{v u:Value}(h:v.ownBlock=none):AQ v u:=fun g hg=>by rw[h]at hg;cases hg
theorem Sep.get{l:List Value}(h:Sep l){i j:Nat}(hij:i≠j){u v:Value}(hi:l[i]? =some u)(hj:l[j]? =some v):AQ u v:=by
 obtain⟨hi',rfl⟩:=List.getElem?_eq_some_iff.1 hi;obtain⟨hj',rfl⟩:=List.getElem?_eq_some_iff.1 hj;have h2:=List.pairwise_iff_getElem.1 h
 rcases Nat.lt_or_ge i j with hlt|hge
 ·exact h2 i j hi' hj' hlt
 ·exact(h2 j i hj' hi' (by omega)).symm
theorem Sep.set{l:List Value}(h:Sep l){w:World}{i:Nat}{v v':Value}(hi:l[i]? =some v)(hm:A7 w v v')(hlt:∀u∈l,∀g,u.ownBlock=some g->g<w.heap.size):Sep (l.set i v'):=by
 refine List.pairwise_iff_getElem.2 fun a b ha hb hab=> ?_
 rw[List.length_set]at ha hb;rw[List.getElem_set,List.getElem_set]
 have hget:∀a(ha:a<l.length),l[a]? =some l[a]:=fun a ha=>by simp
 split
 ·rename_i e;subst e;rw[if_neg (by omega)];exact((h.get (by omega) (hget b hb) hi).moved hm (hlt _ (List.getElem_mem hb))).symm
 ·split
  ·rename_i e;subst e;exact(h.get (by omega) (hget a ha) hi).moved hm (hlt _ (List.getElem_mem ha))
  ·exact h.get (by omega) (hget a ha) (hget b hb)
theorem Sep.cons{l:List Value}(h:Sep l){w:World}{v:Value}(hv:∀g,v.ownBlock=some g->w.heap.size<=g)(hlt:∀u∈l,∀g,u.ownBlock=some g->g<w.heap.size):Sep (v::l):=
 List.pairwise_cons.2 ⟨fun u hu=>(AQ.of_lt (hlt u hu) hv).symm,h⟩
theorem Sep.perm{l l':List Value}(h:Sep l)(hp:l.Perm l'):Sep l':=(hp.pairwise_iff (fun h=>AQ.symm h)).1 h
def Aw(z:Nat):Value:=.slice (some ⟨z,0,none⟩) 0 0
structure GB(w:World)(B z:Nat)(v0 v1 v2:Value)(vals:List Value)(gm:Gm)(others:List Value):Prop where
 box:w.heap[z]? =some (.cells #[v0,v1,v2] 65 (0,0))
 zB:B<=z
 o:OI w B v0 gm.owner
 p:OI w B v1 gm.prio
 r:w.ownsRow B 26 1 v2 gm.succ.length vals
 e:∀j,j<gm.succ.length->OI w B (vals.getD j undef) (gm.succ.getD j [])
 sep:Sep (Aw z::v0::v1::v2::(vals++others))
 lt:∀u∈others,∀g,u.ownBlock=some g->g<w.heap.size
section
variable {w w':World} {B z:Nat} {v0 v1 v2:Value} {vals others:List Value} {gm:Gm}
theorem GB.vl(h:GB w B z v0 v1 v2 vals gm others):vals.length=gm.succ.length:=by have:=h.r.1;simpa using this
theorem GB.lts(h:GB w B z v0 v1 v2 vals gm others):∀u∈Aw z::v0::v1::v2::(vals++others),∀g,u.ownBlock=some g->g<w.heap.size:=by
 intro u hu g hg;simp only[List.mem_cons,List.mem_append]at hu
 rcases hu with rfl|rfl|rfl|rfl|hu|hu
 ·cases hg;exact(Array.getElem?_eq_some_iff.1 h.box).1
 ·exact h.o.lt' g hg
 ·exact h.p.lt' g hg
 ·exact(World.ownsRow.lt h.r g hg).2
 ·obtain⟨j,hj,rfl⟩:=List.getElem_of_mem hu;have:=(h.e j (by rw[<-h.vl];exact hj)).lt' g;rw[Af _ _ _ hj]at this;exact this hg
 ·exact h.lt u hu g hg
theorem GB.valAt(h:GB w B z v0 v1 v2 vals gm others){j:Nat}(hj:j<gm.succ.length):(Aw z::v0::v1::v2::(vals++others))[j+4]? =some (vals.getD j undef):=by
 have hl:j<vals.length:=by rw[h.vl];exact hj
 simp only[List.getElem?_cons_succ];rw[List.getElem?_append_left hl,Af _ _ _ hl];simp[hl]
theorem GB.otherAt(h:GB w B z v0 v1 v2 vals gm others){i:Nat}{u:Value}(hi:others[i]? =some u):(Aw z::v0::v1::v2::(vals++others))[gm.succ.length+i+4]? =some u:=by
 simp only[List.getElem?_cons_succ];rw[List.getElem?_append_right (by rw[h.vl];omega),h.vl,Nat.add_sub_cancel_left];exact hi
theorem Cd{w:World}{base e size n g j:Nat}{v u:Value}{xs:List Value}(h:w.ownsRow base e size v n xs)(hne:v.ownBlock≠some g):(w.setCell ⟨g,j,none⟩ u).ownsRow base e size v n xs:=
 Ax (S:=fun k=>k=g) h ((Ag.of_grown (CC w g j u)).mono (fun k _ hk=>by cases hk;rfl)) (fun k hk e=>hne (by rw[hk,e]))
theorem CZ{v:Value}{z:Nat}(h:AQ (Aw z) v):v.ownBlock≠some z:=fun e=>h z rfl e
theorem OI.grownA{w w':World}{base:Nat}{v u:Value}{l:List Int}(h:OI w base v l)(hg:w.grownBy w' u.ownBlock)(ha:AQ v u):OI w' base v l:=OI.grown h hg ha.ne
theorem OB.grownA{w w':World}{base:Nat}{v u:Value}{l:List Bool}(h:OB w base v l)(hg:w.grownBy w' u.ownBlock)(ha:AQ v u):OB w' base v l:=OB.grown h hg ha.ne
theorem GB.other(h:GB w B z v0 v1 v2 vals gm others){i:Nat}{u u':Value}(hi:others[i]? =some u)(hg:w.grownBy w' u.ownBlock)(hm:A7 w u u')(hu:∀g,u'.ownBlock=some g->g<w'.heap.size):GB w' B z v0 v1 v2 vals gm (others.set i u'):=by
 have hA:∀{k:Nat}{x:Value},k<4+gm.succ.length->(Aw z::v0::v1::v2::(vals++others))[k]? =some x->AQ x u:=fun{k x}hk hx=>h.sep.get (by omega) hx (h.otherAt hi)
 have hzb:AQ (Aw z) u:=hA (k:=0) (by omega) rfl;refine {box:= ?_,zB:=h.zB,o:=h.o.grownA hg (hA (k:=1) (by omega) rfl),p:=h.p.grownA hg (hA (k:=2) (by omega) rfl),r:= ?_,e:= ?_,sep:= ?_,lt:= ?_}
 ·rw[hg.block z (Array.getElem?_eq_some_iff.1 h.box).1 (fun e=>hzb z rfl e.symm)];exact h.box
 ·exact World.ownsRow.kept h.r hg (hA (k:=3) (by omega) rfl).ne
 ·intro j hj;exact(h.e j hj).grownA hg (hA (k:=j+4) (by omega) (h.valAt hj))
 ·have:=h.sep.set (h.otherAt hi) hm h.lts
  have e:(Aw z::v0::v1::v2::(vals++others)).set (gm.succ.length+i+4) u'=Aw z::v0::v1::v2::(vals++others.set i u'):=by
   simp only[List.set_cons_succ];rw[List.set_append_right _ _ (by rw[h.vl];omega),h.vl,Nat.add_sub_cancel_left]
  rwa [e]at this
 ·intro x hx g hxg
  rcases List.mem_or_eq_of_mem_set hx with hx|rfl
  ·exact Nat.lt_of_lt_of_le (h.lt x hx g hxg) hg.size
  ·exact hu g hxg
theorem GB.below(h:GB w B z v0 v1 v2 vals gm others)(hb:Below w.heap.size w w'):GB w' B z v0 v1 v2 vals gm others:=
 {box:=by rw[hb.block z (Array.getElem?_eq_some_iff.1 h.box).1];exact h.box
  zB:=h.zB
  o:=h.o.below hb
  p:=h.p.below hb
  r:=World.ownsRow.kept h.r (AV hb) (by cases v2.ownBlock<;>simp)
  e:=fun j hj=>(h.e j hj).below hb
  sep:=h.sep
  lt:=fun u hu g hg=>Nat.lt_of_lt_of_le (h.lt u hu g hg) hb.size}
theorem GB.add(h:GB w B z v0 v1 v2 vals gm others){u:Value}(hu:u.ownBlock=none):GB w B z v0 v1 v2 vals gm (u::others):=
 {h with
  sep:=by
   have:Sep (u::(Aw z::v0::v1::v2::(vals++others))):=List.pairwise_cons.2 ⟨fun x _=>DO hu,h.sep⟩;exact this.perm (List.perm_middle (l₁:=Aw z::v0::v1::v2::vals) (a:=u) (l₂:=others)).symm
  lt:=fun x hx g hg=>by
   rcases List.mem_cons.1 hx with rfl|hx
   ·rw[hu]at hg;cases hg
   ·exact h.lt x hx g hg}
theorem GB.apart(h:GB w B z v0 v1 v2 vals gm others){i j:Nat}(hij:i≠j){u v:Value}(hi:others[i]? =some u)(hj:others[j]? =some v):AQ u v:=
 h.sep.get (by omega) (h.otherAt hi) (h.otherAt hj)
theorem GB.start{B:Nat}{others:List Value}{w:World}(hB:B<=w.heap.size)(hs:Sep others)(hl:∀u∈others,∀g,u.ownBlock=some g->g<w.heap.size):
  GB (w.alloc (.cells #[.slice none 0 0,.slice none 0 0,.slice none 0 0] 65)) B w.heap.size (.slice none 0 0) (.slice none 0 0) (.slice none 0 0) [] ⟨[],[],[]⟩ others:=
 {box:=heap_alloc_new _ _
  zB:=hB
  o:=BC _ _
  p:=BC _ _
  r:=World.ownsRow_nil _ _ _ _
  e:=fun j hj=>absurd hj (by simp)
  sep:=by
   refine Sep.cons (w:=w) (l:=.slice none 0 0::.slice none 0 0::.slice none 0 0::([]++others)) ?_ (fun g hg=>by cases hg;exact Nat.le_refl _) ?_
   ·exact List.pairwise_cons.2 ⟨fun x _=>DO rfl,List.pairwise_cons.2 ⟨fun x _=>DO rfl,List.pairwise_cons.2 ⟨fun x _=>DO rfl,hs⟩⟩⟩
   ·intro u hu g hg;simp only[List.mem_cons,List.nil_append]at hu
    rcases hu with rfl|rfl|rfl|hu
    ·cases hg
    ·cases hg
    ·cases hg
    ·exact hl u hu g hg
  lt:=fun u hu g hg=>by have:=hl u hu g hg;simp;omega}
structure Q1(B:Nat)(others:List Value)(w w':World):Prop where
 bl:Below B w w'
 oi:∀u∈others,∀b l,OI w b u l->OI w' b u l
theorem GB.atO(h:GB w B z v0 v1 v2 vals gm others){k:Nat}{x:Value}(hk:k≠1)(hx:(Aw z::v0::v1::v2::(vals++others))[k]? =some x):AQ x v0:=h.sep.get hk hx rfl
theorem GB.atP(h:GB w B z v0 v1 v2 vals gm others){k:Nat}{x:Value}(hk:k≠2)(hx:(Aw z::v0::v1::v2::(vals++others))[k]? =some x):AQ x v1:=h.sep.get hk hx rfl
theorem GB.atR(h:GB w B z v0 v1 v2 vals gm others){k:Nat}{x:Value}(hk:k≠3)(hx:(Aw z::v0::v1::v2::(vals++others))[k]? =some x):AQ x v2:=h.sep.get hk hx rfl
theorem GB.atZ(h:GB w B z v0 v1 v2 vals gm others){k:Nat}{x:Value}(hk:k≠0)(hx:(Aw z::v0::v1::v2::(vals++others))[k]? =some x):x.ownBlock≠some z:=CZ (h.sep.get (Ne.symm hk) rfl hx)
theorem GB.zlt(h:GB w B z v0 v1 v2 vals gm others):z<w.heap.size:=(Array.getElem?_eq_some_iff.1 h.box).1
theorem OI.setNe{w:World}{base g j:Nat}{v u:Value}{l:List Int}(h:OI w base v l)(hne:v.ownBlock≠some g):OI (w.setCell ⟨g,j,none⟩ u) base v l:=Cd h hne
theorem Kd{w w':World}{B z j:Nat}{v x:Value}{others:List Value}(hg:w.grownBy w' v.ownBlock)(hvB:∀k,v.ownBlock=some k->B<=k)(hzB:B<=z)(hB:B<=w.heap.size)
  (ho:∀u∈others,AQ u v/\u.ownBlock≠some z):Q1 B others w (w'.setCell ⟨z,j,none⟩ x) where
 bl:=((Ag.of_grown hg).below B (fun k hk=>hvB k hk) hB).setCell hzB _
 oi:=fun u hu _ _ h=>OI.setNe (h.grownA hg (ho u hu).1) (ho u hu).2
theorem GB.stepO(h:GB w B z v0 v1 v2 vals gm others){v0':Value}{x:Int}(ho:OI w' B v0' (gm.owner++[x]))(hg:w.grownBy w' v0.ownBlock)(hm:A7 w v0 v0')(hB:B<=w.heap.size):
  w'.heap[z]? =some (.cells #[v0,v1,v2] 65 (0,0))/\GB (w'.setCell ⟨z,0,none⟩ v0') B z v0' v1 v2 vals ⟨gm.owner++[x],gm.prio,gm.succ⟩ others/\Q1 B others w (w'.setCell ⟨z,0,none⟩ v0'):=by
 have hzne:v0.ownBlock≠some z:=h.atZ (k:=1) (by omega) rfl
 have hbox:w'.heap[z]? =some (.cells #[v0,v1,v2] 65 (0,0)):=by rw[hg.block z h.zlt (Ne.symm hzne)];exact h.box
 have hoth:∀u∈others,AQ u v0/\u.ownBlock≠some z:=fun u hu=>by
  obtain⟨i,hi,rfl⟩:=List.getElem_of_mem hu;have e:=h.otherAt (i:=i) (u:=others[i]) (by simp[hi]);exact⟨h.atO (by omega) e,h.atZ (by omega) e⟩
 have hsep:Sep (Aw z::v0'::v1::v2::(vals++others)):=h.sep.set (i:=1) rfl hm h.lts;refine⟨hbox,{box:=heap_setCell_same w' z 0 _ _ v0' hbox,zB:=h.zB,o:= ?_,p:= ?_,r:= ?_,e:= ?_,sep:=hsep,lt:= ?_},Kd hg h.o.ge h.zB hB hoth⟩
 ·exact ho.setNe (CZ (hsep.get (i:=0) (j:=1) (by omega) rfl rfl))
 ·exact(h.p.grownA hg (h.atO (k:=2) (by omega) rfl)).setNe (h.atZ (k:=2) (by omega) rfl)
 ·exact Cd (World.ownsRow.kept h.r hg (h.atO (k:=3) (by omega) rfl).ne) (h.atZ (k:=3) (by omega) rfl)
 ·intro j hj;exact((h.e j hj).grownA hg (h.atO (by omega) (h.valAt hj))).setNe (h.atZ (by omega) (h.valAt hj))
 ·intro u hu g hug;have:=h.lt u hu g hug;simp only[World.size_setCell];exact Nat.lt_of_lt_of_le this hg.size
theorem GB.stepP(h:GB w B z v0 v1 v2 vals gm others){v1':Value}{x:Int}(ho:OI w' B v1' (gm.prio++[x]))(hg:w.grownBy w' v1.ownBlock)(hm:A7 w v1 v1')(hB:B<=w.heap.size):
  w'.heap[z]? =some (.cells #[v0,v1,v2] 65 (0,0))/\GB (w'.setCell ⟨z,1,none⟩ v1') B z v0 v1' v2 vals ⟨gm.owner,gm.prio++[x],gm.succ⟩ others/\Q1 B others w (w'.setCell ⟨z,1,none⟩ v1'):=by
 have hzne:v1.ownBlock≠some z:=h.atZ (k:=2) (by omega) rfl
 have hbox:w'.heap[z]? =some (.cells #[v0,v1,v2] 65 (0,0)):=by rw[hg.block z h.zlt (Ne.symm hzne)];exact h.box
 have hoth:∀u∈others,AQ u v1/\u.ownBlock≠some z:=fun u hu=>by
  obtain⟨i,hi,rfl⟩:=List.getElem_of_mem hu;have e:=h.otherAt (i:=i) (u:=others[i]) (by simp[hi]);exact⟨h.atP (by omega) e,h.atZ (by omega) e⟩
 have hsep:Sep (Aw z::v0::v1'::v2::(vals++others)):=h.sep.set (i:=2) rfl hm h.lts;refine⟨hbox,{box:=heap_setCell_same w' z 1 _ _ v1' hbox,zB:=h.zB,o:= ?_,p:= ?_,r:= ?_,e:= ?_,sep:=hsep,lt:= ?_},Kd hg h.p.ge h.zB hB hoth⟩
 ·exact(h.o.grownA hg (h.atP (k:=1) (by omega) rfl)).setNe (h.atZ (k:=1) (by omega) rfl)
 ·exact ho.setNe (CZ (hsep.get (i:=0) (j:=2) (by omega) rfl rfl))
 ·exact Cd (World.ownsRow.kept h.r hg (h.atP (k:=3) (by omega) rfl).ne) (h.atZ (k:=3) (by omega) rfl)
 ·intro j hj;exact((h.e j hj).grownA hg (h.atP (by omega) (h.valAt hj))).setNe (h.atZ (by omega) (h.valAt hj))
 ·intro u hu g hug;have:=h.lt u hu g hug;simp only[World.size_setCell];exact Nat.lt_of_lt_of_le this hg.size
theorem GB.stepR{vS:Value}{row:List Int}(h:GB w B z v0 v1 v2 vals gm (vS::others))(hS:OI w B vS row){v2':Value}(ho:w'.ownsRow B 26 1 v2' (gm.succ.length+1) (vals++[vS]))(hg:w.grownBy w' v2.ownBlock)(hm:A7 w v2 v2')(hB:B<=w.heap.size):
  w'.heap[z]? =some (.cells #[v0,v1,v2] 65 (0,0))/\GB (w'.setCell ⟨z,2,none⟩ v2') B z v0 v1 v2' (vals++[vS]) ⟨gm.owner,gm.prio,gm.succ++[row]⟩ others/\Q1 B others w (w'.setCell ⟨z,2,none⟩ v2'):=by
 have hzne:v2.ownBlock≠some z:=h.atZ (k:=3) (by omega) rfl
 have hbox:w'.heap[z]? =some (.cells #[v0,v1,v2] 65 (0,0)):=by rw[hg.block z h.zlt (Ne.symm hzne)];exact h.box
 have hat:∀i u,(vS::others)[i]? =some u->AQ u v2/\u.ownBlock≠some z:=fun i u hi=>⟨h.atR (by omega) (h.otherAt hi),h.atZ (by omega) (h.otherAt hi)⟩
 have hoth:∀u∈others,AQ u v2/\u.ownBlock≠some z:=fun u hu=>by
  obtain⟨i,hi,rfl⟩:=List.getElem_of_mem hu;exact hat (i+1) _ (by simp[hi])
 have hsep:Sep (Aw z::v0::v1::v2'::(vals++vS::others)):=h.sep.set (i:=3) rfl hm h.lts;have hvl:=h.vl;refine⟨hbox,{box:=heap_setCell_same w' z 2 _ _ v2' hbox,zB:=h.zB,o:= ?_,p:= ?_,r:= ?_,e:= ?_,sep:=by simpa using hsep,lt:= ?_},Kd hg (fun k hk=>(World.ownsRow.lt h.r k hk).1) h.zB hB hoth⟩
 ·exact(h.o.grownA hg (h.atR (k:=1) (by omega) rfl)).setNe (h.atZ (k:=1) (by omega) rfl)
 ·exact(h.p.grownA hg (h.atR (k:=2) (by omega) rfl)).setNe (h.atZ (k:=2) (by omega) rfl)
 ·simp only[List.length_append,List.length_singleton];exact Cd ho (CZ (hsep.get (i:=0) (j:=3) (by omega) rfl rfl))
 ·intro j hj;simp only[List.length_append,List.length_singleton]at hj
  by_cases e:j<gm.succ.length
  ·rw[show(vals++[vS]).getD j undef=vals.getD j undef from by simp[List.getD,List.getElem?_append_left (show j<vals.length by omega)],
    show(gm.succ++[row]).getD j []=gm.succ.getD j []from by simp[List.getD,List.getElem?_append_left e]]
   exact((h.e j e).grownA hg (h.atR (by omega) (h.valAt e))).setNe (h.atZ (by omega) (h.valAt e))
  ·obtain rfl:j=gm.succ.length:=by omega
   rw[show(vals++[vS]).getD gm.succ.length undef=vS from by simp[List.getD,<-hvl],
    show(gm.succ++[row]).getD gm.succ.length []=row from by simp[List.getD]]
   have:=hat 0 vS rfl;exact(hS.grownA hg this.1).setNe this.2
 ·intro u hu g hug;have:=h.lt u (List.mem_cons_of_mem _ hu) g hug;simp only[World.size_setCell];exact Nat.lt_of_lt_of_le this hg.size
theorem GB.setFar(h:GB w B z v0 v1 v2 vals gm others){n j:Nat}{u:Value}(hn:n<B):GB (w.setCell ⟨n,j,none⟩ u) B z v0 v1 v2 vals gm others:=
 {box:=by rw[AK _ _ _ _ _ (by have:=h.zB;omega)];exact h.box
  zB:=h.zB
  o:=h.o.setNe (fun e=>by have:=h.o.ge _ e;omega)
  p:=h.p.setNe (fun e=>by have:=h.p.ge _ e;omega)
  r:=Cd h.r (fun e=>by have:=(World.ownsRow.lt h.r _ e).1;omega)
  e:=fun j hj=>(h.e j hj).setNe (fun e=>by have:=(h.e j hj).ge _ e;omega)
  sep:=h.sep
  lt:=fun u hu g hg=>by have:=h.lt u hu g hg;rw[World.size_setCell];exact this}
theorem OI.setFar{w:World}{B n j:Nat}{v u:Value}{l:List Int}(h:OI w B v l)(hn:n<B):OI (w.setCell ⟨n,j,none⟩ u) B v l:=h.setNe (fun e=>by have:=h.ge _ e;omega)
theorem GB.is(h:GB w B z v0 v1 v2 vals gm others)(h0:gm.owner.length<=Bk/\∀x∈gm.owner,I64 x)(h1:gm.prio.length<=Bk/\∀x∈gm.prio,I64 x)(h2:gm.succ.length<=Bk)(h3:∀j,j<gm.succ.length->(gm.succ.getD j []).length<=Bk/\∀x∈gm.succ.getD j [],I64 x):
  Cn w (.agg #[v0,v1,v2]) gm:=by
 refine⟨_,_,_,rfl,h.o.is h0.1 h0.2,h.p.is h1.1 h1.2,fun j=>vals.getD j undef,Ch h.r h2 _ (fun j hj=> ?_),fun j hj=>(h.e j hj).is (h3 j hj).1 (h3 j hj).2⟩
 have:j<vals.length:=by rw[h.vl];exact hj
 rw[Af _ _ _ this];simp[this]
end
theorem AU{w:World}{b e sz n:Nat}{v:Value}{l:List Value}(h:w.ownsRow b e sz v n l):∃ao cap,v=.slice ao n cap:=by
 rcases h.2 with⟨hv,h0⟩|⟨g,cap,cur,hv,hb,hg,_⟩
 ·exact⟨none,0,by rw[hv,h0]⟩
 ·exact⟨_,cap,hv⟩
theorem IR{o:Oper}{a:Act}{K:Act->World->Prop}{Q:Exit->Act->World->Prop}(w:World)(s x:Operand)(b:Int)
  (ho:o.op=.call {callee:=.builtin .append,args:=#[s,x],argTypes:=#[26,26]})
  (base:Nat) (v:Value) (l:List Int) (hs:a.eval s=v) (hown:OI w base v l) (hx:a.eval x=.slice (some ⟨w.heap.size,0,none⟩) 1 1)
  (hn:l.length<17592186043904) (hbase:base<=w.heap.size)
  (h:∀v' w',OI w' base v' (l++[b])->w.grownBy w' v.ownBlock->A7 w v v'->K (a.put o.dst v') w'):
  Oper.wp Tryz.prog o a (w.alloc (.cells #[.int .i64 b] 3)).drew K Q:=by
 obtain⟨i0,hi0,hz0,hz1,hz2⟩:=info_parts C5;refine wp_append_lies _ s x _ ho base _ i0 _ 1 8 Tryz.underlying26 hi0 hz0 hz1 hz2 rfl (by decide) v l.length _ hs ((World.ownsRow.alloc hown _).drew) ⟨w.heap.size,0,none⟩ 1 1 [.int .i64 b] hx rfl (World.news_of_block (cs:=#[.int .i64 b]) (t:=3) (fr:=(0,0)) (heap_alloc_new w _)) (by simp[Value.oneCell']) (by omega) (by simp only[maxLen];omega) (by omega) (by simp;omega) (w.heap.size+1) (by simp) ?_;intro g cap w' h1 h2 h3 h4;refine h _ _ (by unfold OI;simpa using h1) ⟨h2.os,h2.tape,h2.output,by have:=h2.size;rw[CA]at this;simp at this;omega,fun k hk hr=> ?_⟩ (fun k hk=> ?_)
 ·rw[h2.block k (by rw[CA];simp;omega) hr];exact Dt w _ hk
 ·obtain rfl:g=k:=by simpa[Value.ownBlock]using hk
  rcases h3 with e|e
  ·exact .inl e
  ·exact .inr (by omega)
structure Fr(w wr:World)(cs:Array Value):Prop where
 bx:AI w wr cs
 rc:wr.heap[w.heap.size+1]? =some (.cells #[.slice none 0 0,.slice none 0 0,.slice none 0 0] 65 (0,0))
theorem Fr.lt{w wr:World}{cs:Array Value}(h:Fr w wr cs):w.heap.size+2<=wr.heap.size:=(Array.getElem?_eq_some_iff.1 h.rc).1
theorem Fr.step{w wr w':World}{cs:Array Value}(h:Fr w wr cs)(hb:Below (w.heap.size+2) wr w'):Fr w w' cs:=
 ⟨h.bx.stepB (hb.mono (by omega)),(hb.block _ (by omega)).trans h.rc⟩
theorem Fu{wr:World}{n:Nat}{t:TypeId}{x y z a b c:Value}(h:wr.heap[n]? =some (.cells #[x,y,z] t (0,0))):(((wr.setCell ⟨n,0,none⟩ a).setCell ⟨n,1,none⟩ b).setCell ⟨n,2,none⟩ c).heap[n]? =some (.cells #[a,b,c] t (0,0)):=
 heap_setCell_same _ n 2 _ _ c (heap_setCell_same _ n 1 _ _ b (heap_setCell_same _ n 0 _ _ a h))
theorem KS{w wr:World}{n:Nat}{a b c:Value}(h:Below w.heap.size w wr)(hn:w.heap.size<=n):Below w.heap.size w (((wr.setCell ⟨n,0,none⟩ a).setCell ⟨n,1,none⟩ b).setCell ⟨n,2,none⟩ c):=
 ((h.setCell hn _).setCell hn _).setCell hn _
theorem Eh(w:World):Ai w (.slice none 0 0) []:=⟨⟨none,0,0,0,rfl,Nat.le_refl _,Nat.zero_le _,Nat.zero_le _,fun _=>rfl,(fun h=>absurd h (by simp)),fun j hj=>absurd hj (by simp)⟩,by simp⟩
theorem Qz(w:World):Ar w (.slice none 0 0) []:=⟨fun _=>undef,⟨none,0,0,0,rfl,Nat.le_refl _,Nat.zero_le _,Nat.zero_le _,fun _=>rfl,(fun h=>absurd h (by simp)),fun j hj=>absurd hj (by simp)⟩,fun j hj=>absurd hj (by simp)⟩
end Go.Proofs.YtncjeamdkjcebaaGreatDoor
