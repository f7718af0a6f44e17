/- How slices, games and worlds are told in thi. -/
import Derived.Test.YtncjeamdkjcebaaGreatDoorProg
import Derived.WalkKit
import Derived.WalkSpells
import Derived.WalkLawsBesides
import Derived.BigQuiet
import Derived.Deep.QuietTactic
import Derived.Lib.Hide
import Derived.Deep.LoopGhost
import Derived.Deep.CutRange
import Derived.Deep.DeepCutAuto
set_option linter.all false
namespace Go.Proofs.YtncjeamdkjcebaaGreatDoor
open Go.RowKit
def Bg:Nat:=140737488351232
def I64(x:Int):Prop:=-9223372036854775808<=x/\x<=9223372036854775807
structure Jw(w:World)(ao:Option Addr)(cap b off n:Nat)(f:Nat->Value):Prop where
 lc:n<=cap
 cm:cap<=maxLen
 nm:n<=Bg
 nc:ao=none->cap=0
 ad:0<n->ao=some ⟨b,off,none⟩
 el:∀j,j<n->w.cell? ⟨b,off+j,none⟩=some (f j)
theorem Jw.nb{w:World}{ao:Option Addr}{a b c n:Nat}{f:Nat->Value}(h:Jw w ao a b c n f):n<=140737488351232:=h.nm
def Ec(w:World)(v:Value)(n:Nat)(f:Nat->Value):Prop:=∃ao cap b off,v=.slice ao n cap/\Jw w ao cap b off n f
theorem Ag{w wr:World}{a:Addr}{v:Value}(hb:Below w.heap.size w wr)(h:w.cell? a=some v):wr.cell? a=some v:=
 (hb.cell (World.block_lt_of_cell? w a h)).trans h
theorem P3{w:World}{a:Addr}{v:Value}(n:Nat)(h:w.cell? a=some v):(w.drewN n).cell? a=some v:=h
theorem Ec.below{w wr:World}{v:Value}{n:Nat}{f:Nat->Value}(h:Ec w v n f)(hb:Below w.heap.size w wr):Ec wr v n f:=by
 obtain⟨ao,a,b,c,rfl,h1,h2,h3,h6,h4,h5⟩:=h;exact⟨ao,a,b,c,rfl,h1,h2,h3,h6,h4,fun j hj=>Ag hb (h5 j hj)⟩
theorem Aj(w:World)(B n:Nat):Below B w (w.drewN n):=⟨rfl,rfl,rfl,Nat.le_refl _,fun _ _=>rfl⟩
theorem AB{B:Nat}{a w:World}(h:Below B a w)(n:Nat):Below B a (w.drewN n):=h.trans (Aj _ _ _)
theorem AE{a w:World}(h:Below a.heap.size a w)(o:Obj):Below a.heap.size a (w.alloc o):=h.alloc h.size o
theorem B8{w w':World}{q:Nat}{o:Obj}(hb:Below w.heap.size w w')(h:w.heap[q]? =some o):w'.heap[q]? =some o:=(hb.block q (Array.getElem?_eq_some_iff.mp h).1).trans h
theorem Aa{w:World}{g:Nat}(j:Nat){cs:Array Value}{t:TypeId}{fr:Nat×Nat}(hg:w.heap[g]? =some (.cells cs t fr)):w.cell? ⟨g,j,none⟩=cs[j]? :=cell_of_row w g j cs t fr hg
theorem Ad{B:Nat}{w:World}:Below B w w:=Below.refl B w
theorem Ab{p:Prop}(h:p):Hid p:=h
theorem leR{n:Nat}:n<=n:=Nat.le_refl n
theorem ltE{α:Type}{a:Array α}{i:Nat}{x:α}(h:a[i]? =some x):i<a.size:=(Array.getElem?_eq_some_iff.mp h).1
theorem Dm(w:World)(o:Obj){r:Nat}(h:r<w.heap.size):(w.alloc o).heap[r]? =w.heap[r]? :=by show(w.heap.push o)[r]? =_;rw[Array.getElem?_push_lt h,Array.getElem?_eq_getElem h]
theorem At{w:World}{g:Nat}(j:Nat){cs:Array Value}{t:TypeId}(hg:w.heap[g]? =some (.cells cs t (0,0))):w.frozen? ⟨g,j,none⟩=false:=frozen_of_row w g j cs t hg
theorem osI{α:Type}{a b:α}(h:some a=some b):a=b:=Option.some.inj h
theorem Ec.congr{w:World}{v:Value}{n:Nat}{f g:Nat->Value}(h:Ec w v n f)(he:∀j,j<n->f j=g j):Ec w v n g:=by
 obtain⟨ao,a,b,c,rfl,h1,h2,h3,h6,h4,h5⟩:=h;exact⟨ao,a,b,c,rfl,h1,h2,h3,h6,h4,fun j hj=>by rw[h5 j hj,he j hj]⟩
theorem Ao{w:World}(o:Obj):Below w.heap.size w (w.alloc o):=AE Ad o
theorem C9{w w1:World}{cs:Array Value}{t:TypeId}(k:Nat){v:Value}(hb:Below (w.alloc (.cells cs t)).heap.size (w.alloc (.cells cs t)) w1)(hv:cs[k]? =some v):w1.cell? ⟨w.heap.size,k,none⟩=some v:=
 (hb.cell (by simp)).trans ((cell_of_row _ _ k _ _ _ (heap_alloc_new _ _)).trans hv)
theorem QO(a b:Nat):(((a:Int))==(b:Int))=decide (a=b):=by
 rw[Bool.eq_iff_iff];simp;omega
def bvF(l:List Bool)(j:Nat):Value:=.bool (l.getD j false)
def ivF(l:List Int)(j:Nat):Value:=.int .i64 (l.getD j 0)
def Bf(w:World)(v:Value)(l:List Bool):Prop:=Ec w v l.length (bvF l)
def Ah(w:World)(v:Value)(l:List Int):Prop:=Ec w v l.length (ivF l)/\∀x∈l,I64 x
def Ar(w:World)(v:Value)(ll:List (List Int)):Prop:=∃V:Nat->Value,Ec w v ll.length V/\∀j,j<ll.length->Ah w (V j) (ll.getD j [])
theorem Bf.below{w wr:World}{v:Value}{l:List Bool}(h:Bf w v l)(hb:Below w.heap.size w wr):Bf wr v l:=Ec.below h hb
theorem Ah.below{w wr:World}{v:Value}{l:List Int}(h:Ah w v l)(hb:Below w.heap.size w wr):Ah wr v l:=⟨h.1.below hb,h.2⟩
theorem Ar.below{w wr:World}{v:Value}{ll:List (List Int)}(h:Ar w v ll)(hb:Below w.heap.size w wr):Ar wr v ll:=by
 obtain⟨V,h1,h2⟩:=h;exact⟨V,h1.below hb,fun j hj=>(h2 j hj).below hb⟩
structure Gm where
 owner:List Int
 prio:List Int
 succ:List (List Int)
deriving DecidableEq
def Cx(w:World)(v:Value)(g:Gm):Prop:=∃v0 v1 v2,v=.agg #[v0,v1,v2]/\Ah w v0 g.owner/\Ah w v1 g.prio/\Ar w v2 g.succ
theorem Cx.below{w wr:World}{v:Value}{g:Gm}(h:Cx w v g)(hb:Below w.heap.size w wr):Cx wr v g:=by
 obtain⟨v0,v1,v2,rfl,h0,h1,h2⟩:=h;exact⟨v0,v1,v2,rfl,h0.below hb,h1.below hb,h2.below hb⟩
theorem Ak{a b:Bool}(h:a=b):Ending.returned (.bool a)=.returned (.bool b):=by rw[h]
theorem Cj{k:IntKind}{a b:Int}(h:a=b):Ending.returned (.int k a)=.returned (.int k b):=by rw[h]
def DZ(v:Value)(w:World)(e:Ending)(w':World):Prop:=e=.returned v/\∃n,w'=w.drewN n
theorem Ae{α:Type}(l:List α)(d:α)(j:Nat)(h:j<l.length):l.getD j d=l[j]:=by simp[List.getD,h]
theorem K0{α:Type}{a b:List α}{k:Nat}(h1:k<a.length)(h2:k<b.length)(h:a.take k=b.take k)(e:a[k]=b[k]):a.take (k+1)=b.take (k+1):=by
 rw[List.take_succ_eq_append_getElem h1,List.take_succ_eq_append_getElem h2,h,e]
def Av(v:Value)(w:World)(e:Ending)(w':World):Prop:=e=.returned v/\Below w.heap.size w w'
theorem DZ.calm{v:Value}{w w':World}{e:Ending}(h:DZ v w e w'):Av v w e w':=by
 obtain⟨h1,n,rfl⟩:=h;exact⟨h1,Aj _ _ _⟩
theorem By{α:Type}(l:List α)(p:α->Bool)(k:Nat)(h:k<l.length):(l.take (k+1)).all p=((l.take k).all p&&p l[k]):=by
 rw[List.take_succ_eq_append_getElem h,List.all_append];simp
theorem Bu{α:Type}(l:List α)(p:α->Bool)(k:Nat)(h:k<l.length)(hp:p l[k]=false):l.all p=false:=by
 rw[List.all_eq_false];exact⟨l[k],List.getElem_mem h,by simp[hp]⟩
def inB(most:Int)(l:List Int):Bool:=l.all fun x=>decide (0<=x)&&decide (x<=most)
def D6(most:Int)(ll:List (List Int)):Bool:=ll.all (inB most)
def Cg(g:Gm):Bool:=
 decide (g.owner.length<=3000)&&decide (g.prio.length=g.owner.length)&&decide (g.succ.length=g.owner.length)&&g.succ.all (fun s=> !s.isEmpty)&&
  inB 1 g.owner&&inB 30000 g.prio&&D6 ((g.owner.length:Int)-1) g.succ
theorem GM{α:Type}(l:List α)(p:α->Bool)(d:α):l.all p=true↔∀i,i<l.length->p (l.getD i d)=true:=by
 rw[List.all_eq_true]
 constructor
 ·intro h i hi;rw[Ae _ _ _ hi];exact h _ (List.getElem_mem hi)
 ·intro h x hx;obtain⟨i,hi,rfl⟩:=List.getElem_of_mem hx;have:=h i hi
  rwa [Ae _ _ _ hi]at this
def okB(g:Gm)(i:Nat):Bool:=
 (decide (0<=g.owner.getD i 0)&&decide (g.owner.getD i 0<=1))&&(decide (0<=g.prio.getD i 0)&&decide (g.prio.getD i 0<=30000))&& !(g.succ.getD i []).isEmpty&&inB ((g.owner.length:Int)-1) (g.succ.getD i [])
theorem Nj(g:Gm)(h1:g.owner.length<=3000)(h2:g.prio.length=g.owner.length)(h3:g.succ.length=g.owner.length):
  Cg g=true↔∀i,i<g.owner.length->okB g i=true:=by
 simp only[Cg,h1,h2,h3,inB,D6,Bool.and_eq_true,GM _ _ (0:Int),GM g.succ _ [],decide_true,true_and,okB]
 constructor
 ·rintro⟨⟨⟨a,b⟩,c⟩,d⟩ i hi;exact⟨⟨⟨b i hi,c i (by omega)⟩,a i (by omega)⟩,d i (by omega)⟩
 ·intro h;exact⟨⟨⟨fun i hi=>(h i (by omega)).1.2,fun i hi=>(h i hi).1.1.1⟩,fun i hi=>(h i (by omega)).1.1.2⟩,fun i hi=>(h i (by omega)).2⟩
end Go.Proofs.YtncjeamdkjcebaaGreatDoor
