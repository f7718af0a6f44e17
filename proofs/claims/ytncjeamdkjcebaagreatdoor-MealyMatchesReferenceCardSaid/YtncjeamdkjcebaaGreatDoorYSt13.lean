/- Whether a strategy wins, told by closed path. -/
import Derived.Test.YtncjeamdkjcebaaGreatDoorYSt10
set_option linter.all false
set_option maxHeartbeats 4000000
set_option maxRecDepth 100000
namespace Go.Proofs.YtncjeamdkjcebaaGreatDoor
inductive PK(e:Nat->Nat->Prop)(k:Nat)(i:Nat):Nat->Prop
 |one {j:Nat}:e i j->PK e k i j
 |step {m j:Nat}:PK e k i m->m<k->e m j->PK e k i j
theorem PK.up{e:Nat->Nat->Prop}{k l i j:Nat}(h:PK e k i j)(hl:k<=l):PK e l i j:=by
 induction h with
 |one h=>exact .one h
 |step _ hm he ih=>exact ih.step (by omega) he
theorem PK.trans{e:Nat->Nat->Prop}{k i m j:Nat}(h:PK e k i m)(hm:m<k)(h2:PK e k m j):PK e k i j:=by
 induction h2 with
 |one h3=>exact h.step hm h3
 |step _ hm' he ih=>exact ih.step hm' he
theorem PK.split{e:Nat->Nat->Prop}{k i j:Nat}(h:PK e (k+1) i j):PK e k i j\/(PK e k i k/\PK e k k j):=by
 induction h with
 |one h=>exact .inl (.one h)
 |step _ hm he ih=>
  rename_i m j _
  by_cases hk:m=k
  ·subst hk
   rcases ih with h|⟨h,-⟩
   ·exact .inr ⟨h,.one he⟩
   ·exact .inr ⟨h,.one he⟩
  ·rcases ih with h|⟨h1,h2⟩
   ·exact .inl (h.step (by omega) he)
   ·exact .inr ⟨h1,h2.step (by omega) he⟩
def WK(e:Nat->Nat->Bool):Nat->Nat->Nat->Bool
 |0,i,j=>e i j
 |k+1,i,j=>WK e k i j||(WK e k i k&&WK e k k j)
theorem Tf(e:Nat->Nat->Bool)(k i j:Nat):WK e k i j=true↔PK (fun a b=>e a b=true) k i j:=by
 induction k generalizing i j with
 |zero=>
  refine⟨fun h=>.one h,fun h=> ?_⟩
  cases h with
  |one h=>exact h
  |step _ h _=>exact absurd h (by omega)
 |succ k ih=>
  show(WK e k i j||(WK e k i k&&WK e k k j))=true↔_;rw[Bool.or_eq_true,Bool.and_eq_true,ih,ih,ih];refine⟨fun h=> ?_,PK.split⟩
  rcases h with h|⟨h1,h2⟩
  ·exact h.up (by omega)
  ·exact(h1.up (by omega)).trans (by omega) (h2.up (by omega))
def QN(g:Gm)(p:Int)(set:List Bool)(s:List Int)(q:Int)(i j:Nat):Bool:=
 set.getD i false&&decide (q<=g.prio.getD i 0)&&decide (q<=g.prio.getD j 0)&&(g.owner.getD i 0 !=p||s.getD i 0==(j:Int))&&decide ((j:Int)∈g.succ.getD i [])
def Nl(g:Gm)(p:Int)(set:List Bool)(s:List Int):Bool:=
 stB g p set s&&(List.range g.owner.length).all fun i=> !(set.getD i false&&(g.prio.getD i 0%2 !=p)&&WK (QN g p set s (g.prio.getD i 0)) g.owner.length i i)
theorem EQ{g:Gm}{p:Int}{set:List Bool}{s:List Int}(h:stB g p set s=true):(p=0\/p=1)/\Cg g=true/\set.length=g.owner.length/\s.length=g.owner.length/\∀v,v<g.owner.length->DU g p set s v=true:=by
 simp only[stB,Bool.and_eq_true,Bool.or_eq_true,decide_eq_true_eq,List.all_eq_true,List.mem_range]at h;obtain⟨⟨⟨⟨h1,h2⟩,h3⟩,h4⟩,h5⟩:=h;exact⟨h1,h2,h3,h4,fun v hv=>h5 v (by rw[h3];exact hv)⟩
def nxS(g:Gm)(p:Int)(set:List Bool)(s:List Int):List (List Int):=B4 (EB g p set s) set.length set.length
theorem NZ{g:Gm}{p:Int}{set:List Bool}{s:List Int}{v:Nat}(hv:v<set.length):(nxS g p set s).getD v []=EB g p set s v:=by
 unfold nxS;rw[O5 _ hv,if_pos hv]
theorem Sn{g:Gm}{p:Int}{set:List Bool}{s:List Int}{v:Nat}(hv:¬v<set.length):(nxS g p set s).getD v []=[]:=by
 unfold nxS;rw[List.getD_eq_getElem?_getD,List.getElem?_eq_none (by rw[J8];omega)];rfl
section
variable {g:Gm} {p:Int} {set:List Bool} {s:List Int}
theorem Po(h:stB g p set s=true)(i j:Nat):EG (nxS g p set s) i j↔set.getD i false=true/\(g.owner.getD i 0≠p\/s.getD i 0=(j:Int))/\(j:Int)∈g.succ.getD i []:=by
 obtain⟨h1,h2,h3,h4,h5⟩:=EQ h;unfold EG
 by_cases hi:i<set.length
 ·rw[NZ hi];unfold EB
  cases hs:set.getD i false
  ·simp
  ·have hk:=h5 i (by omega);unfold DU at hk;rw[hs,if_pos rfl]at hk;rw[if_pos rfl]
   by_cases ho:g.owner.getD i 0=p
   ·rw[if_pos ho]at hk⊢;simp only[Bool.and_eq_true,decide_eq_true_eq]at hk;rw[List.mem_singleton];refine⟨fun e=>⟨rfl,.inr e.symm,e▸hk.1⟩,fun⟨_,e,_⟩=> ?_⟩
    rcases e with e|e
    ·exact absurd ho e
    ·exact e.symm
   ·rw[if_neg ho];exact⟨fun e=>⟨rfl,.inl ho,e⟩,fun⟨_,_,e⟩=>e⟩
 ·rw[Sn hi]
  have:set.getD i false=false:=by rw[List.getD_eq_getElem?_getD,List.getElem?_eq_none (by omega)];rfl
  rw[this];simp
theorem SU(h:stB g p set s=true){i j:Nat}(e:EG (nxS g p set s) i j):set.getD i false=true/\set.getD j false=true/\i<g.owner.length/\j<g.owner.length:=by
 obtain⟨h1,h2,h3,h4,h5⟩:=EQ h;obtain⟨k1,k2,k3⟩:=(Po h i j).1 e
 have hi:i<g.owner.length:=by
  refine Nat.lt_of_not_le fun hle=> ?_
  have:set.getD i false=false:=by rw[List.getD_eq_getElem?_getD,List.getElem?_eq_none (by omega)];rfl
  rw[this]at k1;cases k1
 have hk:=h5 i hi;have a:=(Hd h2 i hi).2.2.2 _ k3;unfold DU at hk;rw[k1,if_pos rfl]at hk;refine⟨k1, ?_,hi,by omega⟩
 by_cases ho:g.owner.getD i 0=p
 ·rw[if_pos ho]at hk;simp only[Bool.and_eq_true,decide_eq_true_eq]at hk;have:=k2.resolve_left (fun k=>k ho);rw[this]at hk;simpa using hk.2
 ·rw[if_neg ho]at hk;simp only[Bool.and_eq_true,List.all_eq_true]at hk;have:=hk.2 _ k3;simpa using this
theorem Qc(h:stB g p set s=true)(q:Int)(i j:Nat):Cyc (EG (nxS g p set s)) (fun x=>x∈(List.range g.owner.length).filter (fun v=>set.getD v false)/\q<=prF g.prio x) i j↔WK (QN g p set s q) g.owner.length i j=true:=by
 rw[Tf]
 have hm:∀a b,QN g p set s q a b=true↔EG (nxS g p set s) a b/\q<=prF g.prio a/\q<=prF g.prio b:=fun a b=>by
  rw[Po h];simp only[QN,Bool.and_eq_true,Bool.or_eq_true,decide_eq_true_eq,bne_iff_ne,beq_iff_eq,prF]
  constructor
  ·rintro⟨⟨⟨⟨a1,a2⟩,a3⟩,a4⟩,a5⟩;exact⟨⟨a1,a4,a5⟩,a2,a3⟩
  ·rintro⟨⟨a1,a4,a5⟩,a2,a3⟩;exact⟨⟨⟨⟨a1,a2⟩,a3⟩,a4⟩,a5⟩
 have hA:∀a b,EG (nxS g p set s) a b->a∈(List.range g.owner.length).filter (fun v=>set.getD v false)/\b∈(List.range g.owner.length).filter (fun v=>set.getD v false):=fun a b e=>by
  obtain⟨k1,k2,k3,k4⟩:=SU h e;simp only[List.mem_filter,List.mem_range];exact⟨⟨k3,k1⟩,k4,k2⟩
 constructor
 ·intro k
  induction k with
  |one h1 h2 e=>exact .one ((hm _ _).2 ⟨e,h1.2,h2.2⟩)
  |step k2 h2 e ih=>
   have:=k2.right;have hlt:=this.1;simp only[List.mem_filter,List.mem_range]at hlt;exact ih.step hlt.1 ((hm _ _).2 ⟨e,this.2,h2.2⟩)
 ·intro k
  induction k with
  |one e=>
   obtain⟨a1,a2,a3⟩:=(hm _ _).1 e;obtain⟨b1,b2⟩:=hA _ _ a1;exact .one ⟨b1,a2⟩ ⟨b2,a3⟩ a1
  |step k2 _ e ih=>
   obtain⟨a1,a2,a3⟩:=(hm _ _).1 e;obtain⟨b1,b2⟩:=hA _ _ a1;exact ih.step ⟨b2,a3⟩ a1
def OW(set:List Bool)(n:Nat):List Nat:=(List.range n).filter fun v=>set.getD v false
theorem Rg(g:Gm)(p:Int)(set:List Bool)(s:List Int):Nl g p set s=true↔stB g p set s=true/\Cz (nxS g p set s) g.prio p (OW set g.owner.length):=by
 unfold Nl;rw[Bool.and_eq_true]
 constructor
 ·rintro⟨h,h2⟩;refine⟨h,fun i hi hb k=> ?_⟩;have a:=hi;simp only[OW,List.mem_filter,List.mem_range]at a;have h3:=List.all_eq_true.1 h2 i (List.mem_range.2 a.1);have h4:=(Qc h (prF g.prio i) i i).1 k
  have h5:(g.prio.getD i 0%2 !=p)=true:=by rw[bne_iff_ne];exact hb
  rw[a.2,h5,show g.prio.getD i 0=prF g.prio i from rfl,h4]at h3
  cases h3
 ·rintro⟨h,h2⟩;refine⟨h,List.all_eq_true.2 fun i hi=> ?_⟩
  cases hs:set.getD i false
  ·rfl
  cases hb:(g.prio.getD i 0%2 !=p)
  ·rfl
  cases hw:WK (QN g p set s (g.prio.getD i 0)) g.owner.length i i
  ·rfl
  ·exfalso
   refine h2 i ?_ (by rw[bne_iff_ne]at hb;exact hb) ((Qc h (prF g.prio i) i i).2 hw);simp only[OW,List.mem_filter];exact⟨hi,hs⟩
end
end Go.Proofs.YtncjeamdkjcebaaGreatDoor
namespace Go.Proofs.YtncjeamdkjcebaaGreatDoor
open Go.RowKit
theorem TN(gb nb ob n:Nat)(V:Nat->Value)(vp:Value)(c:List Int)(nx:List (List Int))(p:Int)(hx:GXn n c nx p)(w:World)(vl:Value)(a:List Nat)(i:∀v∈a,v<n)(f:a.length<=3000)
  (hS:GS w gb nb ob n V vp c nx (List.replicate n false)) (hl:KpO ob w vl (AY a)):
  Calls Tryz.prog 88 #[.pointer (some ⟨gb,0,none⟩),.int .i64 p,vl] w (Mn w gb nb ob n V vp c nx p a):=by
 have j:=hS.lt;have hb:Below w.heap.size w (((w.alloc (.cells #[.pointer (some ⟨gb,0,none⟩)] 127)).alloc (.cells #[.int .i64 p] 3)).alloc (.cells #[.func (.func 117) #[] #[.pointer (some ⟨w.heap.size,0,none⟩),.pointer (some ⟨w.heap.size+1,0,none⟩),.pointer (some ⟨w.heap.size+1+1,0,none⟩)]] 159)):=(by repeat(first|exact Ad|assumption|apply AE|apply AB));have HS:=Ab (hS.below hb);have HK:Hid (KpO ob _ vl (AY a)):=hl.step (Af.of_below hb);have HO:Hid (Af (fun k=>k=ob) w _):=Af.of_below hb
 have d:Hid (Ck (((w.alloc (.cells #[.pointer (some ⟨gb,0,none⟩)] 127)).alloc (.cells #[.int .i64 p] 3)).alloc (.cells #[.func (.func 117) #[] #[.pointer (some ⟨w.heap.size,0,none⟩),.pointer (some ⟨w.heap.size+1,0,none⟩),.pointer (some ⟨w.heap.size+1+1,0,none⟩)]] 159)) w.heap.size (w.heap.size+1) (w.heap.size+1+1) gb ob p):=
  ⟨(by(repeat(rw[Am];first|rw[if_pos (by first|simp;done|simp;omega)]|rw[if_neg (by first|simp;done|simp;omega)]));(try rfl)),(by(repeat(rw[Am];first|rw[if_pos (by first|simp;done|simp;omega)]|rw[if_neg (by first|simp;done|simp;omega)]));(try rfl)),(by(repeat(rw[Am];first|rw[if_pos (by first|simp;done|simp;omega)]|rw[if_neg (by first|simp;done|simp;omega)]));(try rfl)),by omega,by omega,by omega⟩
 have HX:=Ab hx;clear hb hS hl hx
 go_enter Tryz.func88,Tryz.ntmps88
 go_wp2_with fail
 refine(RT gb nb ob n V vp c nx p _ _ _ HX.out (a.length+1) _ vl a (by omega) i f HS.out HK.out d.out).mono ?_;rintro e w9 ⟨b,rfl,h1,h2,h3⟩;have H:=Ab (show Mn w gb nb ob n V vp c nx p a (.returned (.bool b)) w9 from⟨b,rfl,h1,h2,HO.out.trans h3⟩);clear h1 h2 h3;go_wp2;go_ret;exact H.out
theorem Tu{g:Gm}{p:Int}{set:List Bool}{s:List Int}(h:stB g p set s=true):GXn set.length g.prio (nxS g p set s) p:=by
 obtain⟨h1,h2,h3,h4,h5⟩:=EQ h;obtain⟨l1,l2,l3⟩:=Es h2;refine⟨by omega,by omega,fun v hv=>(Hd h2 v (by omega)).2.1,fun v hv x hx=> ?_,by omega⟩;rw[NZ hv]at hx;have hk:=h5 v (by omega);have a:=(Hd h2 v (by omega)).2.2.2;unfold EB at hx
 cases hs:set.getD v false
 ·rw[hs]at hx;cases hx
 ·unfold DU at hk;rw[hs,if_pos rfl]at hk hx
  by_cases ho:g.owner.getD v 0=p
  ·rw[if_pos ho]at hk hx;simp only[Bool.and_eq_true,decide_eq_true_eq]at hk;rw[List.mem_singleton.1 hx];have:=a _ hk.1;omega
  ·rw[if_neg ho]at hx;have:=a _ hx;omega
theorem Tg(w:World)(vg vs vt:Value)(g:Gm)(p:Int)(set:List Bool)(s:List Int)(hg:Cx w vg g)(hs:Bf w vs set)(ht:Ah w vt s):
  Calls Tryz.prog 40 #[vg,.int .i64 p,vs,vt] w (Av (.bool (Nl g p set s)) w):=by
 have HV:Hid (∀W,Below w.heap.size w W->Calls Tryz.prog 86 #[vg,.int .i64 p,vs,vt] W (Av (.bool (stB g p set s)) W)):=fun W hW=>Ok W vg vs vt g p set s (hg.below hW) (hs.below hW) (ht.below hW)
 obtain⟨v0,v1,v2,rfl,-,-,-⟩:=id hg;have HG:=Ab hg;have HS:=Ab hs;have HT:=Ab ht;clear hg hs ht
 cases hv:stB g p set s
 ·have HW:Hid (Nl g p set s=false):=by show _=_;unfold Nl;rw[hv];rfl
  go_enter Tryz.func40,Tryz.ntmps40
  go_wp2_with fail
  refine(HV.out _ (by repeat(first|exact Ad|assumption|(refine AE ?_ _)|(refine AB ?_ _)|(refine Below.drew ?_)))).mono ?_;rintro e w1 ⟨rfl,d⟩;rw[hv];have a:=(AH.start d).bl;clear hv d;go_wp2;go_ret;exact⟨Ak HW.out.symm,a⟩
 ·have c:=Ab hv
  go_enter Tryz.func40,Tryz.ntmps40
  go_wp2_with fail
  refine(HV.out _ (by repeat(first|exact Ad|assumption|(refine AE ?_ _)|(refine AB ?_ _)|(refine Below.drew ?_)))).mono ?_;rintro e w1 ⟨rfl,d⟩;rw[hv];have a:=AH.start d;have d0:=a.cell 0 rfl;have d1:=a.cell 1 rfl;have d2:=a.cell 2 rfl;clear hv d
  go_wp2_with fail
  refine(MY w1 v0 v1 v2 vs vt g p set s (HG.out.below a.bl) (HS.out.below a.bl) (HT.out.below a.bl) c.out).mono ?_;rintro e w2 ⟨gb,nb,ob,V,va,rfl,h1,h2,h3,h4⟩;have j:Hid (GS w2 gb nb ob set.length V v1 g.prio (nxS g p set s) (List.replicate set.length false)):=⟨fun W' hW=>(h4 W' hW).1,h1,by simp⟩
  have l:Hid (KpO ob w2 va (AY (OW set set.length))):=fun W' hW=>(h4 W' hW).2
  have o:=h3;have f:=Ab (a.bl.trans (h2.mono a.bl.size));have n:w.heap.size<=ob:=Nat.le_trans a.bl.size h3;clear d0 d1 d2 a h1 h2 h3 h4
  go_wp2_with fail
  refine(TN gb nb ob set.length V v1 g.prio (nxS g p set s) p (Tu c.out) w2 va (OW set set.length) (fun v hv=>List.mem_range.1 (List.mem_filter.1 hv).1) ?_ j.out l.out).mono ?_
  ·have h1:=(EQ c.out).2.2.1;have h2:=(Es (EQ c.out).2.1).1;have:=List.length_filter_le (fun v=>set.getD v false) (List.range set.length);rw[List.length_range]at this;unfold OW;omega
  rintro e w9 ⟨b,rfl,h1,h2,h3⟩
  have i:Hid (b=Nl g p set s):=by
   show _=_;rw[Bool.eq_iff_iff,Rg,h1,<-(EQ c.out).2.2.1];exact⟨fun h=>⟨c.out,h⟩,fun h=>h.2⟩
  have m:Below w.heap.size w w9:=f.out.trans (h3.below _ (by rintro k rfl;exact n) f.out.size);clear h1 h2 h3;go_wp2;go_ret;exact⟨Ak i.out,m⟩
def UK:List Sig:=[⟨⟨#[114]⟩,true,2⟩,⟨⟨#[103]⟩,false,2⟩]
def UL:My:=⟨2,2,0,[[0,0],[1,1]],[[0,1],[0,0]]⟩
def hZ:Mo:=⟨2,2,0,[0],[[0,0]]⟩
def UM:Mo:=⟨2,2,0,[1,0],[[0,1],[0,1]]⟩
def UI:Au:=⟨4,0,[[0,0,0,0]],[[0,1,1,0]]⟩
def UJ:Gm:=⟨[1,0,0,1],[1,1,1,0],[[1,2],[3,0],[0,3],[1,2]]⟩
def UN:List UE:=[⟨0,-1,1⟩,⟨0,0,-1⟩,⟨0,1,-1⟩,⟨0,-1,0⟩]
theorem Tr:Ha UL 0 [0,1,0,1]=([0,0,1,0],1):=by decide+kernel
theorem Tq:Kx UI UK 10=(UJ,UN,0):=by decide+kernel
theorem GR:BH UK UL=true:=by decide+kernel
theorem Ui:A5 UL=true:=by decide+kernel
theorem Uj:Bw UM=true:=by decide+kernel
theorem Uh:A5 Fh=false:=by decide+kernel
theorem ND:As UK=true:=by decide+kernel
theorem NC:AC UI=true:=by decide+kernel
theorem SN:UI.letters=Ay UK:=by decide+kernel
theorem Uk:Ch 2 ⟨[],[1]⟩=true:=by decide+kernel
theorem Ts:Ch 4 ⟨[],[0]⟩=true:=by decide+kernel
theorem RV:Nl UJ 1 [true,true,true,true] [1,-1,-1,2]=false:=by decide+kernel
theorem RW:CY UK UL ⟨[],[1]⟩=⟨[],[1,3]⟩:=by
 have h:Dw (stW UL ⟨[],[1]⟩) 0 2:=⟨by decide,by decide+kernel,by
  intro i j a hj
  have h1:i=0/\j=1:=by omega
  obtain⟨rfl,rfl⟩:=h1
  decide+kernel⟩
 unfold CY;rw[if_pos ⟨GR,by decide+kernel⟩,EY h]
 decide+kernel
theorem Qf:Cs UK UL hZ=⟨[],[0]⟩:=by
 have h:Dw (stP UL hZ) 0 1:=⟨by decide,by decide+kernel,by
  intro i j a hj
  omega⟩
 unfold Cs;rw[if_pos ⟨GR,by decide+kernel⟩,EY h]
 decide+kernel
theorem Qe:Cs UK UL UM=⟨[],[1,3,0]⟩:=by
 have h:Dw (stP UL UM) 0 3:=⟨by decide,by decide+kernel,by
  intro i j a hj
  have h1:(i=0/\j=1)\/(i=0/\j=2)\/(i=1/\j=2):=by omega
  rcases h1 with⟨rfl,rfl⟩|⟨rfl,rfl⟩|⟨rfl,rfl⟩<;>decide+kernel⟩
 unfold Cs;rw[if_pos ⟨GR,by decide+kernel⟩,EY h]
 decide+kernel
theorem RU:DN UK UL UL [false,true]=(UL,0):=by
 have h:EF UL UL UL.ins.toNat 2:=⟨by decide+kernel,fun j hj=>by
  match j,hj with
  |0,_=>decide+kernel
  |1,_=>decide+kernel⟩
 unfold DN;rw[if_pos ⟨GR,GR,rfl⟩,IR h]
 decide+kernel
theorem A8{w:World}{g:Nat}(l:List Int)(h:w.heap[g]? =some (.cells (l.map (Value.int .i64)).toArray 3 (0,0)))(hn:l.length<=3000)(hI:∀x∈l,I64 x):Ah w (.slice (some ⟨g,0,none⟩) l.length l.length) l:=by
 refine⟨⟨_,_,g,0,rfl,Nat.le_refl _,by simp only[maxLen];omega,by simp only[Bg];omega,(fun h=>by cases h),fun _=>rfl,fun j hj=> ?_⟩,hI⟩;rw[Nat.zero_add,cell_of_row w g j _ _ _ h];simp[ivF,List.getD,hj]
theorem JF{w:World}{g:Nat}(l:List Bool)(h:w.heap[g]? =some (.cells (l.map Value.bool).toArray 4 (0,0)))(hn:l.length<=3000):Bf w (.slice (some ⟨g,0,none⟩) l.length l.length) l:=by
 refine⟨_,_,g,0,rfl,Nat.le_refl _,by simp only[maxLen];omega,by simp only[Bg];omega,(fun h=>by cases h),fun _=>rfl,fun j hj=> ?_⟩;rw[Nat.zero_add,cell_of_row w g j _ _ _ h];simp[bvF,List.getD,hj]
theorem EU{w:World}{g:Nat}(ll:List (List Int))(vals:List Value)(h:w.heap[g]? =some (.cells vals.toArray 26 (0,0)))(hl:vals.length=ll.length)(hn:ll.length<=3000)(hr:∀j,j<ll.length->Ah w (vals.getD j undef) (ll.getD j [])):Ar w (.slice (some ⟨g,0,none⟩) ll.length ll.length) ll:=by
 refine⟨fun j=>vals.getD j undef,⟨_,_,g,0,rfl,Nat.le_refl _,by simp only[maxLen];omega,by simp only[Bg];omega,(fun h=>by cases h),fun _=>rfl,fun j hj=> ?_⟩,hr⟩;rw[Nat.zero_add,cell_of_row w g j _ _ _ h];simp[List.getD,show j<vals.length by omega]
def TI:List Int:=[-1,3,3,-1]
def TH:List Int:=[1,-1,-1,2]
def nxO(_:Int)(_:Nat):Int:=0
def oO(_:Int)(i:Nat):Int:=i
def nxE(q:Int)(i:Nat):Int:=if q=0 then(if i=0 then 3 else 0)else(if i=0 then 0 else 3)
def inE(k:Nat):Int:=k
theorem Ln:UN.Nodup:=by decide+kernel
theorem ML:(Al UK).toNat=2:=by decide+kernel
theorem Kz:(Ai UK).toNat=2:=by decide+kernel
theorem T7:Rh UI UN TI UK 0 0 0 0:=⟨1,3,by decide+kernel,by decide+kernel,by decide+kernel,by decide+kernel,by decide+kernel,by decide+kernel,by decide+kernel,by decide+kernel,fun j hj=>absurd hj (by omega),by decide+kernel⟩
theorem T8:Rh UI UN TI UK 0 1 1 0:=⟨2,3,by decide+kernel,by decide+kernel,by decide+kernel,by decide+kernel,by decide+kernel,by decide+kernel,by decide+kernel,by decide+kernel,fun j hj=>by
 obtain rfl:j=0:=by omega
 decide+kernel,by decide+kernel⟩
theorem UB:Kj nxO 0 0 2 1:=⟨by decide+kernel,fun j hj=>by
 obtain rfl:j=0:=by omega
 decide+kernel⟩
theorem UA:Kj nxE 0 0 2 2:=⟨by decide+kernel,fun j hj=>by
 match j,hj with
 |0,_=>decide+kernel
 |1,_=>decide+kernel⟩
theorem TQ(w:World)(vl va vp vs:Value)(hK:B7 w)(hl:AD w vl UK)(ha:Cw w va UI)(hp:CA w vp UN)(hs:Ah w vs [-1,3,3,-1]):
  Calls Tryz.prog 38 #[vl,va,vp,vs] w (H8 ⟨2,2,0,[[0,1]],[[0,0]]⟩ 0 w):=by
 have h:=Of w vl va vp vs UK UI UN TI hK hl ha hp hs ND NC SN (by decide) (by decide) Ln nxO oO 1 (by rw[ML];exact UB) (by omega)
  (fun k hk x hx=>by
   rw[ML]at hx
   have:x=0:=by
    match k,hk with
    |0,_=>exact List.mem_singleton.1 hx
    |1,_=>exact List.mem_singleton.1 (by simpa[show UH nxO UI.start 0 2 1=[0]by decide+kernel]using hx)
   rw[this]
   decide+kernel)
  (fun k hk i hi=>by
   rw[ML]at hi⊢
   obtain rfl:k=0:=by omega
   match i,hi with
   |0,_=>exact⟨by decide+kernel,by decide+kernel,T7⟩
   |1,_=>exact⟨by decide+kernel,by decide+kernel,T8⟩)
 rw[show(⟨Al UK,Ai UK,0,(List.range 1).map (fun k=>(List.range (Al UK).toNat).map (oO (gP nxO UI.start 0 (Al UK).toNat k))),UG nxO UI.start 0 (Al UK).toNat 1⟩:My)=⟨2,2,0,[[0,1]],[[0,0]]⟩from by decide+kernel]at h;exact h
theorem Uf:Rl UI UN TH UK 0 0 1 0:=⟨by decide+kernel,by decide+kernel,by decide+kernel,by decide+kernel,by decide+kernel,by decide+kernel,by decide+kernel,by decide+kernel,by decide+kernel,fun j hj=>by
 have a:j<2:=Nat.lt_of_lt_of_eq hj (by decide+kernel)
 match j,a with
 |0,_=>decide+kernel
 |1,_=>decide+kernel⟩
theorem Ug:Rl UI UN TH UK 3 0 2 1:=⟨by decide+kernel,by decide+kernel,by decide+kernel,by decide+kernel,by decide+kernel,by decide+kernel,by decide+kernel,by decide+kernel,by decide+kernel,fun j hj=>by
 have a:j<2:=Nat.lt_of_lt_of_eq hj (by decide+kernel)
 match j,a with
 |0,_=>decide+kernel
 |1,_=>decide+kernel⟩
theorem TP(w:World)(vl va vp vs:Value)(hK:B7 w)(hl:AD w vl UK)(ha:Cw w va UI)(hp:CA w vp UN)(hs:Ah w vs [1,-1,-1,2]):
  Calls Tryz.prog 39 #[vl,va,vp,vs] w (Ps ⟨2,2,0,[0,1],[[1,0],[0,1]]⟩ 0 w):=by
 have h:=Ki w vl va vp vs UK UI UN TH hK hl ha hp hs ND NC SN (by decide) (by decide) Ln nxE inE 2 (by rw[Kz];exact UA) (by omega) (by decide+kernel) (by decide)
  (fun k hk x hx=>by
   rw[Kz]at hx
   have:x=0\/x=3:=by
    match k,hk with
    |0,_=>exact .inl (List.mem_singleton.1 hx)
    |1,_=>rw[show UH nxE 0 0 2 1=[0,3]by decide+kernel]at hx;simpa using hx
    |2,_=>rw[show UH nxE 0 0 2 2=[0,3]by decide+kernel]at hx;simpa using hx
   rcases this with rfl|rfl<;>decide+kernel)
  (fun k hk=>by
   rw[Kz]
   match k,hk with
   |0,_=>exact⟨0,1,0,Uf,by decide+kernel,by decide+kernel⟩
   |1,_=>exact⟨0,2,1,Ug,by decide+kernel,by decide+kernel⟩)
 rw[show(⟨Al UK,Ai UK,0,(List.range 2).map inE,UG nxE 0 0 (Ai UK).toNat 2⟩:Mo)=⟨2,2,0,[0,1],[[1,0],[0,1]]⟩from by decide+kernel]at h;exact h
theorem Tp{b:Bool}(h:PL UI ⟨[],[0]⟩ b):b=true:=by
 obtain⟨j,d,v,hd,-,⟨⟨i,hi,hv⟩,-⟩,rfl⟩:=h
 have c:∀n,stN UI ⟨[],[0]⟩ n=0:=by
  intro n
  induction n with
  |zero=>decide+kernel
  |succ n ih=>
   show(C5 UI (stN UI ⟨[],[0]⟩ n,20000) [0]).1=0;rw[ih];decide+kernel
 have a:lsN UI ⟨[],[0]⟩ (j+i)=0:=by
  show(C5 UI (stN UI ⟨[],[0]⟩ (j+i),20000) [0]).2=0;rw[c];decide+kernel
 rw[<-hv,a];rfl
def Te(w:World)(e:Ending)(w':World):Prop:=∃a c,e=.returned (.slice a 2 c)/\AD w' (.slice a 2 c) UK/\Below w.heap.size w w'
def ST(w:World)(e:Ending)(w':World):Prop:=∃a c b d,e=.returned (.agg #[.int .i64 2,.int .i64 2,.int .i64 0,.slice a 2 c,.slice b 2 d])/\BB w' (.agg #[.int .i64 2,.int .i64 2,.int .i64 0,.slice a 2 c,.slice b 2 d]) UL/\Below w.heap.size w w'
theorem Oi(w:World):Calls Tryz.prog 35 #[] w (Te w):=by
 go_enter Tryz.func35,Tryz.ntmps35
 go_wp2;obtain⟨w1,eW⟩:∃W,W=w.alloc (.cells #[.string ⟨#[114]⟩,.bool true,.int .i64 2,.string ⟨#[103]⟩,.bool false,.int .i64 2] 75):=⟨_,rfl⟩
 have hb:Below w.heap.size w w1:=by rw[eW];exact(by repeat(first|exact Ad|assumption|apply AE|apply AB))
 have x0:w1.heap[w.heap.size]? =some (.cells #[.string ⟨#[114]⟩,.bool true,.int .i64 2,.string ⟨#[103]⟩,.bool false,.int .i64 2] 75 (0,0)):=by rw[eW];exact(by(repeat(rw[Am];first|rw[if_pos (by first|simp;done|simp;omega)]|rw[if_neg (by first|simp;done|simp;omega)]));(try rfl))
 rw[<-eW];clear eW;refine bodyPost_ret (v:=.slice (some ⟨w.heap.size,0,none⟩) 2 2) (by simp[results,Tryz.results35,go_sem]) rfl ?_
 have c:∀k v,#[Value.string ⟨#[114]⟩,.bool true,.int .i64 2,.string ⟨#[103]⟩,.bool false,.int .i64 2][k]? =some v->w1.cell? ⟨w.heap.size,k,none⟩=some v:=fun k v hv=>(cell_of_row _ _ k _ _ _ x0).trans hv
 refine⟨_,_,rfl,⟨_,_,_,_,rfl,⟨by decide,by decide,by decide,fun _=>rfl,fun j hj=> ?_,fun j hj=> ?_,fun j hj=> ?_,by simp[UK,I64],by decide⟩⟩,hb⟩
 all_goals
  rw[Nat.zero_add]
  match j,hj with
  |0,_=>exact c _ _ rfl
  |1,_=>exact c _ _ rfl
  |q+2,h=>exact absurd h (by simp[UK])
theorem Kh(w:World):Calls Tryz.prog 36 #[] w (ST w):=by
 go_enter Tryz.func36,Tryz.ntmps36
 go_wp2;obtain⟨w1,eW⟩:∃W,W=((((((w.alloc (.cells #[.int .i64 2,.int .i64 2,.int .i64 0,.slice (some ⟨w.heap.size+1+1+1,0,none⟩) 2 2,.slice (some ⟨w.heap.size+1+1+1+1+1+1,0,none⟩) 2 2] 25)).alloc (.cells #[.int .i64 0,.int .i64 0] 3)).alloc (.cells #[.int .i64 1,.int .i64 1] 3)).alloc (.cells #[.slice (some ⟨w.heap.size+1,0,none⟩) 2 2,.slice (some ⟨w.heap.size+1+1,0,none⟩) 2 2] 26)).alloc (.cells #[.int .i64 0,.int .i64 1] 3)).alloc (.cells #[.int .i64 0,.int .i64 0] 3)).alloc (.cells #[.slice (some ⟨w.heap.size+1+1+1+1,0,none⟩) 2 2,.slice (some ⟨w.heap.size+1+1+1+1+1,0,none⟩) 2 2] 26):=⟨_,rfl⟩
 have hb:Below w.heap.size w w1:=by rw[eW];exact(by repeat(first|exact Ad|assumption|apply AE|apply AB))
 have x0:w1.heap[w.heap.size]? =some (.cells #[.int .i64 2,.int .i64 2,.int .i64 0,.slice (some ⟨w.heap.size+1+1+1,0,none⟩) 2 2,.slice (some ⟨w.heap.size+1+1+1+1+1+1,0,none⟩) 2 2] 25 (0,0)):=by rw[eW];exact(by(repeat(rw[Am];first|rw[if_pos (by first|simp;done|simp;omega)]|rw[if_neg (by first|simp;done|simp;omega)]));(try rfl))
 have x1:w1.heap[w.heap.size+1]? =some (.cells #[.int .i64 0,.int .i64 0] 3 (0,0)):=by rw[eW];exact(by(repeat(rw[Am];first|rw[if_pos (by first|simp;done|simp;omega)]|rw[if_neg (by first|simp;done|simp;omega)]));(try rfl))
 have x2:w1.heap[w.heap.size+1+1]? =some (.cells #[.int .i64 1,.int .i64 1] 3 (0,0)):=by rw[eW];exact(by(repeat(rw[Am];first|rw[if_pos (by first|simp;done|simp;omega)]|rw[if_neg (by first|simp;done|simp;omega)]));(try rfl))
 have x3:w1.heap[w.heap.size+1+1+1]? =some (.cells #[.slice (some ⟨w.heap.size+1,0,none⟩) 2 2,.slice (some ⟨w.heap.size+1+1,0,none⟩) 2 2] 26 (0,0)):=by rw[eW];exact(by(repeat(rw[Am];first|rw[if_pos (by first|simp;done|simp;omega)]|rw[if_neg (by first|simp;done|simp;omega)]));(try rfl))
 have x4:w1.heap[w.heap.size+1+1+1+1]? =some (.cells #[.int .i64 0,.int .i64 1] 3 (0,0)):=by rw[eW];exact(by(repeat(rw[Am];first|rw[if_pos (by first|simp;done|simp;omega)]|rw[if_neg (by first|simp;done|simp;omega)]));(try rfl))
 have x5:w1.heap[w.heap.size+1+1+1+1+1]? =some (.cells #[.int .i64 0,.int .i64 0] 3 (0,0)):=by rw[eW];exact(by(repeat(rw[Am];first|rw[if_pos (by first|simp;done|simp;omega)]|rw[if_neg (by first|simp;done|simp;omega)]));(try rfl))
 have x6:w1.heap[w.heap.size+1+1+1+1+1+1]? =some (.cells #[.slice (some ⟨w.heap.size+1+1+1+1,0,none⟩) 2 2,.slice (some ⟨w.heap.size+1+1+1+1+1,0,none⟩) 2 2] 26 (0,0)):=by rw[eW];exact(by(repeat(rw[Am];first|rw[if_pos (by first|simp;done|simp;omega)]|rw[if_neg (by first|simp;done|simp;omega)]));(try rfl))
 rw[<-eW];clear eW;have k0:=Aa 0 x0;have k1:=Aa 1 x0;have k2:=Aa 2 x0;have k3:=Aa 3 x0;have k4:=Aa 4 x0;refine bodyPost_ret (v:=.agg #[.int .i64 2,.int .i64 2,.int .i64 0,.slice (some ⟨w.heap.size+1+1+1,0,none⟩) 2 2,.slice (some ⟨w.heap.size+1+1+1+1+1+1,0,none⟩) 2 2]) (by simp[results,Tryz.results36,go_sem,k0,k1,k2,k3,k4]) rfl ?_
 have r3:=EU [[0,0],[1,1]] [.slice (some ⟨w.heap.size+1,0,none⟩) 2 2,.slice (some ⟨w.heap.size+1+1,0,none⟩) 2 2] x3 rfl (by decide) (fun j hj=>by
  match j,hj with
  |0,_=>exact A8 [0,0] x1 (by decide) (by simp[I64])
  |1,_=>exact A8 [1,1] x2 (by decide) (by simp[I64])
  |q+2,h=>exact absurd h (by simp))
 have r6:=EU [[0,1],[0,0]] [.slice (some ⟨w.heap.size+1+1+1+1,0,none⟩) 2 2,.slice (some ⟨w.heap.size+1+1+1+1+1,0,none⟩) 2 2] x6 rfl (by decide) (fun j hj=>by
  match j,hj with
  |0,_=>exact A8 [0,1] x4 (by decide) (by simp[I64])
  |1,_=>exact A8 [0,0] x5 (by decide) (by simp[I64])
  |q+2,h=>exact absurd h (by simp))
 exact⟨_,_,_,_,rfl,⟨_,_,rfl,by simp[UL,I64],r3,r6⟩,hb⟩
theorem Tc(w:World)(vm vi:Value)(hm:BB w vm UL)(hi:Ah w vi [0,1,0,1]):Calls Tryz.prog 12 #[vm,.int .i64 0,vi] w (IE [0,0,1,0] 1 w):=by
 have h:=SI w vm vi UL 0 [0,1,0,1] hm hi (by decide);rw[Tr]at h;exact h
theorem SS(w:World)(vl va:Value)(hK:B7 w)(hl:AD w vl UK)(ha:Cw w va UI):Calls Tryz.prog 37 #[vl,va,.int .i64 10] w (GPE (UJ,UN,0) w):=by
 have h:Calls Tryz.prog 37 #[vl,va,.int .i64 10] w (GPE (Kx UI UK 10) w):=Mm w vl va UK UI 10 hK hl ha ND NC (by decide+kernel) (by decide) (by decide);rw[Tq]at h;exact h
theorem RH(w:World)(vl vm vi:Value)(hK:B7 w)(hl:AD w vl UK)(hm:BB w vm UL)(hi:Cn w vi ⟨[],[1]⟩):Calls Tryz.prog 23 #[vl,vm,vi] w (Dz ⟨[],[1,3]⟩ w):=by
 have h:=Nq w vl vm vi UK UL ⟨[],[1]⟩ hK hl hm hi;rw[RW]at h;exact h
theorem Rv(w:World)(vl vm vi:Value)(hK:B7 w)(hl:AD w vl UK)(hm:BB w vm UL)(hi:Dy w vi hZ):Calls Tryz.prog 25 #[vl,vm,vi] w (Dz ⟨[],[0]⟩ w):=by
 have h:=Km w vl vm vi UK UL hZ hK hl hm hi;rw[Qf]at h;exact h
theorem Ru(w:World)(vl vm vi:Value)(hK:B7 w)(hl:AD w vl UK)(hm:BB w vm UL)(hi:Dy w vi UM):Calls Tryz.prog 25 #[vl,vm,vi] w (Dz ⟨[],[1,3,0]⟩ w):=by
 have h:=Km w vl vm vi UK UL UM hK hl hm hi;rw[Qe]at h;exact h
theorem Rj(w:World)(vl va vb vo:Value)(hK:B7 w)(hl:AD w vl UK)(ha:BB w va UL)(hb:BB w vb UL)(ho:Bf w vo [false,true]):Calls Tryz.prog 14 #[vl,va,vb,vo] w (H8 UL 0 w):=by
 have h:=Pm w vl va vb vo UK UL UL [false,true] hK hl ha hb ho (by decide) (by decide);rw[RU]at h;exact h
theorem RE(w:World)(vg vs vt:Value)(hg:Cx w vg UJ)(hs:Bf w vs [true,true,true,true])(ht:Ah w vt [1,-1,-1,2]):Calls Tryz.prog 40 #[vg,.int .i64 1,vs,vt] w (Av (.bool false) w):=by
 have h:=Tg w vg vs vt UJ 1 _ _ hg hs ht;rw[RV]at h;exact h
theorem T3(w:World)(v:Value)(hm:BB w v UL):Calls Tryz.prog 18 #[v] w (Av (.bool true) w):=by
 have h:=Fn w v UL hm;rw[Ui]at h;exact h
theorem T2(w:World)(v:Value)(hm:BB w v Fh):Calls Tryz.prog 18 #[v] w (Av (.bool false) w):=by
 have h:=Fn w v Fh hm;rw[Uh]at h;exact h
theorem T1(w:World)(v:Value)(hm:Dy w v UM):Calls Tryz.prog 20 #[v] w (Av (.bool true) w):=by
 have h:=IJ w v UM hm;rw[Uj]at h;exact h
theorem T5(w:World)(v:Value)(hK:B7 w)(hl:AD w v UK):Calls Tryz.prog 41 #[v] w (Av (.bool true) w):=by
 have h:=(CC w v UK hK hl).mono fun e w' h=>h.calm
 rw[ND]at h;exact h
theorem T6(w:World)(v:Value)(hl:Cn w v ⟨[],[1]⟩):Calls Tryz.prog 42 #[.int .i64 2,v] w (Av (.bool true) w):=by
 have h:=IK w v ⟨[],[1]⟩ 2 hl;rw[Uk]at h;exact h
theorem TX(w:World)(va v:Value)(ha:Cw w va UI)(hl:Cn w v ⟨[],[0]⟩):Calls Tryz.prog 43 #[va,v] w (Av (.bool true) w):=
 (Th w va v UI ⟨[],[0]⟩ ha hl NC Ts).mono fun e w' ⟨b,he,hw,hb⟩=>⟨by rw[he,Tp hw],hb⟩
theorem RA(w:World)(va vb:Value)(ha:BB w va UL)(hb:BB w vb UL):Calls Tryz.prog 17 #[va,vb] w (Av (.bool true) w):=by
 have h:=Nt w va vb UL UL ha hb;rw[decide_eq_true rfl]at h;exact h
theorem Np(w:World)(va vb:Value)(l:Ls)(ha:Cn w va l)(hb:Cn w vb l):Calls Tryz.prog 22 #[va,vb] w (Av (.bool true) w):=by
 have h:=Rm w va vb l l ha hb;rw[decide_eq_true rfl]at h;exact h
theorem Kk(w:World)(va vb:Value)(l:List Int)(ha:Ah w va l)(hb:Ah w vb l):Calls Tryz.prog 16 #[va,vb] w (Av (.bool true) w):=by
 have h:=(Kl w va vb l l ha hb).mono fun e w' h=>h.calm
 rw[decide_eq_true rfl]at h;exact h
theorem Cx.shp4{w:World}{v:Value}(h:Cx w v UJ):∃a0 c0 a1 c1 a2 c2,v=.agg #[.slice a0 4 c0,.slice a1 4 c1,.slice a2 4 c2]:=by
 obtain⟨v0,v1,v2,rfl,h0,h1,h2⟩:=h;obtain⟨a0,c0,rfl⟩:=h0.shape;obtain⟨a1,c1,rfl⟩:=h1.shape;obtain⟨a2,c2,rfl⟩:=h2.shape;exact⟨_,_,_,_,_,_,rfl⟩
theorem BB.shpX{w:World}{v:Value}(h:BB w v ⟨2,2,0,[[0,1]],[[0,0]]⟩):∃a c b d,v=.agg #[.int .i64 2,.int .i64 2,.int .i64 0,.slice a 1 c,.slice b 1 d]:=by
 obtain⟨v3,v4,rfl,-,h0,h1⟩:=h;obtain⟨a0,c0,rfl⟩:=h0.shape;obtain⟨a1,c1,rfl⟩:=h1.shape;exact⟨_,_,_,_,rfl⟩
theorem BB.shpM{w:World}{v:Value}(h:BB w v UL):∃a c b d,v=.agg #[.int .i64 2,.int .i64 2,.int .i64 0,.slice a 2 c,.slice b 2 d]:=by
 obtain⟨v3,v4,rfl,-,h0,h1⟩:=h;obtain⟨a0,c0,rfl⟩:=h0.shape;obtain⟨a1,c1,rfl⟩:=h1.shape;exact⟨_,_,_,_,rfl⟩
theorem Dy.shpY{w:World}{v:Value}(h:Dy w v ⟨2,2,0,[0,1],[[1,0],[0,1]]⟩):∃a c b d,v=.agg #[.int .i64 2,.int .i64 2,.int .i64 0,.slice a 2 c,.slice b 2 d]:=by
 obtain⟨v3,v4,rfl,-,h0,h1⟩:=h;obtain⟨a0,c0,rfl⟩:=h0.shape;obtain⟨a1,c1,rfl⟩:=h1.shape;exact⟨_,_,_,_,rfl⟩
theorem BB.rowX{w:World}{a b:Option Addr}{c d:Nat}(h:BB w (.agg #[.int .i64 2,.int .i64 2,.int .i64 0,.slice a 1 c,.slice b 1 d]) ⟨2,2,0,[[0,1]],[[0,0]]⟩):
  ∃x o u,a=some ⟨x,o,none⟩/\w.cell? ⟨x,o,none⟩=some u/\Ah w u [0,1]:=by
 obtain⟨v3,v4,hv,-,h0,-⟩:=h
 obtain rfl:v3=.slice a 1 c:=by injection hv with hv;injection hv with hv;simp_all
 obtain⟨x,o,hx,-,hr⟩:=h0.dat2;obtain⟨ao,e,hc,hi⟩:=hr 0 (by omega);exact⟨x,o,_,hx (by omega),hc,hi⟩
theorem Dy.inY{w:World}{a b:Option Addr}{c d:Nat}(h:Dy w (.agg #[.int .i64 2,.int .i64 2,.int .i64 0,.slice a 2 c,.slice b 2 d]) ⟨2,2,0,[0,1],[[1,0],[0,1]]⟩):
  ∃x o,a=some ⟨x,o,none⟩/\w.cell? ⟨x,o,none⟩=some (.int .i64 0)/\w.cell? ⟨x,o+1,none⟩=some (.int .i64 1):=by
 obtain⟨v3,v4,hv,-,h0,-⟩:=h
 obtain rfl:v3=.slice a 2 c:=by injection hv with hv;injection hv with hv;simp_all
 obtain⟨x,o,hx,-,hr⟩:=h0.data;exact⟨x,o,hx (by omega),hr 0 (by omega),hr 1 (by omega)⟩
def BW(w W:World):Prop:=Below w.heap.size w W
theorem BW.step{w W W':World}(h:BW w W)(hb:Below W.heap.size W W'):BW w W':=Below.trans h (hb.mono (Below.size h))
theorem bst{a b c:World}(h:BW a b)(k:BW b c):BW a c:=BW.step h k
theorem UF{w w':World}{q:Nat}{o:Obj}(hb:BW w w')(h:w.heap[q]? =some o):w'.heap[q]? =some o:=B8 hb h
theorem BB.shp9{w:World}{v:Value}{m:My}(h:BB w v m):∃i o s a n c b k d,v=.agg #[.int .i64 i,.int .i64 o,.int .i64 s,.slice a n c,.slice b k d]:=by
 obtain⟨v3,v4,rfl,-,h0,h1⟩:=h;obtain⟨a0,c0,rfl⟩:=h0.shape;obtain⟨a1,c1,rfl⟩:=h1.shape;exact⟨_,_,_,_,_,_,_,_,_,rfl⟩
theorem Dy.shp9{w:World}{v:Value}{m:Mo}(h:Dy w v m):∃i o s a n c b k d,v=.agg #[.int .i64 i,.int .i64 o,.int .i64 s,.slice a n c,.slice b k d]:=by
 obtain⟨v3,v4,rfl,-,h0,h1⟩:=h;obtain⟨a0,c0,rfl⟩:=h0.shape;obtain⟨a1,c1,rfl⟩:=h1.shape;exact⟨_,_,_,_,_,_,_,_,_,rfl⟩
theorem NE{m:My}{k:Int}(h:MM m k=true):(m.out.length:Int)<=k:=by
 unfold MM at h;rw[Bool.and_eq_true,Lp]at h;exact h.1.1
theorem RX{m:Mo}{k:Int}(h:Oy m k=true):(m.inn.length:Int)<=k:=by
 unfold Oy at h;rw[Bool.and_eq_true,decide_eq_true_eq]at h;exact h.1
theorem Ar.el{w:World}{a:Option Addr}{n c:Nat}{ll:List (List Int)}(h:Ar w (.slice a n c) ll){q x:Nat}(hq:q<ll.length)(hx:x<(ll.getD q []).length):
  ∃b o b2 o2 n2 c2,a=some ⟨b,o,none⟩/\q<n/\w.cell? ⟨b,o+q,none⟩=some (.slice (some ⟨b2,o2,none⟩) n2 c2)/\x<n2/\w.cell? ⟨b2,o2+x,none⟩=some (.int .i64 ((ll.getD q []).getD x 0)):=by
 obtain⟨a',c',hv⟩:=h.shape
 injection hv with h1 h2 h3
 subst h1 h2 h3;obtain⟨b,o,d,-,f⟩:=h.dat2;obtain⟨ao,e,f1,f2⟩:=f q hq;obtain⟨b2,o2,d2,-,g⟩:=f2.data;obtain rfl:=d2 (by omega);exact⟨b,o,b2,o2,_,_,d (by omega),hq,f1,hx,g x hx⟩
theorem Ah.el{w:World}{a:Option Addr}{n c:Nat}{l:List Int}(h:Ah w (.slice a n c) l){q:Nat}(hq:q<l.length):
  ∃b o,a=some ⟨b,o,none⟩/\q<n/\w.cell? ⟨b,o+q,none⟩=some (.int .i64 (l.getD q 0)):=by
 obtain⟨a',c',hv⟩:=h.shape
 injection hv with h1 h2 h3
 subst h1 h2 h3;obtain⟨b,o,d,-,f⟩:=h.data;exact⟨b,o,d (by omega),hq,f q hq⟩
theorem BB.vals{w:World}{i o s:Int}{a b:Option Addr}{n c k d:Nat}{m:My}(h:BB w (.agg #[.int .i64 i,.int .i64 o,.int .i64 s,.slice a n c,.slice b k d]) m):
  i=m.ins/\o=m.outs/\s=m.start/\n=m.out.length/\k=m.next.length/\Ar w (.slice a n c) m.out/\Ar w (.slice b k d) m.next:=by
 obtain⟨v3,v4,hv,-,h0,h1⟩:=h;simp only[Value.agg.injEq,Array.mk.injEq,List.cons.injEq,Value.int.injEq,true_and,and_true]at hv;obtain⟨rfl,rfl,rfl,rfl,rfl⟩:=hv;obtain⟨a',c',e0⟩:=h0.shape;obtain⟨b',d',e1⟩:=h1.shape
 injection e0 with _ e0 _
 injection e1 with _ e1 _
 exact⟨rfl,rfl,rfl,e0,e1,h0,h1⟩
theorem Dy.vals{w:World}{i o s:Int}{a b:Option Addr}{n c k d:Nat}{m:Mo}(h:Dy w (.agg #[.int .i64 i,.int .i64 o,.int .i64 s,.slice a n c,.slice b k d]) m):
  i=m.ins/\o=m.outs/\s=m.start/\n=m.inn.length/\k=m.next.length/\Ah w (.slice a n c) m.inn/\Ar w (.slice b k d) m.next:=by
 obtain⟨v3,v4,hv,-,h0,h1⟩:=h;simp only[Value.agg.injEq,Array.mk.injEq,List.cons.injEq,Value.int.injEq,true_and,and_true]at hv;obtain⟨rfl,rfl,rfl,rfl,rfl⟩:=hv;obtain⟨a',c',e0⟩:=h0.shape;obtain⟨b',d',e1⟩:=h1.shape
 injection e0 with _ e0 _
 injection e1 with _ e1 _
 exact⟨rfl,rfl,rfl,e0,e1,h0,h1⟩
end Go.Proofs.YtncjeamdkjcebaaGreatDoor
