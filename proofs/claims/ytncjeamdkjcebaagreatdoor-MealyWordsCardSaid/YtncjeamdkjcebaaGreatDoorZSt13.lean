/- Whether a strategy wins, told by closed paths: the table of paths, in plain terms. -/
import Derived.Test.YtncjeamdkjcebaaGreatDoorZSt10
set_option linter.all false
set_option maxHeartbeats 4000000
set_option maxRecDepth 100000
namespace Go.Proofs.YtncjeamdkjcebaaGreatDoor
inductive PK(e:Nat->Nat->Prop)(k:Nat)(i:Nat):Nat->Prop
 |one {j:Nat}:e i j->PK e k i j
 |step {m j:Nat}:PK e k i m->m<k->e m j->PK e k i j
theorem PK.up{e:Nat->Nat->Prop}{k l i j:Nat}(h:PK e k i j)(hl:k<=l):PK e l i j:=by
 induction h with
 |one h=>exact .one h
 |step _ hm he ih=>exact ih.step (by omega) he
theorem PK.trans{e:Nat->Nat->Prop}{k i m j:Nat}(h:PK e k i m)(hm:m<k)(h2:PK e k m j):PK e k i j:=by
 induction h2 with
 |one h3=>exact h.step hm h3
 |step _ hm' he ih=>exact ih.step hm' he
theorem PK.split{e:Nat->Nat->Prop}{k i j:Nat}(h:PK e (k+1) i j):PK e k i j\/(PK e k i k/\PK e k k j):=by
 induction h with
 |one h=>exact .inl (.one h)
 |step _ hm he ih=>
  rename_i m j _
  by_cases hk:m=k
  ·subst hk
   rcases ih with h|⟨h,-⟩
   ·exact .inr ⟨h,.one he⟩
   ·exact .inr ⟨h,.one he⟩
  ·rcases ih with h|⟨h1,h2⟩
   ·exact .inl (h.step (by omega) he)
   ·exact .inr ⟨h1,h2.step (by omega) he⟩
def WK(e:Nat->Nat->Bool):Nat->Nat->Nat->Bool
 |0,i,j=>e i j
 |k+1,i,j=>WK e k i j||(WK e k i k&&WK e k k j)
theorem Sz(e:Nat->Nat->Bool)(k i j:Nat):WK e k i j=true↔PK (fun a b=>e a b=true) k i j:=by
 induction k generalizing i j with
 |zero=>
  refine⟨fun h=>.one h,fun h=> ?_⟩
  cases h with
  |one h=>exact h
  |step _ h _=>exact absurd h (by omega)
 |succ k ih=>
  show(WK e k i j||(WK e k i k&&WK e k k j))=true↔_;rw[Bool.or_eq_true,Bool.and_eq_true,ih,ih,ih];refine⟨fun h=> ?_,PK.split⟩
  rcases h with h|⟨h1,h2⟩
  ·exact h.up (by omega)
  ·exact(h1.up (by omega)).trans (by omega) (h2.up (by omega))
def Qk(g:Gm)(p:Int)(set:List Bool)(s:List Int)(q:Int)(i j:Nat):Bool:=
 set.getD i false&&decide (q<=g.prio.getD i 0)&&decide (q<=g.prio.getD j 0)&&(g.owner.getD i 0 !=p||s.getD i 0==(j:Int))&&decide ((j:Int)∈g.succ.getD i [])
def M6(g:Gm)(p:Int)(set:List Bool)(s:List Int):Bool:=
 stB g p set s&&(List.range g.owner.length).all fun i=> !(set.getD i false&&(g.prio.getD i 0%2 !=p)&&WK (Qk g p set s (g.prio.getD i 0)) g.owner.length i i)
theorem Ej{g:Gm}{p:Int}{set:List Bool}{s:List Int}(h:stB g p set s=true):(p=0\/p=1)/\B9 g=true/\set.length=g.owner.length/\s.length=g.owner.length/\∀v,v<g.owner.length->Du g p set s v=true:=by
 simp only[stB,Bool.and_eq_true,Bool.or_eq_true,decide_eq_true_eq,List.all_eq_true,List.mem_range]at h;obtain⟨⟨⟨⟨h1,h2⟩,h3⟩,h4⟩,h5⟩:=h;exact⟨h1,h2,h3,h4,fun v hv=>h5 v (by rw[h3];exact hv)⟩
def nxS(g:Gm)(p:Int)(set:List Bool)(s:List Int):List (List Int):=BX (D6 g p set s) set.length set.length
theorem NA{g:Gm}{p:Int}{set:List Bool}{s:List Int}{v:Nat}(hv:v<set.length):(nxS g p set s).getD v []=D6 g p set s v:=by
 unfold nxS;rw[OE _ hv,if_pos hv]
theorem RN{g:Gm}{p:Int}{set:List Bool}{s:List Int}{v:Nat}(hv:¬v<set.length):(nxS g p set s).getD v []=[]:=by
 unfold nxS;rw[List.getD_eq_getElem?_getD,List.getElem?_eq_none (by rw[JF];omega)];rfl
section
variable {g:Gm} {p:Int} {set:List Bool} {s:List Int}
theorem OX(h:stB g p set s=true)(i j:Nat):EG (nxS g p set s) i j↔set.getD i false=true/\(g.owner.getD i 0≠p\/s.getD i 0=(j:Int))/\(j:Int)∈g.succ.getD i []:=by
 obtain⟨h1,h2,h3,h4,h5⟩:=Ej h;unfold EG
 by_cases hi:i<set.length
 ·rw[NA hi];unfold D6
  cases hs:set.getD i false
  ·simp
  ·have hk:=h5 i (by omega);unfold Du at hk;rw[hs,if_pos rfl]at hk;rw[if_pos rfl]
   by_cases ho:g.owner.getD i 0=p
   ·rw[if_pos ho]at hk⊢;simp only[Bool.and_eq_true,decide_eq_true_eq]at hk;rw[List.mem_singleton];refine⟨fun e=>⟨rfl,.inr e.symm,e▸hk.1⟩,fun⟨_,e,_⟩=> ?_⟩
    rcases e with e|e
    ·exact absurd ho e
    ·exact e.symm
   ·rw[if_neg ho];exact⟨fun e=>⟨rfl,.inl ho,e⟩,fun⟨_,_,e⟩=>e⟩
 ·rw[RN hi]
  have:set.getD i false=false:=by rw[List.getD_eq_getElem?_getD,List.getElem?_eq_none (by omega)];rfl
  rw[this];simp
theorem Si(h:stB g p set s=true){i j:Nat}(e:EG (nxS g p set s) i j):set.getD i false=true/\set.getD j false=true/\i<g.owner.length/\j<g.owner.length:=by
 obtain⟨h1,h2,h3,h4,h5⟩:=Ej h;obtain⟨k1,k2,k3⟩:=(OX h i j).1 e
 have hi:i<g.owner.length:=by
  refine Nat.lt_of_not_le fun hle=> ?_
  have:set.getD i false=false:=by rw[List.getD_eq_getElem?_getD,List.getElem?_eq_none (by omega)];rfl
  rw[this]at k1;cases k1
 have hk:=h5 i hi;have hval:=(GH h2 i hi).2.2.2 _ k3;unfold Du at hk;rw[k1,if_pos rfl]at hk;refine⟨k1, ?_,hi,by omega⟩
 by_cases ho:g.owner.getD i 0=p
 ·rw[if_pos ho]at hk;simp only[Bool.and_eq_true,decide_eq_true_eq]at hk;have:=k2.resolve_left (fun k=>k ho);rw[this]at hk;simpa using hk.2
 ·rw[if_neg ho]at hk;simp only[Bool.and_eq_true,List.all_eq_true]at hk;have:=hk.2 _ k3;simpa using this
theorem PE(h:stB g p set s=true)(q:Int)(i j:Nat):Cyc (EG (nxS g p set s)) (fun x=>x∈(List.range g.owner.length).filter (fun v=>set.getD v false)/\q<=prF g.prio x) i j↔WK (Qk g p set s q) g.owner.length i j=true:=by
 rw[Sz]
 have hm:∀a b,Qk g p set s q a b=true↔EG (nxS g p set s) a b/\q<=prF g.prio a/\q<=prF g.prio b:=fun a b=>by
  rw[OX h];simp only[Qk,Bool.and_eq_true,Bool.or_eq_true,decide_eq_true_eq,bne_iff_ne,beq_iff_eq,prF]
  constructor
  ·rintro⟨⟨⟨⟨a1,a2⟩,a3⟩,a4⟩,a5⟩;exact⟨⟨a1,a4,a5⟩,a2,a3⟩
  ·rintro⟨⟨a1,a4,a5⟩,a2,a3⟩;exact⟨⟨⟨⟨a1,a2⟩,a3⟩,a4⟩,a5⟩
 have hA:∀a b,EG (nxS g p set s) a b->a∈(List.range g.owner.length).filter (fun v=>set.getD v false)/\b∈(List.range g.owner.length).filter (fun v=>set.getD v false):=fun a b e=>by
  obtain⟨k1,k2,k3,k4⟩:=Si h e;simp only[List.mem_filter,List.mem_range];exact⟨⟨k3,k1⟩,k4,k2⟩
 constructor
 ·intro k
  induction k with
  |one h1 h2 e=>exact .one ((hm _ _).2 ⟨e,h1.2,h2.2⟩)
  |step k2 h2 e ih=>
   have:=k2.right;have hlt:=this.1;simp only[List.mem_filter,List.mem_range]at hlt;exact ih.step hlt.1 ((hm _ _).2 ⟨e,this.2,h2.2⟩)
 ·intro k
  induction k with
  |one e=>
   obtain⟨a1,a2,a3⟩:=(hm _ _).1 e;obtain⟨b1,b2⟩:=hA _ _ a1;exact .one ⟨b1,a2⟩ ⟨b2,a3⟩ a1
  |step k2 _ e ih=>
   obtain⟨a1,a2,a3⟩:=(hm _ _).1 e;obtain⟨b1,b2⟩:=hA _ _ a1;exact ih.step ⟨b2,a3⟩ a1
def Ox(set:List Bool)(n:Nat):List Nat:=(List.range n).filter fun v=>set.getD v false
theorem QQ(g:Gm)(p:Int)(set:List Bool)(s:List Int):M6 g p set s=true↔stB g p set s=true/\Cs (nxS g p set s) g.prio p (Ox set g.owner.length):=by
 unfold M6;rw[Bool.and_eq_true]
 constructor
 ·rintro⟨h,h2⟩;refine⟨h,fun i hi hb k=> ?_⟩;have hi':=hi;simp only[Ox,List.mem_filter,List.mem_range]at hi';have h3:=List.all_eq_true.1 h2 i (List.mem_range.2 hi'.1);have h4:=(PE h (prF g.prio i) i i).1 k
  have h5:(g.prio.getD i 0%2 !=p)=true:=by rw[bne_iff_ne];exact hb
  rw[hi'.2,h5,show g.prio.getD i 0=prF g.prio i from rfl,h4]at h3
  cases h3
 ·rintro⟨h,h2⟩;refine⟨h,List.all_eq_true.2 fun i hi=> ?_⟩
  cases hs:set.getD i false
  ·rfl
  cases hb:(g.prio.getD i 0%2 !=p)
  ·rfl
  cases hw:WK (Qk g p set s (g.prio.getD i 0)) g.owner.length i i
  ·rfl
  ·exfalso
   refine h2 i ?_ (by rw[bne_iff_ne]at hb;exact hb) ((PE h (prF g.prio i) i i).2 hw);simp only[Ox,List.mem_filter];exact⟨hi,hs⟩
end
end Go.Proofs.YtncjeamdkjcebaaGreatDoor
namespace Go.Proofs.YtncjeamdkjcebaaGreatDoor
open Go.RowKit
theorem Te(gb nb ob n:Nat)(V:Nat->Value)(vp:Value)(prio:List Int)(nx:List (List Int))(p:Int)(hx:GXn n prio nx p)(w:World)(vl:Value)(part:List Nat)(hpn:∀v∈part,v<n)(hp3:part.length<=3000)
  (hS:GS w gb nb ob n V vp prio nx (List.replicate n false)) (hl:KpO ob w vl (AX part)):
  Calls Tryz.prog 88 #[.pointer (some ⟨gb,0,none⟩),.int .i64 p,vl] w (L8 w gb nb ob n V vp prio nx p part):=by
 have hob:=hS.lt;have hb:Below w.heap.size w (((w.alloc (.cells #[.pointer (some ⟨gb,0,none⟩)] 127)).alloc (.cells #[.int .i64 p] 3)).alloc (.cells #[.func (.func 117) #[] #[.pointer (some ⟨w.heap.size,0,none⟩),.pointer (some ⟨w.heap.size+1,0,none⟩),.pointer (some ⟨w.heap.size+1+1,0,none⟩)]] 159)):=(by repeat(first|exact Ad|assumption|apply AD|apply AE));have HS:=Ab (hS.below hb);have HK:Hid (KpO ob _ vl (AX part)):=hl.step (Ag.of_below hb);have HO:Hid (Ag (fun k=>k=ob) w _):=Ag.of_below hb
 have HCk:Hid (Ck (((w.alloc (.cells #[.pointer (some ⟨gb,0,none⟩)] 127)).alloc (.cells #[.int .i64 p] 3)).alloc (.cells #[.func (.func 117) #[] #[.pointer (some ⟨w.heap.size,0,none⟩),.pointer (some ⟨w.heap.size+1,0,none⟩),.pointer (some ⟨w.heap.size+1+1,0,none⟩)]] 159)) w.heap.size (w.heap.size+1) (w.heap.size+1+1) gb ob p):=
  ⟨(by(repeat(rw[Al];first|rw[if_pos (by first|simp;done|simp;omega)]|rw[if_neg (by first|simp;done|simp;omega)]));(try rfl)),(by(repeat(rw[Al];first|rw[if_pos (by first|simp;done|simp;omega)]|rw[if_neg (by first|simp;done|simp;omega)]));(try rfl)),(by(repeat(rw[Al];first|rw[if_pos (by first|simp;done|simp;omega)]|rw[if_neg (by first|simp;done|simp;omega)]));(try rfl)),by omega,by omega,by omega⟩
 have HX:=Ab hx;clear hb hS hl hx
 go_enter Tryz.func88,Tryz.ntmps88
 go_wp2_with fail
 refine(Rm gb nb ob n V vp prio nx p _ _ _ HX.out (part.length+1) _ vl part (by omega) hpn hp3 HS.out HK.out HCk.out).mono ?_;rintro e w9 ⟨b,rfl,h1,h2,h3⟩;have H:=Ab (show L8 w gb nb ob n V vp prio nx p part (.returned (.bool b)) w9 from⟨b,rfl,h1,h2,HO.out.trans h3⟩);clear h1 h2 h3;go_wp2;go_ret;exact H.out
theorem SS{g:Gm}{p:Int}{set:List Bool}{s:List Int}(h:stB g p set s=true):GXn set.length g.prio (nxS g p set s) p:=by
 obtain⟨h1,h2,h3,h4,h5⟩:=Ej h;obtain⟨l1,l2,l3⟩:=DV h2;refine⟨by omega,by omega,fun v hv=>(GH h2 v (by omega)).2.1,fun v hv x hx=> ?_,by omega⟩;rw[NA hv]at hx;have hk:=h5 v (by omega);have hval:=(GH h2 v (by omega)).2.2.2;unfold D6 at hx
 cases hs:set.getD v false
 ·rw[hs]at hx;cases hx
 ·unfold Du at hk;rw[hs,if_pos rfl]at hk hx
  by_cases ho:g.owner.getD v 0=p
  ·rw[if_pos ho]at hk hx;simp only[Bool.and_eq_true,decide_eq_true_eq]at hk;rw[List.mem_singleton.1 hx];have:=hval _ hk.1;omega
  ·rw[if_neg ho]at hx;have:=hval _ hx;omega
theorem SA(w:World)(vg vs vt:Value)(g:Gm)(p:Int)(set:List Bool)(s:List Int)(hg:Cn w vg g)(hs:Bj w vs set)(ht:Ai w vt s):
  Calls Tryz.prog 40 #[vg,.int .i64 p,vs,vt] w (Av (.bool (M6 g p set s)) w):=by
 have HV:Hid (∀W,Below w.heap.size w W->Calls Tryz.prog 86 #[vg,.int .i64 p,vs,vt] W (Av (.bool (stB g p set s)) W)):=fun W hW=>NY W vg vs vt g p set s (hg.below hW) (hs.below hW) (ht.below hW)
 obtain⟨v0,v1,v2,rfl,-,-,-⟩:=id hg;have HG:=Ab hg;have HS:=Ab hs;have HT:=Ab ht;clear hg hs ht
 cases hv:stB g p set s
 ·have HW:Hid (M6 g p set s=false):=by show _=_;unfold M6;rw[hv];rfl
  go_enter Tryz.func40,Tryz.ntmps40
  go_wp2_with fail
  refine(HV.out _ (by repeat(first|exact Ad|assumption|(refine AD ?_ _)|(refine AE ?_ _)|(refine Below.drew ?_)))).mono ?_;rintro e w1 ⟨rfl,hb1⟩;rw[hv];have hbx:=(AI.start hb1).bl;clear hv hb1;go_wp2;go_ret;exact⟨Ak HW.out.symm,hbx⟩
 ·have HVT:=Ab hv
  go_enter Tryz.func40,Tryz.ntmps40
  go_wp2_with fail
  refine(HV.out _ (by repeat(first|exact Ad|assumption|(refine AD ?_ _)|(refine AE ?_ _)|(refine Below.drew ?_)))).mono ?_;rintro e w1 ⟨rfl,hb1⟩;rw[hv];have hbx:=AI.start hb1;have d0:=hbx.cell 0 rfl;have d1:=hbx.cell 1 rfl;have d2:=hbx.cell 2 rfl;clear hv hb1
  go_wp2_with fail
  refine(MH w1 v0 v1 v2 vs vt g p set s (HG.out.below hbx.bl) (HS.out.below hbx.bl) (HT.out.below hbx.bl) HVT.out).mono ?_;rintro e w2 ⟨gb,nb,ob,V,va,rfl,h1,h2,h3,h4⟩;have HGS:Hid (GS w2 gb nb ob set.length V v1 g.prio (nxS g p set s) (List.replicate set.length false)):=⟨fun W' hW=>(h4 W' hW).1,h1,by simp⟩
  have HKp:Hid (KpO ob w2 va (AX (Ox set set.length))):=fun W' hW=>(h4 W' hW).2
  have hob:=h3;have HB2:=Ab (hbx.bl.trans (h2.mono hbx.bl.size));have hwb:w.heap.size<=ob:=Nat.le_trans hbx.bl.size h3;clear d0 d1 d2 hbx h1 h2 h3 h4
  go_wp2_with fail
  refine(Te gb nb ob set.length V v1 g.prio (nxS g p set s) p (SS HVT.out) w2 va (Ox set set.length) (fun v hv=>List.mem_range.1 (List.mem_filter.1 hv).1) ?_ HGS.out HKp.out).mono ?_
  ·have h1:=(Ej HVT.out).2.2.1;have h2:=(DV (Ej HVT.out).2.1).1;have:=List.length_filter_le (fun v=>set.getD v false) (List.range set.length);rw[List.length_range]at this;unfold Ox;omega
  rintro e w9 ⟨b,rfl,h1,h2,h3⟩
  have HEnd:Hid (b=M6 g p set s):=by
   show _=_;rw[Bool.eq_iff_iff,QQ,h1,<-(Ej HVT.out).2.2.1];exact⟨fun h=>⟨HVT.out,h⟩,fun h=>h.2⟩
  have hB9:Below w.heap.size w w9:=HB2.out.trans (h3.below _ (by rintro k rfl;exact hwb) HB2.out.size);clear h1 h2 h3;go_wp2;go_ret;exact⟨Ak HEnd.out,hB9⟩
def Uh:List Sig:=[⟨⟨#[114]⟩,true,2⟩,⟨⟨#[103]⟩,false,2⟩]
def Ui:My:=⟨2,2,0,[[0,0],[1,1]],[[0,1],[0,0]]⟩
def hZ:Mo:=⟨2,2,0,[0],[[0,0]]⟩
def Uj:Mo:=⟨2,2,0,[1,0],[[0,1],[0,1]]⟩
def Uf:Au:=⟨4,0,[[0,0,0,0]],[[0,1,1,0]]⟩
def Ug:Gm:=⟨[1,0,0,1],[1,1,1,0],[[1,2],[3,0],[0,3],[1,2]]⟩
def Uk:List T4:=[⟨0,-1,1⟩,⟨0,0,-1⟩,⟨0,1,-1⟩,⟨0,-1,0⟩]
theorem SO:Kn Ui 0 [0,1,0,1]=([0,0,1,0],1):=by decide+kernel
theorem SN:J5 Uf Uh 10=(Ug,Uk,0):=by decide+kernel
theorem Gq:Bm Uh Ui=true:=by decide+kernel
theorem TF:Be Ui=true:=by decide+kernel
theorem TG:Bq Uj=true:=by decide+kernel
theorem TE:Be GK=false:=by decide+kernel
theorem Ng:At Uh=true:=by decide+kernel
theorem Nf:AF Uf=true:=by decide+kernel
theorem Sc:Uf.letters=AC Uh:=by decide+kernel
theorem TH:Bi 2 ⟨[],[1]⟩=true:=by decide+kernel
theorem SP:Bi 4 ⟨[],[0]⟩=true:=by decide+kernel
theorem Ro:M6 Ug 1 [true,true,true,true] [1,-1,-1,2]=false:=by decide+kernel
theorem Rp:BL Uh Ui ⟨[],[1]⟩=⟨[],[1,3]⟩:=by
 have h:Dm (stW Ui ⟨[],[1]⟩) 0 2:=⟨by decide,by decide+kernel,by
  intro i j hij hj
  have h1:i=0/\j=1:=by omega
  obtain⟨rfl,rfl⟩:=h1
  decide+kernel⟩
 unfold BL;rw[if_pos ⟨Gq,by decide+kernel⟩,Ff h]
 decide+kernel
theorem PG:CR Uh Ui hZ=⟨[],[0]⟩:=by
 have h:Dm (stP Ui hZ) 0 1:=⟨by decide,by decide+kernel,by
  intro i j hij hj
  omega⟩
 unfold CR;rw[if_pos ⟨Gq,by decide+kernel⟩,Ff h]
 decide+kernel
theorem PF:CR Uh Ui Uj=⟨[],[1,3,0]⟩:=by
 have h:Dm (stP Ui Uj) 0 3:=⟨by decide,by decide+kernel,by
  intro i j hij hj
  have h1:(i=0/\j=1)\/(i=0/\j=2)\/(i=1/\j=2):=by omega
  rcases h1 with⟨rfl,rfl⟩|⟨rfl,rfl⟩|⟨rfl,rfl⟩<;>decide+kernel⟩
 unfold CR;rw[if_pos ⟨Gq,by decide+kernel⟩,Ff h]
 decide+kernel
theorem Rn:E2 Uh Ui Ui [false,true]=(Ui,0):=by
 have h:EN Ui Ui Ui.ins.toNat 2:=⟨by decide+kernel,fun j hj=>by
  match j,hj with
  |0,_=>decide+kernel
  |1,_=>decide+kernel⟩
 unfold E2;rw[if_pos ⟨Gq,Gq,rfl⟩,Ig h]
 decide+kernel
theorem A8{w:World}{g:Nat}(l:List Int)(h:w.heap[g]? =some (.cells (l.map (Value.int .i64)).toArray 3 (0,0)))(hn:l.length<=3000)(hI:∀x∈l,I64 x):Ai w (.slice (some ⟨g,0,none⟩) l.length l.length) l:=by
 refine⟨⟨_,_,g,0,rfl,Nat.le_refl _,by simp only[maxLen];omega,by simp only[Bk];omega,(fun h=>by cases h),fun _=>rfl,fun j hj=> ?_⟩,hI⟩;rw[Nat.zero_add,cell_of_row w g j _ _ _ h];simp[ivF,List.getD,hj]
theorem Ji{w:World}{g:Nat}(l:List Bool)(h:w.heap[g]? =some (.cells (l.map Value.bool).toArray 4 (0,0)))(hn:l.length<=3000):Bj w (.slice (some ⟨g,0,none⟩) l.length l.length) l:=by
 refine⟨_,_,g,0,rfl,Nat.le_refl _,by simp only[maxLen];omega,by simp only[Bk];omega,(fun h=>by cases h),fun _=>rfl,fun j hj=> ?_⟩;rw[Nat.zero_add,cell_of_row w g j _ _ _ h];simp[bvF,List.getD,hj]
theorem Em{w:World}{g:Nat}(ll:List (List Int))(vals:List Value)(h:w.heap[g]? =some (.cells vals.toArray 26 (0,0)))(hl:vals.length=ll.length)(hn:ll.length<=3000)(hr:∀j,j<ll.length->Ai w (vals.getD j undef) (ll.getD j [])):Ar w (.slice (some ⟨g,0,none⟩) ll.length ll.length) ll:=by
 refine⟨fun j=>vals.getD j undef,⟨_,_,g,0,rfl,Nat.le_refl _,by simp only[maxLen];omega,by simp only[Bk];omega,(fun h=>by cases h),fun _=>rfl,fun j hj=> ?_⟩,hr⟩;rw[Nat.zero_add,cell_of_row w g j _ _ _ h];simp[List.getD,show j<vals.length by omega]
def S9:List Int:=[-1,3,3,-1]
def S8:List Int:=[1,-1,-1,2]
def nxO(_:Int)(_:Nat):Int:=0
def oO(_:Int)(i:Nat):Int:=i
def nxE(q:Int)(i:Nat):Int:=if q=0 then(if i=0 then 3 else 0)else(if i=0 then 0 else 3)
def inE(k:Nat):Int:=k
theorem K2:Uk.Nodup:=by decide+kernel
theorem Mt:(Ap Uh).toNat=2:=by decide+kernel
theorem J7:(Aj Uh).toNat=2:=by decide+kernel
theorem Tu:QS Uf Uk S9 Uh 0 0 0 0:=⟨1,3,by decide+kernel,by decide+kernel,by decide+kernel,by decide+kernel,by decide+kernel,by decide+kernel,by decide+kernel,by decide+kernel,fun j hj=>absurd hj (by omega),by decide+kernel⟩
theorem Tv:QS Uf Uk S9 Uh 0 1 1 0:=⟨2,3,by decide+kernel,by decide+kernel,by decide+kernel,by decide+kernel,by decide+kernel,by decide+kernel,by decide+kernel,by decide+kernel,fun j hj=>by
 obtain rfl:j=0:=by omega
 decide+kernel,by decide+kernel⟩
theorem T2:JQ nxO 0 0 2 1:=⟨by decide+kernel,fun j hj=>by
 obtain rfl:j=0:=by omega
 decide+kernel⟩
theorem T1:JQ nxE 0 0 2 2:=⟨by decide+kernel,fun j hj=>by
 match j,hj with
 |0,_=>decide+kernel
 |1,_=>decide+kernel⟩
theorem Tg(w:World)(vl va vp vs:Value)(hK:BN w)(hl:AH w vl Uh)(ha:Cm w va Uf)(hp:Ct w vp Uk)(hs:Ai w vs [-1,3,3,-1]):
  Calls Tryz.prog 38 #[vl,va,vp,vs] w (I9 ⟨2,2,0,[[0,1]],[[0,0]]⟩ 0 w):=by
 have h:=NQ w vl va vp vs Uh Uf Uk S9 hK hl ha hp hs Ng Nf Sc (by decide) (by decide) K2 nxO oO 1 (by rw[Mt];exact T2) (by omega)
  (fun k hk x hx=>by
   rw[Mt]at hx
   have:x=0:=by
    match k,hk with
    |0,_=>exact List.mem_singleton.1 hx
    |1,_=>exact List.mem_singleton.1 (by simpa[show Ue nxO Uf.start 0 2 1=[0]by decide+kernel]using hx)
   rw[this]
   decide+kernel)
  (fun k hk i hi=>by
   rw[Mt]at hi⊢
   obtain rfl:k=0:=by omega
   match i,hi with
   |0,_=>exact⟨by decide+kernel,by decide+kernel,Tu⟩
   |1,_=>exact⟨by decide+kernel,by decide+kernel,Tv⟩)
 rw[show(⟨Ap Uh,Aj Uh,0,(List.range 1).map (fun k=>(List.range (Ap Uh).toNat).map (oO (gP nxO Uf.start 0 (Ap Uh).toNat k))),gN nxO Uf.start 0 (Ap Uh).toNat 1⟩:My)=⟨2,2,0,[[0,1]],[[0,0]]⟩from by decide+kernel]at h;exact h
theorem TC:QW Uf Uk S8 Uh 0 0 1 0:=⟨by decide+kernel,by decide+kernel,by decide+kernel,by decide+kernel,by decide+kernel,by decide+kernel,by decide+kernel,by decide+kernel,by decide+kernel,fun j hj=>by
 have hj2:j<2:=Nat.lt_of_lt_of_eq hj (by decide+kernel)
 match j,hj2 with
 |0,_=>decide+kernel
 |1,_=>decide+kernel⟩
theorem TD:QW Uf Uk S8 Uh 3 0 2 1:=⟨by decide+kernel,by decide+kernel,by decide+kernel,by decide+kernel,by decide+kernel,by decide+kernel,by decide+kernel,by decide+kernel,by decide+kernel,fun j hj=>by
 have hj2:j<2:=Nat.lt_of_lt_of_eq hj (by decide+kernel)
 match j,hj2 with
 |0,_=>decide+kernel
 |1,_=>decide+kernel⟩
theorem Tf(w:World)(vl va vp vs:Value)(hK:BN w)(hl:AH w vl Uh)(ha:Cm w va Uf)(hp:Ct w vp Uk)(hs:Ai w vs [1,-1,-1,2]):
  Calls Tryz.prog 39 #[vl,va,vp,vs] w (O1 ⟨2,2,0,[0,1],[[1,0],[0,1]]⟩ 0 w):=by
 have h:=JP w vl va vp vs Uh Uf Uk S8 hK hl ha hp hs Ng Nf Sc (by decide) (by decide) K2 nxE inE 2 (by rw[J7];exact T1) (by omega) (by decide+kernel) (by decide)
  (fun k hk x hx=>by
   rw[J7]at hx
   have:x=0\/x=3:=by
    match k,hk with
    |0,_=>exact .inl (List.mem_singleton.1 hx)
    |1,_=>rw[show Ue nxE 0 0 2 1=[0,3]by decide+kernel]at hx;simpa using hx
    |2,_=>rw[show Ue nxE 0 0 2 2=[0,3]by decide+kernel]at hx;simpa using hx
   rcases this with rfl|rfl<;>decide+kernel)
  (fun k hk=>by
   rw[J7]
   match k,hk with
   |0,_=>exact⟨0,1,0,TC,by decide+kernel,by decide+kernel⟩
   |1,_=>exact⟨0,2,1,TD,by decide+kernel,by decide+kernel⟩)
 rw[show(⟨Ap Uh,Aj Uh,0,(List.range 2).map inE,gN nxE 0 0 (Aj Uh).toNat 2⟩:Mo)=⟨2,2,0,[0,1],[[1,0],[0,1]]⟩from by decide+kernel]at h;exact h
theorem SM{b:Bool}(h:Pg Uf ⟨[],[0]⟩ b):b=true:=by
 obtain⟨j,d,v,hd,-,⟨⟨i,hi,hv⟩,-⟩,rfl⟩:=h
 have hst:∀n,stN Uf ⟨[],[0]⟩ n=0:=by
  intro n
  induction n with
  |zero=>decide+kernel
  |succ n ih=>
   show(CU Uf (stN Uf ⟨[],[0]⟩ n,20000) [0]).1=0;rw[ih];decide+kernel
 have hls:lsN Uf ⟨[],[0]⟩ (j+i)=0:=by
  show(CU Uf (stN Uf ⟨[],[0]⟩ (j+i),20000) [0]).2=0;rw[hst];decide+kernel
 rw[<-hv,hls];rfl
def Sy(w:World)(e:Ending)(w':World):Prop:=∃a c,e=.returned (.slice a 2 c)/\AH w' (.slice a 2 c) Uh/\Below w.heap.size w w'
def Sh(w:World)(e:Ending)(w':World):Prop:=∃a c b d,e=.returned (.agg #[.int .i64 2,.int .i64 2,.int .i64 0,.slice a 2 c,.slice b 2 d])/\BM w' (.agg #[.int .i64 2,.int .i64 2,.int .i64 0,.slice a 2 c,.slice b 2 d]) Ui/\Below w.heap.size w w'
theorem NW(w:World):Calls Tryz.prog 35 #[] w (Sy w):=by
 go_enter Tryz.func35,Tryz.ntmps35
 go_wp2;have hb:Below w.heap.size w (w.alloc (.cells #[.string ⟨#[114]⟩,.bool true,.int .i64 2,.string ⟨#[103]⟩,.bool false,.int .i64 2] 75)):=(by repeat(first|exact Ad|assumption|apply AD|apply AE));have x0:(w.alloc (.cells #[.string ⟨#[114]⟩,.bool true,.int .i64 2,.string ⟨#[103]⟩,.bool false,.int .i64 2] 75)).heap[w.heap.size]? =some (.cells #[.string ⟨#[114]⟩,.bool true,.int .i64 2,.string ⟨#[103]⟩,.bool false,.int .i64 2] 75 (0,0)):=(by(repeat(rw[Al];first|rw[if_pos (by first|simp;done|simp;omega)]|rw[if_neg (by first|simp;done|simp;omega)]));(try rfl));generalize(w.alloc (.cells #[.string ⟨#[114]⟩,.bool true,.int .i64 2,.string ⟨#[103]⟩,.bool false,.int .i64 2] 75))=w1 at*;refine bodyPost_ret (v:=.slice (some ⟨w.heap.size,0,none⟩) 2 2) (by simp[results,Tryz.results35,go_sem]) rfl ?_
 have c:∀k v,#[Value.string ⟨#[114]⟩,.bool true,.int .i64 2,.string ⟨#[103]⟩,.bool false,.int .i64 2][k]? =some v->w1.cell? ⟨w.heap.size,k,none⟩=some v:=fun k v hv=>(cell_of_row _ _ k _ _ _ x0).trans hv
 refine⟨_,_,rfl,⟨_,_,_,_,rfl,⟨by decide,by decide,by decide,fun _=>rfl,fun j hj=> ?_,fun j hj=> ?_,fun j hj=> ?_,by simp[Uh,I64],by decide⟩⟩,hb⟩
 all_goals
  rw[Nat.zero_add]
  match j,hj with
  |0,_=>exact c _ _ rfl
  |1,_=>exact c _ _ rfl
  |q+2,h=>exact absurd h (by simp[Uh])
theorem JO(w:World):Calls Tryz.prog 36 #[] w (Sh w):=by
 go_enter Tryz.func36,Tryz.ntmps36
 go_wp2;have hb:Below w.heap.size w (((((((w.alloc (.cells #[.int .i64 2,.int .i64 2,.int .i64 0,.slice (some ⟨w.heap.size+1+1+1,0,none⟩) 2 2,.slice (some ⟨w.heap.size+1+1+1+1+1+1,0,none⟩) 2 2] 25)).alloc (.cells #[.int .i64 0,.int .i64 0] 3)).alloc (.cells #[.int .i64 1,.int .i64 1] 3)).alloc (.cells #[.slice (some ⟨w.heap.size+1,0,none⟩) 2 2,.slice (some ⟨w.heap.size+1+1,0,none⟩) 2 2] 26)).alloc (.cells #[.int .i64 0,.int .i64 1] 3)).alloc (.cells #[.int .i64 0,.int .i64 0] 3)).alloc (.cells #[.slice (some ⟨w.heap.size+1+1+1+1,0,none⟩) 2 2,.slice (some ⟨w.heap.size+1+1+1+1+1,0,none⟩) 2 2] 26)):=(by repeat(first|exact Ad|assumption|apply AD|apply AE));have x0:(((((((w.alloc (.cells #[.int .i64 2,.int .i64 2,.int .i64 0,.slice (some ⟨w.heap.size+1+1+1,0,none⟩) 2 2,.slice (some ⟨w.heap.size+1+1+1+1+1+1,0,none⟩) 2 2] 25)).alloc (.cells #[.int .i64 0,.int .i64 0] 3)).alloc (.cells #[.int .i64 1,.int .i64 1] 3)).alloc (.cells #[.slice (some ⟨w.heap.size+1,0,none⟩) 2 2,.slice (some ⟨w.heap.size+1+1,0,none⟩) 2 2] 26)).alloc (.cells #[.int .i64 0,.int .i64 1] 3)).alloc (.cells #[.int .i64 0,.int .i64 0] 3)).alloc (.cells #[.slice (some ⟨w.heap.size+1+1+1+1,0,none⟩) 2 2,.slice (some ⟨w.heap.size+1+1+1+1+1,0,none⟩) 2 2] 26)).heap[w.heap.size]? =some (.cells #[.int .i64 2,.int .i64 2,.int .i64 0,.slice (some ⟨w.heap.size+1+1+1,0,none⟩) 2 2,.slice (some ⟨w.heap.size+1+1+1+1+1+1,0,none⟩) 2 2] 25 (0,0)):=(by(repeat(rw[Al];first|rw[if_pos (by first|simp;done|simp;omega)]|rw[if_neg (by first|simp;done|simp;omega)]));(try rfl));have x1:(((((((w.alloc (.cells #[.int .i64 2,.int .i64 2,.int .i64 0,.slice (some ⟨w.heap.size+1+1+1,0,none⟩) 2 2,.slice (some ⟨w.heap.size+1+1+1+1+1+1,0,none⟩) 2 2] 25)).alloc (.cells #[.int .i64 0,.int .i64 0] 3)).alloc (.cells #[.int .i64 1,.int .i64 1] 3)).alloc (.cells #[.slice (some ⟨w.heap.size+1,0,none⟩) 2 2,.slice (some ⟨w.heap.size+1+1,0,none⟩) 2 2] 26)).alloc (.cells #[.int .i64 0,.int .i64 1] 3)).alloc (.cells #[.int .i64 0,.int .i64 0] 3)).alloc (.cells #[.slice (some ⟨w.heap.size+1+1+1+1,0,none⟩) 2 2,.slice (some ⟨w.heap.size+1+1+1+1+1,0,none⟩) 2 2] 26)).heap[w.heap.size+1]? =some (.cells #[.int .i64 0,.int .i64 0] 3 (0,0)):=(by(repeat(rw[Al];first|rw[if_pos (by first|simp;done|simp;omega)]|rw[if_neg (by first|simp;done|simp;omega)]));(try rfl));have x2:(((((((w.alloc (.cells #[.int .i64 2,.int .i64 2,.int .i64 0,.slice (some ⟨w.heap.size+1+1+1,0,none⟩) 2 2,.slice (some ⟨w.heap.size+1+1+1+1+1+1,0,none⟩) 2 2] 25)).alloc (.cells #[.int .i64 0,.int .i64 0] 3)).alloc (.cells #[.int .i64 1,.int .i64 1] 3)).alloc (.cells #[.slice (some ⟨w.heap.size+1,0,none⟩) 2 2,.slice (some ⟨w.heap.size+1+1,0,none⟩) 2 2] 26)).alloc (.cells #[.int .i64 0,.int .i64 1] 3)).alloc (.cells #[.int .i64 0,.int .i64 0] 3)).alloc (.cells #[.slice (some ⟨w.heap.size+1+1+1+1,0,none⟩) 2 2,.slice (some ⟨w.heap.size+1+1+1+1+1,0,none⟩) 2 2] 26)).heap[w.heap.size+1+1]? =some (.cells #[.int .i64 1,.int .i64 1] 3 (0,0)):=(by(repeat(rw[Al];first|rw[if_pos (by first|simp;done|simp;omega)]|rw[if_neg (by first|simp;done|simp;omega)]));(try rfl));have x3:(((((((w.alloc (.cells #[.int .i64 2,.int .i64 2,.int .i64 0,.slice (some ⟨w.heap.size+1+1+1,0,none⟩) 2 2,.slice (some ⟨w.heap.size+1+1+1+1+1+1,0,none⟩) 2 2] 25)).alloc (.cells #[.int .i64 0,.int .i64 0] 3)).alloc (.cells #[.int .i64 1,.int .i64 1] 3)).alloc (.cells #[.slice (some ⟨w.heap.size+1,0,none⟩) 2 2,.slice (some ⟨w.heap.size+1+1,0,none⟩) 2 2] 26)).alloc (.cells #[.int .i64 0,.int .i64 1] 3)).alloc (.cells #[.int .i64 0,.int .i64 0] 3)).alloc (.cells #[.slice (some ⟨w.heap.size+1+1+1+1,0,none⟩) 2 2,.slice (some ⟨w.heap.size+1+1+1+1+1,0,none⟩) 2 2] 26)).heap[w.heap.size+1+1+1]? =some (.cells #[.slice (some ⟨w.heap.size+1,0,none⟩) 2 2,.slice (some ⟨w.heap.size+1+1,0,none⟩) 2 2] 26 (0,0)):=(by(repeat(rw[Al];first|rw[if_pos (by first|simp;done|simp;omega)]|rw[if_neg (by first|simp;done|simp;omega)]));(try rfl));have x4:(((((((w.alloc (.cells #[.int .i64 2,.int .i64 2,.int .i64 0,.slice (some ⟨w.heap.size+1+1+1,0,none⟩) 2 2,.slice (some ⟨w.heap.size+1+1+1+1+1+1,0,none⟩) 2 2] 25)).alloc (.cells #[.int .i64 0,.int .i64 0] 3)).alloc (.cells #[.int .i64 1,.int .i64 1] 3)).alloc (.cells #[.slice (some ⟨w.heap.size+1,0,none⟩) 2 2,.slice (some ⟨w.heap.size+1+1,0,none⟩) 2 2] 26)).alloc (.cells #[.int .i64 0,.int .i64 1] 3)).alloc (.cells #[.int .i64 0,.int .i64 0] 3)).alloc (.cells #[.slice (some ⟨w.heap.size+1+1+1+1,0,none⟩) 2 2,.slice (some ⟨w.heap.size+1+1+1+1+1,0,none⟩) 2 2] 26)).heap[w.heap.size+1+1+1+1]? =some (.cells #[.int .i64 0,.int .i64 1] 3 (0,0)):=(by(repeat(rw[Al];first|rw[if_pos (by first|simp;done|simp;omega)]|rw[if_neg (by first|simp;done|simp;omega)]));(try rfl));have x5:(((((((w.alloc (.cells #[.int .i64 2,.int .i64 2,.int .i64 0,.slice (some ⟨w.heap.size+1+1+1,0,none⟩) 2 2,.slice (some ⟨w.heap.size+1+1+1+1+1+1,0,none⟩) 2 2] 25)).alloc (.cells #[.int .i64 0,.int .i64 0] 3)).alloc (.cells #[.int .i64 1,.int .i64 1] 3)).alloc (.cells #[.slice (some ⟨w.heap.size+1,0,none⟩) 2 2,.slice (some ⟨w.heap.size+1+1,0,none⟩) 2 2] 26)).alloc (.cells #[.int .i64 0,.int .i64 1] 3)).alloc (.cells #[.int .i64 0,.int .i64 0] 3)).alloc (.cells #[.slice (some ⟨w.heap.size+1+1+1+1,0,none⟩) 2 2,.slice (some ⟨w.heap.size+1+1+1+1+1,0,none⟩) 2 2] 26)).heap[w.heap.size+1+1+1+1+1]? =some (.cells #[.int .i64 0,.int .i64 0] 3 (0,0)):=(by(repeat(rw[Al];first|rw[if_pos (by first|simp;done|simp;omega)]|rw[if_neg (by first|simp;done|simp;omega)]));(try rfl));have x6:(((((((w.alloc (.cells #[.int .i64 2,.int .i64 2,.int .i64 0,.slice (some ⟨w.heap.size+1+1+1,0,none⟩) 2 2,.slice (some ⟨w.heap.size+1+1+1+1+1+1,0,none⟩) 2 2] 25)).alloc (.cells #[.int .i64 0,.int .i64 0] 3)).alloc (.cells #[.int .i64 1,.int .i64 1] 3)).alloc (.cells #[.slice (some ⟨w.heap.size+1,0,none⟩) 2 2,.slice (some ⟨w.heap.size+1+1,0,none⟩) 2 2] 26)).alloc (.cells #[.int .i64 0,.int .i64 1] 3)).alloc (.cells #[.int .i64 0,.int .i64 0] 3)).alloc (.cells #[.slice (some ⟨w.heap.size+1+1+1+1,0,none⟩) 2 2,.slice (some ⟨w.heap.size+1+1+1+1+1,0,none⟩) 2 2] 26)).heap[w.heap.size+1+1+1+1+1+1]? =some (.cells #[.slice (some ⟨w.heap.size+1+1+1+1,0,none⟩) 2 2,.slice (some ⟨w.heap.size+1+1+1+1+1,0,none⟩) 2 2] 26 (0,0)):=(by(repeat(rw[Al];first|rw[if_pos (by first|simp;done|simp;omega)]|rw[if_neg (by first|simp;done|simp;omega)]));(try rfl));generalize(((((((w.alloc (.cells #[.int .i64 2,.int .i64 2,.int .i64 0,.slice (some ⟨w.heap.size+1+1+1,0,none⟩) 2 2,.slice (some ⟨w.heap.size+1+1+1+1+1+1,0,none⟩) 2 2] 25)).alloc (.cells #[.int .i64 0,.int .i64 0] 3)).alloc (.cells #[.int .i64 1,.int .i64 1] 3)).alloc (.cells #[.slice (some ⟨w.heap.size+1,0,none⟩) 2 2,.slice (some ⟨w.heap.size+1+1,0,none⟩) 2 2] 26)).alloc (.cells #[.int .i64 0,.int .i64 1] 3)).alloc (.cells #[.int .i64 0,.int .i64 0] 3)).alloc (.cells #[.slice (some ⟨w.heap.size+1+1+1+1,0,none⟩) 2 2,.slice (some ⟨w.heap.size+1+1+1+1+1,0,none⟩) 2 2] 26))=w1 at*;have k0:=Aa 0 x0;have k1:=Aa 1 x0;have k2:=Aa 2 x0;have k3:=Aa 3 x0;have k4:=Aa 4 x0;refine bodyPost_ret (v:=.agg #[.int .i64 2,.int .i64 2,.int .i64 0,.slice (some ⟨w.heap.size+1+1+1,0,none⟩) 2 2,.slice (some ⟨w.heap.size+1+1+1+1+1+1,0,none⟩) 2 2]) (by simp[results,Tryz.results36,go_sem,k0,k1,k2,k3,k4]) rfl ?_
 have r3:=Em [[0,0],[1,1]] [.slice (some ⟨w.heap.size+1,0,none⟩) 2 2,.slice (some ⟨w.heap.size+1+1,0,none⟩) 2 2] x3 rfl (by decide) (fun j hj=>by
  match j,hj with
  |0,_=>exact A8 [0,0] x1 (by decide) (by simp[I64])
  |1,_=>exact A8 [1,1] x2 (by decide) (by simp[I64])
  |q+2,h=>exact absurd h (by simp))
 have r6:=Em [[0,1],[0,0]] [.slice (some ⟨w.heap.size+1+1+1+1,0,none⟩) 2 2,.slice (some ⟨w.heap.size+1+1+1+1+1,0,none⟩) 2 2] x6 rfl (by decide) (fun j hj=>by
  match j,hj with
  |0,_=>exact A8 [0,1] x4 (by decide) (by simp[I64])
  |1,_=>exact A8 [0,0] x5 (by decide) (by simp[I64])
  |q+2,h=>exact absurd h (by simp))
 exact⟨_,_,_,_,rfl,⟨_,_,rfl,by simp[Ui,I64],r3,r6⟩,hb⟩
theorem Sx(w:World)(vm vi:Value)(hm:BM w vm Ui)(hi:Ai w vi [0,1,0,1]):Calls Tryz.prog 12 #[vm,.int .i64 0,vi] w (Ky [0,0,1,0] 1 w):=by
 have h:=R8 w vm vi Ui 0 [0,1,0,1] hm hi (by decide);rw[SO]at h;exact h
theorem Sg(w:World)(vl va:Value)(hK:BN w)(hl:AH w vl Uh)(ha:Cm w va Uf):Calls Tryz.prog 37 #[vl,va,.int .i64 10] w (GPE (Ug,Uk,0) w):=by
 have h:Calls Tryz.prog 37 #[vl,va,.int .i64 10] w (GPE (J5 Uf Uh 10) w):=L7 w vl va Uh Uf 10 hK hl ha Ng Nf (by decide+kernel) (by decide) (by decide);rw[SN]at h;exact h
theorem Rc(w:World)(vl vm vi:Value)(hK:BN w)(hl:AH w vl Uh)(hm:BM w vm Ui)(hi:Co w vi ⟨[],[1]⟩):Calls Tryz.prog 23 #[vl,vm,vi] w (Fx ⟨[],[1,3]⟩ w):=by
 have h:=Fi w vl vm vi Uh Ui ⟨[],[1]⟩ hK hl hm hi;rw[Rp]at h;exact h
theorem Q6(w:World)(vl vm vi:Value)(hK:BN w)(hl:AH w vl Uh)(hm:BM w vm Ui)(hi:Dl w vi hZ):Calls Tryz.prog 25 #[vl,vm,vi] w (Fx ⟨[],[0]⟩ w):=by
 have h:=JS w vl vm vi Uh Ui hZ hK hl hm hi;rw[PG]at h;exact h
theorem Q5(w:World)(vl vm vi:Value)(hK:BN w)(hl:AH w vl Uh)(hm:BM w vm Ui)(hi:Dl w vi Uj):Calls Tryz.prog 25 #[vl,vm,vi] w (Fx ⟨[],[1,3,0]⟩ w):=by
 have h:=JS w vl vm vi Uh Ui Uj hK hl hm hi;rw[PF]at h;exact h
theorem QU(w:World)(vl va vb vo:Value)(hK:BN w)(hl:AH w vl Uh)(ha:BM w va Ui)(hb:BM w vb Ui)(ho:Bj w vo [false,true]):Calls Tryz.prog 14 #[vl,va,vb,vo] w (I9 Ui 0 w):=by
 have h:=OV w vl va vb vo Uh Ui Ui [false,true] hK hl ha hb ho (by decide) (by decide);rw[Rn]at h;exact h
theorem Ra(w:World)(vg vs vt:Value)(hg:Cn w vg Ug)(hs:Bj w vs [true,true,true,true])(ht:Ai w vt [1,-1,-1,2]):Calls Tryz.prog 40 #[vg,.int .i64 1,vs,vt] w (Av (.bool false) w):=by
 have h:=SA w vg vs vt Ug 1 _ _ hg hs ht;rw[Ro]at h;exact h
theorem Tq(w:World)(v:Value)(hm:BM w v Ui):Calls Tryz.prog 18 #[v] w (Av (.bool true) w):=by
 have h:=Gh w v Ui hm;rw[TF]at h;exact h
theorem Tp(w:World)(v:Value)(hm:BM w v GK):Calls Tryz.prog 18 #[v] w (Av (.bool false) w):=by
 have h:=Gh w v GK hm;rw[TE]at h;exact h
theorem To(w:World)(v:Value)(hm:Dl w v Uj):Calls Tryz.prog 20 #[v] w (Av (.bool true) w):=by
 have h:=KJ w v Uj hm;rw[TG]at h;exact h
theorem Ts(w:World)(v:Value)(hK:BN w)(hl:AH w v Uh):Calls Tryz.prog 41 #[v] w (Av (.bool true) w):=by
 have h:=(Cv w v Uh hK hl).mono fun e w' h=>h.calm
 rw[Ng]at h;exact h
theorem Tt(w:World)(v:Value)(hl:Co w v ⟨[],[1]⟩):Calls Tryz.prog 42 #[.int .i64 2,v] w (Av (.bool true) w):=by
 have h:=Ic w v ⟨[],[1]⟩ 2 hl;rw[TH]at h;exact h
theorem Tm(w:World)(va v:Value)(ha:Cm w va Uf)(hl:Co w v ⟨[],[0]⟩):Calls Tryz.prog 43 #[va,v] w (Av (.bool true) w):=
 (SB w va v Uf ⟨[],[0]⟩ ha hl Nf SP).mono fun e w' ⟨b,he,hw,hb⟩=>⟨by rw[he,SM hw],hb⟩
theorem Q9(w:World)(va vb:Value)(ha:BM w va Ui)(hb:BM w vb Ui):Calls Tryz.prog 17 #[va,vb] w (Av (.bool true) w):=by
 have h:=Q8 w va vb Ui Ui ha hb;rw[decide_eq_true rfl]at h;exact h
theorem OY(w:World)(va vb:Value)(l:Ls)(ha:Co w va l)(hb:Co w vb l):Calls Tryz.prog 22 #[va,vb] w (Av (.bool true) w):=by
 have h:=QX w va vb l l ha hb;rw[decide_eq_true rfl]at h;exact h
theorem Nb(w:World)(va vb:Value)(l:List Int)(ha:Ai w va l)(hb:Ai w vb l):Calls Tryz.prog 16 #[va,vb] w (Av (.bool true) w):=by
 have h:=(JR w va vb l l ha hb).mono fun e w' h=>h.calm
 rw[decide_eq_true rfl]at h;exact h
theorem Cn.shp4{w:World}{v:Value}(h:Cn w v Ug):∃a0 c0 a1 c1 a2 c2,v=.agg #[.slice a0 4 c0,.slice a1 4 c1,.slice a2 4 c2]:=by
 obtain⟨v0,v1,v2,rfl,h0,h1,h2⟩:=h;obtain⟨a0,c0,rfl⟩:=h0.shape;obtain⟨a1,c1,rfl⟩:=h1.shape;obtain⟨a2,c2,rfl⟩:=h2.shape;exact⟨_,_,_,_,_,_,rfl⟩
theorem BM.shpX{w:World}{v:Value}(h:BM w v ⟨2,2,0,[[0,1]],[[0,0]]⟩):∃a c b d,v=.agg #[.int .i64 2,.int .i64 2,.int .i64 0,.slice a 1 c,.slice b 1 d]:=by
 obtain⟨v3,v4,rfl,-,h0,h1⟩:=h;obtain⟨a0,c0,rfl⟩:=h0.shape;obtain⟨a1,c1,rfl⟩:=h1.shape;exact⟨_,_,_,_,rfl⟩
theorem BM.shpM{w:World}{v:Value}(h:BM w v Ui):∃a c b d,v=.agg #[.int .i64 2,.int .i64 2,.int .i64 0,.slice a 2 c,.slice b 2 d]:=by
 obtain⟨v3,v4,rfl,-,h0,h1⟩:=h;obtain⟨a0,c0,rfl⟩:=h0.shape;obtain⟨a1,c1,rfl⟩:=h1.shape;exact⟨_,_,_,_,rfl⟩
theorem Dl.shpY{w:World}{v:Value}(h:Dl w v ⟨2,2,0,[0,1],[[1,0],[0,1]]⟩):∃a c b d,v=.agg #[.int .i64 2,.int .i64 2,.int .i64 0,.slice a 2 c,.slice b 2 d]:=by
 obtain⟨v3,v4,rfl,-,h0,h1⟩:=h;obtain⟨a0,c0,rfl⟩:=h0.shape;obtain⟨a1,c1,rfl⟩:=h1.shape;exact⟨_,_,_,_,rfl⟩
theorem BM.rowX{w:World}{a b:Option Addr}{c d:Nat}(h:BM w (.agg #[.int .i64 2,.int .i64 2,.int .i64 0,.slice a 1 c,.slice b 1 d]) ⟨2,2,0,[[0,1]],[[0,0]]⟩):
  ∃x o u,a=some ⟨x,o,none⟩/\w.cell? ⟨x,o,none⟩=some u/\Ai w u [0,1]:=by
 obtain⟨v3,v4,hv,-,h0,-⟩:=h
 obtain rfl:v3=.slice a 1 c:=by injection hv with hv;injection hv with hv;simp_all
 obtain⟨x,o,hx,-,hr⟩:=h0.dat2;obtain⟨ao,cap,hc,hi⟩:=hr 0 (by omega);exact⟨x,o,_,hx (by omega),hc,hi⟩
theorem Dl.inY{w:World}{a b:Option Addr}{c d:Nat}(h:Dl w (.agg #[.int .i64 2,.int .i64 2,.int .i64 0,.slice a 2 c,.slice b 2 d]) ⟨2,2,0,[0,1],[[1,0],[0,1]]⟩):
  ∃x o,a=some ⟨x,o,none⟩/\w.cell? ⟨x,o,none⟩=some (.int .i64 0)/\w.cell? ⟨x,o+1,none⟩=some (.int .i64 1):=by
 obtain⟨v3,v4,hv,-,h0,-⟩:=h
 obtain rfl:v3=.slice a 2 c:=by injection hv with hv;injection hv with hv;simp_all
 obtain⟨x,o,hx,-,hr⟩:=h0.data;exact⟨x,o,hx (by omega),hr 0 (by omega),hr 1 (by omega)⟩
end Go.Proofs.YtncjeamdkjcebaaGreatDoor
