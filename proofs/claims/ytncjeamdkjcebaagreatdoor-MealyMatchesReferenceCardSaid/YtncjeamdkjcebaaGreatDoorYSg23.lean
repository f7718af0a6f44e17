/- What the reference's Values computes; the la. -/
import Derived.Test.YtncjeamdkjcebaaGreatDoorYMyF1
set_option linter.all false
set_option maxHeartbeats 4000000
set_option maxRecDepth 100000
namespace Go.Proofs.YtncjeamdkjcebaaGreatDoor
open Go.RowKit
def Py(l:List Int)(w:World)(e:Ending)(w':World):Prop:=∃v,e=.returned v/\OI w' w.heap.size v l/\Below w.heap.size w w'
def Fg(l:List Sig)(a:Int):List Int:=if 0<=a/\a<Ay l then Eu l a else[]
theorem Ow{l:List Sig}(hz:∀s∈l,AP s=true)(a:Int)(k:Nat)(hk:k<l.length):(Eu l a).take (k+1)=(Eu l a).take k++[a/An (l.take k)%l[k].size]:=by
 have b:k<(Eu l a).length:=by rw[Ei];exact hk
 have h:=Fu hz a k hk;rw[Ae _ _ _ b]at h;rw[List.take_succ_eq_append_getElem b,h]
theorem Pz(w:World)(t:TypeId)(ht:t=3):OI (w.alloc (.cells #[] t)) w.heap.size (.slice (some ⟨w.heap.size,0,none⟩) 0 0) []:=by
 subst ht;exact⟨rfl,.inr ⟨w.heap.size,0,#[],rfl,Nat.le_refl _,World.alloc_heap_new w _,Nat.le_refl _,Nat.zero_le _,rfl,rfl⟩⟩
theorem Hk(w:World)(vl:Value)(l:List Sig)(a:Int)(ha:I64 a)(hl:AD w vl l):
  Calls Tryz.prog 95 #[vl,.int .i64 a] w (Py (Fg l a) w):=by
 have hL:Hid (∀W,Below w.heap.size w W->Calls Tryz.prog 120 #[vl] W (Av (.int .i64 (Ay l)) W)):=fun W hW=>Mu W vl l (hl.below hW)
 obtain⟨ao,ac,b,aw,rfl,hl⟩:=hl;have hn:=hl.nb;unfold I64 at ha
 have HV:Hid (0<=a->a<Ay l->As l=true):=fun h0 h1=>by
  unfold Ay at h1
  cases hv:As l
  ·rw[hv]at h1;simp at h1;omega
  ·rfl
 have f:Hid (¬(0<=a/\a<Ay l)->Fg l a=[]):=fun h=>if_neg h
 have d:Hid ((0<=a/\a<Ay l)->Fg l a=Eu l a):=fun h=>if_pos h
 generalize Ay l=x at*
 by_cases h0:a<0
 ·have HR:=Ab (f.out (by omega));clear hl
  go_enter Tryz.func95,Tryz.ntmps95
  go_wp2;go_ret;exact⟨_,rfl,by rw[HR.out];exact Br _ _,Ad⟩
 by_cases h1:x<=a
 ·have HR:=Ab (f.out (by omega));clear hl
  go_enter Tryz.func95,Tryz.ntmps95
  go_wp2_with fail
  refine(hL.out _ Ad).mono ?_;rintro e w1 ⟨rfl,hb⟩;go_wp2;go_ret;exact⟨_,rfl,by rw[HR.out];exact Br _ _,hb⟩
 have hv:=HV.out (by omega) (by omega);have HR:=Ab (d.out ⟨by omega,by omega⟩);obtain⟨hz,ai,u,-⟩:=AN hv;have HZ:=Ab hz
 have o:0<=a:=by omega
 have ae:=ha.2;clear hz hv HV d f ha
 go_enter Tryz.func95,Tryz.ntmps95
 go_wp2_with fail
 refine(hL.out _ Ad).mono ?_;rintro e w1 ⟨rfl,hb⟩;have d1:decide (x<=a)=false:=decide_eq_false (by omega);go_wp2;have r:Below w.heap.size w (w1.alloc (.cells #[] 3)):=AE hb _;have s:OI (w1.alloc (.cells #[] 3)) w.heap.size (.slice (some ⟨w1.heap.size,0,none⟩) 0 0) []:=((Pz w1 _ rfl).base hb.size);generalize(w1.alloc (.cells #[] 3))=w2 at*
 go_loopg [1,5,6] l.length (fun gh va vo i wr=>∃k:Nat,gh=l.length-k/\i=.int .i64 k/\va=.int .i64 (a/An (l.take k))/\k<=l.length/\OI wr w.heap.size vo ((Eu l a).take k)/\Below w.heap.size w wr)
 case atStart=>exact⟨0,rfl,rfl,by simp[An],by omega,by simpa using s,r⟩
 case round=>
  obtain⟨k,p,rfl,rfl,hk,hO,hB⟩:=hrel;have HG:=Ab p;clear p
  by_cases hlt:k<l.length
  ·obtain rfl:=hl.ad (by omega);have c2:=Ag hB (hl.nz k hlt);obtain⟨an,ap⟩:=CX HZ.out _ (List.getElem_mem hlt);obtain⟨v,y⟩:=DR HZ.out u k;have HT:=Ab (Ow HZ.out a k hlt);have HP:=Ab (BF hlt);have HE:Hid (a/An (l.take k)/l[k].size=a/(An (l.take k)*l[k].size)):=FL (by omega);have c:0<=a/An (l.take k):=Int.ediv_nonneg o (by omega);have ak:a/An (l.take k)<=a:=Int.ediv_le_self _ o;have al:=Int.emod_nonneg (a/An (l.take k)) (show l[k].size≠0 by omega);have am:=Int.emod_lt_of_pos (a/An (l.take k)) (show 0<l[k].size by omega);have ag:=Int.ediv_nonneg c (show 0<=l[k].size by omega);have ah:=Int.ediv_le_self l[k].size c;have aq:(a/An (l.take k)).tmod l[k].size=a/An (l.take k)%l[k].size:=Int.tmod_eq_emod_of_nonneg c;have ar:(a/An (l.take k)).tdiv l[k].size=a/An (l.take k)/l[k].size:=Int.tdiv_eq_ediv_of_nonneg c
   have au:¬l[k].size=0:=by omega
   have av:(l[k].size==0)=false:=by simp;omega
   have q:((Eu l a).take k).length<17592186043904:=by rw[List.length_take];omega
   have HO:=Ab hO;have HC:=Ab (hl.nz k hlt);have n:=hB.size;have af:b<wr.heap.size:=World.block_lt_of_cell? wr _ c2;clear hO v y;generalize a/An (l.take k)/l[k].size=qt at*;generalize a/An (l.take k)%l[k].size=rm at*;generalize a/An (l.take k)=aa at*;generalize hzz:l[k].size=z at*;have ab:=Ab hzz;clear hzz
   go_wp2_with (at_builtin;refine C8 rfl _ _ rm rfl w.heap.size _ _ HO.out rfl _ (by simp) rfl q n ?_;intro v' w' j hg aj;have m:=hB.grown hg n HO.out.ge;have c3:=Ag m HC.out)
   go_roundg (l.length-(k+1))
   case measure=>have:=HG.out;omega
   case rel=>exact⟨k+1,rfl,by go_num,by rw[HP.out,<-HE.out],by omega,by rw[HT.out];exact j,m⟩
  ·obtain rfl:k=l.length:=by omega
   go_wp2;go_ret;exact⟨_,rfl,by rw[HR.out];rwa [List.take_of_length_le (by rw[Ei];exact Nat.le_refl _)]at hO,hB⟩
theorem Ox{l:List Sig}(hz:∀s∈l,AP s=true)(a:Int):∀x∈Eu l a,0<=x/\x<=3:=by
 intro x hx;obtain⟨k,hk,rfl⟩:=List.getElem_of_mem hx
 have b:k<l.length:=by rwa [Ei]at hk
 have h:=Fu hz a k b;rw[Ae _ _ _ hk]at h;have hs:=CX hz _ (List.getElem_mem b);rw[h];have h1:=Int.emod_nonneg (a/An (l.take k)) (show l[k].size≠0 by omega);have h2:=Int.emod_lt_of_pos (a/An (l.take k)) (show 0<l[k].size by omega);omega
theorem Nk{l:List Sig}(a:Int):∀x∈Fg l a,0<=x/\x<=3:=by
 unfold Fg
 split
 ·rename_i h
  have hv:As l=true:=by
   have h1:=h.2;unfold Ay at h1
   cases hv:As l
   ·rw[hv]at h1;simp at h1;omega
   ·rfl
  exact Ox (AN hv).1 a
 ·simp
theorem Mf{l:List Sig}(a:Int):(Fg l a).length<=6:=by
 unfold Fg
 split
 ·rename_i h
  have hv:As l=true:=by
   have h1:=h.2;unfold Ay at h1
   cases hv:As l
   ·rw[hv]at h1;simp at h1;omega
   ·rfl
  rw[Ei];exact(AN hv).2.2.1
 ·simp
theorem Py.ints{l:List Int}{w w':World}{v:Value}(h:OI w' w.heap.size v l)(hl:l.length<=6)(hr:∀x∈l,0<=x/\x<=3):Ah w' v l:=
 h.is (by unfold Bg;omega) (fun x hx=>by have:=hr x hx;unfold I64;omega)
theorem Rz(w:World)(vl:Value)(l:List Sig)(a:Int)(q:Bool)(ha:I64 a)(hl:AD w vl l):
  Calls Tryz.prog 121 #[vl,.int .i64 a,.bool q] w (Av (.int .i64 (C1 l q a)) w):=by
 have H:=Ab (Hk w vl l a ha hl);obtain⟨ao,aj,b,ax,rfl,hl⟩:=hl;have hn:=hl.nb;have r:=Ab (Mf (l:=l) a);have ae:=Ab (Nk (l:=l) a);unfold I64 at ha
 by_cases hyes:0<=a/\a<Ay l
 case neg=>
  have HR:Hid (C1 l q a=0):=if_neg hyes;have HE:Hid (Fg l a=[]):=if_neg hyes;clear hl hyes
  go_enter Tryz.func121,Tryz.ntmps121
  go_wp2_with fail
  refine H.out.mono ?_;rintro e w1 ⟨v,rfl,hO,hb⟩;rw[HE.out]at hO;obtain⟨av,cv,rfl⟩:=hO.slice;go_wp2
  go_loop [8,10] (fun n i=>n=.int .i64 0/\i=.int .i64 0) (fun _ _=>0)
  case atStart=>exact⟨rfl,rfl⟩
  case round=>
   obtain⟨rfl,rfl⟩:=hrel;go_wp2;go_ret;exact⟨Cj (by rw[HR.out]),hb⟩
 have hv:As l=true:=by
  have h1:=hyes.2;unfold Ay at h1
  cases hv:As l
  ·rw[hv]at h1;simp at h1;omega
  ·rfl
 have HR:Hid (C1 l q a=CN q l a):=if_pos hyes;have HE:Hid (Fg l a=Eu l a):=if_pos hyes;obtain⟨hz,an,ap,-⟩:=AN hv;have HZ:=Ab hz;have ak:=hyes.1;have c:Hid ((Eu l a).length=l.length):=Ei l a;clear hz hv hyes ha
 go_enter Tryz.func121,Tryz.ntmps121
 go_wp2_with fail
 refine H.out.mono ?_;rintro e w1 ⟨v,rfl,hO,hb⟩;obtain⟨⟨av,cv,bv,ov,rfl,j⟩,-⟩:=Py.ints hO r.out ae.out;rw[HE.out]at j;rw[show(Fg l a).length=l.length by rw[HE.out,c.out]];go_wp2
 go_loop [8,9,10] (fun n p i=>∃(k:Nat)(s o:Int),i=.int .i64 k/\n=.int .i64 s/\p=.int .i64 o/\k<=l.length/\Hid (C2 l q a k s o))
  (fun _ _ i=>l.length-(intOf i).toNat)
 case atStart=>exact⟨0,0,1,rfl,rfl,rfl,by omega,C2.start l q a⟩
 case round=>
  obtain⟨k,s,o,rfl,rfl,rfl,hk,HH⟩:=hrel
  by_cases hlt:k<l.length
  ·obtain rfl:=hl.ad (by omega);obtain rfl:=j.ad (by rw[c.out];omega);have c1:=Ag hb (hl.ni k hlt);have c2:=Ag hb (hl.nz k hlt);have c3:=j.el k (by rw[c.out];exact hlt);unfold ivF at c3;rw[Fu HZ.out a k hlt]at c3;obtain⟨ai,ac⟩:=CX HZ.out _ (List.getElem_mem hlt);have ag:=Int.emod_nonneg (a/An (l.take k)) (show l[k].size≠0 by omega);have ah:=Int.emod_lt_of_pos (a/An (l.take k)) (show 0<l[k].size by omega);obtain⟨af,al,am,y⟩:=HH.out;have u:=Je (fun x=>x.inp==q) (l.take k) (fun s hs=>HZ.out s (List.mem_of_mem_take hs))
   have aa:1<=o:=by omega
   have ab:o<=4096:=by rw[y];exact Int.le_trans u.2 (Jd (by rw[List.length_take];omega))
   have hm:=CL aa ab ag ah ac;have aw:=Eo aa ab ai ac
   have f:Hid ((l[k].inp==q)=false->C2 l q a (k+1) s o):=fun h=>HH.out.miss HZ.out hlt h
   have m:Hid ((l[k].inp==q)=true->C2 l q a (k+1) (s+o*(a/An (l.take k)%l[k].size)) (o*l[k].size)):=fun h=>HH.out.hit HZ.out hlt h
   clear af y u;generalize a/An (l.take k)%l[k].size=rm at*;generalize l[k].size=z at*;obtain⟨⟨aq,ar⟩,au⟩:=hm
   cases hq:(l[k].inp==q)
   ·have d:=Ab (f.out hq);go_wp2
    go_round
    case rel=>exact⟨k+1,s,o,by go_num,rfl,rfl,by omega,d.out⟩
    case measure=>simp[intOf];omega
   ·have d:=Ab (m.out hq);go_wp2
    go_round
    case rel=>exact⟨k+1,_,_,by go_num,rfl,rfl,by omega,d.out⟩
    case measure=>simp[intOf];omega
  ·obtain rfl:k=l.length:=by omega
   have hd:=HH.out.done;have HD:=Ab hd;clear hd;go_wp2;go_ret;exact⟨Cj (by rw[HR.out,HD.out]),hb⟩
theorem Oh(w:World)(vl:Value)(l:List Sig)(a:Int)(ha:I64 a)(hl:AD w vl l):
  Calls Tryz.prog 97 #[vl,.int .i64 a] w (Av (.int .i64 (C1 l false a)) w):=by
 have H:=Ab (Rz w vl l a false ha hl);obtain⟨ao,c,b,d,rfl,hl⟩:=hl;clear hl ha
 go_enter Tryz.func97,Tryz.ntmps97
 go_wp2_with fail
 refine H.out.mono ?_;rintro e w1 ⟨rfl,hb⟩;go_wp2;go_ret;exact⟨rfl,hb⟩
def Cm(l:List Sig)(a:Int):List Int:=(List.range l.length).map fun(i:Nat)=>BY l a (i:Int)
theorem Mg(l:List Sig)(a i:Int):0<=BY l a i/\BY l a i<=3:=by
 unfold BY
 split
 ·rename_i h
  have hv:As l=true:=by
   have h1:=h.2.1;unfold Ay at h1
   cases hv:As l
   ·rw[hv]at h1;simp at h1;omega
   ·rfl
  have hj:i.toNat<l.length:=by omega
  rw[Ae _ _ _ hj];have hs:=CX (AN hv).1 _ (List.getElem_mem hj);have h1:=Int.emod_nonneg (a/An (l.take i.toNat)) (show l[i.toNat].size≠0 by omega);have h2:=Int.emod_lt_of_pos (a/An (l.take i.toNat)) (show 0<l[i.toNat].size by omega);omega
 ·omega
theorem Tm{l:List Sig}:∀(vals:List Int)(n:Int),mkL l vals=some n->Eu l n=vals/\0<=n/\n<An l:=by
 induction l with
 |nil=>
  intro vals n h
  cases vals with
  |nil=>simp only[mkL,Option.some.injEq]at h;subst h;simp[Eu,An]
  |cons v vs=>simp[mkL]at h
 |cons s r ih=>
  intro vals n h
  cases vals with
  |nil=>simp[mkL]at h
  |cons v vs=>
   simp only[mkL]at h
   split at h
   ·rename_i hg
    cases hr:mkL r vs with
    |none=>rw[hr]at h;simp at h
    |some m=>
     rw[hr,Option.map_some,Option.some.injEq]at h;subst h;obtain⟨i1,i2,i3⟩:=ih vs m hr;simp only[Eu,An];rw[GZ hg.1 hg.2,GY hg.1 hg.2,i1];exact⟨rfl,Di hg.1 hg.2 i2 i3⟩
   ·simp at h
theorem Tn{l:List Sig}(hz:∀s∈l,AP s=true)(a:Int)(k:Nat)(hk:k<l.length):0<=(Eu l a).getD k 0/\(Eu l a).getD k 0<l[k].size:=by
 rw[Fu hz a k hk];exact Gp _ (BU hz _ (List.getElem_mem hk)).1
theorem Gx{l:List Sig}(hv:As l=true){a:Int}(h0:0<=a)(h1:a<Ay l):Cm l a=Eu l a:=by
 obtain⟨hz,d,e,hp⟩:=AN hv
 apply List.ext_getElem
 ·simp[Cm,Ei]
 ·intro k c b
  have hk:k<l.length:=by rwa [Ei]at b
  have h2:=Fu hz a k hk;rw[Ae _ _ _ b]at h2;rw[h2];simp only[Cm,List.getElem_map,List.getElem_range];rw[BY,if_pos ⟨h0,h1,by omega,by omega⟩,Int.toNat_natCast,Ae _ _ _ hk]
theorem Gz(l:List Sig)(a:Int):(Cm l a).length=l.length:=by simp[Cm]
theorem Gy(l:List Sig)(a:Int)(k:Nat)(hk:k<l.length):(Cm l a).getD k 0=BY l a k:=by
 rw[Ae _ _ _ (by rw[Gz];exact hk)];simp[Cm]
theorem Mh{l:List Sig}(hv:As l=true)(a:Int)(k:Nat)(hk:k<l.length):0<=BY l a k/\BY l a k<l[k].size:=by
 obtain⟨hz,b,c,hp⟩:=AN hv;have hs:=BU hz _ (List.getElem_mem hk)
 by_cases h:0<=a/\a<Ay l
 ·rw[<-Gy l a k hk,Gx hv h.1 h.2];exact Tn hz a k hk
 ·rw[BY,if_neg (fun h2=>h ⟨h2.1,h2.2.1⟩)];omega
theorem QK{l:List Sig}(hv:As l=true)(vals:List Int):
  ((mkR l vals).2=false/\(mkR l vals).1=0)\/((mkR l vals).2=true/\0<=(mkR l vals).1/\(mkR l vals).1<Ay l/\Cm l (mkR l vals).1=vals):=by
 unfold mkR
 by_cases hlen:vals.length=l.length
 ·rw[hv,decide_eq_true hlen];simp only[Bool.and_self,if_true]
  cases hm:mkL l vals with
  |none=>exact .inl ⟨rfl,rfl⟩
  |some x=>
   obtain⟨h1,h2,h3⟩:=Tm vals x hm;rw[<-E8 hv]at h3;exact .inr ⟨rfl,h2,h3,by rw[Gx hv h2 h3,h1]⟩
 ·rw[decide_eq_false hlen,Bool.and_false];exact .inl ⟨rfl,rfl⟩
def CV(l:List Sig)(own:List Bool)(a b:Int):List Int:=(List.range l.length).map fun(i:Nat)=>if own.getD i false=true then BY l (AI l 0 a) (i:Int)else BY l (AI l 0 b) (i:Int)
def D4(l:List Sig)(own:List Bool)(a b:Int):Int:=C1 l false (mkR l (CV l own a b)).1
theorem G0{l:List Sig}{own:List Bool}{a b:Int}:(CV l own a b).length=l.length:=by simp[CV]
theorem KL{l:List Sig}{own:List Bool}{a b:Int}{k:Nat}(hk:k<l.length):(CV l own a b).getD k 0=if own.getD k false=true then BY l (AI l 0 a) (k:Int)else BY l (AI l 0 b) (k:Int):=by
 unfold CV;rw[Ae _ _ _ (by simpa using hk)];simp only[List.getElem_map,List.getElem_range]
theorem NU{l:List Sig}{own:List Bool}{a b:Int}:∀x∈CV l own a b,0<=x/\x<=3:=by
 intro x hx;obtain⟨k,-,rfl⟩:=List.mem_map.1 hx
 split
 ·exact Mg l _ _
 ·exact Mg l _ _
theorem I2{l:List Sig}(hv:As l=true)(own:List Bool)(a b:Int):(mkR l (CV l own a b)).2=true/\0<=(mkR l (CV l own a b)).1/\(mkR l (CV l own a b)).1<Ay l/\Cm l (mkR l (CV l own a b)).1=CV l own a b:=by
 obtain⟨hz,c,d,hp⟩:=AN hv
 rcases QK hv (CV l own a b)with h|h
 ·exfalso
  have hm:=NV hz (vals:=CV l own a b) G0 fun x _=>by
   unfold okV;rw[KL x.2,Ae _ _ _ x.2]
   split
   ·exact Mh hv _ _ x.2
   ·exact Mh hv _ _ x.2
  have h1:=h.1;rw[mkR,hv,G0,decide_eq_true rfl,hm]at h1;simp at h1
 ·exact h
theorem MU{l:List Sig}(hv:As l=true)(own:List Bool)(a b:Int):0<=D4 l own a b/\D4 l own a b<Ai l:=by
 obtain⟨-,h1,h2,-⟩:=I2 hv own a b;exact(MQ hv h1 h2).2.1
def Hq(l:List Sig)(own:List Bool)(a b:My)(n:Nat)(p:Pr):List Int:=(List.range n).map fun i=>D4 l own (Bt a p.1 i) (Bt b p.2 i)
def Nx(l:List Sig)(own:List Bool)(a b:My)(K:Nat):My:=⟨a.ins,a.outs,0,(List.range K).map fun j=>Hq l own a b a.ins.toNat (bfP a b a.ins.toNat j),bfN a b a.ins.toNat K⟩
def Fh:My:=⟨0,0,0,[],[]⟩
noncomputable def IQ (l:List Sig) (own:List Bool) (a b:My):My:=
 open Classical in if h:∃K,EF a b a.ins.toNat K then Nx l own a b h.choose else Fh
theorem IR{l:List Sig}{own:List Bool}{a b:My}{K:Nat}(h:EF a b a.ins.toNat K):IQ l own a b=Nx l own a b K:=by
 have hx:∃K,EF a b a.ins.toNat K:=⟨K,h⟩;unfold IQ;rw[dif_pos hx,hx.choose_spec.unique h]
noncomputable def DN (l:List Sig) (a b:My) (own:List Bool):My×Int:=
 if BH l a=true/\BH l b=true/\own.length=l.length then(IQ l own a b,0)else(Fh,1)
def stB(g:Gm)(p:Int)(set:List Bool)(s:List Int):Bool:=
 (decide (p=0)||decide (p=1))&&Cg g&&decide (set.length=g.owner.length)&&decide (s.length=g.owner.length)&&(List.range set.length).all (DU g p set s)
theorem L0(f:Nat->Bool)(k:Nat):(List.range (k+1)).all f=((List.range k).all f&&f k):=by
 rw[List.range_succ,List.all_append];simp
theorem KO(f:Nat->Bool)(n k:Nat)(hk:k<n)(h:f k=false):(List.range n).all f=false:=by
 rw[List.all_eq_false];exact⟨k,List.mem_range.2 hk,by simp[h]⟩
theorem FT{g:Gm}{p:Int}{set:List Bool}{s:List Int}(h:(p !=0&&p !=1)=true\/Cg g=false\/¬set.length=g.owner.length\/¬s.length=g.owner.length):stB g p set s=false:=by
 unfold stB
 rcases h with h|h|h|h
 ·simp only[Bool.and_eq_true,bne_iff_ne,ne_eq]at h;simp[h.1,h.2]
 ·simp[h]
 ·simp[h]
 ·simp[h]
theorem TJ{g:Gm}{p:Int}{set:List Bool}{s:List Int}(hp:p=0\/p=1)(h:Cg g=true)(h1:set.length=g.owner.length)(h2:s.length=g.owner.length):stB g p set s=(List.range set.length).all (DU g p set s):=by
 unfold stB
 rcases hp with rfl|rfl<;>simp[h,h1,h2]
theorem Oj(w:World)(vg vs vt:Value)(g:Gm)(p:Int)(set:List Bool)(s:List Int)(hg:Cx w vg g)(hs:Bf w vs set)(ht:Ah w vt s)(hp:p=0\/p=1):
  Calls Tryz.prog 86 #[vg,.int .i64 p,vs,vt] w (Av (.bool (stB g p set s)) w):=by
 have HK:Hid (∀q:Int,q=p->∀W,Below w.heap.size w W->Cg g=true->set.length=g.owner.length->s.length=g.owner.length->∀k,k<g.owner.length->Calls Tryz.prog 116 #[vg,.int .i64 q,vs,vt,.int .i64 k] W (Av (.bool (DU g p set s k)) W)):=
  fun q hq W hW hv h1 h2 k hk=>hq▸Sb W _ _ _ g q set s k (hg.below hW) (hs.below hW) (ht.below hW) hv h1 h2 hk
 have HV:Hid (∀W,Below w.heap.size w W->Calls Tryz.prog 115 #[vg] W (Av (.bool (Cg g)) W)):=fun W hW=>Pj W _ g (hg.below hW)
 obtain⟨v0,v1,v2,rfl,i0,i1,i2⟩:=hg;obtain⟨a0,c0,rfl⟩:=i0.shape;obtain⟨aS,cS,rfl⟩:=hs.shape;obtain⟨aT,cT,rfl⟩:=ht.shape;obtain⟨bS,oS,o,mS,n⟩:=hs.data;clear i0 i1 i2 hs ht o n;have HP:Hid (p=0\/p=1):=hp
 cases hv:Cg g
 ·rcases hp with rfl|rfl
  all_goals
   go_enter Tryz.func86,Tryz.ntmps86
   go_wp2_with fail
   refine(HV.out _ (by repeat(first|exact Ad|assumption|(refine AE ?_ _)|(refine AB ?_ _)|(refine Below.drew ?_)))).mono ?_;rintro e w1 ⟨rfl,a⟩;rw[hv];have b:=(AH.start a).bl;go_wp2;go_ret;exact⟨Ak (FT (.inr (.inl hv))).symm,b⟩
 cases h1:((set.length:Int) !=g.owner.length)
 case true=>
  rcases hp with rfl|rfl
  all_goals
   go_enter Tryz.func86,Tryz.ntmps86
   go_wp2_with fail
   refine(HV.out _ (by repeat(first|exact Ad|assumption|(refine AE ?_ _)|(refine AB ?_ _)|(refine Below.drew ?_)))).mono ?_;rintro e w1 ⟨rfl,a⟩;rw[hv];have b:=(AH.start a).bl;go_wp2;go_ret;exact⟨Ak (FT (.inr (.inr (.inl (by have:=h1;simp at this;omega))))).symm,b⟩
 cases h2:((s.length:Int) !=g.owner.length)
 case true=>
  rcases hp with rfl|rfl
  all_goals
   go_enter Tryz.func86,Tryz.ntmps86
   go_wp2_with fail
   refine(HV.out _ (by repeat(first|exact Ad|assumption|(refine AE ?_ _)|(refine AB ?_ _)|(refine Below.drew ?_)))).mono ?_;rintro e w1 ⟨rfl,a⟩;rw[hv];have b:=(AH.start a).bl;go_wp2;go_ret;exact⟨Ak (FT (.inr (.inr (.inr (by have:=h2;simp at this;omega))))).symm,b⟩
 have e1:set.length=g.owner.length:=by have:=h1;simp at this;omega
 have e2:s.length=g.owner.length:=by have:=h2;simp at this;omega
 have c:=Ab e1;have m:=Ab e2;have HF:Hid (stB g p set s=(List.range set.length).all (DU g p set s)):=TJ hp hv e1 e2;have d:=Ab hv;clear e1 e2
 suffices hmain:∀q:Int,q=p->Calls Tryz.prog 86 #[.agg #[.slice a0 g.owner.length c0,v1,v2],.int .i64 q,.slice aS set.length cS,.slice aT s.length cT] w (Av (.bool (stB g p set s)) w)from hmain p rfl
 intro q hq;have HQ:=Ab hq;rw[<-hq]at hp;clear hq
 rcases hp with rfl|rfl
 all_goals
  go_enter Tryz.func86,Tryz.ntmps86
  go_wp2_with fail
  refine(HV.out _ (by repeat(first|exact Ad|assumption|(refine AE ?_ _)|(refine AB ?_ _)|(refine Below.drew ?_)))).mono ?_;rintro e w1 ⟨rfl,a⟩;rw[d.out];have j:=AH.start a;clear a;go_wp2
  go_loopg [8,10,39] set.length (fun gh r _ i wr=>∃k:Nat,gh=set.length-k/\i=.int .i64 k/\r=.bool false/\k<=set.length/\AH w wr #[.slice a0 g.owner.length c0,v1,v2]/\Hid ((List.range k).all (DU g p set s)=true))
  case atStart=>exact⟨0,rfl,rfl,rfl,by omega,j,by simp[Hid]⟩
  case round=>
   obtain⟨k,l,rfl,rfl,hk,hB,HE⟩:=hrel;have HG:=Ab l;clear l j;have d0:=hB.cell 0 rfl;have d1:=hB.cell 1 rfl;have d2:=hB.cell 2 rfl
   by_cases hlt:k<set.length
   ·have HC:=Ab (HK.out _ HQ.out wr hB.bl d.out c.out m.out k (by have:=c.out;omega))
    go_wp2_with fail
    refine(HC.out).mono ?_;rintro e w2 ⟨rfl,f⟩
    cases hc:DU g p set s k
    ·go_wp2;go_ret;exact⟨Ak (by rw[HF.out,KO _ _ k hlt hc]),(hB.step f).bl⟩
    ·go_wp2
     go_roundg (set.length-(k+1))
     case measure=>have:=HG.out;omega
     case rel=>exact⟨k+1,rfl,by go_num,rfl,by omega,hB.step f,by show _=_;rw[L0,HE.out,hc];rfl⟩
   ·obtain rfl:k=set.length:=by omega
    go_wp2;go_ret;exact⟨Ak (by rw[HF.out,HE.out]),hB.bl⟩
theorem Ok(w:World)(vg vs vt:Value)(g:Gm)(p:Int)(set:List Bool)(s:List Int)(hg:Cx w vg g)(hs:Bf w vs set)(ht:Ah w vt s):
  Calls Tryz.prog 86 #[vg,.int .i64 p,vs,vt] w (Av (.bool (stB g p set s)) w):=by
 by_cases hp:p=0\/p=1
 ·exact Oj w vg vs vt g p set s hg hs ht hp
 ·have h0:(p !=0)=true:=by simp;omega
  have h1:(p !=1)=true:=by simp;omega
  obtain⟨v0,v1,v2,rfl,i0,i1,i2⟩:=hg;obtain⟨a0,c0,rfl⟩:=i0.shape;clear i0 i1 i2 hs ht hp
  go_enter Tryz.func86,Tryz.ntmps86
  go_wp2;go_ret;exact⟨Ak (FT (.inl (by rw[h0,h1];rfl))).symm,(by repeat(first|exact Ad|assumption|apply AE|apply AB))⟩
end Go.Proofs.YtncjeamdkjcebaaGreatDoor
