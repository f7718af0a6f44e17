/- What mealy.mixed computes. -/
import Derived.Test.YtncjeamdkjcebaaGreatDoorYSt7
set_option linter.all false
set_option maxHeartbeats 4000000
set_option maxRecDepth 100000
namespace Go.Proofs.YtncjeamdkjcebaaGreatDoor
open Go.RowKit
def Gv(n m:Nat)(f:Nat->Nat->Int):List (List Int):=(List.range n).map fun i=>(List.range m).map fun o=>f i o
def DW(n m:Nat)(f:Nat->Nat->Int)(i:Nat):List (List Int):=(List.range n).map fun k=>if k<i then(List.range m).map fun o=>f k o else[]
def EV(m:Nat)(f:Nat->Nat->Int)(i o:Nat):List Int:=(List.range m).map fun k=>if k<o then f i k else 0
section
variable {n m i o:Nat} {f:Nat->Nat->Int}
theorem Pe:DW n m f 0=List.replicate n []:=by
 apply List.ext_getElem (by simp[DW])
 intro j h1 h2;simp[DW]
theorem Q9:DW n m f n=Gv n m f:=by
 apply List.ext_getElem (by simp[DW,Gv])
 intro j h1 h2
 have:j<n:=by simpa[DW]using h1
 simp only[DW,Gv,List.getElem_map,List.getElem_range];rw[if_pos this]
theorem Ra:(DW n m f i).length=n:=by simp[DW]
theorem Rc:(EV m f i o).length=m:=by simp[EV]
theorem Pf:EV m f i 0=List.replicate m 0:=by
 apply List.ext_getElem (by simp[EV])
 intro j h1 h2;simp[EV]
theorem Rd:(EV m f i o).set o (f i o)=EV m f i (o+1):=by
 apply List.ext_getElem (by simp[EV])
 intro j h1 h2;rw[List.getElem_set];simp only[EV,List.getElem_map,List.getElem_range]
 by_cases e:o=j
 ·subst e;simp
 ·rw[if_neg e]
  by_cases h3:j<o
  ·rw[if_pos h3,if_pos (by omega)]
  ·rw[if_neg h3,if_neg (by omega)]
theorem Rb:(DW n m f i).set i (EV m f i m)=DW n m f (i+1):=by
 apply List.ext_getElem (by simp[DW])
 intro j h1 h2;rw[List.getElem_set]
 have hj:j<n:=by simpa[DW]using h1
 simp only[DW,List.getElem_map,List.getElem_range]
 by_cases e:i=j
 ·subst e;rw[if_pos rfl,if_pos (by omega)]
  apply List.ext_getElem (by simp[EV])
  intro o h3 h4
  have:o<m:=by simpa[EV]using h3
  simp only[EV,List.getElem_map,List.getElem_range];rw[if_pos this]
 ·rw[if_neg e]
  by_cases h3:j<i
  ·rw[if_pos h3,if_pos (by omega)]
  ·rw[if_neg h3,if_neg (by omega)]
end
def CU(l:List Sig)(own:List Bool)(x y:Nat):Int:=D4 l own (x:Int) (y:Int)
def Fj(l:List Sig)(own:List Bool):List (List Int):=Gv (Ai l).toNat (Ai l).toNat (CU l own)
theorem LT{T V:List Int}{i:Nat}(hi:i<T.length)(hV:V.length=T.length):(T.take i++V.drop i).set i (T.getD i 0)=T.take (i+1)++V.drop (i+1):=by
 rw[List.set_append_right _ _ (by simp;omega),List.length_take,Nat.min_eq_left (Nat.le_of_lt hi),Nat.sub_self,List.drop_eq_getElem_cons (by omega:i<V.length),List.set_cons_zero,List.take_succ_eq_append_getElem hi,Ae _ _ _ hi,List.append_assoc];rfl
structure UD(w2 W:World)(B zv m q:Nat)(vals:List Value)(rows:List (List Int))(V:List Int):Prop where
 r:Rows W B m B vals rows
 v:OI W B (.slice (some ⟨zv,0,none⟩) q q) V
 vq:V.length=q
 ne:∀j,j<m->(vals.getD j undef).ownBlock≠some zv
 bl:Below B w2 W
 zz:B<zv
section
variable {w2 W W':World} {B zv m q u g j:Nat} {vals:List Value} {rows:List (List Int)} {V l:List Int} {x:Int}
theorem UD.below(h:UD w2 W B zv m q vals rows V)(hb:Below W.heap.size W W'):UD w2 W' B zv m q vals rows V:=
 ⟨h.r.only (S:=fun _=>False) (Af.of_below hb) (fun e=>e) (fun _ _ _ _ e=>e),h.v.below hb,h.vq,h.ne,h.bl.trans (hb.mono (by have:=h.r.row;omega)),h.zz⟩
theorem UD.setV(h:UD w2 W B zv m q vals rows V):UD w2 (W.setCell ⟨zv,j,none⟩ (.int .i64 x)) B zv m q vals rows (V.set j x):=by
 have ho:Af (fun k=>k=zv) W (W.setCell ⟨zv,j,none⟩ (.int .i64 x)):=Af.set _ _ _ rfl;refine⟨h.r.only ho (by have:=h.zz;omega) fun k hk b hb e=>h.ne k hk (by rw[hb,e]),h.v.set h.vq.symm j x,by rw[List.length_set];exact h.vq,h.ne,h.bl.trans (ho.below _ (fun q e=>by have:=h.zz;omega) (by have:=h.r.row;omega)),h.zz⟩
theorem UD.push(h:UD w2 W B zv m q vals rows V)(hu:u<m)(ho:OI W' B (.slice (some ⟨W.heap.size,0,none⟩) m m) l)(hg:W.grownBy W' none):
  UD w2 (W'.setCell ⟨B,u,none⟩ (.slice (some ⟨W.heap.size,0,none⟩) m m)) B zv m q (vals.set u (.slice (some ⟨W.heap.size,0,none⟩) m m)) (rows.set u l) V/\W'.cell? ⟨B,u,none⟩=some (vals.getD u undef)/\W'.frozen? ⟨B,u,none⟩=false:=by
 obtain⟨q1,q2,q3⟩:=h.r.push (l:=l) hu ho (⟨hg.os,hg.tape,hg.output,hg.size,fun k hk _=>hg.block k hk (by simp)⟩) (fun b e=>.inr (by cases e;exact Nat.le_refl _));have hb:Below W.heap.size W W':=Ad.grown hg leR (fun k hk=>by cases hk);have hv:=h.v.below hb;have hz:zv<W.heap.size:=h.v.lt' _ rfl;have a:=h.zz;refine⟨⟨q3,hv.setNe (by simp[Value.ownBlock];omega),h.vq,fun j hj=> ?_,(h.bl.trans (hb.mono (by omega))).trans ((Af.set (S:=fun q=>q=B) B u _ rfl).below _ (fun q e=>by omega) (by have:=hb.size;omega)),a⟩,q1,q2⟩
 by_cases e:j=u
 ·subst e;rw[AA _ _ _ _ (by rw[h.r.lv];exact hj)];simp[Value.ownBlock];omega
 ·rw[AJ _ _ _ _ _ (Ne.symm e)];exact h.ne j hj
theorem UD.elem(h:UD w2 W B zv m q vals rows V)(hu:u<m)(hg:vals.getD u undef=.slice (some ⟨g,0,none⟩) m m)(hl:m=(rows.getD u []).length):UD w2 (W.setCell ⟨g,j,none⟩ (.int .i64 x)) B zv m q vals (rows.set u ((rows.getD u []).set j x)) V:=by
 have ho:Af (fun k=>k=g) W (W.setCell ⟨g,j,none⟩ (.int .i64 x)):=Af.set g j _ rfl
 have a:g≠zv:=fun e=>h.ne u hu (by rw[hg,e];rfl)
 have b:B<=g:=(h.r.e u hu).ge g (by rw[hg];rfl);exact⟨h.r.elem hu hg hl j x,h.v.only ho fun k e1 e2=>a (by rw[<-e2];exact(Option.some.inj e1).symm),h.vq,h.ne,h.bl.trans (ho.below _ (fun q e=>by have:=h.zz;omega) (by have:=h.r.row;omega)),h.zz⟩
end
def RMi(sa:Option Addr)(sn sc ob n r g m o:Nat)(z x:Int)(ix:Nat)(u:Value)(_:World):Prop:=
 match ix with
 |0=>u=.slice (some ⟨ob,0,none⟩) n n
 |1=>u=.int .i64 (r:Int)
 |2=>u=.pointer (some ⟨ob,r,none⟩)
 |3=>u=.slice (some ⟨g,0,none⟩) m m
 |4=>u=.int .i64 (o:Int)
 |5=>u=.slice sa sn sc
 |6=>u=.int .i64 z
 |7=>u=.int .i64 x
 |8=>u=.pointer (some ⟨g,o,none⟩)
 | _=>True
theorem RMi.below{ix:Nat}{u:Value}{W W':World}{sa:Option Addr}{sn sc ob n r g m o:Nat}{z x:Int}(h:RMi sa sn sc ob n r g m o z x ix u W)(_:Below W.heap.size W W'):RMi sa sn sc ob n r g m o z x ix u W':=by
 unfold RMi at*
 split at h<;>first|exact h|trivial
theorem Sh(w:World)(vl vo:Value)(l:List Sig)(own:List Bool)(hK:B7 w)(hl:AD w vl l)(ho:Bf w vo own)(cd:own.length=l.length)(hv:As l=true):Calls Tryz.prog 48 #[vl,vo] w (EZ (Fj l own) w):=by
 have ca:Tryz.prog.follows .mixedOrders=true:=by kernel_rfl
 obtain⟨⟨b5,-⟩,⟨cb,cc⟩⟩:=Dv hv;obtain⟨hz,ck,cl,hp⟩:=AN hv;have b9:=(E7 hv).2;have ci:=Ab hv
 have an:Hid (∀W,Below w.heap.size w W->Calls Tryz.prog 79 #[vl] W (Av (.int .i64 (Ai l)) W)):=fun W h=>Dg W _ _ (hK.below h) (hl.below h)
 have a0:Hid (∀W o,I64 o->Below w.heap.size w W->Calls Tryz.prog 93 #[vl,.int .i64 0,.int .i64 o] W (Av (.int .i64 (AI l 0 o)) W)):=fun W o h2 h=>Mq W _ _ 0 o (by unfold I64;omega) h2 (hK.below h) (hl.below h)
 have a6:Hid (∀W a(i:Nat),I64 a->i<l.length->Below w.heap.size w W->Calls Tryz.prog 29 #[vl,.int .i64 a,.int .i64 (i:Int)] W (Av (.int .i64 (BY l a (i:Int))) W)):=fun W a i h1 h2 h=>RD W _ _ a i h1 (by unfold I64;omega) (hK.below h) (hl.below h)
 have a3:Hid (∀W v a b,Below w.heap.size w W->Ah W v (CV l own a b)->Calls Tryz.prog 94 #[vl,v] W (Hg (mkR l (CV l own a b)) W)):=fun W v a b h hi=>S5 W _ v l _ (hK.below h) (hl.below h) hi
 have ai:Hid (∀W a b,Below w.heap.size w W->Calls Tryz.prog 33 #[vl,.int .i64 (mkR l (CV l own a b)).1] W (Av (.int .i64 (D4 l own a b)) W)):=fun W a b h=>Td W _ l _ (by obtain⟨-,h1,h2,-⟩:=I2 hv own a b;unfold I64;omega) (hK.below h) (hl.below h)
 have al:Hid (∀o:Int,0<=o->o<Ai l->I64 (AI l 0 o)):=fun o h1 h2=>by
  obtain⟨⟨a1,a2⟩,-⟩:=DP hv (i:=0) (by omega) (by omega) h1 h2;unfold I64;omega
 have cf:=Ab ho
 have br:Hid (∀a b,∀x∈CV l own a b,I64 x):=fun a b x hx=>by have:=NU x hx;unfold I64;omega
 have bs:Hid (∀a b,I64 (D4 l own a b)):=fun a b=>by have:=MU hv own a b;unfold I64;omega
 obtain⟨sa,sc,rfl⟩:=hl.shape;obtain⟨oa,oc,rfl⟩:=ho.shape;rw[cd]at ho⊢;obtain⟨bo,oo,od,-,of⟩:=ho.data;have bu:=Ab of;obtain rfl:=od (by omega);clear hl hK hv ho od of hp hz b9 b5;obtain⟨m,hm⟩:∃m:Nat,Ai l=(m:Int):=⟨(Ai l).toNat,by omega⟩
 have HM:Hid ((Ai l).toNat=m):=by show _=_;omega
 have a4:Hid (Fj l own=Gv m m (CU l own)):=by show _=_;unfold Fj;rw[HM.out]
 rw[hm]at an cb cc al;clear hm
 have cm:l.length<=64:=by omega
 have cg:=Ab (rfl:l.length=l.length)
 go_enter Tryz.func48,Tryz.ntmps48
 go_wp2_with fail
 refine(an.out _ Ad).mono ?_;rintro e w2 ⟨rfl,a9⟩;obtain⟨B,hB⟩:∃B,B=w2.heap.size:=⟨_,rfl⟩
 go_upto_region 2 with(at_make;refine LK rfl _ _ _ Tryz.underlying23 rfl B (m:Int) m rfl rfl rfl (by omega) (by omega) ?_;intro wm f af)
 rw[<-hB]at f⊢
 have bb:Below B w2 wm:=by rw[hB];exact Ad.grown af leR (fun k hk=>by cases hk)
 obtain⟨zv,aw⟩:∃zv,zv=wm.heap.size:=⟨_,rfl⟩
 have b3:B<zv:=by rw[aw];exact(World.ownsRow.lt f _ rfl).2
 have bk:=Ab hB;have b2:=Ab aw;have ax:=Ab a9
 have av:B<=wm.heap.size:=by omega
 clear hB aw a9
 go_upto_region 3 with(at_make;refine FA rfl _ _ _ Tryz.underlying26 rfl B (l.length:Int) l.length rfl rfl rfl (by omega) av ?_;intro wv aa bh)
 rw[<-b2.out]at aa⊢
 have a7:Hid (UD w2 wv B zv m l.length (List.replicate m (.slice none 0 0)) (DW m m (CU l own) 0) (List.replicate l.length 0)):=by
  have hg:∀j,j<m->(List.replicate m (Value.slice none 0 0)).getD j undef=.slice none 0 0:=fun j hj=>by simp[List.getD,hj]
  have b4:∀j,j<m->(List.replicate m ([]:List Int)).getD j []=[]:=fun j hj=>by simp[List.getD,hj]
  have bd:Below wm.heap.size wm wv:=Ad.grown bh leR (fun k hk=>by cases hk)
  have hR:Rows wm B m B (List.replicate m (.slice none 0 0)) (DW m m (CU l own) 0):=by
   rw[Pe];refine⟨f,fun j hj=> ?_,fun i j hi hj _=> ?_,fun j hj=> ?_,by simp,by simp⟩
   ·rw[hg j hj,b4 j hj];exact Br _ _
   ·rw[hg i hi];intro k hk;cases hk
   ·rw[hg j hj];intro hk;cases hk
  exact⟨hR.only (S:=fun _=>False) (Af.of_below bd) (fun e=>e) (fun _ _ _ _ e=>e),aa,by simp,fun j hj=>by rw[hg j hj];simp[Value.ownBlock],bb.trans (bd.mono av),b3⟩
 have s:Hid (∀W,Below B w2 W->Below w.heap.size w W):=fun W h=>by rw[bk.out]at h;exact ax.out.trans (h.mono ax.out.size)
 clear f af bb aa bh an av
 go_wp2_with fail
 go_loopg [23] m (fun gh i wr=>∃(u:Nat)(vals:List Value)(V:List Int),gh=m-u/\i=.int .i64 (u:Int)/\u<=m/\Hid (UD w2 wr B zv m l.length vals (DW m m (CU l own) u) V))
 case atStart=>exact⟨0,_,_,rfl,rfl,by omega,a7⟩
 case round=>
  clear a7;obtain⟨u,vals,V,bg,rfl,hu,HX⟩:=hrel;have bq:=Ab bg;clear bg
  by_cases hltu:u<m
  ·have ce:(0:Int)<=(u:Int):=by omega
   have bj:(u:Int)<(m:Int):=by omega
   have cu:=HX.out.r.cell hltu;have fu:=HX.out.r.fz u
   have bc:B<=wr.heap.size:=by have:=HX.out.r.row;omega
   go_upto_region 7 with(at_make;refine FA rfl _ _ _ Tryz.underlying26 rfl B (m:Int) m rfl rfl rfl (by omega) bc ?_;intro w4 f af;obtain⟨q3,q1,q2⟩:=HX.out.push hltu f af;have a5:=Ab q3;clear q3 f af)
   have ah:Hid ((vals.set u (.slice (some ⟨wr.heap.size,0,none⟩) m m)).getD u undef=.slice (some ⟨wr.heap.size,0,none⟩) m m):=AA _ _ _ _ (by rw[HX.out.r.lv];exact hltu)
   have ap:Hid (UD w2 (w4.setCell ⟨B,u,none⟩ (.slice (some ⟨wr.heap.size,0,none⟩) m m)) B zv m l.length (vals.set u (.slice (some ⟨wr.heap.size,0,none⟩) m m)) ((DW m m (CU l own) u).set u (EV m (CU l own) u 0)) V):=by
    rw[Pf];exact a5.out
   clear a5 q1 q2 cu fu bc HX;generalize w4.setCell ⟨B,u,none⟩ (.slice (some ⟨wr.heap.size,0,none⟩) m m)=w5 at*;generalize vals.set u (.slice (some ⟨wr.heap.size,0,none⟩) m m)=d at*;generalize wr.heap.size=g at*;have cu:=ap.out.r.cell hltu;rw[ah.out]at cu
   go_wp2_with fail
   clear cu
   go_loopg [37] m (fun gh i wr=>∃(o:Nat)(V:List Int),gh=m-o/\i=.int .i64 (o:Int)/\o<=m/\Hid (UD w2 wr B zv m l.length d ((DW m m (CU l own) u).set u (EV m (CU l own) u o)) V))
   case atStart=>exact⟨0,_,rfl,rfl,by omega,ap⟩
   case round=>
    clear ap;obtain⟨o,V,bf,rfl,ho,HX⟩:=hrel;have bp:=Ab bf;clear bf
    by_cases hlto:o<m
    ·have bi:(0:Int)<=(o:Int):=by omega
     have ak:(o:Int)<(m:Int):=by omega
     have b6:I64 (AI l 0 (u:Int)):=al.out _ ce bj;have b7:I64 (AI l 0 (o:Int)):=al.out _ bi ak
     go_wp2_with fail
     refine(a0.out _ (u:Int) (by unfold I64;omega) (s.out _ HX.out.bl)).mono ?_;rintro e w6 ⟨rfl,ad⟩;replace HX:=Ab (HX.out.below ad);clear ad
     go_wp2_with fail
     refine(a0.out _ (o:Int) (by unfold I64;omega) (s.out _ HX.out.bl)).mono ?_;rintro e w7 ⟨rfl,ad⟩;replace HX:=Ab (HX.out.below ad);clear ad;have ab:Hid ((CV l own (u:Int) (o:Int)).length=l.length):=G0
     have bz:Hid (∀k,k<l.length->(CV l own (u:Int) (o:Int)).getD k 0=if own.getD k false=true then BY l (AI l 0 (u:Int)) (k:Int)else BY l (AI l 0 (o:Int)) (k:Int)):=fun k hk=>KL hk
     have ar:=Ab HX.out.vq
     have a8:Hid (UD w2 w7 B zv m l.length d ((DW m m (CU l own) u).set u (EV m (CU l own) u o)) ((CV l own (u:Int) (o:Int)).take 0++V.drop 0)):=by
      rw[List.take_zero,List.drop_zero,List.nil_append];exact HX.out
     clear HX
     go_wp2_with fail
     go_loopg [48] l.length (fun gh i wr=>∃(k:Nat),gh=l.length-k/\i=.int .i64 (k:Int)/\k<=l.length/\Hid (UD w2 wr B zv m l.length d ((DW m m (CU l own) u).set u (EV m (CU l own) u o)) ((CV l own (u:Int) (o:Int)).take k++V.drop k)))
     case atStart=>exact⟨0,rfl,rfl,by omega,a8⟩
     case round=>
      clear a8;obtain⟨k,be,rfl,hk,HX⟩:=hrel;have ay:=Ab be;clear be
      by_cases hltk:k<l.length
      ·have cj:(0:Int)<=(k:Int):=by omega
       have b8:(k:Int)<(l.length:Int):=by omega
       have co:=Ag (s.out _ HX.out.bl) (bu.out k hltk);have p:=bz.out k hltk
       cases hob:own.getD k false with
       |true=>
        rw[hob]at co p;simp only[if_true]at p
        go_wp2_with fail
        refine(a6.out _ (AI l 0 (u:Int)) k b6 hltk (s.out _ HX.out.bl)).mono ?_;rintro e w9 ⟨rfl,ae⟩;have c:=Ab (HX.out.below ae);obtain⟨cv,c9⟩:∃cv,w9.cell? ⟨zv,k,none⟩=some (.int .i64 cv):=⟨_,c.out.v.at' c.out.vq.symm k (by rw[c.out.vq];exact hltk)⟩;have f9:=c.out.v.fz c.out.vq.symm k;have p9:=c.out.setV (j:=k) (x:=BY l (AI l 0 (u:Int)) (k:Int));rw[<-p,LT (by rw[ab.out];exact hltk) (by rw[ar.out,ab.out]),p]at p9;have ao:=Ab p9;clear ae p9 p co HX c;generalize BY l (AI l 0 (u:Int)) (k:Int)=vx at*;go_wp2
        go_roundg (l.length-(k+1))
        case measure=>have:=ay.out;omega
        case rel=>exact⟨k+1,rfl,by go_num,by omega,ao⟩
       |false=>
        rw[hob]at co p;simp only[Bool.false_eq_true,if_false]at p
        go_wp2_with fail
        refine(a6.out _ (AI l 0 (o:Int)) k b7 hltk (s.out _ HX.out.bl)).mono ?_;rintro e w9 ⟨rfl,ae⟩;have c:=Ab (HX.out.below ae);obtain⟨cv,c9⟩:∃cv,w9.cell? ⟨zv,k,none⟩=some (.int .i64 cv):=⟨_,c.out.v.at' c.out.vq.symm k (by rw[c.out.vq];exact hltk)⟩;have f9:=c.out.v.fz c.out.vq.symm k;have p9:=c.out.setV (j:=k) (x:=BY l (AI l 0 (o:Int)) (k:Int));rw[<-p,LT (by rw[ab.out];exact hltk) (by rw[ar.out,ab.out]),p]at p9;have ao:=Ab p9;clear ae p9 p co HX c;generalize BY l (AI l 0 (o:Int)) (k:Int)=vx at*;go_wp2
        go_roundg (l.length-(k+1))
        case measure=>have:=ay.out;omega
        case rel=>exact⟨k+1,rfl,by go_num,by omega,ao⟩
      ·have b8:¬(k:Int)<(l.length:Int):=by omega
       have HT:Hid (UD w2 wr B zv m l.length d ((DW m m (CU l own) u).set u (EV m (CU l own) u o)) (CV l own (u:Int) (o:Int))):=by
        have h1:=HX.out;rw[show k=l.length by omega,List.take_of_length_le (by rw[ab.out];exact Nat.le_refl _),List.drop_of_length_le (by rw[ar.out];exact Nat.le_refl _),List.append_nil]at h1;exact h1
       have az:Hid (Ah wr (.slice (some ⟨zv,0,none⟩) l.length l.length) (CV l own (u:Int) (o:Int))):=HT.out.v.is (by rw[ab.out];unfold Bg;omega) (br.out _ _);clear HX
       go_wp2_with fail
       refine(a3.out _ _ (u:Int) (o:Int) (s.out _ HT.out.bl) az.out).mono ?_;rintro e w8 ⟨rfl,ba⟩;have au:=Ab (HT.out.below ba)
       have aj:Hid (∀W,Below w.heap.size w W->Calls Tryz.prog 33 #[.slice sa l.length sc,.int .i64 (mkR l (CV l own (u:Int) (o:Int))).1] W (Av (.int .i64 (CU l own u o)) W)):=fun W h=>ai.out W (u:Int) (o:Int) h
       clear ba HT az a3 ai;generalize(mkR l (CV l own (u:Int) (o:Int))).1=z at*;generalize(mkR l (CV l own (u:Int) (o:Int))).2=z2 at*;have ag:Hid ((EV m (CU l own) u o).length=m):=Rc
       have am:Hid (u<(DW m m (CU l own) u).length):=by show _<_;rw[Ra];exact hltu
       have ch:=Ab au.out.r.row
       have bm:Hid (∀W,Below w8.drew.heap.size w8.drew W->Below w8.heap.size w8 W):=fun W h=>(Below.drew (B:=w8.heap.size) Ad).trans h
       have aq:Hid (∀W,Below w8.drew.heap.size w8.drew W->UD w2 W B zv m l.length d ((DW m m (CU l own) u).set u (EV m (CU l own) u o)) (CV l own (u:Int) (o:Int))):=fun W h=>au.out.below (bm.out W h)
       have bn:Hid (∀W,Below w8.drew.heap.size w8.drew W->W.cell? ⟨B,u,none⟩=some (.slice (some ⟨g,0,none⟩) m m)):=fun W h=>by rw[<-ah.out];exact(aq.out W h).r.cell hltu
       have bv:Hid (∀W,Below w8.drew.heap.size w8.drew W->Calls Tryz.prog 33 #[.slice sa l.length sc,.int .i64 z] W (Av (.int .i64 (CU l own u o)) W)):=fun W h=>aj.out W (s.out W (aq.out W h).bl)
       clear au aj
       go_upto_region 20 with(fail)
       refine B9 ca (RMi sa l.length sc B m u g m o z (CU l own u o)) (fun vs=>{tmps:=(_::_::_::_::_::_::_::_::_::_::_::_::_::_::_::_::_::_::_::_::_::_::_::_::_::_::_::_::_::_::_::_::_::_::_::_::_::_::_::_::_::_::_::_::_::_::_::_::_::_::_::_::_::_::_::_::_::_::_::_::_::_::_::_::_::_::_::_::_::_::_::vs 0::vs 1::vs 2::vs 3::vs 4::vs 5::vs 6::vs 7::vs 8::_::_::_::[]).toArray,defers:=[]}) (fun n=>[u71,u72,u73,u74,u75,u76,u77,u78,u79].getD n undef) 9 rfl (by kernel_rfl) (by kernel_rfl) (fun i v W W' h hb=>RMi.below h hb) ?step ?last
       case step=>
        intro ix oo hlt ho
        match ix,hlt,ho with
        |0,hlt,ho|1,hlt,ho|2,hlt,ho|4,hlt,ho|5,hlt,ho|6,hlt,ho|8,hlt,ho=>
         obtain rfl:=osI ho;intro vs W K hB hD hK;have HK:=Ab hK
         try have e0:vs 0=.slice (some ⟨B,0,none⟩) m m:=Ac hD 0 rfl
         try have e1:vs 1=.int .i64 (u:Int):=Ac hD 1 rfl
         try have e3:vs 3=.slice (some ⟨g,0,none⟩) m m:=Ac hD 3 rfl
         try have e4:vs 4=.int .i64 (o:Int):=Ac hD 4 rfl
         clear hK hD ho hlt;dsimp only;go_simp;have h:=HK.out _ _ Ad rfl;simp only[upd,Nat.reduceEqDiff,reduceIte, *]at h;exact h
        |3,hlt,ho=>
         obtain rfl:=osI ho;intro vs W K hB hD hK;have HK:=Ab hK;have e2:vs 2=.pointer (some ⟨B,u,none⟩):=Ac hD 2 rfl;have q:=bn.out W hB;clear hK hD ho hlt;dsimp only;go_simp;have h:=HK.out _ _ Ad rfl;simp only[upd,Nat.reduceEqDiff,reduceIte,e2]at h;exact h
        |7,hlt,ho=>
         obtain rfl:=osI ho;intro vs W K hB hD hK;have HK:=Ab hK;have e5:vs 5=.slice sa l.length sc:=Ac hD 5 rfl;have e6:vs 6=.int .i64 z:=Ac hD 6 rfl;clear hK hD ho hlt;dsimp only;go_simp;refine(bv.out W hB).mono ?_;rintro e W' ⟨rfl,hb⟩;have h:=HK.out _ _ hb rfl;simp only[upd,Nat.reduceEqDiff,reduceIte,e5,e6]at h;exact h
        |q+9,hlt,_=>exact absurd hlt (by omega)
       case last=>
        intro oo ho;obtain rfl:=osI ho;intro vs W K hB ac hK;have HK:=Ab hK;have e8:vs 7=.int .i64 (CU l own u o):=ac 7 (by omega);have e9:vs 8=.pointer (some ⟨g,o,none⟩):=ac 8 (by omega);have hX:=aq.out W hB;have he:=hX.r.e u hltu;rw[ah.out,AA _ _ _ _ am.out]at he;have c1:=he.at' ag.out.symm o (by rw[ag.out];exact hlto);have f1:=he.fz ag.out.symm o;have p3:=hX.elem (j:=o) (x:=CU l own u o) hltu ah.out (by rw[AA _ _ _ _ am.out,ag.out]);rw[AA _ _ _ _ am.out,List.set_set,Rd]at p3;have bw:=Ab p3;clear hK ac ho p3 hX he;dsimp only;go_simp;refine HK.out _ _ ?_;go_wp2
        go_roundg (m-(o+1))
        case measure=>have:=bp.out;omega
        case rel=>exact⟨o+1,_,rfl,by go_num,by omega,bw⟩
    ·have ak:¬(o:Int)<(m:Int):=by omega
     have b1:Hid (UD w2 wr B zv m l.length d (DW m m (CU l own) (u+1)) V):=by
      have:=HX.out
      rwa [show o=m by omega,Rb]at this
     clear HX;go_wp2
     go_roundg (m-(u+1))
     case measure=>have:=bq.out;omega
     case rel=>exact⟨u+1,d,V,rfl,by go_num,by omega,b1⟩
  ·have bj:¬(u:Int)<(m:Int):=by omega
   have bx:Hid (Ar wr (.slice (some ⟨B,0,none⟩) m m) (Fj l own)):=by
    show Ar _ _ _;have h1:=HX.out.r;rw[show u=m by omega,Q9,<-a4.out]at h1
    refine h1.is (by omega) fun j hj=> ?_
    rw[a4.out]
    have e:(Gv m m (CU l own)).getD j []=(List.range m).map fun o=>CU l own j o:=by
     rw[Ae _ _ _ (by simp[Gv];exact hj)];simp[Gv]
    rw[e];refine⟨by simp;omega,fun x hx=> ?_⟩;obtain⟨y,-,rfl⟩:=List.mem_map.1 hx;exact bs.out _ _
   have b0:=Ab (s.out _ HX.out.bl);clear HX;go_wp2;go_ret;exact⟨_,rfl,bx.out,b0.out⟩
end Go.Proofs.YtncjeamdkjcebaaGreatDoor
namespace Go.Proofs.YtncjeamdkjcebaaGreatDoor
open Go.RowKit Go.Shelf Go.Maps Go.WideMaps
def Fe(B n₁ Bp Bb:Nat)(W W':World):Prop:=KpN B Bp Bb W W'/\KeepsFrom n₁ W W'
theorem Fe.refl(B n₁ Bp Bb:Nat)(W:World):Fe B n₁ Bp Bb W W:=⟨KpN.refl _ _ _ _,KeepsFrom.refl _ _⟩
theorem Fe.trans{B n₁ Bp Bb:Nat}{X Y Z:World}(h:Fe B n₁ Bp Bb X Y)(k:Fe B n₁ Bp Bb Y Z):Fe B n₁ Bp Bb X Z:=⟨h.1.trans k.1,h.2.trans k.2⟩
section
variable {w w':World} {B z zp zm zn zS Bp Bb:Nat} {v0 v1 v2 vp vS:Value} {vals:List Value} {gm:Gm} {pls ml:List UE} {nums:List Int}
theorem BI.lts(h:BI w B z zp zm zn zS Bp Bb v0 v1 v2 vp vS vals gm pls ml nums):z<w.heap.size/\zS<w.heap.size/\zp<w.heap.size/\zm<w.heap.size/\zn<w.heap.size/\Bp<w.heap.size/\Bb<w.heap.size:=
 ⟨h.g.zlt,h.g.lt (Az zS) (by simp) zS rfl,h.g.lt (Az zp) (by simp) zp rfl,h.g.lt (Az zm) (by simp) zm rfl,h.g.lt (Az zn) (by simp) zn rfl,h.g.lt (Az Bp) (by simp) Bp rfl,h.g.lt (Az Bb) (by simp) Bb rfl⟩
theorem Fe.of_below{n₁:Nat}(h:BI w B z zp zm zn zS Bp Bb v0 v1 v2 vp vS vals gm pls ml nums)(hb:Below w.heap.size w w')(hB:B<=w.heap.size):Fe B n₁ Bp Bb w w':=by
 obtain⟨-,-,-,-,-,h1,h2⟩:=h.lts;exact⟨KpN.of_below hb hB h1 h2,⟨hb.size,fun k o _ hk _=>(hb.block k (ltE hk)).trans hk⟩⟩
theorem BI.put{n₁:Nat}{b:List UE}(h:BI w B z zp zm zn zS Bp Bb v0 v1 v2 vp vS vals gm pls ml nums)(hg:w.grownBy w' (some zm))(hm:CB w' zm b)(hB:B<=w.heap.size)(hn:zm<n₁):
  BI w' B z zp zm zn zS Bp Bb v0 v1 v2 vp vS vals gm pls b nums/\Fe B n₁ Bp Bb w w':=by
 have a:∀i u,i≠4->([vS,Az zS,vp,Az zp,Az zm,Az zn,Az Bp,Az Bb]:List Value)[i]? =some u->∀k,u.ownBlock=some k->w'.heap[k]? =w.heap[k]? :=fun i u hi hu k hk=>by
  have a1:=h.g.twoAt hi hu (v:=Az zm) rfl;exact hg.block k (h.g.lt u (List.mem_of_getElem? hu) k hk) (fun e=>a1 k hk (by cases e;rfl))
 refine⟨{g:= ?_,o:=AF h.o (a 0 vS (by omega) rfl),bs:=(a 1 (Az zS) (by omega) rfl zS rfl).trans h.bs,p:=AF h.p (a 2 vp (by omega) rfl),bp:=(a 3 (Az zp) (by omega) rfl zp rfl).trans h.bp,m:=hm,bn:=(a 5 (Az zn) (by omega) rfl zn rfl).trans h.bn,lo:=h.lo},
  ⟨Ad.grown hg hB (fun k hk=>by cases hk;exact h.lo.2.2),a 6 (Az Bp) (by omega) rfl Bp rfl,a 7 (Az Bb) (by omega) rfl Bb rfl⟩,KeepsFrom.of_grownBy hg (fun j hj=>by cases hj;exact hn)⟩
 have h1:=h.g.blk (w':=w') hg.size fun u hu k hk=>by
  have a1:=h.g.oneAt hu (i:=4) (v:=Az zm) rfl;refine hg.block k ?_ (fun e=>a1 k hk (by cases e;rfl))
  exact h.g.lts u (by
   have e:(Az z::v0::v1::v2::(vals++[vS,Az zS,vp,Az zp,Az zm,Az zn,Az Bp,Az Bb]))=(Az z::v0::v1::v2::vals)++[vS,Az zS,vp,Az zp,Az zm,Az zn,Az Bp,Az Bb]:=rfl
   rw[e];exact List.mem_append_left _ hu) k hk
 exact h1
theorem EO{n₁:Nat}{v x:Value}{b:Nat}{j:Nat}(hg:w.grownBy w' v.ownBlock)(hv:∀k,v.ownBlock=some k->∃o,w.heap[k]? =some o/\o.isCells=true):KeepsFrom n₁ w (w'.setCell ⟨b,j,none⟩ x):=by
 refine KeepsFrom.trans (Y:=w') ⟨hg.size,fun k o _ hk ho=> ?_⟩ ((KeepsOthers.setCell w' ⟨b,j,none⟩ x).from _);refine(hg.block k (ltE hk) (fun e=> ?_)).trans hk;obtain⟨o',h1,h2⟩:=hv k e.symm;rw[hk]at h1;cases h1;rw[ho]at h2;cases h2
theorem BI.appP{n₁:Nat}{a:Value}{c:List UE}(h:BI w B z zp zm zn zS Bp Bb v0 v1 v2 vp vS vals gm pls ml nums)(ho:OP w' B a c)(hg:w.grownBy w' vp.ownBlock)(hm:AS w vp a)(hB:B<=w.heap.size):
  w'.heap[zp]? =some (.cells #[vp] 66 (0,0))/\BI (w'.setCell ⟨zp,0,none⟩ a) B z zp zm zn zS Bp Bb v0 v1 v2 a vS vals gm c ml nums/\Fe B n₁ Bp Bb w (w'.setCell ⟨zp,0,none⟩ a):=by
 obtain⟨h1,h2,h3,h4⟩:=h.g.app (i:=2) (j:=3) (by omega) rfl rfl hg hm (fun g hg=>(World.ownsRow.lt ho g hg).2) a;have b:=h2.trans h.bp;have d:Below B w (w'.setCell ⟨zp,0,none⟩ a):=(Ad.grown hg hB (fun k hk=>(World.ownsRow.lt h.p k hk).1)).setCell (p:=⟨zp,0,none⟩) h.lo.2.1 _
 refine⟨b,{g:=h1,o:=AF h.o (h4 0 vS (by omega) (by omega) rfl),bs:=(h4 1 (Az zS) (by omega) (by omega) rfl zS rfl).trans h.bs,p:= ?_,bp:=heap_setCell_same w' zp 0 _ _ a b,m:=h.m.blk (h4 4 (Az zm) (by omega) (by omega) rfl zm rfl),bn:=(h4 5 (Az zn) (by omega) (by omega) rfl zn rfl).trans h.bn,lo:=h.lo},
  ⟨d,h4 6 (Az Bp) (by omega) (by omega) rfl Bp rfl,h4 7 (Az Bb) (by omega) (by omega) rfl Bb rfl⟩,EO hg fun k hk=>Bj h.p hk⟩
 exact AF ho fun k hk=>AK _ _ _ _ _ (fun e=>h3 (by rw[hk,e]))
theorem BI.appS{n₁:Nat}{vS':Value}{a:List Int}(h:BI w B z zp zm zn zS Bp Bb v0 v1 v2 vp vS vals gm pls ml nums)(ho:OI w' B vS' a)(hg:w.grownBy w' vS.ownBlock)(hm:AS w vS vS')(hB:B<=w.heap.size):
  w'.heap[zS]? =some (.cells #[vS] 26 (0,0))/\BI (w'.setCell ⟨zS,0,none⟩ vS') B z zp zm zn zS Bp Bb v0 v1 v2 vp vS' vals gm pls ml a/\Fe B n₁ Bp Bb w (w'.setCell ⟨zS,0,none⟩ vS'):=by
 obtain⟨h1,h2,h3,h4⟩:=h.g.app (i:=0) (j:=1) (by omega) rfl rfl hg hm (fun g hg=>(World.ownsRow.lt ho g hg).2) vS';have b:=h2.trans h.bs;have c:Below B w (w'.setCell ⟨zS,0,none⟩ vS'):=(Ad.grown hg hB (fun k hk=>(World.ownsRow.lt h.o k hk).1)).setCell (p:=⟨zS,0,none⟩) h.lo.1 _
 refine⟨b,{g:=h1,o:= ?_,bs:=heap_setCell_same w' zS 0 _ _ vS' b,p:=AF h.p (h4 2 vp (by omega) (by omega) rfl),bp:=(h4 3 (Az zp) (by omega) (by omega) rfl zp rfl).trans h.bp,m:=h.m.blk (h4 4 (Az zm) (by omega) (by omega) rfl zm rfl),bn:=(h4 5 (Az zn) (by omega) (by omega) rfl zn rfl).trans h.bn,lo:=h.lo},
  ⟨c,h4 6 (Az Bp) (by omega) (by omega) rfl Bp rfl,h4 7 (Az Bb) (by omega) (by omega) rfl Bb rfl⟩,EO hg fun k hk=>Bj h.o hk⟩
 exact AF ho fun k hk=>AK _ _ _ _ _ (fun e=>h3 (by rw[hk,e]))
theorem BI.own{n₁:Nat}{row:Option Nat}(h:BI w B z zp zm zn zS Bp Bb v0 v1 v2 vp vS vals gm pls ml nums)(hg:w.grownBy w' row)(hn:zm<n₁)(hr:∀r,row=some r->n₁<=r/\∃o:Obj,w.heap[r]? =some o/\o.isCells=false):BI w' B z zp zm zn zS Bp Bb v0 v1 v2 vp vS vals gm pls ml nums:=by
 have hc:∀(k:Nat)(o:Obj),w.heap[k]? =some o->o.isCells=true->w'.heap[k]? =w.heap[k]? :=fun k o hk ho=>hg.block k (ltE hk) (fun e=>by
  obtain⟨-,o',h1,h2⟩:=hr k e.symm
  rw[hk]at h1;cases h1;rw[ho]at h2;cases h2)
 have hw:∀{base e size n v xs},w.ownsRow base e size n v xs->∀k,n.ownBlock=some k->w'.heap[k]? =w.heap[k]? :=fun{base e size n v xs}h k hk=>by
  obtain⟨o,h1,h2⟩:=Bj h hk;exact hc k o h1 h2
 refine {g:=h.g.blk hg.size fun u hu k hk=> ?_,o:=AF h.o (hw h.o),bs:=(hc _ _ h.bs rfl).trans h.bs,p:=AF h.p (hw h.p),bp:=(hc _ _ h.bp rfl).trans h.bp,m:=h.m.blk (hg.block zm h.m.lt (fun e=>by have:=(hr zm e.symm).1;omega)),bn:=(hc _ _ h.bn rfl).trans h.bn,lo:=h.lo};simp only[List.mem_cons]at hu
 rcases hu with rfl|rfl|rfl|rfl|hu
 ·cases hk;exact hc _ _ h.g.box rfl
 ·exact hw h.g.o k hk
 ·exact hw h.g.p k hk
 ·exact hw h.g.r k hk
 ·obtain⟨j,hj,rfl⟩:=List.getElem_of_mem hu;have:=h.g.e j (by rw[<-h.g.vl];exact hj);rw[Ae _ _ _ hj]at this;exact hw this k hk
structure BE(w:World)(B z zp zm zn zS:Nat)(v0 v1 v2 vp:Value)(vals:List Value)(gm:Gm)(pls:List UE)(vS:Value)(nums:List Int):Prop where
 g:GB w B z v0 v1 v2 vals gm [vS,Az zS,vp,Az zp,Az zm,Az zn]
 bs:w.heap[zS]? =some (.cells #[vS] 26 (0,0))
 o:OI w B vS nums
 p:OP w B vp pls
 bp:w.heap[zp]? =some (.cells #[vp] 66 (0,0))
 m:CB w zm pls
 bn:w.heap[zn]? =some (.cells #[.map (some zm)] 109 (0,0))
 lo:B<=zp/\B<=zm
theorem BI.close(h:BI w B z zp zm zn zS Bp Bb v0 v1 v2 vp vS vals gm pls pls nums):BE w B z zp zm zn zS v0 v1 v2 vp vals gm pls vS nums:=
 {g:=h.g.sub (by
   refine .cons_cons _ (.cons_cons _ (.cons_cons _ (.cons_cons _ (.cons_cons _ (.cons_cons _ ?_)))))
   exact List.nil_sublist _)
  bs:=h.bs,o:=h.o,p:=h.p,bp:=h.bp,m:=h.m,bn:=h.bn,lo:=⟨h.lo.2.1,h.lo.2.2⟩}
theorem BE.below(h:BE w B z zp zm zn zS v0 v1 v2 vp vals gm pls vS nums)(hb:Below w.heap.size w w'):BE w' B z zp zm zn zS v0 v1 v2 vp vals gm pls vS nums:=
 {g:=h.g.below hb
  bs:=(hb.block _ (Array.getElem?_eq_some_iff.1 h.bs).1).trans h.bs
  o:=AF h.o fun k hk=>hb.block k (h.g.lt vS (by simp) k hk)
  p:=AF h.p fun k hk=>hb.block k (h.g.lt vp (by simp) k hk)
  bp:=(hb.block _ (Array.getElem?_eq_some_iff.1 h.bp).1).trans h.bp
  m:=h.m.below hb
  bn:=(hb.block _ (Array.getElem?_eq_some_iff.1 h.bn).1).trans h.bn
  lo:=h.lo}
theorem BE.stepO(h:BE w B z zp zm zn zS v0 v1 v2 vp vals gm pls vS nums){a:Value}{x:Int}(ho:OI w' B a (gm.owner++[x]))(hg:w.grownBy w' v0.ownBlock)(hm:AS w v0 a)(hB:B<=w.heap.size):
  w'.heap[z]? =some (.cells #[v0,v1,v2] 65 (0,0))/\BE (w'.setCell ⟨z,0,none⟩ a) B z zp zm zn zS a v1 v2 vp vals ⟨gm.owner++[x],gm.prio,gm.succ⟩ pls vS nums/\Below B w (w'.setCell ⟨z,0,none⟩ a)/\KeepsFrom 0 w (w'.setCell ⟨z,0,none⟩ a):=by
 obtain⟨h1,h2,h3⟩:=h.g.stepO ho hg hm hB
 have hb:=fun{i:Nat}{u:Value}(hu:([vS,Az zS,vp,Az zp,Az zm,Az zn]:List Value)[i]? =some u){k:Nat}(hk:u.ownBlock=some k)=>h.g.othBlk (v:=v0) (.inl rfl) hg 0 a hu hk
 exact⟨h1,{g:=h2,bs:=(hb (i:=1) (u:=Az zS) rfl rfl).trans h.bs,o:=AF h.o fun k hk=>hb (i:=0) rfl hk,p:=AF h.p fun k hk=>hb (i:=2) rfl hk,bp:=(hb (i:=3) (u:=Az zp) rfl rfl).trans h.bp,m:=h.m.blk (hb (i:=4) (u:=Az zm) rfl rfl),bn:=(hb (i:=5) (u:=Az zn) rfl rfl).trans h.bn,lo:=h.lo},h3.bl,EO hg fun k hk=>Bj h.g.o hk⟩
theorem BE.stepP(h:BE w B z zp zm zn zS v0 v1 v2 vp vals gm pls vS nums){a:Value}{x:Int}(ho:OI w' B a (gm.prio++[x]))(hg:w.grownBy w' v1.ownBlock)(hm:AS w v1 a)(hB:B<=w.heap.size):
  w'.heap[z]? =some (.cells #[v0,v1,v2] 65 (0,0))/\BE (w'.setCell ⟨z,1,none⟩ a) B z zp zm zn zS v0 a v2 vp vals ⟨gm.owner,gm.prio++[x],gm.succ⟩ pls vS nums/\Below B w (w'.setCell ⟨z,1,none⟩ a)/\KeepsFrom 0 w (w'.setCell ⟨z,1,none⟩ a):=by
 obtain⟨h1,h2,h3⟩:=h.g.stepP ho hg hm hB
 have hb:=fun{i:Nat}{u:Value}(hu:([vS,Az zS,vp,Az zp,Az zm,Az zn]:List Value)[i]? =some u){k:Nat}(hk:u.ownBlock=some k)=>h.g.othBlk (v:=v1) (.inr (.inl rfl)) hg 1 a hu hk
 exact⟨h1,{g:=h2,bs:=(hb (i:=1) (u:=Az zS) rfl rfl).trans h.bs,o:=AF h.o fun k hk=>hb (i:=0) rfl hk,p:=AF h.p fun k hk=>hb (i:=2) rfl hk,bp:=(hb (i:=3) (u:=Az zp) rfl rfl).trans h.bp,m:=h.m.blk (hb (i:=4) (u:=Az zm) rfl rfl),bn:=(hb (i:=5) (u:=Az zn) rfl rfl).trans h.bn,lo:=h.lo},h3.bl,EO hg fun k hk=>Bj h.g.p hk⟩
theorem BE.stepR(h:BE w B z zp zm zn zS v0 v1 v2 vp vals gm pls vS nums){a:Value}(ho:w'.ownsRow B 26 1 a (gm.succ.length+1) (vals++[vS]))(hg:w.grownBy w' v2.ownBlock)(hm:AS w v2 a)(hB:B<=w.heap.size):
  w'.heap[z]? =some (.cells #[v0,v1,v2] 65 (0,0))/\BO (w'.setCell ⟨z,2,none⟩ a) B z zp zm zn v0 v1 a vp (vals++[vS]) ⟨gm.owner,gm.prio,gm.succ++[nums]⟩ pls/\Below B w (w'.setCell ⟨z,2,none⟩ a)/\KeepsFrom 0 w (w'.setCell ⟨z,2,none⟩ a):=by
 obtain⟨h1,h2,h3⟩:=h.g.stepR h.o ho hg hm hB
 have hb:=fun{i:Nat}{u:Value}(hu:([vS,Az zS,vp,Az zp,Az zm,Az zn]:List Value)[i]? =some u){k:Nat}(hk:u.ownBlock=some k)=>h.g.othBlk (v:=v2) (.inr (.inr rfl)) hg 2 a hu hk
 exact⟨h1,{g:=h2.sub (List.sublist_cons_self _ _),p:=AF h.p fun k hk=>hb (i:=2) rfl hk,bp:=(hb (i:=3) (u:=Az zp) rfl rfl).trans h.bp,m:=h.m.blk (hb (i:=4) (u:=Az zm) rfl rfl),bn:=(hb (i:=5) (u:=Az zn) rfl rfl).trans h.bn,lo:=h.lo},h3.bl,EO hg fun k hk=>Bj h.g.r hk⟩
end
end Go.Proofs.YtncjeamdkjcebaaGreatDoor
