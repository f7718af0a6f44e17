/- What the search for components returns. -/
import Derived.Test.YtncjeamdkjcebaaGreatDoorYSt9
set_option linter.all false
set_option maxHeartbeats 8000000
set_option maxRecDepth 100000
namespace Go.Proofs.YtncjeamdkjcebaaGreatDoor
open Go.RowKit
structure Kg(E:Nat->Nat->Prop)(A:Nat->Prop)(cs:List (List Nat)):Prop where
 ne:∀c∈cs,c≠[]/\c.Nodup/\∀x∈c,A x
 eq:∀c∈cs,∀x∈c,∀y,A y->(y∈c↔Rch E x y/\Rch E y x)
 al:∀x,A x->∃c∈cs,x∈c
theorem Us(E:Nat->Nat->Prop):EI E ⟨fun _=>0,fun _=>0,fun _=>0,[],0⟩ []:=
 ⟨List.nodup_nil,fun v=>by simp,List.Pairwise.nil,fun _=>Nat.le_refl _,fun _ _ h=>absurd rfl h,fun _ h=>absurd rfl h,fun _ h=>absurd h (by simp),fun _ _ h=>absurd rfl h,fun _ _ h=>absurd rfl h,fun _ h=>absurd h (by simp),fun _ h=>absurd h (by simp),fun _ h=>absurd h (by simp),fun _ _ h=>absurd rfl h⟩
theorem Jn{E:Nat->Nat->Prop}{t:Tj}(h:EI E t []):t.stk=[]:=
 List.eq_nil_iff_forall_not_mem.2 fun y hy=>by
  obtain⟨g,hg,-⟩:=h.dn y hy
  cases hg
theorem P7{E:Nat->Nat->Prop}{n:Nat}{A:Nat->Prop}{t:Tj}{e f:List Nat}{d:List Bool}{cs:List (List Nat)}(hT:EI E t [])(hR:Rep n A t e f d cs)(a:∀x,A x->t.prt x≠0):Kg E A cs:=by
 refine⟨fun c hc=> ?_,fun c hc x hx y hy=> ?_,fun x hx=>hR.cc x (a x hx)⟩
 ·obtain⟨h1,h2,r,h3,h4⟩:=hR.cw c hc;refine⟨h1,h2,fun x hx=>hR.op x (hR.in_ord.1 (hT.pn x ?_).1)⟩;rw[(h4 x).1 hx];exact h3
 ·obtain⟨h1,h2,r,h3,h4⟩:=hR.cw c hc;have b:=(h4 x).1 hx;rw[h4 y,<-hT.eq x y (by rw[b];exact h3) (a y hy),b];exact eq_comm
structure GS(w:World)(gb nb ob n:Nat)(V:Nat->Value)(vp:Value)(prio:List Int)(nx:List (List Int))(opn:List Bool):Prop where
 con:∀W',Af (fun k=>k=ob\/w.heap.size<=k) w W'->GrC W' gb nb ob n V vp prio nx
 oo:OB w 0 (.slice (some ⟨ob,0,none⟩) n n) opn
 ol:opn.length=n
def KpO(ob:Nat)(w:World)(v:Value)(l:List Int):Prop:=∀W',Af (fun k=>k=ob\/w.heap.size<=k) w W'->Ah W' v l
section
variable {w W:World} {gb nb ob n:Nat} {V:Nat->Value} {vp v:Value} {prio l:List Int} {nx:List (List Int)} {opn:List Bool}
theorem QR(ho:Af (fun k=>k=ob) w W){W':World}(h:Af (fun k=>k=ob\/W.heap.size<=k) W W'):Af (fun k=>k=ob\/w.heap.size<=k) w W':=
 (ho.mono fun _ _ e=>.inl e).trans (h.mono fun _ _ e=>e.imp_right fun e=>Nat.le_trans ho.size e)
theorem KpO.step(h:KpO ob w v l)(ho:Af (fun k=>k=ob) w W):KpO ob W v l:=fun W' hW=>h W' (QR ho hW)
theorem KpO.is(h:KpO ob w v l):Ah w v l:=h w (Af.refl _ _)
theorem GS.lt(h:GS w gb nb ob n V vp prio nx opn):ob<w.heap.size:=h.oo.lt' ob rfl
theorem GS.below(h:GS w gb nb ob n V vp prio nx opn)(hb:Below w.heap.size w W):GS W gb nb ob n V vp prio nx opn:=⟨fun W' hW=>h.con W' (QR (Af.of_below hb) hW),h.oo.below hb,h.ol⟩
theorem GS.now(h:GS w gb nb ob n V vp prio nx opn):GrC w gb nb ob n V vp prio nx:=h.con w (Af.refl _ _)
theorem GS.set(h:GS w gb nb ob n V vp prio nx opn)(j:Nat)(b:Bool):GS (w.setCell ⟨ob,j,none⟩ (.bool b)) gb nb ob n V vp prio nx (opn.set j b):=
 ⟨fun W' hW=>h.con W' (QR (Af.set ob j _ rfl) hW),h.oo.set h.ol.symm j b,by rw[List.length_set];exact h.ol⟩
theorem GS.oc(h:GS w gb nb ob n V vp prio nx opn){j:Nat}(hj:j<n):w.cell? ⟨ob,j,none⟩=some (.bool (opn.getD j false))/\w.frozen? ⟨ob,j,none⟩=false:=by
 have k:=h.oo;unfold OB at k;rw[h.ol]at k;refine⟨?_,World.ownsRow.frozenAt k j⟩;have:=h.ol;rw[World.ownsRow.cellAt k j (by omega),Ae _ _ _ (show j<opn.length by omega)];simp[show j<opn.length by omega]
end
theorem VS.made{w:World}{gb nb ob n zr:Nat}{V:Nat->Value}{vp:Value}{b:List Int}{nx:List (List Int)}{f:List Bool}(h:GS w gb nb ob n V vp b nx f)(hr:w.heap[zr]? =some (.cells #[.pointer (some ⟨gb,0,none⟩)] 127 (0,0)))(i:zr≠ob):
  VS ⟨w.heap.size+1+1+1,w.heap.size+1+1,w.heap.size+1,zr,w.heap.size+1+1+1+1,w.heap.size,gb,nb,ob,n,V⟩ (w.heap.size+5)
   (((((w.alloc (.cells #[.slice none 0 0] 23)).alloc (.cells #[.slice none 0 0] 26)).alloc (.map #[] 0)).alloc (.cells #[.map (some (w.heap.size+1+1))] 134)).alloc
    (.cells #[.func (.func 131) #[] #[.pointer (some ⟨w.heap.size+1+1+1,0,none⟩),.pointer (some ⟨w.heap.size+1,0,none⟩),.pointer (some ⟨zr,0,none⟩),.pointer (some ⟨w.heap.size+1+1+1+1,0,none⟩),.pointer (some ⟨w.heap.size,0,none⟩)]] 170))
   vp b nx [] [] f [] (.slice none 0 0) (.slice none 0 0) []:=by
 have hlt:=h.lt;have l:=(ltE hr);have c:=Gg.made ((w.alloc (.cells #[.slice none 0 0] 23)).alloc (.cells #[.slice none 0 0] 26));have d:=(c.kept (AW (Ao (.cells #[.map (some (w.heap.size+1+1))] 134))) (by simp)).kept (AW (Ao (.cells #[.func (.func 131) #[] #[.pointer (some ⟨w.heap.size+1+1+1,0,none⟩),.pointer (some ⟨w.heap.size+1,0,none⟩),.pointer (some ⟨zr,0,none⟩),.pointer (some ⟨w.heap.size+1+1+1+1,0,none⟩),.pointer (some ⟨w.heap.size,0,none⟩)]] 170))) (by simp)
 have hb:Below w.heap.size w (((((w.alloc (.cells #[.slice none 0 0] 23)).alloc (.cells #[.slice none 0 0] 26)).alloc (.map #[] 0)).alloc (.cells #[.map (some (w.heap.size+1+1))] 134)).alloc
    (.cells #[.func (.func 131) #[] #[.pointer (some ⟨w.heap.size+1+1+1,0,none⟩),.pointer (some ⟨w.heap.size+1,0,none⟩),.pointer (some ⟨zr,0,none⟩),.pointer (some ⟨w.heap.size+1+1+1+1,0,none⟩),.pointer (some ⟨w.heap.size,0,none⟩)]] 170)):=(by repeat(first|exact Ad|assumption|apply AE|apply AB))
 have c0:(((((w.alloc (.cells #[.slice none 0 0] 23)).alloc (.cells #[.slice none 0 0] 26)).alloc (.map #[] 0)).alloc (.cells #[.map (some (w.heap.size+1+1))] 134)).alloc
    (.cells #[.func (.func 131) #[] #[.pointer (some ⟨w.heap.size+1+1+1,0,none⟩),.pointer (some ⟨w.heap.size+1,0,none⟩),.pointer (some ⟨zr,0,none⟩),.pointer (some ⟨w.heap.size+1+1+1+1,0,none⟩),.pointer (some ⟨w.heap.size,0,none⟩)]] 170)).heap[w.heap.size]? =some (.cells #[.slice none 0 0] 23 (0,0)):=(by(repeat(rw[Am];first|rw[if_pos (by first|simp;done|simp;omega)]|rw[if_neg (by first|simp;done|simp;omega)]));(try rfl))
 have c1:(((((w.alloc (.cells #[.slice none 0 0] 23)).alloc (.cells #[.slice none 0 0] 26)).alloc (.map #[] 0)).alloc (.cells #[.map (some (w.heap.size+1+1))] 134)).alloc
    (.cells #[.func (.func 131) #[] #[.pointer (some ⟨w.heap.size+1+1+1,0,none⟩),.pointer (some ⟨w.heap.size+1,0,none⟩),.pointer (some ⟨zr,0,none⟩),.pointer (some ⟨w.heap.size+1+1+1+1,0,none⟩),.pointer (some ⟨w.heap.size,0,none⟩)]] 170)).heap[w.heap.size+1]? =some (.cells #[.slice none 0 0] 26 (0,0)):=(by(repeat(rw[Am];first|rw[if_pos (by first|simp;done|simp;omega)]|rw[if_neg (by first|simp;done|simp;omega)]));(try rfl))
 have c3:(((((w.alloc (.cells #[.slice none 0 0] 23)).alloc (.cells #[.slice none 0 0] 26)).alloc (.map #[] 0)).alloc (.cells #[.map (some (w.heap.size+1+1))] 134)).alloc
    (.cells #[.func (.func 131) #[] #[.pointer (some ⟨w.heap.size+1+1+1,0,none⟩),.pointer (some ⟨w.heap.size+1,0,none⟩),.pointer (some ⟨zr,0,none⟩),.pointer (some ⟨w.heap.size+1+1+1+1,0,none⟩),.pointer (some ⟨w.heap.size,0,none⟩)]] 170)).heap[w.heap.size+1+1+1]? =some (.cells #[.map (some (w.heap.size+1+1))] 134 (0,0)):=(by(repeat(rw[Am];first|rw[if_pos (by first|simp;done|simp;omega)]|rw[if_neg (by first|simp;done|simp;omega)]));(try rfl))
 have c4:(((((w.alloc (.cells #[.slice none 0 0] 23)).alloc (.cells #[.slice none 0 0] 26)).alloc (.map #[] 0)).alloc (.cells #[.map (some (w.heap.size+1+1))] 134)).alloc
    (.cells #[.func (.func 131) #[] #[.pointer (some ⟨w.heap.size+1+1+1,0,none⟩),.pointer (some ⟨w.heap.size+1,0,none⟩),.pointer (some ⟨zr,0,none⟩),.pointer (some ⟨w.heap.size+1+1+1+1,0,none⟩),.pointer (some ⟨w.heap.size,0,none⟩)]] 170)).heap[w.heap.size+1+1+1+1]? =some (.cells #[.func (.func 131) #[] #[.pointer (some ⟨w.heap.size+1+1+1,0,none⟩),.pointer (some ⟨w.heap.size+1,0,none⟩),.pointer (some ⟨zr,0,none⟩),.pointer (some ⟨w.heap.size+1+1+1+1,0,none⟩),.pointer (some ⟨w.heap.size,0,none⟩)]] 170 (0,0)):=(by(repeat(rw[Am];first|rw[if_pos (by first|simp;done|simp;omega)]|rw[if_neg (by first|simp;done|simp;omega)]));(try rfl))
 have m:(((((w.alloc (.cells #[.slice none 0 0] 23)).alloc (.cells #[.slice none 0 0] 26)).alloc (.map #[] 0)).alloc (.cells #[.map (some (w.heap.size+1+1))] 134)).alloc
    (.cells #[.func (.func 131) #[] #[.pointer (some ⟨w.heap.size+1+1+1,0,none⟩),.pointer (some ⟨w.heap.size+1,0,none⟩),.pointer (some ⟨zr,0,none⟩),.pointer (some ⟨w.heap.size+1+1+1+1,0,none⟩),.pointer (some ⟨w.heap.size,0,none⟩)]] 170)).heap.size=w.heap.size+5:=by simp
 rw[show((w.alloc (.cells #[.slice none 0 0] 23)).alloc (.cells #[.slice none 0 0] 26)).heap.size=w.heap.size+1+1 by simp]at d;clear c
 generalize(((((w.alloc (.cells #[.slice none 0 0] 23)).alloc (.cells #[.slice none 0 0] 26)).alloc (.map #[] 0)).alloc (.cells #[.map (some (w.heap.size+1+1))] 134)).alloc
    (.cells #[.func (.func 131) #[] #[.pointer (some ⟨w.heap.size+1+1+1,0,none⟩),.pointer (some ⟨w.heap.size+1,0,none⟩),.pointer (some ⟨zr,0,none⟩),.pointer (some ⟨w.heap.size+1+1+1+1,0,none⟩),.pointer (some ⟨w.heap.size,0,none⟩)]] 170))=W at*
 exact
 {con:=fun W' hW=>by
   have a:∀k,k<w.heap.size+5->k≠w.heap.size->k≠w.heap.size+1->k≠w.heap.size+1+1->k≠ob->W'.heap[k]? =W.heap[k]? :=fun k h0 h1 h2 h3 h4=>hW.block k (by omega) (by
    rintro(e|e|e|e|e|e|e)
    ·exact h3 e
    ·exact h2 e
    ·exact h1 e
    ·exact h4 e
    ·cases e
    ·cases e
    ·omega)
   refine⟨(a _ (by show _+1+1+1<_;omega) (by show _+1+1+1≠_;omega) (by show _+1+1+1≠_;omega) (by show _+1+1+1≠_;omega) (by show _+1+1+1≠_;omega)).trans c3,(a zr (by omega) (by omega) (by omega) (by omega) i).trans ((hb.block _ l).trans hr),(a _ (by show _+1+1+1+1<_;omega) (by show _+1+1+1+1≠_;omega) (by show _+1+1+1+1≠_;omega) (by show _+1+1+1+1≠_;omega) (by show _+1+1+1+1≠_;omega)).trans c4, ?_,fun j hj=>absurd hj (by simp)⟩;refine h.con W' ((Af.of_below hb).trans (hW.mono fun k _ hk=> ?_))
   rcases hk with e|e|e|e|e|e|e
   ·right;rw[e];show _<=_+1+1;omega
   ·right;rw[e];show _<=_+1;omega
   ·right;rw[e];exact Nat.le_refl _
   ·exact .inl e
   ·cases e
   ·cases e
   ·right;omega
  num:=d
  bs:=c1
  os:=Br _ _
  ba:=c0
  oa:=World.ownsRow_nil _ _ _ _
  oo:=h.oo.below hb
  ap:=fun k hk=>by cases hk
  lt:=⟨by show _+1+1<_;omega,by show _+1<_;omega,by show w.heap.size<_;omega,by show ob<_;omega⟩
  ne:=⟨by show _+1+1≠_+1;omega,by show w.heap.size+1+1≠w.heap.size;omega,by show _+1+1≠ob;omega,by show w.heap.size+1≠w.heap.size;omega,by show _+1≠ob;omega,by show w.heap.size≠ob;omega⟩
  hB:=by omega}
theorem KS(W:World)(n:Nat):(Instr.makeMap 134 (some (.int .i64 (n:Int)))).run Tryz.prog W=.ok (.map (some W.heap.size)) (W.alloc (.map #[] 0)):=by
 simp[Instr.makeMap,run_underlying Tryz.underlying134,asInt,asIntOf,Result.andThen]
theorem M2{w:World}{b e sz n c:Nat}{a:Option Addr}{l:List Value}(h:w.ownsRow b e sz (.slice a n c) n l):∃g,0<n->a=some ⟨g,0,none⟩:=by
 rcases h.2 with⟨_,h0⟩|⟨g,d,f,hv,_⟩
 ·exact⟨0,fun h=>absurd h (by omega)⟩
 ·injection hv with h1 h2 h3
  exact⟨g,fun _=>h1⟩
def No(w:World)(gb nb ob n:Nat)(V:Nat->Value)(vp:Value)(prio:List Int)(nx:List (List Int))(part:List Nat)(e:Ending)(w':World):Prop:=
 ∃(a:Option Addr)(cap b:Nat)(U:Nat->Value)(cs:List (List Nat)),e=.returned (.slice a cs.length cap)/\(0<cs.length->a=some ⟨b,0,none⟩)/\cs.length<=3000/\
  (∀W',Af (fun k=>k=ob\/w'.heap.size<=k) w' W'->∀j,j<cs.length->W'.cell? ⟨b,j,none⟩=some (U j)/\Ah W' (U j) (AY (cs.getD j [])))/\
  GS w' gb nb ob n V vp prio nx (List.replicate n false)/\Af (fun k=>k=ob) w w'/\Kg (EP (·∈part) nx) (·∈part) cs
theorem Ky(w:World)(gb nb ob n:Nat)(V:Nat->Value)(vp vl:Value)(d:List Int)(nx:List (List Int))(a:List Nat)(hS:GS w gb nb ob n V vp d nx (List.replicate n false))(hl:KpO ob w vl (AY a))(hx:GX n nx (·∈a)):
  Calls Tryz.prog 118 #[.pointer (some ⟨gb,0,none⟩),vl] w (No w gb nb ob n V vp d nx a):=by
 obtain⟨aL,cL,be⟩:=hl.is.shape;rw[AT]at be;subst be
 have b2:=fun W=>KS W a.length
 have HX:=Ab hx;have b3:=hx.n3;have HK:=Ab hl;have hz:=hS.lt;have b4:ob<w.heap.size:=hS.lt;have ah:=Ao (w:=w) (.cells #[.pointer (some ⟨gb,0,none⟩)] 127);have az:=Ab (hS.below ah);have an:Hid (KpO ob (w.alloc (.cells #[.pointer (some ⟨gb,0,none⟩)] 127)) (.slice aL a.length cL) (AY a)):=hl.step (Af.of_below ah);have bh:Hid (Af (fun k=>k=ob) w (w.alloc (.cells #[.pointer (some ⟨gb,0,none⟩)] 127))):=Af.of_below ah;have u:Hid ((w.alloc (.cells #[.pointer (some ⟨gb,0,none⟩)] 127)).heap[w.heap.size]? =some (.cells #[.pointer (some ⟨gb,0,none⟩)] 127 (0,0))):=heap_alloc_new _ _;clear hS hx hl ah hz
 go_enter Tryz.func118,Tryz.ntmps118
 go_wp2;generalize w.alloc (.cells #[.pointer (some ⟨gb,0,none⟩)] 127)=w1 at*
 have b5:a.length<=140737488351232:=by
  have:=an.out.is;have h2:=this.1;obtain⟨_,_,_,h,_⟩:=this.dat;exact h
 go_loopg [15] a.length (fun gh i wr=>∃(k:Nat)(opn:List Bool),gh=a.length-k/\i=.int .i64 k/\k<=a.length/\Hid (GS wr gb nb ob n V vp d nx opn)/\Hid (Af (fun k=>k=ob) w1 wr)/\Hid (∀x,x<n->(opn.getD x false=true↔x∈a.take k)))
 case atStart=>exact⟨0,_,rfl,rfl,by omega,az,Af.refl _ _,fun x hx=>by simp[List.getD,hx]⟩
 case round=>
  obtain⟨k,opn,ab,rfl,hk,b,o,af⟩:=hrel;have ae:=Ab ab;clear ab az;have q1:=Aa 0 ((o.out.block _ (Array.getElem?_eq_some_iff.1 u.out).1 (by omega)).trans u.out)
  by_cases hlt:k<a.length
  ·have hi:=an.out.step o.out|>.is;obtain⟨bL,oL,z,-,aa⟩:=hi.dat;obtain rfl:=z (by omega);have ev:=aa k hlt;rw[D7 hlt]at ev
   have l:a.getD k 0∈a:=by rw[Ae _ _ _ hlt];exact List.getElem_mem hlt
   have ai:=HX.out.pn _ l
   have ag:Hid (a.take (k+1)=a.take k++[a.getD k 0]):=by show _=_;rw[List.take_succ_eq_append_getElem hlt,Ae _ _ _ hlt]
   generalize a.getD k 0=v at*;have q2:=Aa 2 b.out.now.1;obtain⟨o1,o2⟩:=b.out.oc ai;have bp:=Ab (b.out.set v true);have bm:Hid (opn.length=n):=b.out.ol;clear z aa hi l;go_wp2
   go_roundg (a.length-(k+1))
   case measure=>have:=ae.out;omega
   case rel=>
    refine⟨k+1,_,rfl,by go_num,by omega,bp,o.out.trans (Af.set ob v _ rfl),fun x hx=> ?_⟩;rw[ag.out,List.mem_append,List.mem_singleton]
    by_cases e:v=x
    ·subst e;rw[AA _ _ _ _ (by rw[bm.out];exact hx)];simp
    ·rw[AJ _ _ _ _ _ e,af.out x hx];exact⟨.inl,fun h=>h.resolve_right fun k=>e k.symm⟩
  ·obtain rfl:k=a.length:=by omega
   rw[List.take_length]at af;have HV:=Ab (VS.made b.out ((o.out.block _ (Array.getElem?_eq_some_iff.1 u.out).1 (by omega)).trans u.out) (by omega));have a6:Below wr.heap.size wr (((((wr.alloc (.cells #[.slice none 0 0] 23)).alloc (.cells #[.slice none 0 0] 26)).alloc (.map #[] 0)).alloc (.cells #[.map (some (wr.heap.size+1+1))] 134)).alloc (.cells #[.func (.func 131) #[] #[.pointer (some ⟨wr.heap.size+1+1+1,0,none⟩),.pointer (some ⟨wr.heap.size+1,0,none⟩),.pointer (some ⟨w.heap.size,0,none⟩),.pointer (some ⟨wr.heap.size+1+1+1+1,0,none⟩),.pointer (some ⟨wr.heap.size,0,none⟩)]] 170)):=(by repeat(first|exact Ad|assumption|apply AE|apply AB));have ao:Hid (∀W',Af (fun k=>k=ob\/wr.heap.size<=k) wr W'->Ah W' (.slice aL a.length cL) (AY a)):=an.out.step o.out;have ad:Hid (Af (fun k=>k=ob\/wr.heap.size<=k) wr (((((wr.alloc (.cells #[.slice none 0 0] 23)).alloc (.cells #[.slice none 0 0] 26)).alloc (.map #[] 0)).alloc (.cells #[.map (some (wr.heap.size+1+1))] 134)).alloc (.cells #[.func (.func 131) #[] #[.pointer (some ⟨wr.heap.size+1+1+1,0,none⟩),.pointer (some ⟨wr.heap.size+1,0,none⟩),.pointer (some ⟨w.heap.size,0,none⟩),.pointer (some ⟨wr.heap.size+1+1+1+1,0,none⟩),.pointer (some ⟨wr.heap.size,0,none⟩)]] 170))):=Af.of_below a6;have ay:Hid (Af (fun k=>k=ob) w wr):=bh.out.trans o.out
   have b1:Hid (w.heap.size<wr.heap.size):=by
    have h1:=(Array.getElem?_eq_some_iff.1 u.out).1;have h2:=o.out.size;show _<_;omega
   have al:Hid (Rep n (·∈a) ⟨fun _=>0,fun _=>0,fun _=>0,[],0⟩ [] [] opn []):=by
    refine⟨fun v=>by simp,rfl,rfl,List.nodup_nil,fun v hv=>absurd hv (by simp),b.out.ol,fun v hv=> ?_,fun c hc=>absurd hc (by simp),fun v hv=>absurd rfl hv⟩;rw[af.out v hv];simp
   clear a6 q1;go_wp2;generalize(((((wr.alloc (.cells #[.slice none 0 0] 23)).alloc (.cells #[.slice none 0 0] 26)).alloc (.map #[] 0)).alloc (.cells #[.map (some (wr.heap.size+1+1))] 134)).alloc (.cells #[.func (.func 131) #[] #[.pointer (some ⟨wr.heap.size+1+1+1,0,none⟩),.pointer (some ⟨wr.heap.size+1,0,none⟩),.pointer (some ⟨w.heap.size,0,none⟩),.pointer (some ⟨wr.heap.size+1+1+1+1,0,none⟩),.pointer (some ⟨wr.heap.size,0,none⟩)]] 170))=W0 at*;obtain⟨wo,aj⟩:∃wo:World,wo=wr:=⟨_,rfl⟩;rw[<-aj]at ao ad ay;have b0:=Ab aj;generalize hsz:wr.heap.size=sz at*;rw[<-aj]at hsz;have a0:=Ab hsz;rw[hsz]at ao ad;clear aj hsz;obtain⟨D,hD⟩:∃D:Va,D=⟨sz+1+1+1,sz+1+1,sz+1,w.heap.size,sz+1+1+1+1,sz,gb,nb,ob,n,V⟩:=⟨_,rfl⟩;rw[<-hD]at HV
   have f:Hid (D.n=n/\D.ob=ob/\D.gb=gb/\D.nb=nb/\D.V=V/\D.zr=w.heap.size/\D.zv=sz+1+1+1+1/\D.za=sz/\D.zs=sz+1/\D.mb=sz+1+1):=by rw[hD];exact⟨rfl,rfl,rfl,rfl,rfl,rfl,rfl,rfl,rfl,rfl⟩
   have a2:Hid (GX D.n nx (·∈a)):=f.out.1▸HX.out
   have bj:Hid (D.fn=.func (.func 131) #[] #[.pointer (some ⟨sz+1+1+1,0,none⟩),.pointer (some ⟨sz+1,0,none⟩),.pointer (some ⟨w.heap.size,0,none⟩),.pointer (some ⟨sz+1+1+1+1,0,none⟩),.pointer (some ⟨sz,0,none⟩)]):=by rw[hD];rfl
   have a3:D.zo=sz+1+1+1:=by rw[hD]
   have a1:Hid (∀(w2:World)(t:Tj)(ord:List Nat)(opn:List Bool)(cs:List (List Nat))(vs va:Value)(vals:List Value)(v:Nat),cs.length<=ord.length->VS D (sz+5) w2 vp d nx ord [] opn cs vs va vals->Rep D.n (·∈a) t ord [] opn cs->EI (EP (·∈a) nx) t []->v∉ord->v∈a->
     Calls Tryz.prog 131 #[.int .i64 (v:Int),.pointer (some ⟨sz+1+1+1,0,none⟩),.pointer (some ⟨sz+1,0,none⟩),.pointer (some ⟨w.heap.size,0,none⟩),.pointer (some ⟨sz+1+1+1+1,0,none⟩),.pointer (some ⟨sz,0,none⟩)] w2 (T4 D (sz+5) w2 vp d nx (·∈a) t vs va v [])):=fun w2 t ord opn cs vs va vals v h0 h1 h2 h3 h4 h5=>by
    have h:=SC (sz+5) D vp d nx (·∈a) a2.out (D.n-ord.length+1) w2 t ord [] opn cs vs va vals [] v (by omega) (by simpa using h0) h1 h2 h3 h4 h5 (fun g hg=>absurd hg (by simp));obtain⟨-,-,-,-,-,e1,e2,e3,e4,-⟩:=f.out;rw[a3,e1,e2,e3,e4]at h;exact h
   clear hD a3
   go_loopg [32] a.length (fun gh i wr=>∃(k:Nat)(t:Tj)(ord:List Nat)(opn:List Bool)(cs:List (List Nat))(vs va:Value)(vals:List Value),gh=a.length-k/\i=.int .i64 k/\k<=a.length/\Hid (cs.length<=ord.length)/\Hid (VS D (sz+5) wr vp d nx ord [] opn cs vs va vals)/\Hid (Rep D.n (·∈a) t ord [] opn cs)/\
    Hid (EI (EP (·∈a) nx) t [])/\Hid (VMv D W0 (.slice none 0 0) (.slice none 0 0) wr vs va)/\Hid (∀x∈a.take k,t.prt x≠0))
   case atStart=>exact⟨0,_,[],opn,[],_,_,_,rfl,rfl,by omega,Nat.le_refl _,HV,by rw[f.out.1];exact al,Us _,VMv.refl _ _ _ _,fun x hx=>absurd hx (by simp)⟩
   case round=>
    clear HV al b o af;obtain⟨k,t,ord,opn,cs,vs,va,vals,ab,rfl,hk,HC,b,m,y,ap,s⟩:=hrel;have ae:=Ab ab;clear ab
    have ax:Hid (Af (fun k=>k=ob\/sz<=k) wo wr):=ad.out.trans (ap.out.ho.mono fun q _ hq=>by
     obtain⟨-,e0,-,-,-,-,-,e3,e4,e5⟩:=f.out
     have b6:sz<=W0.heap.size:=by have:=ad.out.size;rw[a0.out]at this;exact this
     rcases hq with e|e|e|e|e|e|e
     ·right;omega
     ·right;omega
     ·right;omega
     ·left;omega
     ·cases e
     ·cases e
     ·right;omega)
    have cn:=b.out.now;have bb:=m.out.len a2.out.pn;rw[f.out.1]at bb
    by_cases hlt:k<a.length
    ·have hi:=ao.out wr ax.out;obtain⟨bL,oL,z,-,aa⟩:=hi.dat;obtain rfl:=z (by omega);have ev:=aa k hlt;rw[D7 hlt]at ev
     have l:a.getD k 0∈a:=by rw[Ae _ _ _ hlt];exact List.getElem_mem hlt
     have ai:=HX.out.pn _ l
     have ag:Hid (a.take (k+1)=a.take k++[a.getD k 0]):=by show _=_;rw[List.take_succ_eq_append_getElem hlt,Ae _ _ _ hlt]
     have ak:=Ab l;generalize a.getD k 0=v at*;have q1:=Aa 0 cn.r;have q2:=Aa 2 cn.g.1;have q4:=Aa 0 cn.v;obtain⟨o1,-⟩:=b.out.oc m.out.on (j:=v) (by rw[f.out.1];exact ai);have bc:=m.out.oi v (by rw[f.out.1];exact ai);rw[bj.out]at q4;obtain⟨e1,e2,e3,-,-,e4,e5,-,-,-⟩:=f.out;rw[e4,e3]at q1;rw[e3,e2,e1]at q2;rw[e2]at o1;rw[e5]at q4;have aw:=Ab bc;clear bc e1 e2 e3 e4 e5 cn z aa hi l
     cases hq:opn.getD v false
     ·have aq:Hid (∀x∈a.take (k+1),t.prt x≠0):=by
       intro x hx;rw[ag.out,List.mem_append,List.mem_singleton]at hx
       rcases hx with hx|rfl
       ·exact s.out x hx
       ·intro e;have:=aw.out.2 ⟨ak.out,e⟩;rw[hq]at this;cases this
      rw[hq]at o1;clear hq;go_wp2
      go_roundg (a.length-(k+1))
      case measure=>have:=ae.out;omega
      case rel=>exact⟨k+1,t,_,_,_,_,_,_,rfl,by go_num,by omega,HC,b,m,y,ap,aq⟩
     ·have a9:v∉ord:=fun hv=>by
       have h1:=(y.out.st v).2 ⟨m.out.in_ord.2 hv,(aw.out.1 hq).2⟩;rw[Jn y.out]at h1
       cases h1
      have bl:=Ab a9;rw[hq]at o1;clear hq a9
      go_wp2_with fail
      refine(a1.out wr t ord opn cs vs va vals v HC.out b.out m.out y.out bl.out ak.out).mono ?_;rintro e w7 ⟨lw,t2,bf,bg,bz,br,b8,b7,bx,rfl,bu,a7,a4,ar,p,a5⟩
      have bw:bg=[]:=by rw[<-ar.sk];exact Jn p.po.inv
      subst bw
      have aq:Hid (∀x∈a.take (k+1),t2.prt x≠0):=by
       intro x hx;rw[ag.out,List.mem_append,List.mem_singleton]at hx
       rcases hx with hx|rfl
       ·rw[p.po.ext.pr x (s.out x hx)];exact s.out x hx
       ·intro e;have h1:=(p.po.inv.st x).2 ⟨p.po.nz,e⟩;rw[Jn p.po.inv]at h1
        cases h1
      have am:br.length<=bf.length:=by simpa using a7
      have bi:=Ab am;have bo:=Ab a4;have bn:=Ab ar;have bq:=Ab p.po.inv;have bk:=Ab (ap.out.trans a5);clear bu a7 am a4 ar p a5 q1 q2 q4 o1 ev;go_wp2
      go_roundg (a.length-(k+1))
      case measure=>have:=ae.out;omega
      case rel=>exact⟨k+1,t2,_,_,_,_,_,_,rfl,by go_num,by omega,bi,bo,bn,bq,bk,aq⟩
    ·obtain rfl:k=a.length:=by omega
     rw[List.take_length]at s;obtain⟨aA,cA,rfl⟩:=AG b.out.oa;obtain⟨gA,a8⟩:=M2 b.out.oa;have av:=Ab a8;have z7:=Aa 0 b.out.ba;rw[f.out.2.2.2.2.2.2.2.1]at z7
     have au:Hid (No w gb nb ob n V vp d nx a (.returned (.slice aA cs.length cA)) wr):=by
      obtain⟨e1,e2,e3,e6,e7,-⟩:=f.out
      have bd:opn=List.replicate n false:=by
       have hl:=m.out.on;rw[e1]at hl
       apply List.ext_getElem (by simp[hl])
       intro x h1 h2
       have hx:x<n:=by rw[hl]at h1;exact h1
       have:=m.out.oi x (by rw[e1];exact hx);rw[Ae _ _ _ h1]at this;rw[List.getElem_replicate]
       cases hb:opn[x]
       ·rfl
       ·have h3:=this.1 hb;exact absurd h3.2 (s.out x h3.1)
      have ac:∀q,(q=ob\/wr.heap.size<=q)->EE D vs (.slice aA cs.length cA) wr.heap.size q:=fun q hq=>hq.elim (fun e=>.inr (.inr (.inr (.inl (by rw[e2];exact e))))) fun e=>.inr (.inr (.inr (.inr (.inr (.inr e)))))
      have hlt:=b.out.lt;refine⟨aA,cA,gA,fun j=>vals.getD j undef,cs,rfl,av.out,by have:=HC.out;have:=HX.out.n3;omega,fun W' hW j hj=>⟨?_,(b.out.con W' (hW.mono fun q _ hq=>ac q hq)).c j hj⟩,⟨fun W' hW=> ?_, ?_,by simp⟩,ay.out.trans (ax.out.mono fun q hq hk=>hk.resolve_right (by have:=a0.out;omega)),P7 y.out m.out s.out⟩
      ·have bv:=Ax b.out.oa hW fun q hq hk=>by
        have:=b.out.age q hq
        rcases hk with e|e
        ·omega
        ·omega
       have bs:=av.out (by omega);subst bs
       have hl:vals.length=cs.length:=by have:=b.out.oa.1;simpa using this
       rw[World.ownsRow.cellAt bv j (by omega)];show _=some (vals.getD j undef);rw[Ae _ _ _ (show j<vals.length by omega)];simp[show j<vals.length by omega]
      ·have:=(b.out.con W' (hW.mono fun q _ hq=>ac q hq)).g;rw[e1,e2,e3,e6,e7]at this;exact this
      ·rw[<-bd];have:=b.out.oo;rw[e1,e2]at this;exact this
     clear cn a8;go_wp2;go_ret;exact au.out
end Go.Proofs.YtncjeamdkjcebaaGreatDoor
namespace Go.Proofs.YtncjeamdkjcebaaGreatDoor
def EG(nx:List (List Int))(x y:Nat):Prop:=(y:Int)∈nx.getD x []
def prF(prio:List Int)(v:Nat):Int:=prio.getD v 0
def GP(prio:List Int)(p:Int)(v:Nat):Prop:=prF prio v%2≠p
instance Ub(prio:List Int)(p:Int)(v:Nat):Decidable (GP prio p v):=by unfold GP;infer_instance
def Jr:Int:=9223372036854775807
def C3(prio:List Int)(p:Int)(l:List Nat):Int:=l.foldl (fun m v=>if GP prio p v then min m (prF prio v)else m) Jr
theorem JB(a:List Int)(p:Int)(l:List Nat)(v:Nat):C3 a p (l++[v])=if GP a p v then min (C3 a p l) (prF a v)else C3 a p l:=by
 unfold C3;rw[List.foldl_append];rfl
theorem Q4{α:Type}{P:List α->Prop}(h0:P [])(h1:∀l a,P l->P (l++[a]))(l:List α):P l:=by
 have:∀r:List α,P r.reverse:=fun r=>by
  induction r with
  |nil=>exact h0
  |cons a r ih=>rw[List.reverse_cons];exact h1 _ _ ih
 have h:=this l.reverse
 rwa [List.reverse_reverse]at h
theorem FJ(a:List Int)(p:Int)(l:List Nat):(∀v∈l,GP a p v->C3 a p l<=prF a v)/\((C3 a p l=Jr/\∀v∈l,¬GP a p v)\/∃v∈l,GP a p v/\(C3 a p l=prF a v\/C3 a p l=Jr))/\C3 a p l<=Jr:=by
 refine Q4 (P:=fun l=>(∀v∈l,GP a p v->C3 a p l<=prF a v)/\((C3 a p l=Jr/\∀v∈l,¬GP a p v)\/∃v∈l,GP a p v/\(C3 a p l=prF a v\/C3 a p l=Jr))/\C3 a p l<=Jr) ?_ ?_ l
 ·exact⟨fun v hv=>absurd hv (by simp),.inl ⟨rfl,fun v hv=>absurd hv (by simp)⟩,Int.le_refl _⟩
 ·intro l v ih;obtain⟨h1,h2,h3⟩:=ih;rw[JB]
  by_cases hb:GP a p v
  ·rw[if_pos hb];refine⟨fun x hx hbx=> ?_,.inr ?_,by omega⟩
   ·rcases List.mem_append.1 hx with h|h
    ·have:=h1 x h hbx;omega
    ·rw[List.mem_singleton.1 h];omega
   ·by_cases hm:C3 a p l<=prF a v
    ·rcases h2 with⟨h4,h5⟩|⟨y,hy,h4,h5⟩
     ·exact⟨v,by simp,hb,.inr (by omega)⟩
     ·refine⟨y,List.mem_append_left _ hy,h4, ?_⟩
      rcases h5 with e|e
      ·left;omega
      ·right;omega
    ·exact⟨v,by simp,hb,.inl (by omega)⟩
  ·rw[if_neg hb];refine⟨fun x hx hbx=> ?_, ?_,h3⟩
   ·rcases List.mem_append.1 hx with h|h
    ·exact h1 x h hbx
    ·rw[List.mem_singleton.1 h]at hbx;exact absurd hbx hb
   ·rcases h2 with⟨h4,h5⟩|⟨y,hy,h4,h5⟩
    ·refine .inl ⟨h4,fun x hx=> ?_⟩
     rcases List.mem_append.1 hx with h|h
     ·exact h5 x h
     ·rw[List.mem_singleton.1 h];exact hb
    ·exact .inr ⟨y,List.mem_append_left _ hy,h4,h5⟩
def Cu(prio:List Int)(m:Int)(l:List Nat):List Nat:=l.filter fun v=>decide (m<=prF prio v)
theorem Nd(a:List Int)(m:Int)(l:List Nat)(v:Nat):Cu a m (l++[v])=if m<=prF a v then Cu a m l++[v]else Cu a m l:=by
 unfold Cu;rw[List.filter_append]
 by_cases h:m<=prF a v<;>simp[h]
theorem Hx{a:List Int}{m:Int}{l:List Nat}{v:Nat}:v∈Cu a m l↔v∈l/\m<=prF a v:=by
 unfold Cu;rw[List.mem_filter];simp
theorem J5(a:List Int)(m:Int)(l:List Nat):(Cu a m l).length<=l.length:=List.length_filter_le _ _
theorem Nc{a:List Int}{m:Int}{l:List Nat}(h:(Cu a m l).length=l.length):∀v∈l,m<=prF a v:=fun v hv=>by
 have:=(List.length_filter_eq_length_iff.1 h) v hv;simpa using this
def Cz(nx:List (List Int))(prio:List Int)(p:Int)(l:List Nat):Prop:=FW (EG nx) (prF prio) (GP prio p) (·∈l)
section
variable {nx:List (List Int)} {prio:List Int} {p:Int}
theorem OA{c:List Nat}(h:Cu prio (C3 prio p c) c=[]):Cz nx prio p c:=fun i hi hb=>by
 exfalso
 have h1:=(FJ prio p c).1 i hi hb;have:i∈Cu prio (C3 prio p c) c:=Hx.2 ⟨hi,h1⟩;rw[h]at this;cases this
theorem OC(c:List Nat):Cz nx prio p c↔Cz nx prio p (Cu prio (C3 prio p c) c):=by
 unfold Cz;rw[FW.rest (m:=C3 prio p c) (fun i hi hb=>(FJ prio p c).1 i hi hb)]
 have e:(fun x=>x∈c/\C3 prio p c<=prF prio x)=(fun x=>x∈Cu prio (C3 prio p c) c):=funext fun x=>propext Hx.symm
 rw[e]
theorem Ll{E:Nat->Nat->Prop}{A C:Nat->Prop}{x z:Nat}(hC:∀y,A y->(C y↔Rch (In E A) x y/\Rch (In E A) y x))(h:Rch (In E A) x z)(hz:Rch (In E A) z x):Rch (In E C) x z:=by
 induction h with
 |refl=>exact Rch.refl _
 |step h e ih=>
  rename_i y z;have hy:Rch (In E A) y x:=(Rch.one e).trans hz;refine(ih hy).step ⟨(hC y e.1).2 ⟨h,hy⟩,(hC z e.2.1).2 ⟨h.step e,hz⟩,e.2.2⟩
theorem Oz{A:Nat->Prop}{c:List Nat}(hA:∀x∈c,A x)(hC:∀x∈c,∀y,A y->(y∈c↔Rch (In (EG nx) A) x y/\Rch (In (EG nx) A) y x))(b:c≠[])(hp:∀x∈c,prF prio x<Jr)(h:∀v∈c,C3 prio p c<=prF prio v):
  Cz nx prio p c↔¬∃x y,x∈c/\y∈c/\EG nx x y:=by
 obtain⟨h1,h2,-⟩:=FJ prio p c;obtain⟨x0,a⟩:=List.exists_mem_of_ne_nil c b;have h3:=h x0 a;have h4:=hp x0 a
 obtain⟨i,hi,hb,he⟩:∃i∈c,GP prio p i/\C3 prio p c=prF prio i:=by
  rcases h2 with⟨h5,-⟩|⟨i,hi,hb,he|he⟩
  ·omega
  ·exact⟨i,hi,hb,he⟩
  ·omega
 refine FW.none (C:=(·∈c)) hi hb (fun x hx=>by have:=h x hx;omega) fun x y hx hy=> ?_
 obtain⟨k1,k2⟩:=(hC x hx y (hA y hy)).1 hy;exact Ll (C:=(·∈c)) (hC x hx) k1 k2
theorem OZ{E:Nat->Nat->Prop}{x y:Nat}(h:Rch E x y)(a:x≠y):∃z,E x z:=by
 induction h with
 |refl=>exact absurd rfl a
 |step h e ih=>
  rename_i z _
  by_cases hx:x=z
  ·subst hx;exact⟨_,e⟩
  ·exact ih hx
theorem Qm{A:Nat->Prop}{c:List Nat}(hA:∀x∈c,A x)(hC:∀x∈c,∀y,A y->(y∈c↔Rch (In (EG nx) A) x y/\Rch (In (EG nx) A) y x))(a:c.Nodup)(hl:1<c.length):∃x y,x∈c/\y∈c/\EG nx x y:=by
 match c,hl with
 |x::y::r,_=>
  have b:x≠y:=fun e=>by
   subst e;simp at a
  have hx:x∈x::y::r:=by simp
  have hy:y∈x::y::r:=by simp
  obtain⟨k1,k2⟩:=(hC x hx y (hA y hy)).1 hy;obtain⟨z,hz⟩:=OZ (Ll (C:=(·∈x::y::r)) (hC x hx) k1 k2) b;exact⟨x,z,hz.1,hz.2.1,hz.2.2⟩
theorem IW{a:List Nat}{cs:List (List Nat)}(h:Kg (EP (·∈a) nx) (·∈a) cs):Cz nx prio p a↔∀c∈cs,Cz nx prio p c:=by
 refine⟨fun hg c hc=>FW.sub hg fun x hx=>(h.ne c hc).2.2 x hx,fun hg=> ?_⟩
 refine FW.comps fun C hCA hCe ⟨x,hx⟩=> ?_
 obtain⟨c,hc,b⟩:=h.al x (hCA x hx)
 have e:C=(·∈c):=funext fun y=>propext ⟨fun hy=> ?_,fun hy=> ?_⟩
 ·rw[e];exact hg c hc
 ·exact(h.eq c hc x b y (hCA y hy)).2 ((hCe x y hx (hCA y hy)).1 hy)
 ·have d:=(h.ne c hc).2.2 y hy;exact(hCe x y hx d).2 ((h.eq c hc x b y d).1 hy)
end
end Go.Proofs.YtncjeamdkjcebaaGreatDoor
namespace Go.Proofs.YtncjeamdkjcebaaGreatDoor
open Go.RowKit
structure Ck(w:World)(zr zp zc gb ob:Nat)(p:Int):Prop where
 r:w.heap[zr]? =some (.cells #[.pointer (some ⟨gb,0,none⟩)] 127 (0,0))
 pl:w.heap[zp]? =some (.cells #[.int .i64 p] 3 (0,0))
 c:w.heap[zc]? =some (.cells #[.func (.func 117) #[] #[.pointer (some ⟨zr,0,none⟩),.pointer (some ⟨zp,0,none⟩),.pointer (some ⟨zc,0,none⟩)]] 159 (0,0))
 ne:zr≠ob/\zp≠ob/\zc≠ob
theorem Ck.step{w W:World}{zr zp zc gb ob:Nat}{p:Int}(h:Ck w zr zp zc gb ob p)(ho:Af (fun k=>k=ob) w W):Ck W zr zp zc gb ob p:=
 ⟨(ho.block _ (Array.getElem?_eq_some_iff.1 h.r).1 h.ne.1).trans h.r,(ho.block _ (Array.getElem?_eq_some_iff.1 h.pl).1 h.ne.2.1).trans h.pl,(ho.block _ (Array.getElem?_eq_some_iff.1 h.c).1 h.ne.2.2).trans h.c,h.ne⟩
structure GXn(n:Nat)(prio:List Int)(nx:List (List Int))(p:Int):Prop where
 n3:n<=3000
 pn:prio.length=n
 pr:∀v,v<n->0<=prio.getD v 0/\prio.getD v 0<=30000
 rg:∀v,v<n->∀x∈nx.getD v [],0<=x/\x<n
 pl:0<=p/\p<=1
theorem GXn.gx{n:Nat}{a:List Int}{nx:List (List Int)}{p:Int}(h:GXn n a nx p){A:Nat->Prop}(hA:∀v,A v->v<n):GX n nx A:=⟨h.n3,h.rg,hA⟩
theorem OI.kpO{w:World}{B ob n:Nat}{v:Value}{l:List Nat}(h:OI w B v (AY l))(hb:ob<B)(hl:∀x∈l,x<n)(hn:n<=100000)(a:l.length<=100000):KpO ob w v (AY l):=fun W hW=>
 (h.only hW fun k hk hh=>by
  have h1:=h.ge k hk;have h2:=h.lt' k hk
  rcases hh with e|e<;>omega).is (by rw[AT];unfold Bg;omega) (FK hl hn)
def Mn(w:World)(gb nb ob n:Nat)(V:Nat->Value)(vp:Value)(prio:List Int)(nx:List (List Int))(p:Int)(part:List Nat)(e:Ending)(w':World):Prop:=
 ∃b:Bool,e=.returned (.bool b)/\(b=true↔Cz nx prio p part)/\GS w' gb nb ob n V vp prio nx (List.replicate n false)/\Af (fun k=>k=ob) w w'
theorem RT(gb nb ob n:Nat)(V:Nat->Value)(vp:Value)(d:List Int)(nx:List (List Int))(p:Int)(zr zp zc:Nat)(hx:GXn n d nx p)(m:Nat):∀(w:World)(vl:Value)(f:List Nat),f.length<m->(∀v∈f,v<n)->f.length<=3000->
  GS w gb nb ob n V vp d nx (List.replicate n false)->KpO ob w vl (AY f)->Ck w zr zp zc gb ob p->
  Calls Tryz.prog 117 #[vl,.pointer (some ⟨zr,0,none⟩),.pointer (some ⟨zp,0,none⟩),.pointer (some ⟨zc,0,none⟩)] w (Mn w gb nb ob n V vp d nx p f):=by
 induction m with
 |zero=>intro _ _ _ h;exact absurd h (by omega)
 |succ m ih=>
 intro w vl f hm bh cy hS hl hc;have cc:=Ab ih;have HX:=Ab hx;have cg:=Ab bh;have HM:=Ab hm;have cx:=hx.n3;have bl:=Ab hc;have a0:=Ab (Ky w gb nb ob n V vp vl d nx f hS hl (hx.gx bh));obtain⟨aP,cP,b8⟩:=hS.now.2.1.shape;rw[hx.pn]at b8;subst b8;have q1:=Aa 0 hc.r;clear ih hx bh hS hl hc hm
 go_enter Tryz.func117,Tryz.ntmps117
 go_wp2
 go_step3
 go_wp2
 go_step3
 go_wp2_with fail
 refine a0.out.mono ?_;rintro e w1 ⟨aA,cA,bA,U,cs,rfl,hA,cv,hU,b0,bz,hC⟩;have HA:=Ab hA;have HU:=Ab hU;have bw:=Ab b0;have bq:=Ab bz;have HC:=Ab hC;clear q1 a0 hA hU b0 bz hC;go_wp2
 go_loopg [18] cs.length (fun gh i wr=>∃k:Nat,gh=cs.length-k/\i=.int .i64 k/\k<=cs.length/\Hid (GS wr gb nb ob n V (.slice aP n cP) d nx (List.replicate n false))/\Hid (Af (fun k=>k=ob) w wr)/\Hid (Af (fun k=>k=ob\/w1.heap.size<=k) w1 wr)/\Hid (∀j,j<k->Cz nx d p (cs.getD j [])))
 case atStart=>exact⟨0,rfl,rfl,by omega,bw,bq,Af.refl _ _,fun j hj=>absurd hj (by omega)⟩
 case round=>
  clear bw bq;obtain⟨k,b4,rfl,hk,ae,bb,ba,bp⟩:=hrel;have a6:=Ab b4;clear b4;obtain⟨wo,rfl⟩:∃wo:World,wo=wr:=⟨_,rfl⟩
  by_cases hlt:k<cs.length
  ·obtain rfl:=HA.out (by omega);obtain⟨eU,iU⟩:=HU.out wo ba.out k hlt;obtain⟨aC,cC,az⟩:=iU.shape;rw[AT]at az
   have ci:Hid (∀W',Af (fun k=>k=ob\/w1.heap.size<=k) w1 W'->Ah W' (.slice aC (cs.getD k []).length cC) (AY (cs.getD k []))):=fun W' hW=>az▸(HU.out W' hW k hlt).2
   rw[az]at eU
   have ay:cs.getD k []∈cs:=by rw[Ae _ _ _ hlt];exact List.getElem_mem hlt
   have ca:=Ab ay;obtain⟨b2,aw,ax⟩:=HC.out.ne _ ay
   have bg:∀v∈cs.getD k [],v<n:=fun v hv=>cg.out v (ax v hv)
   have ct:(cs.getD k []).length<=3000:=by
    have:=Gq aw bg;omega
   have cu:(cs.getD k []).length<=f.length:=List.Nodup.length_le_of_subset aw ax;have ac:=Ab bg;have af:Hid (cs.getD k []≠[]/\(cs.getD k []).Nodup/\∀x∈cs.getD k [],x∈f):=⟨b2,aw,ax⟩;have bk:=Ab (HC.out.eq _ ay)
   have a8:Hid (∀b,Cz nx d p (cs.getD k [])->∀j,j<k+1->b=true->Cz nx d p (cs.getD j [])):=fun b h j hj _=>by
    by_cases e:j=k
    ·rw[e];exact h
    ·exact bp.out j (by omega)
   clear ay b2 aw ax bg iU az;generalize hce:cs.getD k []=c at*;clear hce;have ag:=Ab (bl.out.step bb.out);have q1:=Aa 0 ag.out.r;have q2:=Aa 0 ag.out.pl;have q3:=Aa 0 ae.out.now.1;have bs:=Ab ae.out.now.2.1;have be:=Ab (ci.out wo ba.out);go_wp2
   go_loopg [8,24] c.length (fun gh b i wi=>∃(j nn:Nat),gh=c.length-j/\i=.int .i64 j/\b=.int .i64 (C3 d p (c.take j))/\j<=c.length/\wi=wo.drewN nn)
   case atStart=>exact⟨0,0,rfl,rfl,rfl,by omega,rfl⟩
   case round=>
    obtain⟨j,nn,am,rfl,rfl,hj,rfl⟩:=hrel;have aj:=Ab am;clear am
    by_cases hjl:j<c.length
    ·obtain⟨bC,oC,u,-,z⟩:=be.out.dat;obtain rfl:=u (by omega);have ev:=z j hjl;rw[D7 hjl]at ev;have ab:c.getD j 0<n:=ac.out _ (by rw[Ae _ _ _ hjl];exact List.getElem_mem hjl)
     have al:Hid (c.take (j+1)=c.take j++[c.getD j 0]):=by show _=_;rw[List.take_succ_eq_append_getElem hjl,Ae _ _ _ hjl]
     obtain⟨bP,oP,ao,-,ap⟩:=bs.out.dat;obtain rfl:=ao (by omega);generalize c.getD j 0=v at*;have ep:=ap v ab;obtain⟨p0,p1⟩:=HX.out.pr v ab;have bj:=Ab (JB d p (c.take j) v);have aq:prF d v=d.getD v 0:=rfl;have au:=Ab aq;have bi:Hid (GP d p v↔d.getD v 0%2≠p):=Iff.rfl;clear u z ao ap aq;generalize d.getD v 0=pv at*;generalize C3 d p (c.take j)=bm at*
     have cq:(v:Int)<n:=by omega
     have cw:Int.tmod pv 2=pv%2:=Int.tmod_eq_emod_of_nonneg p0
     cases hb:(pv%2 !=p)
     ·have a4:Hid (C3 d p (c.take (j+1))=bm):=by
       show _=_;rw[al.out,bj.out,if_neg fun h=>bi.out.1 h (by simpa using hb)]
      go_wp2
      go_quiet (fail)
      go_wp2
      go_roundg (c.length-(j+1))
      case measure=>have:=aj.out;omega
      case rel=>exact⟨j+1,_,rfl,by go_num,by rw[a4.out],by omega,rfl⟩
     ·have a4:Hid (C3 d p (c.take (j+1))=min bm pv):=by
       show _=_;rw[al.out,bj.out,if_pos (bi.out.2 (by simpa using hb)),au.out]
      go_wp2
      go_quiet (fail)
      go_wp2
      all_goals
       go_roundg (c.length-(j+1))
       case measure=>have:=aj.out;omega
       case rel=>exact⟨j+1,_,rfl,by go_num,by rw[a4.out];congr 1;omega,by omega,rfl⟩
    ·obtain rfl:j=c.length:=by omega
     rw[List.take_length];have cm:=(FJ d p c).2.2
     have ce:Hid (∀q,C3 d p c=q->Cu d q c=Cu d (C3 d p c) c):=fun q h=>by rw[h]
     have a7:Hid ((Cu d (C3 d p c) c=[]->Cz nx d p c)/\(Cz nx d p c↔Cz nx d p (Cu d (C3 d p c) c))):=⟨OA,OC c⟩
     have cb:Hid ((∀v∈c,C3 d p c<=prF d v)->(Cz nx d p c↔¬∃x y,x∈c/\y∈c/\EG nx x y)):=fun h=>Oz (A:=(·∈f)) af.out.2.2 (bk.out) af.out.1 (fun x hx=>by have:=(HX.out.pr x (ac.out x hx)).2;unfold prF Jr;omega) h
     have a9:Hid (¬Cz nx d p c->¬Cz nx d p f):=fun h k=>h ((IW HC.out).1 k c ca.out)
     unfold Jr at cm;clear ce q1 q2 q3;generalize C3 d p c=bm at*;go_wp2
     go_loopg [11,50] c.length (fun gh va i wi=>∃j:Nat,gh=c.length-j/\i=.int .i64 j/\j<=c.length/\Hid (OI wi wo.heap.size va (AY (Cu d bm (c.take j))))/\Hid (Below wo.heap.size wo wi))
     case atStart=>exact⟨0,rfl,rfl,by omega,Br _ _,Aj _ _ _⟩
     case round=>
      obtain⟨j,am,rfl,hj,ad,l⟩:=hrel;have aj:=Ab am;clear am;have a2:=l.out.size;have cp:(Cu d bm (c.take j)).length<=3000:=Nat.le_trans (J5 _ _ _) (by rw[List.length_take];omega)
      by_cases hjl:j<c.length
      ·obtain⟨bC,oC,u,-,z⟩:=be.out.dat;obtain rfl:=u (by omega);have ev:=Ag l.out (z j hjl);rw[D7 hjl]at ev;have ab:c.getD j 0<n:=ac.out _ (by rw[Ae _ _ _ hjl];exact List.getElem_mem hjl)
       have al:Hid (c.take (j+1)=c.take j++[c.getD j 0]):=by show _=_;rw[List.take_succ_eq_append_getElem hjl,Ae _ _ _ hjl]
       obtain⟨bP,oP,ao,-,ap⟩:=bs.out.dat;obtain rfl:=ao (by omega);generalize c.getD j 0=v at*;have ep:=Ag l.out (ap v ab);obtain⟨p0,p1⟩:=HX.out.pr v ab;have bv:=Ab (Nd d bm (c.take j) v);have aq:prF d v=d.getD v 0:=rfl;have au:=Ab aq;have q1:=Ag l.out (Aa 0 ag.out.r);have q3:=Ag l.out (Aa 0 ae.out.now.1);clear u z ao ap aq;generalize d.getD v 0=pv at*
       have cq:(v:Int)<n:=by omega
       by_cases hge:bm<=pv
       ·have bc:Hid (AY (Cu d bm (c.take (j+1)))=AY (Cu d bm (c.take j))++[(v:Int)]):=by
         show _=_;rw[al.out,bv.out,if_pos (by rw[au.out];exact hge),Hm];rfl
        have b3:decide (bm<=pv)=true:=by simpa using hge
        go_wp2_with (at_builtin;refine C8 rfl _ _ (v:Int) rfl wo.heap.size _ _ ad.out rfl _ (by simp) rfl (by rw[AT];omega) a2 ?_;intro v' w' an hg cn;have cf:=Ab an;have b9:=Ab (l.out.grown hg a2 (fun g h=>ad.out.ge g h));clear an hg cn)
        go_roundg (c.length-(j+1))
        case measure=>have:=aj.out;omega
        case rel=>exact⟨j+1,rfl,by go_num,by omega,by rw[bc.out];exact cf,b9⟩
       ·have bc:Hid (Cu d bm (c.take (j+1))=Cu d bm (c.take j)):=by
         show _=_;rw[al.out,bv.out,if_neg (by rw[au.out];exact hge)]
        have b3:decide (bm<=pv)=false:=by simpa using hge
        go_wp2
        go_roundg (c.length-(j+1))
        case measure=>have:=aj.out;omega
        case rel=>exact⟨j+1,rfl,by go_num,by omega,by rw[bc.out];exact ad,l⟩
      ·obtain rfl:j=c.length:=by omega
       rw[List.take_length]at ad cp
       have bu:Hid (∀x∈Cu d bm c,x∈c):=fun x hx=>(Hx.1 hx).1
       have ch:Hid ((Cu d bm c).length=c.length->∀v∈c,bm<=prF d v):=fun h=>Nc h
       have cz:(Cu d bm c).length<=c.length:=J5 _ _ _;obtain⟨aR,cR,b7⟩:=ad.out.slice;rw[AT]at b7;subst b7;generalize Cu d bm c=rest at*;have aa:=Ab (ae.out.below l.out);have o:Hid (Af (fun k=>k=ob) w wr):=bb.out.trans (Af.of_below l.out);have ak:Hid (Af (fun k=>k=ob\/w1.heap.size<=k) w1 wr):=ba.out.trans (Af.of_below l.out);have ah:=Ab (bl.out.step o.out);have b5:ob<wo.heap.size:=ae.out.lt;have cd:Hid (KpO ob wr (.slice aR rest.length cR) (AY rest)):=ad.out.kpO b5 (fun x hx=>ac.out x (bu.out x hx)) (by omega) (by omega)
       by_cases h0:rest.length=0
       ·have ai:Hid (Cz nx d p c):=a7.out.1 (List.eq_nil_of_length_eq_zero h0)
        have cj:((rest.length:Int)==0)=true:=by simp[h0]
        clear h0;go_wp2
        go_roundg (cs.length-(k+1))
        case measure=>have:=a6.out;omega
        case rel=>exact⟨k+1,rfl,by go_num,by omega,aa,o,ak,fun j hj=>a8.out true ai.out j hj rfl⟩
       ·have cj:((rest.length:Int)==0)=false:=by rw[beq_eq_false_iff_ne];omega
        clear h0
        by_cases h1:rest.length<c.length
        ·have ck:decide (rest.length<c.length)=true:=by simpa using h1
         have q4:=Aa 0 ah.out.c
         go_wp2_with fail
         refine(cc.out wr _ rest (by have:=HM.out;omega) (fun x hx=>ac.out x (bu.out x hx)) (by omega) aa.out cd.out ah.out).mono ?_;rintro e w9 ⟨b,rfl,hb,b1,bf⟩;have HB:=Ab hb;have bx:=Ab b1;have a1:Hid (Af (fun k=>k=ob) w w9):=o.out.trans bf;have br:Hid (Af (fun k=>k=ob\/w1.heap.size<=k) w1 w9):=ak.out.trans (bf.mono fun _ _ e=>.inl e);clear hb b1 bf q4
         cases b
         ·have s:Hid (¬Cz nx d p f):=a9.out fun h=>by have:=HB.out.2 (a7.out.2.1 h);cases this
          go_wp2
          (try rw[Exit.noGoto_ret])
          go_ret;exact⟨false,rfl,⟨fun h=>absurd h (by simp),fun h=>absurd h s.out⟩,bx.out,a1.out⟩
         ·have ai:Hid (Cz nx d p c):=a7.out.2.2 (HB.out.1 rfl);go_wp2
          go_roundg (cs.length-(k+1))
          case measure=>have:=a6.out;omega
          case rel=>exact⟨k+1,rfl,by go_num,by omega,bx,a1,br,fun j hj=>a8.out true ai.out j hj rfl⟩
        ·have ck:decide (rest.length<c.length)=false:=by simpa using h1
         have a5:=Ab (cb.out (ch.out (by omega)));clear h1
         by_cases h2:1<c.length
         ·have cl:decide ((1:Int)<(c.length:Int))=true:=by simp;omega
          have s:Hid (¬Cz nx d p f):=a9.out fun h=>a5.out.1 h (Qm (A:=(·∈f)) af.out.2.2 bk.out af.out.2.1 h2)
          clear h2;go_wp2
          go_quiet (fail)
          go_wp2
          (try rw[Exit.noGoto_ret])
          go_ret;exact⟨false,rfl,⟨fun h=>absurd h (by simp),fun h=>absurd h s.out⟩,aa.out.below (Aj _ _ _),o.out.trans (Af.of_below (Aj _ _ _))⟩
         ·have cl:decide ((1:Int)<(c.length:Int))=false:=by simp;omega
          have a3:c.length=1:=by
           have:c.length≠0:=fun e=>af.out.1 (List.eq_nil_of_length_eq_zero e)
           omega
          have av:0<c.length:=by omega
          have cr:(0:Int)<c.length:=by omega
          obtain⟨bC,oC,u,-,z⟩:=(be.out.below l.out).dat;obtain rfl:=u (by omega);have ev:=z 0 av;rw[D7 av,Nat.add_zero]at ev;have ab:c.getD 0 0<n:=ac.out _ (by rw[Ae _ _ _ av];exact List.getElem_mem av)
          have bd:Hid (c=[c.getD 0 0]):=by
           show _=_
           match c,a3 with
           |[x],_=>rfl
          have q5:=Aa 0 ah.out.r;have q6:=Aa 1 aa.out.now.1;generalize c.getD 0 0=x at*;obtain⟨e7,i7⟩:=aa.out.now.2.2 x ab;obtain⟨aV,cV,b6⟩:=i7.shape;rw[b6]at e7 i7
          have ar:Hid (∀n',Calls Tryz.prog 119 #[.slice aV (nx.getD x []).length cV,.int .i64 (x:Int)] (wr.drewN n') (DZ (.bool (decide ((x:Int)∈nx.getD x []))) (wr.drewN n'))):=fun n'=>Gf _ _ _ _ (i7.below (Aj _ _ _))
          have bn:Hid ((∃a b,a∈c/\b∈c/\EG nx a b)↔(x:Int)∈nx.getD x []):=by
           rw[bd.out];refine⟨fun⟨a,b,ha,hb,he⟩=> ?_,fun h=>⟨x,x,by simp,by simp,h⟩⟩;rw[List.mem_singleton]at ha hb;subst ha hb;exact he
          have c0:(x:Int)<n:=by omega
          have co:bC=bC:=rfl;clear h2 a3 u z b6 i7 co;generalize(nx.getD x []).length=lx at*
          cases hd:decide ((x:Int)∈nx.getD x [])
          ·have ai:Hid (Cz nx d p c):=a5.out.2 fun h=>of_decide_eq_false hd (bn.out.1 h)
           rw[hd]at ar;clear hd;go_wp2
           go_quiet ((go_at_call 119;refine(ar.out _).mono ?_;rintro e w' ⟨rfl,n,rfl⟩;exact⟨rfl,_,by rw[World.drewN_drewN]⟩))
           go_wp2
           go_roundg (cs.length-(k+1))
           case measure=>have:=a6.out;omega
           case rel=>exact⟨k+1,rfl,by go_num,by omega,aa.out.below (Aj _ _ _),o.out.trans (Af.of_below (Aj _ _ _)),ak.out.trans (Af.of_below (Aj _ _ _)),fun j hj=>a8.out true ai.out j hj rfl⟩
          ·have s:Hid (¬Cz nx d p f):=a9.out fun h=>a5.out.1 h (bn.out.2 (of_decide_eq_true hd))
           rw[hd]at ar;clear hd;go_wp2
           go_quiet ((go_at_call 119;refine(ar.out _).mono ?_;rintro e w' ⟨rfl,n,rfl⟩;exact⟨rfl,_,by rw[World.drewN_drewN]⟩))
           go_wp2
           (try rw[Exit.noGoto_ret])
           go_ret;exact⟨false,rfl,⟨fun h=>absurd h (by simp),fun h=>absurd h s.out⟩,aa.out.below (Aj _ _ _),o.out.trans (Af.of_below (Aj _ _ _))⟩
  ·obtain rfl:k=cs.length:=by omega
   have bo:Hid (Cz nx d p f):=(IW HC.out).2 fun c hc=>by
    obtain⟨j,hj,rfl⟩:=List.getElem_of_mem hc;have:=bp.out j hj;rw[Ae _ _ _ hj]at this;exact this
   go_wp2
   (try rw[Exit.noGoto_ret])
   go_ret;exact⟨true,rfl,⟨fun _=>bo.out,fun _=>rfl⟩,ae.out,bb.out⟩
end Go.Proofs.YtncjeamdkjcebaaGreatDoor
