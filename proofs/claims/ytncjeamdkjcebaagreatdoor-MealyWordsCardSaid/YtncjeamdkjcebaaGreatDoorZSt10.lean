/- What the search for components returns. -/
import Derived.Test.YtncjeamdkjcebaaGreatDoorZSt9
set_option linter.all false
set_option maxHeartbeats 8000000
set_option maxRecDepth 100000
namespace Go.Proofs.YtncjeamdkjcebaaGreatDoor
open Go.RowKit
structure JN(E:Nat->Nat->Prop)(A:Nat->Prop)(cs:List (List Nat)):Prop where
 ne:∀c∈cs,c≠[]/\c.Nodup/\∀x∈c,A x
 eq:∀c∈cs,∀x∈c,∀y,A y->(y∈c↔Rch E x y/\Rch E y x)
 al:∀x,A x->∃c∈cs,x∈c
theorem TU(E:Nat->Nat->Prop):Ea E ⟨fun _=>0,fun _=>0,fun _=>0,[],0⟩ []:=
 ⟨List.nodup_nil,fun v=>by simp,List.Pairwise.nil,fun _=>Nat.le_refl _,fun _ _ h=>absurd rfl h,fun _ h=>absurd rfl h,fun _ h=>absurd h (by simp),fun _ _ h=>absurd rfl h,fun _ _ h=>absurd rfl h,fun _ h=>absurd h (by simp),fun _ h=>absurd h (by simp),fun _ h=>absurd h (by simp),fun _ _ h=>absurd rfl h⟩
theorem IQ{E:Nat->Nat->Prop}{t:Tj}(h:Ea E t []):t.stk=[]:=
 List.eq_nil_iff_forall_not_mem.2 fun y hy=>by
  obtain⟨g,hg,-⟩:=h.dn y hy
  cases hg
theorem Pz{E:Nat->Nat->Prop}{n:Nat}{A:Nat->Prop}{t:Tj}{ord stk:List Nat}{opn:List Bool}{cs:List (List Nat)}(hT:Ea E t [])(hR:Rep n A t ord stk opn cs)(hall:∀x,A x->t.prt x≠0):JN E A cs:=by
 refine⟨fun c hc=> ?_,fun c hc x hx y hy=> ?_,fun x hx=>hR.cc x (hall x hx)⟩
 ·obtain⟨h1,h2,r,h3,h4⟩:=hR.cw c hc;refine⟨h1,h2,fun x hx=>hR.op x (hR.in_ord.1 (hT.pn x ?_).1)⟩;rw[(h4 x).1 hx];exact h3
 ·obtain⟨h1,h2,r,h3,h4⟩:=hR.cw c hc;have hxr:=(h4 x).1 hx;rw[h4 y,<-hT.eq x y (by rw[hxr];exact h3) (hall y hy),hxr];exact eq_comm
structure GS(w:World)(gb nb ob n:Nat)(V:Nat->Value)(vp:Value)(prio:List Int)(nx:List (List Int))(opn:List Bool):Prop where
 con:∀W',Ag (fun k=>k=ob\/w.heap.size<=k) w W'->GrC W' gb nb ob n V vp prio nx
 oo:OB w 0 (.slice (some ⟨ob,0,none⟩) n n) opn
 ol:opn.length=n
def KpO(ob:Nat)(w:World)(v:Value)(l:List Int):Prop:=∀W',Ag (fun k=>k=ob\/w.heap.size<=k) w W'->Ai W' v l
section
variable {w W:World} {gb nb ob n:Nat} {V:Nat->Value} {vp v:Value} {prio l:List Int} {nx:List (List Int)} {opn:List Bool}
theorem Qn(ho:Ag (fun k=>k=ob) w W){W':World}(h:Ag (fun k=>k=ob\/W.heap.size<=k) W W'):Ag (fun k=>k=ob\/w.heap.size<=k) w W':=
 (ho.mono fun _ _ e=>.inl e).trans (h.mono fun _ _ e=>e.imp_right fun e=>Nat.le_trans ho.size e)
theorem KpO.step(h:KpO ob w v l)(ho:Ag (fun k=>k=ob) w W):KpO ob W v l:=fun W' hW=>h W' (Qn ho hW)
theorem KpO.is(h:KpO ob w v l):Ai w v l:=h w (Ag.refl _ _)
theorem GS.lt(h:GS w gb nb ob n V vp prio nx opn):ob<w.heap.size:=h.oo.lt' ob rfl
theorem GS.below(h:GS w gb nb ob n V vp prio nx opn)(hb:Below w.heap.size w W):GS W gb nb ob n V vp prio nx opn:=⟨fun W' hW=>h.con W' (Qn (Ag.of_below hb) hW),h.oo.below hb,h.ol⟩
theorem GS.now(h:GS w gb nb ob n V vp prio nx opn):GrC w gb nb ob n V vp prio nx:=h.con w (Ag.refl _ _)
theorem GS.set(h:GS w gb nb ob n V vp prio nx opn)(j:Nat)(b:Bool):GS (w.setCell ⟨ob,j,none⟩ (.bool b)) gb nb ob n V vp prio nx (opn.set j b):=
 ⟨fun W' hW=>h.con W' (Qn (Ag.set ob j _ rfl) hW),h.oo.set h.ol.symm j b,by rw[List.length_set];exact h.ol⟩
theorem GS.oc(h:GS w gb nb ob n V vp prio nx opn){j:Nat}(hj:j<n):w.cell? ⟨ob,j,none⟩=some (.bool (opn.getD j false))/\w.frozen? ⟨ob,j,none⟩=false:=by
 have k:=h.oo;unfold OB at k;rw[h.ol]at k;refine⟨?_,World.ownsRow.frozenAt k j⟩;have:=h.ol;rw[World.ownsRow.cellAt k j (by omega),Af _ _ _ (show j<opn.length by omega)];simp[show j<opn.length by omega]
end
theorem VS.made{w:World}{gb nb ob n zr:Nat}{V:Nat->Value}{vp:Value}{prio:List Int}{nx:List (List Int)}{opn:List Bool}(h:GS w gb nb ob n V vp prio nx opn)(hr:w.heap[zr]? =some (.cells #[.pointer (some ⟨gb,0,none⟩)] 127 (0,0)))(hne:zr≠ob):
  VS ⟨w.heap.size+1+1+1,w.heap.size+1+1,w.heap.size+1,zr,w.heap.size+1+1+1+1,w.heap.size,gb,nb,ob,n,V⟩ (w.heap.size+5)
   (((((w.alloc (.cells #[.slice none 0 0] 23)).alloc (.cells #[.slice none 0 0] 26)).alloc (.map #[] 0)).alloc (.cells #[.map (some (w.heap.size+1+1))] 134)).alloc
    (.cells #[.func (.func 131) #[] #[.pointer (some ⟨w.heap.size+1+1+1,0,none⟩),.pointer (some ⟨w.heap.size+1,0,none⟩),.pointer (some ⟨zr,0,none⟩),.pointer (some ⟨w.heap.size+1+1+1+1,0,none⟩),.pointer (some ⟨w.heap.size,0,none⟩)]] 170))
   vp prio nx [] [] opn [] (.slice none 0 0) (.slice none 0 0) []:=by
 have hlt:=h.lt;have hzl:=(ltE hr);have hn0:=FM.made ((w.alloc (.cells #[.slice none 0 0] 23)).alloc (.cells #[.slice none 0 0] 26));have hn1:=(hn0.kept (AV (Ao (.cells #[.map (some (w.heap.size+1+1))] 134))) (by simp)).kept (AV (Ao (.cells #[.func (.func 131) #[] #[.pointer (some ⟨w.heap.size+1+1+1,0,none⟩),.pointer (some ⟨w.heap.size+1,0,none⟩),.pointer (some ⟨zr,0,none⟩),.pointer (some ⟨w.heap.size+1+1+1+1,0,none⟩),.pointer (some ⟨w.heap.size,0,none⟩)]] 170))) (by simp)
 have hb:Below w.heap.size w (((((w.alloc (.cells #[.slice none 0 0] 23)).alloc (.cells #[.slice none 0 0] 26)).alloc (.map #[] 0)).alloc (.cells #[.map (some (w.heap.size+1+1))] 134)).alloc
    (.cells #[.func (.func 131) #[] #[.pointer (some ⟨w.heap.size+1+1+1,0,none⟩),.pointer (some ⟨w.heap.size+1,0,none⟩),.pointer (some ⟨zr,0,none⟩),.pointer (some ⟨w.heap.size+1+1+1+1,0,none⟩),.pointer (some ⟨w.heap.size,0,none⟩)]] 170)):=(by repeat(first|exact Ad|assumption|apply AD|apply AE))
 have c0:(((((w.alloc (.cells #[.slice none 0 0] 23)).alloc (.cells #[.slice none 0 0] 26)).alloc (.map #[] 0)).alloc (.cells #[.map (some (w.heap.size+1+1))] 134)).alloc
    (.cells #[.func (.func 131) #[] #[.pointer (some ⟨w.heap.size+1+1+1,0,none⟩),.pointer (some ⟨w.heap.size+1,0,none⟩),.pointer (some ⟨zr,0,none⟩),.pointer (some ⟨w.heap.size+1+1+1+1,0,none⟩),.pointer (some ⟨w.heap.size,0,none⟩)]] 170)).heap[w.heap.size]? =some (.cells #[.slice none 0 0] 23 (0,0)):=(by(repeat(rw[Al];first|rw[if_pos (by first|simp;done|simp;omega)]|rw[if_neg (by first|simp;done|simp;omega)]));(try rfl))
 have c1:(((((w.alloc (.cells #[.slice none 0 0] 23)).alloc (.cells #[.slice none 0 0] 26)).alloc (.map #[] 0)).alloc (.cells #[.map (some (w.heap.size+1+1))] 134)).alloc
    (.cells #[.func (.func 131) #[] #[.pointer (some ⟨w.heap.size+1+1+1,0,none⟩),.pointer (some ⟨w.heap.size+1,0,none⟩),.pointer (some ⟨zr,0,none⟩),.pointer (some ⟨w.heap.size+1+1+1+1,0,none⟩),.pointer (some ⟨w.heap.size,0,none⟩)]] 170)).heap[w.heap.size+1]? =some (.cells #[.slice none 0 0] 26 (0,0)):=(by(repeat(rw[Al];first|rw[if_pos (by first|simp;done|simp;omega)]|rw[if_neg (by first|simp;done|simp;omega)]));(try rfl))
 have c3:(((((w.alloc (.cells #[.slice none 0 0] 23)).alloc (.cells #[.slice none 0 0] 26)).alloc (.map #[] 0)).alloc (.cells #[.map (some (w.heap.size+1+1))] 134)).alloc
    (.cells #[.func (.func 131) #[] #[.pointer (some ⟨w.heap.size+1+1+1,0,none⟩),.pointer (some ⟨w.heap.size+1,0,none⟩),.pointer (some ⟨zr,0,none⟩),.pointer (some ⟨w.heap.size+1+1+1+1,0,none⟩),.pointer (some ⟨w.heap.size,0,none⟩)]] 170)).heap[w.heap.size+1+1+1]? =some (.cells #[.map (some (w.heap.size+1+1))] 134 (0,0)):=(by(repeat(rw[Al];first|rw[if_pos (by first|simp;done|simp;omega)]|rw[if_neg (by first|simp;done|simp;omega)]));(try rfl))
 have c4:(((((w.alloc (.cells #[.slice none 0 0] 23)).alloc (.cells #[.slice none 0 0] 26)).alloc (.map #[] 0)).alloc (.cells #[.map (some (w.heap.size+1+1))] 134)).alloc
    (.cells #[.func (.func 131) #[] #[.pointer (some ⟨w.heap.size+1+1+1,0,none⟩),.pointer (some ⟨w.heap.size+1,0,none⟩),.pointer (some ⟨zr,0,none⟩),.pointer (some ⟨w.heap.size+1+1+1+1,0,none⟩),.pointer (some ⟨w.heap.size,0,none⟩)]] 170)).heap[w.heap.size+1+1+1+1]? =some (.cells #[.func (.func 131) #[] #[.pointer (some ⟨w.heap.size+1+1+1,0,none⟩),.pointer (some ⟨w.heap.size+1,0,none⟩),.pointer (some ⟨zr,0,none⟩),.pointer (some ⟨w.heap.size+1+1+1+1,0,none⟩),.pointer (some ⟨w.heap.size,0,none⟩)]] 170 (0,0)):=(by(repeat(rw[Al];first|rw[if_pos (by first|simp;done|simp;omega)]|rw[if_neg (by first|simp;done|simp;omega)]));(try rfl))
 have hsz:(((((w.alloc (.cells #[.slice none 0 0] 23)).alloc (.cells #[.slice none 0 0] 26)).alloc (.map #[] 0)).alloc (.cells #[.map (some (w.heap.size+1+1))] 134)).alloc
    (.cells #[.func (.func 131) #[] #[.pointer (some ⟨w.heap.size+1+1+1,0,none⟩),.pointer (some ⟨w.heap.size+1,0,none⟩),.pointer (some ⟨zr,0,none⟩),.pointer (some ⟨w.heap.size+1+1+1+1,0,none⟩),.pointer (some ⟨w.heap.size,0,none⟩)]] 170)).heap.size=w.heap.size+5:=by simp
 rw[show((w.alloc (.cells #[.slice none 0 0] 23)).alloc (.cells #[.slice none 0 0] 26)).heap.size=w.heap.size+1+1 by simp]at hn1;clear hn0
 generalize(((((w.alloc (.cells #[.slice none 0 0] 23)).alloc (.cells #[.slice none 0 0] 26)).alloc (.map #[] 0)).alloc (.cells #[.map (some (w.heap.size+1+1))] 134)).alloc
    (.cells #[.func (.func 131) #[] #[.pointer (some ⟨w.heap.size+1+1+1,0,none⟩),.pointer (some ⟨w.heap.size+1,0,none⟩),.pointer (some ⟨zr,0,none⟩),.pointer (some ⟨w.heap.size+1+1+1+1,0,none⟩),.pointer (some ⟨w.heap.size,0,none⟩)]] 170))=W at*
 exact
 {con:=fun W' hW=>by
   have hne2:∀k,k<w.heap.size+5->k≠w.heap.size->k≠w.heap.size+1->k≠w.heap.size+1+1->k≠ob->W'.heap[k]? =W.heap[k]? :=fun k h0 h1 h2 h3 h4=>hW.block k (by omega) (by
    rintro(e|e|e|e|e|e|e)
    ·exact h3 e
    ·exact h2 e
    ·exact h1 e
    ·exact h4 e
    ·cases e
    ·cases e
    ·omega)
   refine⟨(hne2 _ (by show _+1+1+1<_;omega) (by show _+1+1+1≠_;omega) (by show _+1+1+1≠_;omega) (by show _+1+1+1≠_;omega) (by show _+1+1+1≠_;omega)).trans c3,(hne2 zr (by omega) (by omega) (by omega) (by omega) hne).trans ((hb.block _ hzl).trans hr),(hne2 _ (by show _+1+1+1+1<_;omega) (by show _+1+1+1+1≠_;omega) (by show _+1+1+1+1≠_;omega) (by show _+1+1+1+1≠_;omega) (by show _+1+1+1+1≠_;omega)).trans c4, ?_,fun j hj=>absurd hj (by simp)⟩;refine h.con W' ((Ag.of_below hb).trans (hW.mono fun k _ hk=> ?_))
   rcases hk with e|e|e|e|e|e|e
   ·right;rw[e];show _<=_+1+1;omega
   ·right;rw[e];show _<=_+1;omega
   ·right;rw[e];exact Nat.le_refl _
   ·exact .inl e
   ·cases e
   ·cases e
   ·right;omega
  num:=hn1
  bs:=c1
  os:=BC _ _
  ba:=c0
  oa:=World.ownsRow_nil _ _ _ _
  oo:=h.oo.below hb
  ap:=fun k hk=>by cases hk
  lt:=⟨by show _+1+1<_;omega,by show _+1<_;omega,by show w.heap.size<_;omega,by show ob<_;omega⟩
  ne:=⟨by show _+1+1≠_+1;omega,by show w.heap.size+1+1≠w.heap.size;omega,by show _+1+1≠ob;omega,by show w.heap.size+1≠w.heap.size;omega,by show _+1≠ob;omega,by show w.heap.size≠ob;omega⟩
  hB:=by omega}
theorem Ko(W:World)(n:Nat):(Instr.makeMap 134 (some (.int .i64 (n:Int)))).run Tryz.prog W=.ok (.map (some W.heap.size)) (W.alloc (.map #[] 0)):=by
 simp[Instr.makeMap,run_underlying Tryz.underlying134,asInt,asIntOf,Result.andThen]
theorem MJ{w:World}{b e sz n c:Nat}{a:Option Addr}{l:List Value}(h:w.ownsRow b e sz (.slice a n c) n l):∃g,0<n->a=some ⟨g,0,none⟩:=by
 rcases h.2 with⟨_,h0⟩|⟨g,cap,cur,hv,_⟩
 ·exact⟨0,fun h=>absurd h (by omega)⟩
 ·injection hv with h1 h2 h3
  exact⟨g,fun _=>h1⟩
def M9(w:World)(gb nb ob n:Nat)(V:Nat->Value)(vp:Value)(prio:List Int)(nx:List (List Int))(part:List Nat)(e:Ending)(w':World):Prop:=
 ∃(a:Option Addr)(cap b:Nat)(U:Nat->Value)(cs:List (List Nat)),e=.returned (.slice a cs.length cap)/\(0<cs.length->a=some ⟨b,0,none⟩)/\cs.length<=3000/\
  (∀W',Ag (fun k=>k=ob\/w'.heap.size<=k) w' W'->∀j,j<cs.length->W'.cell? ⟨b,j,none⟩=some (U j)/\Ai W' (U j) (AX (cs.getD j [])))/\
  GS w' gb nb ob n V vp prio nx (List.replicate n false)/\Ag (fun k=>k=ob) w w'/\JN (EP (·∈part) nx) (·∈part) cs
theorem J6(w:World)(gb nb ob n:Nat)(V:Nat->Value)(vp vl:Value)(prio:List Int)(nx:List (List Int))(part:List Nat)(hS:GS w gb nb ob n V vp prio nx (List.replicate n false))(hl:KpO ob w vl (AX part))(hx:GX n nx (·∈part)):
  Calls Tryz.prog 118 #[.pointer (some ⟨gb,0,none⟩),vl] w (M9 w gb nb ob n V vp prio nx part):=by
 obtain⟨aL,cL,hvl⟩:=hl.is.shape;rw[AR]at hvl;subst hvl
 have hmm:=fun W=>Ko W part.length
 have HX:=Ab hx;have hn3:=hx.n3;have HK:=Ab hl;have hz:=hS.lt;have hob:ob<w.heap.size:=hS.lt;have hb1:=Ao (w:=w) (.cells #[.pointer (some ⟨gb,0,none⟩)] 127);have HS1:=Ab (hS.below hb1);have HK1:Hid (KpO ob (w.alloc (.cells #[.pointer (some ⟨gb,0,none⟩)] 127)) (.slice aL part.length cL) (AX part)):=hl.step (Ag.of_below hb1);have HB1:Hid (Ag (fun k=>k=ob) w (w.alloc (.cells #[.pointer (some ⟨gb,0,none⟩)] 127))):=Ag.of_below hb1;have HR1:Hid ((w.alloc (.cells #[.pointer (some ⟨gb,0,none⟩)] 127)).heap[w.heap.size]? =some (.cells #[.pointer (some ⟨gb,0,none⟩)] 127 (0,0))):=heap_alloc_new _ _;clear hS hx hl hb1 hz
 go_enter Tryz.func118,Tryz.ntmps118
 go_wp2;generalize w.alloc (.cells #[.pointer (some ⟨gb,0,none⟩)] 127)=w1 at*
 have hpl:part.length<=140737488351232:=by
  have:=HK1.out.is;have h2:=this.1;obtain⟨_,_,_,h,_⟩:=this.dat;exact h
 go_loopg [15] part.length (fun gh i wr=>∃(k:Nat)(opn:List Bool),gh=part.length-k/\i=.int .i64 k/\k<=part.length/\Hid (GS wr gb nb ob n V vp prio nx opn)/\Hid (Ag (fun k=>k=ob) w1 wr)/\Hid (∀x,x<n->(opn.getD x false=true↔x∈part.take k)))
 case atStart=>exact⟨0,_,rfl,rfl,by omega,HS1,Ag.refl _ _,fun x hx=>by simp[List.getD,hx]⟩
 case round=>
  obtain⟨k,opn,hgk,rfl,hk,HSr,HOr,HIn⟩:=hrel;have HGK:=Ab hgk;clear hgk HS1;have q1:=Aa 0 ((HOr.out.block _ (Array.getElem?_eq_some_iff.1 HR1.out).1 (by omega)).trans HR1.out)
  by_cases hlt:k<part.length
  ·have hi:=HK1.out.step HOr.out|>.is;obtain⟨bL,oL,had,-,hdt⟩:=hi.dat;obtain rfl:=had (by omega);have ev:=hdt k hlt;rw[DD hlt]at ev
   have hmem:part.getD k 0∈part:=by rw[Af _ _ _ hlt];exact List.getElem_mem hlt
   have hvn:=HX.out.pn _ hmem
   have HTk:Hid (part.take (k+1)=part.take k++[part.getD k 0]):=by show _=_;rw[List.take_succ_eq_append_getElem hlt,Af _ _ _ hlt]
   generalize part.getD k 0=v at*;have q2:=Aa 2 HSr.out.now.1;obtain⟨o1,o2⟩:=HSr.out.oc hvn;have HSn:=Ab (HSr.out.set v true);have HON:Hid (opn.length=n):=HSr.out.ol;clear had hdt hi hmem;go_wp2
   go_roundg (part.length-(k+1))
   case measure=>have:=HGK.out;omega
   case rel=>
    refine⟨k+1,_,rfl,by go_num,by omega,HSn,HOr.out.trans (Ag.set ob v _ rfl),fun x hx=> ?_⟩;rw[HTk.out,List.mem_append,List.mem_singleton]
    by_cases e:v=x
    ·subst e;rw[AA _ _ _ _ (by rw[HON.out];exact hx)];simp
    ·rw[AJ _ _ _ _ _ e,HIn.out x hx];exact⟨.inl,fun h=>h.resolve_right fun k=>e k.symm⟩
  ·obtain rfl:k=part.length:=by omega
   rw[List.take_length]at HIn;have HV:=Ab (VS.made HSr.out ((HOr.out.block _ (Array.getElem?_eq_some_iff.1 HR1.out).1 (by omega)).trans HR1.out) (by omega));have hb0:Below wr.heap.size wr (((((wr.alloc (.cells #[.slice none 0 0] 23)).alloc (.cells #[.slice none 0 0] 26)).alloc (.map #[] 0)).alloc (.cells #[.map (some (wr.heap.size+1+1))] 134)).alloc (.cells #[.func (.func 131) #[] #[.pointer (some ⟨wr.heap.size+1+1+1,0,none⟩),.pointer (some ⟨wr.heap.size+1,0,none⟩),.pointer (some ⟨w.heap.size,0,none⟩),.pointer (some ⟨wr.heap.size+1+1+1+1,0,none⟩),.pointer (some ⟨wr.heap.size,0,none⟩)]] 170)):=(by repeat(first|exact Ad|assumption|apply AD|apply AE));have HKo:Hid (∀W',Ag (fun k=>k=ob\/wr.heap.size<=k) wr W'->Ai W' (.slice aL part.length cL) (AX part)):=HK1.out.step HOr.out;have HB0:Hid (Ag (fun k=>k=ob\/wr.heap.size<=k) wr (((((wr.alloc (.cells #[.slice none 0 0] 23)).alloc (.cells #[.slice none 0 0] 26)).alloc (.map #[] 0)).alloc (.cells #[.map (some (wr.heap.size+1+1))] 134)).alloc (.cells #[.func (.func 131) #[] #[.pointer (some ⟨wr.heap.size+1+1+1,0,none⟩),.pointer (some ⟨wr.heap.size+1,0,none⟩),.pointer (some ⟨w.heap.size,0,none⟩),.pointer (some ⟨wr.heap.size+1+1+1+1,0,none⟩),.pointer (some ⟨wr.heap.size,0,none⟩)]] 170))):=Ag.of_below hb0;have HOw:Hid (Ag (fun k=>k=ob) w wr):=HB1.out.trans HOr.out
   have HWz:Hid (w.heap.size<wr.heap.size):=by
    have h1:=(Array.getElem?_eq_some_iff.1 HR1.out).1;have h2:=HOr.out.size;show _<_;omega
   have HRep:Hid (Rep n (·∈part) ⟨fun _=>0,fun _=>0,fun _=>0,[],0⟩ [] [] opn []):=by
    refine⟨fun v=>by simp,rfl,rfl,List.nodup_nil,fun v hv=>absurd hv (by simp),HSr.out.ol,fun v hv=> ?_,fun c hc=>absurd hc (by simp),fun v hv=>absurd rfl hv⟩;rw[HIn.out v hv];simp
   clear hb0 q1;go_wp2;generalize(((((wr.alloc (.cells #[.slice none 0 0] 23)).alloc (.cells #[.slice none 0 0] 26)).alloc (.map #[] 0)).alloc (.cells #[.map (some (wr.heap.size+1+1))] 134)).alloc (.cells #[.func (.func 131) #[] #[.pointer (some ⟨wr.heap.size+1+1+1,0,none⟩),.pointer (some ⟨wr.heap.size+1,0,none⟩),.pointer (some ⟨w.heap.size,0,none⟩),.pointer (some ⟨wr.heap.size+1+1+1+1,0,none⟩),.pointer (some ⟨wr.heap.size,0,none⟩)]] 170))=W0 at*;obtain⟨wo,hwo⟩:∃wo:World,wo=wr:=⟨_,rfl⟩;rw[<-hwo]at HKo HB0 HOw;have HWO:=Ab hwo;generalize hsz:wr.heap.size=sz at*;rw[<-hwo]at hsz;have HSZ:=Ab hsz;rw[hsz]at HKo HB0;clear hwo hsz;obtain⟨D,hD⟩:∃D:Va,D=⟨sz+1+1+1,sz+1+1,sz+1,w.heap.size,sz+1+1+1+1,sz,gb,nb,ob,n,V⟩:=⟨_,rfl⟩;rw[<-hD]at HV
   have HDD:Hid (D.n=n/\D.ob=ob/\D.gb=gb/\D.nb=nb/\D.V=V/\D.zr=w.heap.size/\D.zv=sz+1+1+1+1/\D.za=sz/\D.zs=sz+1/\D.mb=sz+1+1):=by rw[hD];exact⟨rfl,rfl,rfl,rfl,rfl,rfl,rfl,rfl,rfl,rfl⟩
   have HX2:Hid (GX D.n nx (·∈part)):=HDD.out.1▸HX.out
   have HDf:Hid (D.fn=.func (.func 131) #[] #[.pointer (some ⟨sz+1+1+1,0,none⟩),.pointer (some ⟨sz+1,0,none⟩),.pointer (some ⟨w.heap.size,0,none⟩),.pointer (some ⟨sz+1+1+1+1,0,none⟩),.pointer (some ⟨sz,0,none⟩)]):=by rw[hD];rfl
   have hDn:D.zo=sz+1+1+1:=by rw[hD]
   have HVis:Hid (∀(w2:World)(t:Tj)(ord:List Nat)(opn:List Bool)(cs:List (List Nat))(vs va:Value)(vals:List Value)(v:Nat),cs.length<=ord.length->VS D (sz+5) w2 vp prio nx ord [] opn cs vs va vals->Rep D.n (·∈part) t ord [] opn cs->Ea (EP (·∈part) nx) t []->v∉ord->v∈part->
     Calls Tryz.prog 131 #[.int .i64 (v:Int),.pointer (some ⟨sz+1+1+1,0,none⟩),.pointer (some ⟨sz+1,0,none⟩),.pointer (some ⟨w.heap.size,0,none⟩),.pointer (some ⟨sz+1+1+1+1,0,none⟩),.pointer (some ⟨sz,0,none⟩)] w2 (Tr D (sz+5) w2 vp prio nx (·∈part) t vs va v [])):=fun w2 t ord opn cs vs va vals v h0 h1 h2 h3 h4 h5=>by
    have h:=R5 (sz+5) D vp prio nx (·∈part) HX2.out (D.n-ord.length+1) w2 t ord [] opn cs vs va vals [] v (by omega) (by simpa using h0) h1 h2 h3 h4 h5 (fun g hg=>absurd hg (by simp));obtain⟨-,-,-,-,-,e1,e2,e3,e4,-⟩:=HDD.out;rw[hDn,e1,e2,e3,e4]at h;exact h
   clear hD hDn
   go_loopg [32] part.length (fun gh i wr=>∃(k:Nat)(t:Tj)(ord:List Nat)(opn:List Bool)(cs:List (List Nat))(vs va:Value)(vals:List Value),gh=part.length-k/\i=.int .i64 k/\k<=part.length/\Hid (cs.length<=ord.length)/\Hid (VS D (sz+5) wr vp prio nx ord [] opn cs vs va vals)/\Hid (Rep D.n (·∈part) t ord [] opn cs)/\
    Hid (Ea (EP (·∈part) nx) t [])/\Hid (VMv D W0 (.slice none 0 0) (.slice none 0 0) wr vs va)/\Hid (∀x∈part.take k,t.prt x≠0))
   case atStart=>exact⟨0,_,[],opn,[],_,_,_,rfl,rfl,by omega,Nat.le_refl _,HV,by rw[HDD.out.1];exact HRep,TU _,VMv.refl _ _ _ _,fun x hx=>absurd hx (by simp)⟩
   case round=>
    clear HV HRep HSr HOr HIn;obtain⟨k,t,ord,opn,cs,vs,va,vals,hgk,rfl,hk,HC,HSr,HRr,HTr,HMv,HPr⟩:=hrel;have HGK:=Ab hgk;clear hgk
    have HOb:Hid (Ag (fun k=>k=ob\/sz<=k) wo wr):=HB0.out.trans (HMv.out.ho.mono fun q _ hq=>by
     obtain⟨-,e0,-,-,-,-,-,e3,e4,e5⟩:=HDD.out
     have hw0:sz<=W0.heap.size:=by have:=HB0.out.size;rw[HSZ.out]at this;exact this
     rcases hq with e|e|e|e|e|e|e
     ·right;omega
     ·right;omega
     ·right;omega
     ·left;omega
     ·cases e
     ·cases e
     ·right;omega)
    have cn:=HSr.out.now;have ho64:=HRr.out.len HX2.out.pn;rw[HDD.out.1]at ho64
    by_cases hlt:k<part.length
    ·have hi:=HKo.out wr HOb.out;obtain⟨bL,oL,had,-,hdt⟩:=hi.dat;obtain rfl:=had (by omega);have ev:=hdt k hlt;rw[DD hlt]at ev
     have hmem:part.getD k 0∈part:=by rw[Af _ _ _ hlt];exact List.getElem_mem hlt
     have hvn:=HX.out.pn _ hmem
     have HTk:Hid (part.take (k+1)=part.take k++[part.getD k 0]):=by show _=_;rw[List.take_succ_eq_append_getElem hlt,Af _ _ _ hlt]
     have HMem:=Ab hmem;generalize part.getD k 0=v at*;have q1:=Aa 0 cn.r;have q2:=Aa 2 cn.g.1;have q4:=Aa 0 cn.v;obtain⟨o1,-⟩:=HSr.out.oc HRr.out.on (j:=v) (by rw[HDD.out.1];exact hvn);have hoi:=HRr.out.oi v (by rw[HDD.out.1];exact hvn);rw[HDf.out]at q4;obtain⟨e1,e2,e3,-,-,e4,e5,-,-,-⟩:=HDD.out;rw[e4,e3]at q1;rw[e3,e2,e1]at q2;rw[e2]at o1;rw[e5]at q4;have HOI:=Ab hoi;clear hoi e1 e2 e3 e4 e5 cn had hdt hi hmem
     cases hq:opn.getD v false
     ·have HPn:Hid (∀x∈part.take (k+1),t.prt x≠0):=by
       intro x hx;rw[HTk.out,List.mem_append,List.mem_singleton]at hx
       rcases hx with hx|rfl
       ·exact HPr.out x hx
       ·intro e;have:=HOI.out.2 ⟨HMem.out,e⟩;rw[hq]at this;cases this
      rw[hq]at o1;clear hq;go_wp2
      go_roundg (part.length-(k+1))
      case measure=>have:=HGK.out;omega
      case rel=>exact⟨k+1,t,_,_,_,_,_,_,rfl,by go_num,by omega,HC,HSr,HRr,HTr,HMv,HPn⟩
     ·have hno:v∉ord:=fun hv=>by
       have h1:=(HTr.out.st v).2 ⟨HRr.out.in_ord.2 hv,(HOI.out.1 hq).2⟩;rw[IQ HTr.out]at h1
       cases h1
      have HNO:=Ab hno;rw[hq]at o1;clear hq hno
      go_wp2_with fail
      refine(HVis.out wr t ord opn cs vs va vals v HC.out HSr.out HRr.out HTr.out HNO.out HMem.out).mono ?_;rintro e w7 ⟨lw,t2,ord2,stk2,opn2,cs2,vs2,va2,vals2,rfl,hl2,hc2,hS2,hR2,hP2,hV2⟩
      have hs0:stk2=[]:=by rw[<-hR2.sk];exact IQ hP2.po.inv
      subst hs0
      have HPn:Hid (∀x∈part.take (k+1),t2.prt x≠0):=by
       intro x hx;rw[HTk.out,List.mem_append,List.mem_singleton]at hx
       rcases hx with hx|rfl
       ·rw[hP2.po.ext.pr x (HPr.out x hx)];exact HPr.out x hx
       ·intro e;have h1:=(hP2.po.inv.st x).2 ⟨hP2.po.nz,e⟩;rw[IQ hP2.po.inv]at h1
        cases h1
      have hc2':cs2.length<=ord2.length:=by simpa using hc2
      have HC2:=Ab hc2';have HS2:=Ab hS2;have HR2:=Ab hR2;have HT2:=Ab hP2.po.inv;have HM2:=Ab (HMv.out.trans hV2);clear hl2 hc2 hc2' hS2 hR2 hP2 hV2 q1 q2 q4 o1 ev;go_wp2
      go_roundg (part.length-(k+1))
      case measure=>have:=HGK.out;omega
      case rel=>exact⟨k+1,t2,_,_,_,_,_,_,rfl,by go_num,by omega,HC2,HS2,HR2,HT2,HM2,HPn⟩
    ·obtain rfl:k=part.length:=by omega
     rw[List.take_length]at HPr;obtain⟨aA,cA,rfl⟩:=AU HSr.out.oa;obtain⟨gA,hgA⟩:=MJ HSr.out.oa;have HGA:=Ab hgA;have z7:=Aa 0 HSr.out.ba;rw[HDD.out.2.2.2.2.2.2.2.1]at z7
     have HFin:Hid (M9 w gb nb ob n V vp prio nx part (.returned (.slice aA cs.length cA)) wr):=by
      obtain⟨e1,e2,e3,e6,e7,-⟩:=HDD.out
      have hopn:opn=List.replicate n false:=by
       have hl:=HRr.out.on;rw[e1]at hl
       apply List.ext_getElem (by simp[hl])
       intro x h1 h2
       have hx:x<n:=by rw[hl]at h1;exact h1
       have:=HRr.out.oi x (by rw[e1];exact hx);rw[Af _ _ _ h1]at this;rw[List.getElem_replicate]
       cases hb:opn[x]
       ·rfl
       ·have h3:=this.1 hb;exact absurd h3.2 (HPr.out x h3.1)
      have hmono:∀q,(q=ob\/wr.heap.size<=q)->D8 D vs (.slice aA cs.length cA) wr.heap.size q:=fun q hq=>hq.elim (fun e=>.inr (.inr (.inr (.inl (by rw[e2];exact e))))) fun e=>.inr (.inr (.inr (.inr (.inr (.inr e)))))
      have hlt:=HSr.out.lt;refine⟨aA,cA,gA,fun j=>vals.getD j undef,cs,rfl,HGA.out,by have:=HC.out;have:=HX.out.n3;omega,fun W' hW j hj=>⟨?_,(HSr.out.con W' (hW.mono fun q _ hq=>hmono q hq)).c j hj⟩,⟨fun W' hW=> ?_, ?_,by simp⟩,HOw.out.trans (HOb.out.mono fun q hq hk=>hk.resolve_right (by have:=HSZ.out;omega)),Pz HTr.out HRr.out HPr.out⟩
      ·have hoa:=Ax HSr.out.oa hW fun q hq hk=>by
        have:=HSr.out.age q hq
        rcases hk with e|e
        ·omega
        ·omega
       have hga:=HGA.out (by omega);subst hga
       have hl:vals.length=cs.length:=by have:=HSr.out.oa.1;simpa using this
       rw[World.ownsRow.cellAt hoa j (by omega)];show _=some (vals.getD j undef);rw[Af _ _ _ (show j<vals.length by omega)];simp[show j<vals.length by omega]
      ·have:=(HSr.out.con W' (hW.mono fun q _ hq=>hmono q hq)).g;rw[e1,e2,e3,e6,e7]at this;exact this
      ·rw[<-hopn];have:=HSr.out.oo;rw[e1,e2]at this;exact this
     clear cn hgA;go_wp2;go_ret;exact HFin.out
end Go.Proofs.YtncjeamdkjcebaaGreatDoor
namespace Go.Proofs.YtncjeamdkjcebaaGreatDoor
def EG(nx:List (List Int))(x y:Nat):Prop:=(y:Int)∈nx.getD x []
def prF(prio:List Int)(v:Nat):Int:=prio.getD v 0
def Gl(prio:List Int)(p:Int)(v:Nat):Prop:=prF prio v%2≠p
instance Ty(prio:List Int)(p:Int)(v:Nat):Decidable (Gl prio p v):=by unfold Gl;infer_instance
def I1:Int:=9223372036854775807
def CS(prio:List Int)(p:Int)(l:List Nat):Int:=l.foldl (fun m v=>if Gl prio p v then min m (prF prio v)else m) I1
theorem Je(prio:List Int)(p:Int)(l:List Nat)(v:Nat):CS prio p (l++[v])=if Gl prio p v then min (CS prio p l) (prF prio v)else CS prio p l:=by
 unfold CS;rw[List.foldl_append];rfl
theorem QE{α:Type}{P:List α->Prop}(h0:P [])(h1:∀l a,P l->P (l++[a]))(l:List α):P l:=by
 have:∀r:List α,P r.reverse:=fun r=>by
  induction r with
  |nil=>exact h0
  |cons a r ih=>rw[List.reverse_cons];exact h1 _ _ ih
 have h:=this l.reverse
 rwa [List.reverse_reverse]at h
theorem Fl(prio:List Int)(p:Int)(l:List Nat):(∀v∈l,Gl prio p v->CS prio p l<=prF prio v)/\((CS prio p l=I1/\∀v∈l,¬Gl prio p v)\/∃v∈l,Gl prio p v/\(CS prio p l=prF prio v\/CS prio p l=I1))/\CS prio p l<=I1:=by
 refine QE (P:=fun l=>(∀v∈l,Gl prio p v->CS prio p l<=prF prio v)/\((CS prio p l=I1/\∀v∈l,¬Gl prio p v)\/∃v∈l,Gl prio p v/\(CS prio p l=prF prio v\/CS prio p l=I1))/\CS prio p l<=I1) ?_ ?_ l
 ·exact⟨fun v hv=>absurd hv (by simp),.inl ⟨rfl,fun v hv=>absurd hv (by simp)⟩,Int.le_refl _⟩
 ·intro l v ih;obtain⟨h1,h2,h3⟩:=ih;rw[Je]
  by_cases hb:Gl prio p v
  ·rw[if_pos hb];refine⟨fun x hx hbx=> ?_,.inr ?_,by omega⟩
   ·rcases List.mem_append.1 hx with h|h
    ·have:=h1 x h hbx;omega
    ·rw[List.mem_singleton.1 h];omega
   ·by_cases hm:CS prio p l<=prF prio v
    ·rcases h2 with⟨h4,h5⟩|⟨y,hy,h4,h5⟩
     ·exact⟨v,by simp,hb,.inr (by omega)⟩
     ·refine⟨y,List.mem_append_left _ hy,h4, ?_⟩
      rcases h5 with e|e
      ·left;omega
      ·right;omega
    ·exact⟨v,by simp,hb,.inl (by omega)⟩
  ·rw[if_neg hb];refine⟨fun x hx hbx=> ?_, ?_,h3⟩
   ·rcases List.mem_append.1 hx with h|h
    ·exact h1 x h hbx
    ·rw[List.mem_singleton.1 h]at hbx;exact absurd hbx hb
   ·rcases h2 with⟨h4,h5⟩|⟨y,hy,h4,h5⟩
    ·refine .inl ⟨h4,fun x hx=> ?_⟩
     rcases List.mem_append.1 hx with h|h
     ·exact h5 x h
     ·rw[List.mem_singleton.1 h];exact hb
    ·exact .inr ⟨y,List.mem_append_left _ hy,h4,h5⟩
def Cj(prio:List Int)(m:Int)(l:List Nat):List Nat:=l.filter fun v=>decide (m<=prF prio v)
theorem MV(prio:List Int)(m:Int)(l:List Nat)(v:Nat):Cj prio m (l++[v])=if m<=prF prio v then Cj prio m l++[v]else Cj prio m l:=by
 unfold Cj;rw[List.filter_append]
 by_cases h:m<=prF prio v<;>simp[h]
theorem G6{prio:List Int}{m:Int}{l:List Nat}{v:Nat}:v∈Cj prio m l↔v∈l/\m<=prF prio v:=by
 unfold Cj;rw[List.mem_filter];simp
theorem JD(prio:List Int)(m:Int)(l:List Nat):(Cj prio m l).length<=l.length:=List.length_filter_le _ _
theorem MU{prio:List Int}{m:Int}{l:List Nat}(h:(Cj prio m l).length=l.length):∀v∈l,m<=prF prio v:=fun v hv=>by
 have:=(List.length_filter_eq_length_iff.1 h) v hv;simpa using this
def Cs(nx:List (List Int))(prio:List Int)(p:Int)(l:List Nat):Prop:=Fw (EG nx) (prF prio) (Gl prio p) (·∈l)
section
variable {nx:List (List Int)} {prio:List Int} {p:Int}
theorem N9{c:List Nat}(h:Cj prio (CS prio p c) c=[]):Cs nx prio p c:=fun i hi hb=>by
 exfalso
 have h1:=(Fl prio p c).1 i hi hb;have:i∈Cj prio (CS prio p c) c:=G6.2 ⟨hi,h1⟩;rw[h]at this;cases this
theorem Oa(c:List Nat):Cs nx prio p c↔Cs nx prio p (Cj prio (CS prio p c) c):=by
 unfold Cs;rw[Fw.rest (m:=CS prio p c) (fun i hi hb=>(Fl prio p c).1 i hi hb)]
 have e:(fun x=>x∈c/\CS prio p c<=prF prio x)=(fun x=>x∈Cj prio (CS prio p c) c):=funext fun x=>propext G6.symm
 rw[e]
theorem KW{E:Nat->Nat->Prop}{A C:Nat->Prop}{x z:Nat}(hC:∀y,A y->(C y↔Rch (In E A) x y/\Rch (In E A) y x))(h:Rch (In E A) x z)(hz:Rch (In E A) z x):Rch (In E C) x z:=by
 induction h with
 |refl=>exact Rch.refl _
 |step h e ih=>
  rename_i y z;have hy:Rch (In E A) y x:=(Rch.one e).trans hz;refine(ih hy).step ⟨(hC y e.1).2 ⟨h,hy⟩,(hC z e.2.1).2 ⟨h.step e,hz⟩,e.2.2⟩
theorem N8{A:Nat->Prop}{c:List Nat}(hA:∀x∈c,A x)(hC:∀x∈c,∀y,A y->(y∈c↔Rch (In (EG nx) A) x y/\Rch (In (EG nx) A) y x))(hne:c≠[])(hp:∀x∈c,prF prio x<I1)(h:∀v∈c,CS prio p c<=prF prio v):
  Cs nx prio p c↔¬∃x y,x∈c/\y∈c/\EG nx x y:=by
 obtain⟨h1,h2,-⟩:=Fl prio p c;obtain⟨x0,hx0⟩:=List.exists_mem_of_ne_nil c hne;have h3:=h x0 hx0;have h4:=hp x0 hx0
 obtain⟨i,hi,hb,he⟩:∃i∈c,Gl prio p i/\CS prio p c=prF prio i:=by
  rcases h2 with⟨h5,-⟩|⟨i,hi,hb,he|he⟩
  ·omega
  ·exact⟨i,hi,hb,he⟩
  ·omega
 refine Fw.none (C:=(·∈c)) hi hb (fun x hx=>by have:=h x hx;omega) fun x y hx hy=> ?_
 obtain⟨k1,k2⟩:=(hC x hx y (hA y hy)).1 hy;exact KW (C:=(·∈c)) (hC x hx) k1 k2
theorem OA{E:Nat->Nat->Prop}{x y:Nat}(h:Rch E x y)(hne:x≠y):∃z,E x z:=by
 induction h with
 |refl=>exact absurd rfl hne
 |step h e ih=>
  rename_i z _
  by_cases hx:x=z
  ·subst hx;exact⟨_,e⟩
  ·exact ih hx
theorem PO{A:Nat->Prop}{c:List Nat}(hA:∀x∈c,A x)(hC:∀x∈c,∀y,A y->(y∈c↔Rch (In (EG nx) A) x y/\Rch (In (EG nx) A) y x))(hnd:c.Nodup)(hl:1<c.length):∃x y,x∈c/\y∈c/\EG nx x y:=by
 match c,hl with
 |x::y::r,_=>
  have hxy:x≠y:=fun e=>by
   subst e;simp at hnd
  have hx:x∈x::y::r:=by simp
  have hy:y∈x::y::r:=by simp
  obtain⟨k1,k2⟩:=(hC x hx y (hA y hy)).1 hy;obtain⟨z,hz⟩:=OA (KW (C:=(·∈x::y::r)) (hC x hx) k1 k2) hxy;exact⟨x,z,hz.1,hz.2.1,hz.2.2⟩
theorem Im{part:List Nat}{cs:List (List Nat)}(h:JN (EP (·∈part) nx) (·∈part) cs):Cs nx prio p part↔∀c∈cs,Cs nx prio p c:=by
 refine⟨fun hg c hc=>Fw.sub hg fun x hx=>(h.ne c hc).2.2 x hx,fun hg=> ?_⟩
 refine Fw.comps fun C hCA hCe ⟨x,hx⟩=> ?_
 obtain⟨c,hc,hxc⟩:=h.al x (hCA x hx)
 have e:C=(·∈c):=funext fun y=>propext ⟨fun hy=> ?_,fun hy=> ?_⟩
 ·rw[e];exact hg c hc
 ·exact(h.eq c hc x hxc y (hCA y hy)).2 ((hCe x y hx (hCA y hy)).1 hy)
 ·have hyA:=(h.ne c hc).2.2 y hy;exact(hCe x y hx hyA).2 ((h.eq c hc x hxc y hyA).1 hy)
end
end Go.Proofs.YtncjeamdkjcebaaGreatDoor
namespace Go.Proofs.YtncjeamdkjcebaaGreatDoor
open Go.RowKit
structure Ck(w:World)(zr zp zc gb ob:Nat)(p:Int):Prop where
 r:w.heap[zr]? =some (.cells #[.pointer (some ⟨gb,0,none⟩)] 127 (0,0))
 pl:w.heap[zp]? =some (.cells #[.int .i64 p] 3 (0,0))
 c:w.heap[zc]? =some (.cells #[.func (.func 117) #[] #[.pointer (some ⟨zr,0,none⟩),.pointer (some ⟨zp,0,none⟩),.pointer (some ⟨zc,0,none⟩)]] 159 (0,0))
 ne:zr≠ob/\zp≠ob/\zc≠ob
theorem Ck.step{w W:World}{zr zp zc gb ob:Nat}{p:Int}(h:Ck w zr zp zc gb ob p)(ho:Ag (fun k=>k=ob) w W):Ck W zr zp zc gb ob p:=
 ⟨(ho.block _ (Array.getElem?_eq_some_iff.1 h.r).1 h.ne.1).trans h.r,(ho.block _ (Array.getElem?_eq_some_iff.1 h.pl).1 h.ne.2.1).trans h.pl,(ho.block _ (Array.getElem?_eq_some_iff.1 h.c).1 h.ne.2.2).trans h.c,h.ne⟩
structure GXn(n:Nat)(prio:List Int)(nx:List (List Int))(p:Int):Prop where
 n3:n<=3000
 pn:prio.length=n
 pr:∀v,v<n->0<=prio.getD v 0/\prio.getD v 0<=30000
 rg:∀v,v<n->∀x∈nx.getD v [],0<=x/\x<n
 pl:0<=p/\p<=1
theorem GXn.gx{n:Nat}{prio:List Int}{nx:List (List Int)}{p:Int}(h:GXn n prio nx p){A:Nat->Prop}(hA:∀v,A v->v<n):GX n nx A:=⟨h.n3,h.rg,hA⟩
theorem OI.kpO{w:World}{B ob n:Nat}{v:Value}{l:List Nat}(h:OI w B v (AX l))(hb:ob<B)(hl:∀x∈l,x<n)(hn:n<=100000)(hll:l.length<=100000):KpO ob w v (AX l):=fun W hW=>
 (h.only hW fun k hk hh=>by
  have h1:=h.ge k hk;have h2:=h.lt' k hk
  rcases hh with e|e<;>omega).is (by rw[AR];unfold Bk;omega) (Fm hl hn)
def L8(w:World)(gb nb ob n:Nat)(V:Nat->Value)(vp:Value)(prio:List Int)(nx:List (List Int))(p:Int)(part:List Nat)(e:Ending)(w':World):Prop:=
 ∃b:Bool,e=.returned (.bool b)/\(b=true↔Cs nx prio p part)/\GS w' gb nb ob n V vp prio nx (List.replicate n false)/\Ag (fun k=>k=ob) w w'
theorem Rm(gb nb ob n:Nat)(V:Nat->Value)(vp:Value)(prio:List Int)(nx:List (List Int))(p:Int)(zr zp zc:Nat)(hx:GXn n prio nx p)(m:Nat):∀(w:World)(vl:Value)(part:List Nat),part.length<m->(∀v∈part,v<n)->part.length<=3000->
  GS w gb nb ob n V vp prio nx (List.replicate n false)->KpO ob w vl (AX part)->Ck w zr zp zc gb ob p->
  Calls Tryz.prog 117 #[vl,.pointer (some ⟨zr,0,none⟩),.pointer (some ⟨zp,0,none⟩),.pointer (some ⟨zc,0,none⟩)] w (L8 w gb nb ob n V vp prio nx p part):=by
 induction m with
 |zero=>intro _ _ _ h;exact absurd h (by omega)
 |succ m ih=>
 intro w vl part hm hpn hp3 hS hl hc;have HIH:=Ab ih;have HX:=Ab hx;have HPN:=Ab hpn;have HM:=Ab hm;have hn3:=hx.n3;have HCk:=Ab hc;have HCmp:=Ab (J6 w gb nb ob n V vp vl prio nx part hS hl (hx.gx hpn));obtain⟨aP,cP,hvp⟩:=hS.now.2.1.shape;rw[hx.pn]at hvp;subst hvp;have q1:=Aa 0 hc.r;clear ih hx hpn hS hl hc hm
 go_enter Tryz.func117,Tryz.ntmps117
 go_wp2
 go_step3
 go_wp2
 go_step3
 go_wp2_with fail
 refine HCmp.out.mono ?_;rintro e w1 ⟨aA,cA,bA,U,cs,rfl,hA,hcl,hU,hS1,hO1,hC⟩;have HA:=Ab hA;have HU:=Ab hU;have HS1:=Ab hS1;have HO1:=Ab hO1;have HC:=Ab hC;clear q1 HCmp hA hU hS1 hO1 hC;go_wp2
 go_loopg [18] cs.length (fun gh i wr=>∃k:Nat,gh=cs.length-k/\i=.int .i64 k/\k<=cs.length/\Hid (GS wr gb nb ob n V (.slice aP n cP) prio nx (List.replicate n false))/\Hid (Ag (fun k=>k=ob) w wr)/\Hid (Ag (fun k=>k=ob\/w1.heap.size<=k) w1 wr)/\Hid (∀j,j<k->Cs nx prio p (cs.getD j [])))
 case atStart=>exact⟨0,rfl,rfl,by omega,HS1,HO1,Ag.refl _ _,fun j hj=>absurd hj (by omega)⟩
 case round=>
  clear HS1 HO1;obtain⟨k,hgk,rfl,hk,HSr,HOw,HOr,HGd⟩:=hrel;have HGK:=Ab hgk;clear hgk;obtain⟨wo,rfl⟩:∃wo:World,wo=wr:=⟨_,rfl⟩
  by_cases hlt:k<cs.length
  ·obtain rfl:=HA.out (by omega);obtain⟨eU,iU⟩:=HU.out wo HOr.out k hlt;obtain⟨aC,cC,hvU⟩:=iU.shape;rw[AR]at hvU
   have HUc:Hid (∀W',Ag (fun k=>k=ob\/w1.heap.size<=k) w1 W'->Ai W' (.slice aC (cs.getD k []).length cC) (AX (cs.getD k []))):=fun W' hW=>hvU▸(HU.out W' hW k hlt).2
   rw[hvU]at eU
   have hcm:cs.getD k []∈cs:=by rw[Af _ _ _ hlt];exact List.getElem_mem hlt
   have HCm:=Ab hcm;obtain⟨hc1,hc2,hc3⟩:=HC.out.ne _ hcm
   have hcn:∀v∈cs.getD k [],v<n:=fun v hv=>HPN.out v (hc3 v hv)
   have hcl3:(cs.getD k []).length<=3000:=by
    have:=FZ hc2 hcn;omega
   have hclp:(cs.getD k []).length<=part.length:=List.Nodup.length_le_of_subset hc2 hc3;have HCn:=Ab hcn;have HC1:Hid (cs.getD k []≠[]/\(cs.getD k []).Nodup/\∀x∈cs.getD k [],x∈part):=⟨hc1,hc2,hc3⟩;have HCE:=Ab (HC.out.eq _ hcm)
   have HGs:Hid (∀b,Cs nx prio p (cs.getD k [])->∀j,j<k+1->b=true->Cs nx prio p (cs.getD j [])):=fun b h j hj _=>by
    by_cases e:j=k
    ·rw[e];exact h
    ·exact HGd.out j (by omega)
   clear hcm hc1 hc2 hc3 hcn iU hvU;generalize hce:cs.getD k []=c at*;clear hce;have HCk1:=Ab (HCk.out.step HOw.out);have q1:=Aa 0 HCk1.out.r;have q2:=Aa 0 HCk1.out.pl;have q3:=Aa 0 HSr.out.now.1;have HPr:=Ab HSr.out.now.2.1;have HUo:=Ab (HUc.out wo HOr.out);go_wp2
   go_loopg [8,24] c.length (fun gh b i wi=>∃(j nn:Nat),gh=c.length-j/\i=.int .i64 j/\b=.int .i64 (CS prio p (c.take j))/\j<=c.length/\wi=wo.drewN nn)
   case atStart=>exact⟨0,0,rfl,rfl,rfl,by omega,rfl⟩
   case round=>
    obtain⟨j,nn,hgj,rfl,rfl,hj,rfl⟩:=hrel;have HGJ:=Ab hgj;clear hgj
    by_cases hjl:j<c.length
    ·obtain⟨bC,oC,had,-,hdt⟩:=HUo.out.dat;obtain rfl:=had (by omega);have ev:=hdt j hjl;rw[DD hjl]at ev;have hvn:c.getD j 0<n:=HCn.out _ (by rw[Af _ _ _ hjl];exact List.getElem_mem hjl)
     have HTk:Hid (c.take (j+1)=c.take j++[c.getD j 0]):=by show _=_;rw[List.take_succ_eq_append_getElem hjl,Af _ _ _ hjl]
     obtain⟨bP,oP,hpd,-,hpt⟩:=HPr.out.dat;obtain rfl:=hpd (by omega);generalize c.getD j 0=v at*;have ep:=hpt v hvn;obtain⟨p0,p1⟩:=HX.out.pr v hvn;have HBS:=Ab (Je prio p (c.take j) v);have hpv:prF prio v=prio.getD v 0:=rfl;have HPV:=Ab hpv;have HBD:Hid (Gl prio p v↔prio.getD v 0%2≠p):=Iff.rfl;clear had hdt hpd hpt hpv;generalize prio.getD v 0=pv at*;generalize CS prio p (c.take j)=bm at*
     have hvi:(v:Int)<n:=by omega
     have hmd:Int.tmod pv 2=pv%2:=Int.tmod_eq_emod_of_nonneg p0
     cases hb:(pv%2 !=p)
     ·have HBn:Hid (CS prio p (c.take (j+1))=bm):=by
       show _=_;rw[HTk.out,HBS.out,if_neg fun h=>HBD.out.1 h (by simpa using hb)]
      go_wp2
      go_quiet (fail)
      go_wp2
      go_roundg (c.length-(j+1))
      case measure=>have:=HGJ.out;omega
      case rel=>exact⟨j+1,_,rfl,by go_num,by rw[HBn.out],by omega,rfl⟩
     ·have HBn:Hid (CS prio p (c.take (j+1))=min bm pv):=by
       show _=_;rw[HTk.out,HBS.out,if_pos (HBD.out.2 (by simpa using hb)),HPV.out]
      go_wp2
      go_quiet (fail)
      go_wp2
      all_goals
       go_roundg (c.length-(j+1))
       case measure=>have:=HGJ.out;omega
       case rel=>exact⟨j+1,_,rfl,by go_num,by rw[HBn.out];congr 1;omega,by omega,rfl⟩
    ·obtain rfl:j=c.length:=by omega
     rw[List.take_length];have hms:=(Fl prio p c).2.2
     have HMe:Hid (∀q,CS prio p c=q->Cj prio q c=Cj prio (CS prio p c) c):=fun q h=>by rw[h]
     have HGN:Hid ((Cj prio (CS prio p c) c=[]->Cs nx prio p c)/\(Cs nx prio p c↔Cs nx prio p (Cj prio (CS prio p c) c))):=⟨N9,Oa c⟩
     have HGF:Hid ((∀v∈c,CS prio p c<=prF prio v)->(Cs nx prio p c↔¬∃x y,x∈c/\y∈c/\EG nx x y)):=fun h=>N8 (A:=(·∈part)) HC1.out.2.2 (HCE.out) HC1.out.1 (fun x hx=>by have:=(HX.out.pr x (HCn.out x hx)).2;unfold prF I1;omega) h
     have HNo:Hid (¬Cs nx prio p c->¬Cs nx prio p part):=fun h k=>h ((Im HC.out).1 k c HCm.out)
     unfold I1 at hms;clear HMe q1 q2 q3;generalize CS prio p c=bm at*;go_wp2
     go_loopg [11,50] c.length (fun gh va i wi=>∃j:Nat,gh=c.length-j/\i=.int .i64 j/\j<=c.length/\Hid (OI wi wo.heap.size va (AX (Cj prio bm (c.take j))))/\Hid (Below wo.heap.size wo wi))
     case atStart=>exact⟨0,rfl,rfl,by omega,BC _ _,Am _ _ _⟩
     case round=>
      obtain⟨j,hgj,rfl,hj,HOI,HBi⟩:=hrel;have HGJ:=Ab hgj;clear hgj;have hBsz:=HBi.out.size;have hrl:(Cj prio bm (c.take j)).length<=3000:=Nat.le_trans (JD _ _ _) (by rw[List.length_take];omega)
      by_cases hjl:j<c.length
      ·obtain⟨bC,oC,had,-,hdt⟩:=HUo.out.dat;obtain rfl:=had (by omega);have ev:=Ah HBi.out (hdt j hjl);rw[DD hjl]at ev;have hvn:c.getD j 0<n:=HCn.out _ (by rw[Af _ _ _ hjl];exact List.getElem_mem hjl)
       have HTk:Hid (c.take (j+1)=c.take j++[c.getD j 0]):=by show _=_;rw[List.take_succ_eq_append_getElem hjl,Af _ _ _ hjl]
       obtain⟨bP,oP,hpd,-,hpt⟩:=HPr.out.dat;obtain rfl:=hpd (by omega);generalize c.getD j 0=v at*;have ep:=Ah HBi.out (hpt v hvn);obtain⟨p0,p1⟩:=HX.out.pr v hvn;have HRS:=Ab (MV prio bm (c.take j) v);have hpv:prF prio v=prio.getD v 0:=rfl;have HPV:=Ab hpv;have q1:=Ah HBi.out (Aa 0 HCk1.out.r);have q3:=Ah HBi.out (Aa 0 HSr.out.now.1);clear had hdt hpd hpt hpv;generalize prio.getD v 0=pv at*
       have hvi:(v:Int)<n:=by omega
       by_cases hge:bm<=pv
       ·have HRn:Hid (AX (Cj prio bm (c.take (j+1)))=AX (Cj prio bm (c.take j))++[(v:Int)]):=by
         show _=_;rw[HTk.out,HRS.out,if_pos (by rw[HPV.out];exact hge),GP];rfl
        have hge1:decide (bm<=pv)=true:=by simpa using hge
        go_wp2_with (at_builtin;refine DZ rfl _ _ (v:Int) rfl wo.heap.size _ _ HOI.out rfl _ (by simp) rfl (by rw[AR];omega) hBsz ?_;intro v' w' hown' hg hmv;have HO2:=Ab hown';have HB2:=Ab (HBi.out.grown hg hBsz (fun g h=>HOI.out.ge g h));clear hown' hg hmv)
        go_roundg (c.length-(j+1))
        case measure=>have:=HGJ.out;omega
        case rel=>exact⟨j+1,rfl,by go_num,by omega,by rw[HRn.out];exact HO2,HB2⟩
       ·have HRn:Hid (Cj prio bm (c.take (j+1))=Cj prio bm (c.take j)):=by
         show _=_;rw[HTk.out,HRS.out,if_neg (by rw[HPV.out];exact hge)]
        have hge1:decide (bm<=pv)=false:=by simpa using hge
        go_wp2
        go_roundg (c.length-(j+1))
        case measure=>have:=HGJ.out;omega
        case rel=>exact⟨j+1,rfl,by go_num,by omega,by rw[HRn.out];exact HOI,HBi⟩
      ·obtain rfl:j=c.length:=by omega
       rw[List.take_length]at HOI hrl
       have HRC:Hid (∀x∈Cj prio bm c,x∈c):=fun x hx=>(G6.1 hx).1
       have HRF:Hid ((Cj prio bm c).length=c.length->∀v∈c,bm<=prF prio v):=fun h=>MU h
       have hrc:(Cj prio bm c).length<=c.length:=JD _ _ _;obtain⟨aR,cR,hva⟩:=HOI.out.slice;rw[AR]at hva;subst hva;generalize Cj prio bm c=rest at*;have HS2:=Ab (HSr.out.below HBi.out);have HOw2:Hid (Ag (fun k=>k=ob) w wr):=HOw.out.trans (Ag.of_below HBi.out);have HOr2:Hid (Ag (fun k=>k=ob\/w1.heap.size<=k) w1 wr):=HOr.out.trans (Ag.of_below HBi.out);have HCk2:=Ab (HCk.out.step HOw2.out);have hobl:ob<wo.heap.size:=HSr.out.lt;have HKp:Hid (KpO ob wr (.slice aR rest.length cR) (AX rest)):=HOI.out.kpO hobl (fun x hx=>HCn.out x (HRC.out x hx)) (by omega) (by omega)
       by_cases h0:rest.length=0
       ·have HG0:Hid (Cs nx prio p c):=HGN.out.1 (List.eq_nil_of_length_eq_zero h0)
        have h0':((rest.length:Int)==0)=true:=by simp[h0]
        clear h0;go_wp2
        go_roundg (cs.length-(k+1))
        case measure=>have:=HGK.out;omega
        case rel=>exact⟨k+1,rfl,by go_num,by omega,HS2,HOw2,HOr2,fun j hj=>HGs.out true HG0.out j hj rfl⟩
       ·have h0':((rest.length:Int)==0)=false:=by rw[beq_eq_false_iff_ne];omega
        clear h0
        by_cases h1:rest.length<c.length
        ·have h1':decide (rest.length<c.length)=true:=by simpa using h1
         have q4:=Aa 0 HCk2.out.c
         go_wp2_with fail
         refine(HIH.out wr _ rest (by have:=HM.out;omega) (fun x hx=>HCn.out x (HRC.out x hx)) (by omega) HS2.out HKp.out HCk2.out).mono ?_;rintro e w9 ⟨b,rfl,hb,hS9,hO9⟩;have HB:=Ab hb;have HS9:=Ab hS9;have HOw9:Hid (Ag (fun k=>k=ob) w w9):=HOw2.out.trans hO9;have HOr9:Hid (Ag (fun k=>k=ob\/w1.heap.size<=k) w1 w9):=HOr2.out.trans (hO9.mono fun _ _ e=>.inl e);clear hb hS9 hO9 q4
         cases b
         ·have HBad:Hid (¬Cs nx prio p part):=HNo.out fun h=>by have:=HB.out.2 (HGN.out.2.1 h);cases this
          go_wp2
          (try rw[Exit.noGoto_ret])
          go_ret;exact⟨false,rfl,⟨fun h=>absurd h (by simp),fun h=>absurd h HBad.out⟩,HS9.out,HOw9.out⟩
         ·have HG0:Hid (Cs nx prio p c):=HGN.out.2.2 (HB.out.1 rfl);go_wp2
          go_roundg (cs.length-(k+1))
          case measure=>have:=HGK.out;omega
          case rel=>exact⟨k+1,rfl,by go_num,by omega,HS9,HOw9,HOr9,fun j hj=>HGs.out true HG0.out j hj rfl⟩
        ·have h1':decide (rest.length<c.length)=false:=by simpa using h1
         have HG2:=Ab (HGF.out (HRF.out (by omega)));clear h1
         by_cases h2:1<c.length
         ·have h2':decide ((1:Int)<(c.length:Int))=true:=by simp;omega
          have HBad:Hid (¬Cs nx prio p part):=HNo.out fun h=>HG2.out.1 h (PO (A:=(·∈part)) HC1.out.2.2 HCE.out HC1.out.2.1 h2)
          clear h2;go_wp2
          go_quiet (fail)
          go_wp2
          (try rw[Exit.noGoto_ret])
          go_ret;exact⟨false,rfl,⟨fun h=>absurd h (by simp),fun h=>absurd h HBad.out⟩,HS2.out.below (Am _ _ _),HOw2.out.trans (Ag.of_below (Am _ _ _))⟩
         ·have h2':decide ((1:Int)<(c.length:Int))=false:=by simp;omega
          have hcl1:c.length=1:=by
           have:c.length≠0:=fun e=>HC1.out.1 (List.eq_nil_of_length_eq_zero e)
           omega
          have hc0:0<c.length:=by omega
          have hc0':(0:Int)<c.length:=by omega
          obtain⟨bC,oC,had,-,hdt⟩:=(HUo.out.below HBi.out).dat;obtain rfl:=had (by omega);have ev:=hdt 0 hc0;rw[DD hc0,Nat.add_zero]at ev;have hvn:c.getD 0 0<n:=HCn.out _ (by rw[Af _ _ _ hc0];exact List.getElem_mem hc0)
          have HSing:Hid (c=[c.getD 0 0]):=by
           show _=_
           match c,hcl1 with
           |[x],_=>rfl
          have q5:=Aa 0 HCk2.out.r;have q6:=Aa 1 HS2.out.now.1;generalize c.getD 0 0=x at*;obtain⟨e7,i7⟩:=HS2.out.now.2.2 x hvn;obtain⟨aV,cV,hvV⟩:=i7.shape;rw[hvV]at e7 i7
          have HCt:Hid (∀n',Calls Tryz.prog 119 #[.slice aV (nx.getD x []).length cV,.int .i64 (x:Int)] (wr.drewN n') (DL (.bool (decide ((x:Int)∈nx.getD x []))) (wr.drewN n'))):=fun n'=>FK _ _ _ _ (i7.below (Am _ _ _))
          have HEx:Hid ((∃a b,a∈c/\b∈c/\EG nx a b)↔(x:Int)∈nx.getD x []):=by
           rw[HSing.out];refine⟨fun⟨a,b,ha,hb,he⟩=> ?_,fun h=>⟨x,x,by simp,by simp,h⟩⟩;rw[List.mem_singleton]at ha hb;subst ha hb;exact he
          have hxi:(x:Int)<n:=by omega
          have hoc:bC=bC:=rfl;clear h2 hcl1 had hdt hvV i7 hoc;generalize(nx.getD x []).length=lx at*
          cases hd:decide ((x:Int)∈nx.getD x [])
          ·have HG0:Hid (Cs nx prio p c):=HG2.out.2 fun h=>of_decide_eq_false hd (HEx.out.1 h)
           rw[hd]at HCt;clear hd;go_wp2
           go_quiet ((go_at_call 119;refine(HCt.out _).mono ?_;rintro e w' ⟨rfl,n,rfl⟩;exact⟨rfl,_,by rw[World.drewN_drewN]⟩))
           go_wp2
           go_roundg (cs.length-(k+1))
           case measure=>have:=HGK.out;omega
           case rel=>exact⟨k+1,rfl,by go_num,by omega,HS2.out.below (Am _ _ _),HOw2.out.trans (Ag.of_below (Am _ _ _)),HOr2.out.trans (Ag.of_below (Am _ _ _)),fun j hj=>HGs.out true HG0.out j hj rfl⟩
          ·have HBad:Hid (¬Cs nx prio p part):=HNo.out fun h=>HG2.out.1 h (HEx.out.2 (of_decide_eq_true hd))
           rw[hd]at HCt;clear hd;go_wp2
           go_quiet ((go_at_call 119;refine(HCt.out _).mono ?_;rintro e w' ⟨rfl,n,rfl⟩;exact⟨rfl,_,by rw[World.drewN_drewN]⟩))
           go_wp2
           (try rw[Exit.noGoto_ret])
           go_ret;exact⟨false,rfl,⟨fun h=>absurd h (by simp),fun h=>absurd h HBad.out⟩,HS2.out.below (Am _ _ _),HOw2.out.trans (Ag.of_below (Am _ _ _))⟩
  ·obtain rfl:k=cs.length:=by omega
   have HFin:Hid (Cs nx prio p part):=(Im HC.out).2 fun c hc=>by
    obtain⟨j,hj,rfl⟩:=List.getElem_of_mem hc;have:=HGd.out j hj;rw[Af _ _ _ hj]at this;exact this
   go_wp2
   (try rw[Exit.noGoto_ret])
   go_ret;exact⟨true,rfl,⟨fun _=>HFin.out,fun _=>rfl⟩,HSr.out,HOw.out⟩
end Go.Proofs.YtncjeamdkjcebaaGreatDoor
