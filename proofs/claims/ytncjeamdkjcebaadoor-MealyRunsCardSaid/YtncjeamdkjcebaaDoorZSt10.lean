/- What the search for components returns. -/
import Derived.Test.YtncjeamdkjcebaaDoorZSt9
set_option linter.all false
set_option maxHeartbeats 8000000
set_option maxRecDepth 100000
namespace Go.Proofs.YtncjeamdkjcebaaDoor
open Go.RowKit
structure IT(E:Nat->Nat->Prop)(A:Nat->Prop)(cs:List (List Nat)):Prop where
 ne:∀c∈cs,c≠[]/\c.Nodup/\∀x∈c,A x
 eq:∀c∈cs,∀x∈c,∀y,A y->(y∈c↔Rch E x y/\Rch E y x)
 al:∀x,A x->∃c∈cs,x∈c
theorem Se(E:Nat->Nat->Prop):DP E ⟨fun _=>0,fun _=>0,fun _=>0,[],0⟩ []:=
 ⟨List.nodup_nil,fun v=>by simp,List.Pairwise.nil,fun _=>Nat.le_refl _,fun _ _ h=>absurd rfl h,fun _ h=>absurd rfl h,fun _ h=>absurd h (by simp),fun _ _ h=>absurd rfl h,fun _ _ h=>absurd rfl h,fun _ h=>absurd h (by simp),fun _ h=>absurd h (by simp),fun _ h=>absurd h (by simp),fun _ _ h=>absurd rfl h⟩
theorem Hm{E:Nat->Nat->Prop}{t:Tj}(h:DP E t []):t.stk=[]:=
 List.eq_nil_iff_forall_not_mem.2 fun y hy=>by
  obtain⟨g,hg,-⟩:=h.dn y hy
  cases hg
theorem NS{E:Nat->Nat->Prop}{n:Nat}{A:Nat->Prop}{t:Tj}{ord stk:List Nat}{opn:List Bool}{cs:List (List Nat)}(hT:DP E t [])(hR:Rep n A t ord stk opn cs)(hall:∀x,A x->t.prt x≠0):IT E A cs:=by
 refine⟨fun c hc=> ?_,fun c hc x hx y hy=> ?_,fun x hx=>hR.cc x (hall x hx)⟩
 ·obtain⟨h1,h2,r,h3,h4⟩:=hR.cw c hc;refine⟨h1,h2,fun x hx=>hR.op x (hR.in_ord.1 (hT.pn x ?_).1)⟩;rw[(h4 x).1 hx];exact h3
 ·obtain⟨h1,h2,r,h3,h4⟩:=hR.cw c hc;have hxr:=(h4 x).1 hx;rw[h4 y,<-hT.eq x y (by rw[hxr];exact h3) (hall y hy),hxr];exact eq_comm
structure GS(w:World)(gb nb ob n:Nat)(V:Nat->Value)(vp:Value)(prio:List Int)(nx:List (List Int))(opn:List Bool):Prop where
 con:∀W',Ae (fun k=>k=ob\/w.heap.size<=k) w W'->GrC W' gb nb ob n V vp prio nx
 oo:OB w 0 (.slice (some ⟨ob,0,none⟩) n n) opn
 ol:opn.length=n
def KpO(ob:Nat)(w:World)(v:Value)(l:List Int):Prop:=∀W',Ae (fun k=>k=ob\/w.heap.size<=k) w W'->Af W' v l
section
variable {w W:World} {gb nb ob n:Nat} {V:Nat->Value} {vp v:Value} {prio l:List Int} {nx:List (List Int)} {opn:List Bool}
theorem OG(ho:Ae (fun k=>k=ob) w W){W':World}(h:Ae (fun k=>k=ob\/W.heap.size<=k) W W'):Ae (fun k=>k=ob\/w.heap.size<=k) w W':=
 (ho.mono fun _ _ e=>.inl e).trans (h.mono fun _ _ e=>e.imp_right fun e=>Nat.le_trans ho.size e)
theorem KpO.step(h:KpO ob w v l)(ho:Ae (fun k=>k=ob) w W):KpO ob W v l:=fun W' hW=>h W' (OG ho hW)
theorem KpO.is(h:KpO ob w v l):Af w v l:=h w (Ae.refl _ _)
theorem GS.lt(h:GS w gb nb ob n V vp prio nx opn):ob<w.heap.size:=h.oo.lt' ob rfl
theorem GS.below(h:GS w gb nb ob n V vp prio nx opn)(hb:Below w.heap.size w W):GS W gb nb ob n V vp prio nx opn:=⟨fun W' hW=>h.con W' (OG (Ae.of_below hb) hW),h.oo.below hb,h.ol⟩
theorem GS.now(h:GS w gb nb ob n V vp prio nx opn):GrC w gb nb ob n V vp prio nx:=h.con w (Ae.refl _ _)
theorem GS.set(h:GS w gb nb ob n V vp prio nx opn)(j:Nat)(b:Bool):GS (w.setCell ⟨ob,j,none⟩ (.bool b)) gb nb ob n V vp prio nx (opn.set j b):=
 ⟨fun W' hW=>h.con W' (OG (Ae.set ob j _ rfl) hW),h.oo.set h.ol.symm j b,by rw[List.length_set];exact h.ol⟩
theorem GS.oc(h:GS w gb nb ob n V vp prio nx opn){j:Nat}(hj:j<n):w.cell? ⟨ob,j,none⟩=some (.bool (opn.getD j false))/\w.frozen? ⟨ob,j,none⟩=false:=by
 have k:=h.oo;unfold OB at k;rw[h.ol]at k;refine⟨?_,World.ownsRow.frozenAt k j⟩;have:=h.ol;rw[World.ownsRow.cellAt k j (by omega),Ag _ _ _ (show j<opn.length by omega)];simp[show j<opn.length by omega]
end
theorem VS.made{w:World}{gb nb ob n zr:Nat}{V:Nat->Value}{vp:Value}{prio:List Int}{nx:List (List Int)}{opn:List Bool}(h:GS w gb nb ob n V vp prio nx opn)(hr:w.heap[zr]? =some (.cells #[.pointer (some ⟨gb,0,none⟩)] 99 (0,0)))(hne:zr≠ob):
  VS ⟨w.heap.size+1+1+1,w.heap.size+1+1,w.heap.size+1,zr,w.heap.size+1+1+1+1,w.heap.size,gb,nb,ob,n,V⟩ (w.heap.size+5)
   (((((w.alloc (.cells #[.slice none 0 0] 22)).alloc (.cells #[.slice none 0 0] 25)).alloc (.map #[] 0)).alloc (.cells #[.map (some (w.heap.size+1+1))] 115)).alloc
    (.cells #[.func (.func 83) #[] #[.pointer (some ⟨w.heap.size+1+1+1,0,none⟩),.pointer (some ⟨w.heap.size+1,0,none⟩),.pointer (some ⟨zr,0,none⟩),.pointer (some ⟨w.heap.size+1+1+1+1,0,none⟩),.pointer (some ⟨w.heap.size,0,none⟩)]] 145))
   vp prio nx [] [] opn [] (.slice none 0 0) (.slice none 0 0) []:=by
 have hlt:=h.lt;have hzl:=(ltE hr);have hn0:=Fd.made ((w.alloc (.cells #[.slice none 0 0] 22)).alloc (.cells #[.slice none 0 0] 25));have hn1:=(hn0.kept (AS (Ap (.cells #[.map (some (w.heap.size+1+1))] 115))) (by simp)).kept (AS (Ap (.cells #[.func (.func 83) #[] #[.pointer (some ⟨w.heap.size+1+1+1,0,none⟩),.pointer (some ⟨w.heap.size+1,0,none⟩),.pointer (some ⟨zr,0,none⟩),.pointer (some ⟨w.heap.size+1+1+1+1,0,none⟩),.pointer (some ⟨w.heap.size,0,none⟩)]] 145))) (by simp)
 have hb:Below w.heap.size w (((((w.alloc (.cells #[.slice none 0 0] 22)).alloc (.cells #[.slice none 0 0] 25)).alloc (.map #[] 0)).alloc (.cells #[.map (some (w.heap.size+1+1))] 115)).alloc
    (.cells #[.func (.func 83) #[] #[.pointer (some ⟨w.heap.size+1+1+1,0,none⟩),.pointer (some ⟨w.heap.size+1,0,none⟩),.pointer (some ⟨zr,0,none⟩),.pointer (some ⟨w.heap.size+1+1+1+1,0,none⟩),.pointer (some ⟨w.heap.size,0,none⟩)]] 145)):=(by repeat(first|exact Ad|assumption|apply AF|apply AE))
 have c0:(((((w.alloc (.cells #[.slice none 0 0] 22)).alloc (.cells #[.slice none 0 0] 25)).alloc (.map #[] 0)).alloc (.cells #[.map (some (w.heap.size+1+1))] 115)).alloc
    (.cells #[.func (.func 83) #[] #[.pointer (some ⟨w.heap.size+1+1+1,0,none⟩),.pointer (some ⟨w.heap.size+1,0,none⟩),.pointer (some ⟨zr,0,none⟩),.pointer (some ⟨w.heap.size+1+1+1+1,0,none⟩),.pointer (some ⟨w.heap.size,0,none⟩)]] 145)).heap[w.heap.size]? =some (.cells #[.slice none 0 0] 22 (0,0)):=(by(repeat(rw[Ak];first|rw[if_pos (by first|simp;done|simp;omega)]|rw[if_neg (by first|simp;done|simp;omega)]));(try rfl))
 have c1:(((((w.alloc (.cells #[.slice none 0 0] 22)).alloc (.cells #[.slice none 0 0] 25)).alloc (.map #[] 0)).alloc (.cells #[.map (some (w.heap.size+1+1))] 115)).alloc
    (.cells #[.func (.func 83) #[] #[.pointer (some ⟨w.heap.size+1+1+1,0,none⟩),.pointer (some ⟨w.heap.size+1,0,none⟩),.pointer (some ⟨zr,0,none⟩),.pointer (some ⟨w.heap.size+1+1+1+1,0,none⟩),.pointer (some ⟨w.heap.size,0,none⟩)]] 145)).heap[w.heap.size+1]? =some (.cells #[.slice none 0 0] 25 (0,0)):=(by(repeat(rw[Ak];first|rw[if_pos (by first|simp;done|simp;omega)]|rw[if_neg (by first|simp;done|simp;omega)]));(try rfl))
 have c3:(((((w.alloc (.cells #[.slice none 0 0] 22)).alloc (.cells #[.slice none 0 0] 25)).alloc (.map #[] 0)).alloc (.cells #[.map (some (w.heap.size+1+1))] 115)).alloc
    (.cells #[.func (.func 83) #[] #[.pointer (some ⟨w.heap.size+1+1+1,0,none⟩),.pointer (some ⟨w.heap.size+1,0,none⟩),.pointer (some ⟨zr,0,none⟩),.pointer (some ⟨w.heap.size+1+1+1+1,0,none⟩),.pointer (some ⟨w.heap.size,0,none⟩)]] 145)).heap[w.heap.size+1+1+1]? =some (.cells #[.map (some (w.heap.size+1+1))] 115 (0,0)):=(by(repeat(rw[Ak];first|rw[if_pos (by first|simp;done|simp;omega)]|rw[if_neg (by first|simp;done|simp;omega)]));(try rfl))
 have c4:(((((w.alloc (.cells #[.slice none 0 0] 22)).alloc (.cells #[.slice none 0 0] 25)).alloc (.map #[] 0)).alloc (.cells #[.map (some (w.heap.size+1+1))] 115)).alloc
    (.cells #[.func (.func 83) #[] #[.pointer (some ⟨w.heap.size+1+1+1,0,none⟩),.pointer (some ⟨w.heap.size+1,0,none⟩),.pointer (some ⟨zr,0,none⟩),.pointer (some ⟨w.heap.size+1+1+1+1,0,none⟩),.pointer (some ⟨w.heap.size,0,none⟩)]] 145)).heap[w.heap.size+1+1+1+1]? =some (.cells #[.func (.func 83) #[] #[.pointer (some ⟨w.heap.size+1+1+1,0,none⟩),.pointer (some ⟨w.heap.size+1,0,none⟩),.pointer (some ⟨zr,0,none⟩),.pointer (some ⟨w.heap.size+1+1+1+1,0,none⟩),.pointer (some ⟨w.heap.size,0,none⟩)]] 145 (0,0)):=(by(repeat(rw[Ak];first|rw[if_pos (by first|simp;done|simp;omega)]|rw[if_neg (by first|simp;done|simp;omega)]));(try rfl))
 have hsz:(((((w.alloc (.cells #[.slice none 0 0] 22)).alloc (.cells #[.slice none 0 0] 25)).alloc (.map #[] 0)).alloc (.cells #[.map (some (w.heap.size+1+1))] 115)).alloc
    (.cells #[.func (.func 83) #[] #[.pointer (some ⟨w.heap.size+1+1+1,0,none⟩),.pointer (some ⟨w.heap.size+1,0,none⟩),.pointer (some ⟨zr,0,none⟩),.pointer (some ⟨w.heap.size+1+1+1+1,0,none⟩),.pointer (some ⟨w.heap.size,0,none⟩)]] 145)).heap.size=w.heap.size+5:=by simp
 rw[show((w.alloc (.cells #[.slice none 0 0] 22)).alloc (.cells #[.slice none 0 0] 25)).heap.size=w.heap.size+1+1 by simp]at hn1;clear hn0
 generalize(((((w.alloc (.cells #[.slice none 0 0] 22)).alloc (.cells #[.slice none 0 0] 25)).alloc (.map #[] 0)).alloc (.cells #[.map (some (w.heap.size+1+1))] 115)).alloc
    (.cells #[.func (.func 83) #[] #[.pointer (some ⟨w.heap.size+1+1+1,0,none⟩),.pointer (some ⟨w.heap.size+1,0,none⟩),.pointer (some ⟨zr,0,none⟩),.pointer (some ⟨w.heap.size+1+1+1+1,0,none⟩),.pointer (some ⟨w.heap.size,0,none⟩)]] 145))=W at*
 exact
 {con:=fun W' hW=>by
   have hne2:∀k,k<w.heap.size+5->k≠w.heap.size->k≠w.heap.size+1->k≠w.heap.size+1+1->k≠ob->W'.heap[k]? =W.heap[k]? :=fun k h0 h1 h2 h3 h4=>hW.block k (by omega) (by
    rintro(e|e|e|e|e|e|e)
    ·exact h3 e
    ·exact h2 e
    ·exact h1 e
    ·exact h4 e
    ·cases e
    ·cases e
    ·omega)
   refine⟨(hne2 _ (by show _+1+1+1<_;omega) (by show _+1+1+1≠_;omega) (by show _+1+1+1≠_;omega) (by show _+1+1+1≠_;omega) (by show _+1+1+1≠_;omega)).trans c3,(hne2 zr (by omega) (by omega) (by omega) (by omega) hne).trans ((hb.block _ hzl).trans hr),(hne2 _ (by show _+1+1+1+1<_;omega) (by show _+1+1+1+1≠_;omega) (by show _+1+1+1+1≠_;omega) (by show _+1+1+1+1≠_;omega) (by show _+1+1+1+1≠_;omega)).trans c4, ?_,fun j hj=>absurd hj (by simp)⟩;refine h.con W' ((Ae.of_below hb).trans (hW.mono fun k _ hk=> ?_))
   rcases hk with e|e|e|e|e|e|e
   ·right;rw[e];show _<=_+1+1;omega
   ·right;rw[e];show _<=_+1;omega
   ·right;rw[e];exact Nat.le_refl _
   ·exact .inl e
   ·cases e
   ·cases e
   ·right;omega
  num:=hn1
  bs:=c1
  os:=Bl _ _
  ba:=c0
  oa:=World.ownsRow_nil _ _ _ _
  oo:=h.oo.below hb
  ap:=fun k hk=>by cases hk
  lt:=⟨by show _+1+1<_;omega,by show _+1<_;omega,by show w.heap.size<_;omega,by show ob<_;omega⟩
  ne:=⟨by show _+1+1≠_+1;omega,by show w.heap.size+1+1≠w.heap.size;omega,by show _+1+1≠ob;omega,by show w.heap.size+1≠w.heap.size;omega,by show _+1≠ob;omega,by show w.heap.size≠ob;omega⟩
  hB:=by omega}
theorem Jj(W:World)(n:Nat):(Instr.makeMap 115 (some (.int .i64 (n:Int)))).run Tryd.prog W=.ok (.map (some W.heap.size)) (W.alloc (.map #[] 0)):=by
 simp[Instr.makeMap,run_underlying Tryd.underlying115,asInt,asIntOf,Result.andThen]
theorem K9{w:World}{b e sz n c:Nat}{a:Option Addr}{l:List Value}(h:w.ownsRow b e sz (.slice a n c) n l):∃g,0<n->a=some ⟨g,0,none⟩:=by
 rcases h.2 with⟨_,h0⟩|⟨g,cap,cur,hv,_⟩
 ·exact⟨0,fun h=>absurd h (by omega)⟩
 ·injection hv with h1 h2 h3
  exact⟨g,fun _=>h1⟩
def LE(w:World)(gb nb ob n:Nat)(V:Nat->Value)(vp:Value)(prio:List Int)(nx:List (List Int))(part:List Nat)(e:Ending)(w':World):Prop:=
 ∃(a:Option Addr)(cap b:Nat)(U:Nat->Value)(cs:List (List Nat)),e=.returned (.slice a cs.length cap)/\(0<cs.length->a=some ⟨b,0,none⟩)/\cs.length<=3000/\
  (∀W',Ae (fun k=>k=ob\/w'.heap.size<=k) w' W'->∀j,j<cs.length->W'.cell? ⟨b,j,none⟩=some (U j)/\Af W' (U j) (AT (cs.getD j [])))/\
  GS w' gb nb ob n V vp prio nx (List.replicate n false)/\Ae (fun k=>k=ob) w w'/\IT (EP (·∈part) nx) (·∈part) cs
theorem I7(w:World)(gb nb ob n:Nat)(V:Nat->Value)(vp vl:Value)(prio:List Int)(nx:List (List Int))(part:List Nat)(hS:GS w gb nb ob n V vp prio nx (List.replicate n false))(hl:KpO ob w vl (AT part))(hx:GX n nx (·∈part)):
  Calls Tryd.prog 72 #[.pointer (some ⟨gb,0,none⟩),vl] w (LE w gb nb ob n V vp prio nx part):=by
 obtain⟨aL,cL,hvl⟩:=hl.is.shape;rw[AO]at hvl;subst hvl
 have hmm:=fun W=>Jj W part.length
 have HX:=Ab hx;have hn3:=hx.n3;have HK:=Ab hl;have hz:=hS.lt;have hob:ob<w.heap.size:=hS.lt;have hb1:=Ap (w:=w) (.cells #[.pointer (some ⟨gb,0,none⟩)] 99);have HS1:=Ab (hS.below hb1);have HK1:Hid (KpO ob (w.alloc (.cells #[.pointer (some ⟨gb,0,none⟩)] 99)) (.slice aL part.length cL) (AT part)):=hl.step (Ae.of_below hb1);have HB1:Hid (Ae (fun k=>k=ob) w (w.alloc (.cells #[.pointer (some ⟨gb,0,none⟩)] 99))):=Ae.of_below hb1;have HR1:Hid ((w.alloc (.cells #[.pointer (some ⟨gb,0,none⟩)] 99)).heap[w.heap.size]? =some (.cells #[.pointer (some ⟨gb,0,none⟩)] 99 (0,0))):=heap_alloc_new _ _;clear hS hx hl hb1 hz
 go_enter Tryd.func72,Tryd.ntmps72
 go_wp2;generalize w.alloc (.cells #[.pointer (some ⟨gb,0,none⟩)] 99)=w1 at*
 have hpl:part.length<=140737488351232:=by
  have:=HK1.out.is;have h2:=this.1;obtain⟨_,_,_,h,_⟩:=this.dat;exact h
 go_loopg [15] part.length (fun gh i wr=>∃(k:Nat)(opn:List Bool),gh=part.length-k/\i=.int .i64 k/\k<=part.length/\Hid (GS wr gb nb ob n V vp prio nx opn)/\Hid (Ae (fun k=>k=ob) w1 wr)/\Hid (∀x,x<n->(opn.getD x false=true↔x∈part.take k)))
 case atStart=>exact⟨0,_,rfl,rfl,by omega,HS1,Ae.refl _ _,fun x hx=>by simp[List.getD,hx]⟩
 case round=>
  obtain⟨k,opn,hgk,rfl,hk,HSr,HOr,HIn⟩:=hrel;have HGK:=Ab hgk;clear hgk HS1;have q1:=Aa 0 ((HOr.out.block _ (Array.getElem?_eq_some_iff.1 HR1.out).1 (by omega)).trans HR1.out)
  by_cases hlt:k<part.length
  ·have hi:=HK1.out.step HOr.out|>.is;obtain⟨bL,oL,had,-,hdt⟩:=hi.dat;obtain rfl:=had (by omega);have ev:=hdt k hlt;rw[Dl hlt]at ev
   have hmem:part.getD k 0∈part:=by rw[Ag _ _ _ hlt];exact List.getElem_mem hlt
   have hvn:=HX.out.pn _ hmem
   have HTk:Hid (part.take (k+1)=part.take k++[part.getD k 0]):=by show _=_;rw[List.take_succ_eq_append_getElem hlt,Ag _ _ _ hlt]
   generalize part.getD k 0=v at*;have q2:=Aa 2 HSr.out.now.1;obtain⟨o1,o2⟩:=HSr.out.oc hvn;have HSn:=Ab (HSr.out.set v true);have HON:Hid (opn.length=n):=HSr.out.ol;clear had hdt hi hmem;go_wp2
   go_roundg (part.length-(k+1))
   case measure=>have:=HGK.out;omega
   case rel=>
    refine⟨k+1,_,rfl,by go_num,by omega,HSn,HOr.out.trans (Ae.set ob v _ rfl),fun x hx=> ?_⟩;rw[HTk.out,List.mem_append,List.mem_singleton]
    by_cases e:v=x
    ·subst e;rw[Ay _ _ _ _ (by rw[HON.out];exact hx)];simp
    ·rw[AH _ _ _ _ _ e,HIn.out x hx];exact⟨.inl,fun h=>h.resolve_right fun k=>e k.symm⟩
  ·obtain rfl:k=part.length:=by omega
   rw[List.take_length]at HIn;have HV:=Ab (VS.made HSr.out ((HOr.out.block _ (Array.getElem?_eq_some_iff.1 HR1.out).1 (by omega)).trans HR1.out) (by omega));have hb0:Below wr.heap.size wr (((((wr.alloc (.cells #[.slice none 0 0] 22)).alloc (.cells #[.slice none 0 0] 25)).alloc (.map #[] 0)).alloc (.cells #[.map (some (wr.heap.size+1+1))] 115)).alloc (.cells #[.func (.func 83) #[] #[.pointer (some ⟨wr.heap.size+1+1+1,0,none⟩),.pointer (some ⟨wr.heap.size+1,0,none⟩),.pointer (some ⟨w.heap.size,0,none⟩),.pointer (some ⟨wr.heap.size+1+1+1+1,0,none⟩),.pointer (some ⟨wr.heap.size,0,none⟩)]] 145)):=(by repeat(first|exact Ad|assumption|apply AF|apply AE));have HKo:Hid (∀W',Ae (fun k=>k=ob\/wr.heap.size<=k) wr W'->Af W' (.slice aL part.length cL) (AT part)):=HK1.out.step HOr.out;have HB0:Hid (Ae (fun k=>k=ob\/wr.heap.size<=k) wr (((((wr.alloc (.cells #[.slice none 0 0] 22)).alloc (.cells #[.slice none 0 0] 25)).alloc (.map #[] 0)).alloc (.cells #[.map (some (wr.heap.size+1+1))] 115)).alloc (.cells #[.func (.func 83) #[] #[.pointer (some ⟨wr.heap.size+1+1+1,0,none⟩),.pointer (some ⟨wr.heap.size+1,0,none⟩),.pointer (some ⟨w.heap.size,0,none⟩),.pointer (some ⟨wr.heap.size+1+1+1+1,0,none⟩),.pointer (some ⟨wr.heap.size,0,none⟩)]] 145))):=Ae.of_below hb0;have HOw:Hid (Ae (fun k=>k=ob) w wr):=HB1.out.trans HOr.out
   have HWz:Hid (w.heap.size<wr.heap.size):=by
    have h1:=(Array.getElem?_eq_some_iff.1 HR1.out).1;have h2:=HOr.out.size;show _<_;omega
   have HRep:Hid (Rep n (·∈part) ⟨fun _=>0,fun _=>0,fun _=>0,[],0⟩ [] [] opn []):=by
    refine⟨fun v=>by simp,rfl,rfl,List.nodup_nil,fun v hv=>absurd hv (by simp),HSr.out.ol,fun v hv=> ?_,fun c hc=>absurd hc (by simp),fun v hv=>absurd rfl hv⟩;rw[HIn.out v hv];simp
   clear hb0 q1;go_wp2;generalize(((((wr.alloc (.cells #[.slice none 0 0] 22)).alloc (.cells #[.slice none 0 0] 25)).alloc (.map #[] 0)).alloc (.cells #[.map (some (wr.heap.size+1+1))] 115)).alloc (.cells #[.func (.func 83) #[] #[.pointer (some ⟨wr.heap.size+1+1+1,0,none⟩),.pointer (some ⟨wr.heap.size+1,0,none⟩),.pointer (some ⟨w.heap.size,0,none⟩),.pointer (some ⟨wr.heap.size+1+1+1+1,0,none⟩),.pointer (some ⟨wr.heap.size,0,none⟩)]] 145))=W0 at*;obtain⟨wo,hwo⟩:∃wo:World,wo=wr:=⟨_,rfl⟩;rw[<-hwo]at HKo HB0 HOw;have HWO:=Ab hwo;generalize hsz:wr.heap.size=sz at*;rw[<-hwo]at hsz;have HSZ:=Ab hsz;rw[hsz]at HKo HB0;clear hwo hsz;obtain⟨D,hD⟩:∃D:Va,D=⟨sz+1+1+1,sz+1+1,sz+1,w.heap.size,sz+1+1+1+1,sz,gb,nb,ob,n,V⟩:=⟨_,rfl⟩;rw[<-hD]at HV
   have HDD:Hid (D.n=n/\D.ob=ob/\D.gb=gb/\D.nb=nb/\D.V=V/\D.zr=w.heap.size/\D.zv=sz+1+1+1+1/\D.za=sz/\D.zs=sz+1/\D.mb=sz+1+1):=by rw[hD];exact⟨rfl,rfl,rfl,rfl,rfl,rfl,rfl,rfl,rfl,rfl⟩
   have HX2:Hid (GX D.n nx (·∈part)):=HDD.out.1▸HX.out
   have HDf:Hid (D.fn=.func (.func 83) #[] #[.pointer (some ⟨sz+1+1+1,0,none⟩),.pointer (some ⟨sz+1,0,none⟩),.pointer (some ⟨w.heap.size,0,none⟩),.pointer (some ⟨sz+1+1+1+1,0,none⟩),.pointer (some ⟨sz,0,none⟩)]):=by rw[hD];rfl
   have hDn:D.zo=sz+1+1+1:=by rw[hD]
   have HVis:Hid (∀(w2:World)(t:Tj)(ord:List Nat)(opn:List Bool)(cs:List (List Nat))(vs va:Value)(vals:List Value)(v:Nat),cs.length<=ord.length->VS D (sz+5) w2 vp prio nx ord [] opn cs vs va vals->Rep D.n (·∈part) t ord [] opn cs->DP (EP (·∈part) nx) t []->v∉ord->v∈part->
     Calls Tryd.prog 83 #[.int .i64 (v:Int),.pointer (some ⟨sz+1+1+1,0,none⟩),.pointer (some ⟨sz+1,0,none⟩),.pointer (some ⟨w.heap.size,0,none⟩),.pointer (some ⟨sz+1+1+1+1,0,none⟩),.pointer (some ⟨sz,0,none⟩)] w2 (RM D (sz+5) w2 vp prio nx (·∈part) t vs va v [])):=fun w2 t ord opn cs vs va vals v h0 h1 h2 h3 h4 h5=>by
    have h:=Qu (sz+5) D vp prio nx (·∈part) HX2.out (D.n-ord.length+1) w2 t ord [] opn cs vs va vals [] v (by omega) (by simpa using h0) h1 h2 h3 h4 h5 (fun g hg=>absurd hg (by simp));obtain⟨-,-,-,-,-,e1,e2,e3,e4,-⟩:=HDD.out;rw[hDn,e1,e2,e3,e4]at h;exact h
   clear hD hDn
   go_loopg [32] part.length (fun gh i wr=>∃(k:Nat)(t:Tj)(ord:List Nat)(opn:List Bool)(cs:List (List Nat))(vs va:Value)(vals:List Value),gh=part.length-k/\i=.int .i64 k/\k<=part.length/\Hid (cs.length<=ord.length)/\Hid (VS D (sz+5) wr vp prio nx ord [] opn cs vs va vals)/\Hid (Rep D.n (·∈part) t ord [] opn cs)/\
    Hid (DP (EP (·∈part) nx) t [])/\Hid (VMv D W0 (.slice none 0 0) (.slice none 0 0) wr vs va)/\Hid (∀x∈part.take k,t.prt x≠0))
   case atStart=>exact⟨0,_,[],opn,[],_,_,_,rfl,rfl,by omega,Nat.le_refl _,HV,by rw[HDD.out.1];exact HRep,Se _,VMv.refl _ _ _ _,fun x hx=>absurd hx (by simp)⟩
   case round=>
    clear HV HRep HSr HOr HIn;obtain⟨k,t,ord,opn,cs,vs,va,vals,hgk,rfl,hk,HC,HSr,HRr,HTr,HMv,HPr⟩:=hrel;have HGK:=Ab hgk;clear hgk
    have HOb:Hid (Ae (fun k=>k=ob\/sz<=k) wo wr):=HB0.out.trans (HMv.out.ho.mono fun q _ hq=>by
     obtain⟨-,e0,-,-,-,-,-,e3,e4,e5⟩:=HDD.out
     have hw0:sz<=W0.heap.size:=by have:=HB0.out.size;rw[HSZ.out]at this;exact this
     rcases hq with e|e|e|e|e|e|e
     ·right;omega
     ·right;omega
     ·right;omega
     ·left;omega
     ·cases e
     ·cases e
     ·right;omega)
    have cn:=HSr.out.now;have ho64:=HRr.out.len HX2.out.pn;rw[HDD.out.1]at ho64
    by_cases hlt:k<part.length
    ·have hi:=HKo.out wr HOb.out;obtain⟨bL,oL,had,-,hdt⟩:=hi.dat;obtain rfl:=had (by omega);have ev:=hdt k hlt;rw[Dl hlt]at ev
     have hmem:part.getD k 0∈part:=by rw[Ag _ _ _ hlt];exact List.getElem_mem hlt
     have hvn:=HX.out.pn _ hmem
     have HTk:Hid (part.take (k+1)=part.take k++[part.getD k 0]):=by show _=_;rw[List.take_succ_eq_append_getElem hlt,Ag _ _ _ hlt]
     have HMem:=Ab hmem;generalize part.getD k 0=v at*;have q1:=Aa 0 cn.r;have q2:=Aa 2 cn.g.1;have q4:=Aa 0 cn.v;obtain⟨o1,-⟩:=HSr.out.oc HRr.out.on (j:=v) (by rw[HDD.out.1];exact hvn);have hoi:=HRr.out.oi v (by rw[HDD.out.1];exact hvn);rw[HDf.out]at q4;obtain⟨e1,e2,e3,-,-,e4,e5,-,-,-⟩:=HDD.out;rw[e4,e3]at q1;rw[e3,e2,e1]at q2;rw[e2]at o1;rw[e5]at q4;have HOI:=Ab hoi;clear hoi e1 e2 e3 e4 e5 cn had hdt hi hmem
     cases hq:opn.getD v false
     ·have HPn:Hid (∀x∈part.take (k+1),t.prt x≠0):=by
       intro x hx;rw[HTk.out,List.mem_append,List.mem_singleton]at hx
       rcases hx with hx|rfl
       ·exact HPr.out x hx
       ·intro e;have:=HOI.out.2 ⟨HMem.out,e⟩;rw[hq]at this;cases this
      rw[hq]at o1;clear hq;go_wp2
      go_roundg (part.length-(k+1))
      case measure=>have:=HGK.out;omega
      case rel=>exact⟨k+1,t,_,_,_,_,_,_,rfl,by go_num,by omega,HC,HSr,HRr,HTr,HMv,HPn⟩
     ·have hno:v∉ord:=fun hv=>by
       have h1:=(HTr.out.st v).2 ⟨HRr.out.in_ord.2 hv,(HOI.out.1 hq).2⟩;rw[Hm HTr.out]at h1
       cases h1
      have HNO:=Ab hno;rw[hq]at o1;clear hq hno
      go_wp2_with fail
      refine(HVis.out wr t ord opn cs vs va vals v HC.out HSr.out HRr.out HTr.out HNO.out HMem.out).mono ?_;rintro e w7 ⟨lw,t2,ord2,stk2,opn2,cs2,vs2,va2,vals2,rfl,hl2,hc2,hS2,hR2,hP2,hV2⟩
      have hs0:stk2=[]:=by rw[<-hR2.sk];exact Hm hP2.po.inv
      subst hs0
      have HPn:Hid (∀x∈part.take (k+1),t2.prt x≠0):=by
       intro x hx;rw[HTk.out,List.mem_append,List.mem_singleton]at hx
       rcases hx with hx|rfl
       ·rw[hP2.po.ext.pr x (HPr.out x hx)];exact HPr.out x hx
       ·intro e;have h1:=(hP2.po.inv.st x).2 ⟨hP2.po.nz,e⟩;rw[Hm hP2.po.inv]at h1
        cases h1
      have hc2':cs2.length<=ord2.length:=by simpa using hc2
      have HC2:=Ab hc2';have HS2:=Ab hS2;have HR2:=Ab hR2;have HT2:=Ab hP2.po.inv;have HM2:=Ab (HMv.out.trans hV2);clear hl2 hc2 hc2' hS2 hR2 hP2 hV2 q1 q2 q4 o1 ev;go_wp2
      go_roundg (part.length-(k+1))
      case measure=>have:=HGK.out;omega
      case rel=>exact⟨k+1,t2,_,_,_,_,_,_,rfl,by go_num,by omega,HC2,HS2,HR2,HT2,HM2,HPn⟩
    ·obtain rfl:k=part.length:=by omega
     rw[List.take_length]at HPr;obtain⟨aA,cA,rfl⟩:=AR HSr.out.oa;obtain⟨gA,hgA⟩:=K9 HSr.out.oa;have HGA:=Ab hgA;have z7:=Aa 0 HSr.out.ba;rw[HDD.out.2.2.2.2.2.2.2.1]at z7
     have HFin:Hid (LE w gb nb ob n V vp prio nx part (.returned (.slice aA cs.length cA)) wr):=by
      obtain⟨e1,e2,e3,e6,e7,-⟩:=HDD.out
      have hopn:opn=List.replicate n false:=by
       have hl:=HRr.out.on;rw[e1]at hl
       apply List.ext_getElem (by simp[hl])
       intro x h1 h2
       have hx:x<n:=by rw[hl]at h1;exact h1
       have:=HRr.out.oi x (by rw[e1];exact hx);rw[Ag _ _ _ h1]at this;rw[List.getElem_replicate]
       cases hb:opn[x]
       ·rfl
       ·have h3:=this.1 hb;exact absurd h3.2 (HPr.out x h3.1)
      have hmono:∀q,(q=ob\/wr.heap.size<=q)->DN D vs (.slice aA cs.length cA) wr.heap.size q:=fun q hq=>hq.elim (fun e=>.inr (.inr (.inr (.inl (by rw[e2];exact e))))) fun e=>.inr (.inr (.inr (.inr (.inr (.inr e)))))
      have hlt:=HSr.out.lt;refine⟨aA,cA,gA,fun j=>vals.getD j undef,cs,rfl,HGA.out,by have:=HC.out;have:=HX.out.n3;omega,fun W' hW j hj=>⟨?_,(HSr.out.con W' (hW.mono fun q _ hq=>hmono q hq)).c j hj⟩,⟨fun W' hW=> ?_, ?_,by simp⟩,HOw.out.trans (HOb.out.mono fun q hq hk=>hk.resolve_right (by have:=HSZ.out;omega)),NS HTr.out HRr.out HPr.out⟩
      ·have hoa:=At HSr.out.oa hW fun q hq hk=>by
        have:=HSr.out.age q hq
        rcases hk with e|e
        ·omega
        ·omega
       have hga:=HGA.out (by omega);subst hga
       have hl:vals.length=cs.length:=by have:=HSr.out.oa.1;simpa using this
       rw[World.ownsRow.cellAt hoa j (by omega)];show _=some (vals.getD j undef);rw[Ag _ _ _ (show j<vals.length by omega)];simp[show j<vals.length by omega]
      ·have:=(HSr.out.con W' (hW.mono fun q _ hq=>hmono q hq)).g;rw[e1,e2,e3,e6,e7]at this;exact this
      ·rw[<-hopn];have:=HSr.out.oo;rw[e1,e2]at this;exact this
     clear cn hgA;go_wp2;go_ret;exact HFin.out
end Go.Proofs.YtncjeamdkjcebaaDoor
