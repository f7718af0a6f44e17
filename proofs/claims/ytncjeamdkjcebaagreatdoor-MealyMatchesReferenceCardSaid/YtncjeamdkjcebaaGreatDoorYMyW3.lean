/- What mealy.Word computes. -/
import Derived.ChangeAlike
import Derived.Test.YtncjeamdkjcebaaGreatDoorYMyX6
set_option linter.all false
set_option maxHeartbeats 4000000
set_option maxRecDepth 100000
namespace Go.Proofs.YtncjeamdkjcebaaGreatDoor
open Go.RowKit
theorem Nq(w:World)(vl vm vi:Value)(l:List Sig)(m:My)(ins:Ls)(hK:B7 w)(hl:AD w vl l)(hm:BB w vm m)(hi:Cn w vi ins):
  Calls Tryz.prog 23 #[vl,vm,vi] w (Dz (CY l m ins) w):=by
 have av:Hid (∀W,Below w.heap.size w W->Calls Tryz.prog 47 #[vl,vm] W (Av (.bool (BH l m)) W)):=fun W h=>KA W _ _ l m (hK.below h) (hl.below h) (hm.below h)
 have a1:Hid (∀W,Below w.heap.size w W->Calls Tryz.prog 42 #[.int .i64 m.ins,vi] W (Av (.bool (Ch m.ins ins)) W)):=fun W h=>IK W _ _ m.ins (hi.below h)
 have ay:Hid (As l=true->∀W,Below w.heap.size w W->Calls Tryz.prog 56 #[vl] W (EZ (Ap l) W)):=fun hv W h=>MS W _ l (hK.below h) (hl.below h) hv
 have bn:=Ab (rfl:ins.loop.length=ins.loop.length);obtain⟨v3,v4,rfl,⟨-,-,bq⟩,i3,i4⟩:=hm;obtain⟨s0,s1,rfl,j0,j1⟩:=hi
 have bb:Hid (∀W,Below w.heap.size w W->Ar W v3 m.out):=fun W h=>i3.below h
 have bc:Hid (∀W,Below w.heap.size w W->Ar W v4 m.next):=fun W h=>i4.below h
 have az:Hid (∀W,Below w.heap.size w W->Ah W s0 ins.stem):=fun W h=>j0.below h
 have a0:Hid (∀W,Below w.heap.size w W->Ah W s1 ins.loop):=fun W h=>j1.below h
 obtain⟨a3,c3,rfl⟩:=i3.shape;obtain⟨a4,c4,rfl⟩:=i4.shape;obtain⟨d0,f0,rfl⟩:=j0.shape;obtain⟨d1,f1,rfl⟩:=j1.shape;clear hK hl i3 i4 j0 j1;have bk:=Ab (rfl:w.heap.size=w.heap.size)
 go_enter Tryz.func23,Tryz.ntmps23
 go_upto_region 1 with(fail)
 obtain⟨f,-,a2⟩:=Aw (w0:=w) Ad leR #[.int .i64 m.ins,.int .i64 m.outs,.int .i64 m.start,(.slice a3 m.out.length c3),(.slice a4 m.next.length c4)] 25
 have aq:(w.alloc (.cells #[.int .i64 m.ins,.int .i64 m.outs,.int .i64 m.start,(.slice a3 m.out.length c3),(.slice a4 m.next.length c4)] 25)).heap.size=w.heap.size+1:=by simp
 generalize w.alloc (.cells #[.int .i64 m.ins,.int .i64 m.outs,.int .i64 m.start,(.slice a3 m.out.length c3),(.slice a4 m.next.length c4)] 25)=w1 at*;obtain⟨j,-,a5⟩:=Aw (w0:=w) a2 (by omega) #[.slice d0 ins.stem.length f0,.slice d1 ins.loop.length f1] 30
 have ar:(w1.alloc (.cells #[.slice d0 ins.stem.length f0,.slice d1 ins.loop.length f1] 30)).heap.size=w.heap.size+1+1:=by simp[aq]
 have ak:=(Dm w1 (.cells #[.slice d0 ins.stem.length f0,.slice d1 ins.loop.length f1] 30) (r:=w.heap.size) (by omega)).trans f;generalize w1.alloc (.cells #[.slice d0 ins.stem.length f0,.slice d1 ins.loop.length f1] 30)=w2 at*;obtain⟨d,-,c⟩:=Aw (w0:=w) a5 (by omega) #[.slice none 0 0,.slice none 0 0] 30
 have bj:(w2.alloc (.cells #[.slice none 0 0,.slice none 0 0] 30)).heap.size=w.heap.size+1+1+1:=by simp[ar]
 have f:=(Dm w2 (.cells #[.slice none 0 0,.slice none 0 0] 30) (r:=w.heap.size) (by omega)).trans ak;have j:=(Dm w2 (.cells #[.slice none 0 0,.slice none 0 0] 30) (r:=w1.heap.size) (by omega)).trans j;generalize w2.alloc (.cells #[.slice none 0 0,.slice none 0 0] 30)=w3 at*;clear ak a2 a5;rw[aq]at j;rw[ar]at d;have k0:=Aa 0 f;have k1:=Aa 1 f;have k2:=Aa 2 f;have k3:=Aa 3 f;have k4:=Aa 4 f
 go_wp2_with fail
 refine(av.out _ c).mono ?_;rintro e w4 ⟨rfl,hb⟩;replace f:=(hb.block _ (by omega)).trans f;replace j:=(hb.block _ (by omega)).trans j;replace d:=(hb.block _ (by omega)).trans d;replace c:=c.trans (hb.mono c.size)
 have a9:w.heap.size+1+1+1<=w4.heap.size:=by have:=hb.size;omega
 clear hb bj k0 k1 k2 k3 k4 aq ar;have q0:=Aa 0 d;have q1:=Aa 1 d;have k0:=Aa 0 f;have u0:=Aa 0 j;have u1:=Aa 1 j
 cases hf:BH l m with
 |false=>
  have hE:CY l m ins=C7:=if_neg (by rw[hf];simp);have HE:=Ab hE;have fz:=At 0 d;have bg:=At 1 d;clear hE;go_wp2;rw[HE.out]
  (have p:=Bq (a:=.slice none 0 0) (b:=.slice none 0 0) d);(have ab:=Aa 0 p);(have ac:=Aa 1 p);(refine bodyPost_ret (v:=.agg #[.slice none 0 0,.slice none 0 0]) (by simp[results,Tryz.results23,go_sem,ab,ac]) rfl ?_)
  exact CR c (by omega)
 |true=>
 go_wp2_with fail
 refine(a1.out _ c).mono ?_;rintro e w5 ⟨rfl,hb⟩;replace f:=(hb.block _ (by omega)).trans f;replace j:=(hb.block _ (by omega)).trans j;replace d:=(hb.block _ (by omega)).trans d;replace c:=c.trans (hb.mono c.size)
 replace a9:w.heap.size+1+1+1<=w5.heap.size:=by have:=hb.size;omega
 clear hb q0 q1 k0 u0 u1
 cases hv:Ch m.ins ins with
 |false=>
  have hE:CY l m ins=C7:=if_neg (by rw[hv];simp);have HE:=Ab hE;have q0:=Aa 0 d;have q1:=Aa 1 d;have fz:=At 0 d;have bg:=At 1 d;clear hE;go_wp2;rw[HE.out]
  (have p:=Bq (a:=.slice none 0 0) (b:=.slice none 0 0) d);(have ab:=Aa 0 p);(have ac:=Aa 1 p);(refine bodyPost_ret (v:=.agg #[.slice none 0 0,.slice none 0 0]) (by simp[results,Tryz.results23,go_sem,ab,ac]) rfl ?_)
  exact CR c (by omega)
 |true=>
 have HE:Hid (CY l m ins=He (stW m ins) (ltW l m ins)):=if_pos ⟨hf,hv⟩;have HJ:=Ab (ay.out (BT.1 hf).1);have am:=Ab (BT.1 hf).2.1;have z:=Ab (Jo hv);have HF:=Ab hf;clear hf hv ay av a1
 go_wp2_with fail
 refine(HJ.out _ c).mono ?_;rintro e w6 ⟨vj,rfl,ij,hb⟩;replace f:=(hb.block _ (by omega)).trans f;replace j:=(hb.block _ (by omega)).trans j;replace d:=(hb.block _ (by omega)).trans d;replace c:=c.trans (hb.mono c.size)
 replace a9:w.heap.size+1+1+1<=w6.heap.size:=by have:=hb.size;omega
 have bd:Hid (∀W,Below w6.heap.size w6 W->Ar W vj (Ap l)):=fun W h=>ij.below h
 obtain⟨aj,cj,rfl⟩:=ij.shape;clear hb ij
 go_upto_region 4 with(fail)
 obtain⟨y,-,ad⟩:=Aw (w0:=w6) Ad leR #[.slice aj (Ap l).length cj] 23;generalize w6.alloc (.cells #[.slice aj (Ap l).length cj] 23)=w8 at*;have aw:=Ab (bd.out _ ad);replace f:=(ad.block _ (by omega)).trans f;replace j:=(ad.block _ (by omega)).trans j;replace d:=(ad.block _ (by omega)).trans d;replace c:=c.trans (ad.mono c.size);have bs:w6.heap.size<w8.heap.size:=(ltE y);have k3:=Aa 3 f;have k6:=Aa 0 j
 have l5:w.heap.size<w8.heap.size:=by omega
 have l6:w.heap.size+1<w8.heap.size:=by omega
 have l7:w.heap.size<w8.heap.size+1:=by omega
 have l8:w.heap.size+1<w8.heap.size+1:=by omega
 go_cut [8,9] (fun s8 s9 wx=>∃p1 p3,s8=.pointer (some ⟨p1,0,none⟩)/\s9=.pointer (some ⟨p3,0,none⟩)/\Hid (wx.cell? ⟨p1,0,none⟩=some (.int .i64 (m.out.length:Int))/\wx.cell? ⟨p3,0,none⟩=some (.int .i64 (ins.stem.length:Int))/\Below w8.heap.size w8 wx))
 case first=>
  go_region
  all_goals
   go_wp2_with fail
   go_meet
   case rel=>
    refine⟨_,_,rfl,rfl, ?_⟩;show _/\_/\_;exact⟨cell_of_row _ _ 0 #[.int .i64 (m.out.length:Int)] 3 _ (by rw[CH];repeat(rw[Am];first|rw[if_pos (by first|simp;done|simp;omega)]|rw[if_neg (by first|simp;done|simp;omega)])),cell_of_row _ _ 0 #[.int .i64 (ins.stem.length:Int)] 3 _ (by rw[CH];repeat(rw[Am];first|rw[if_pos (by first|simp;done|simp;omega)]|rw[if_neg (by first|simp;done|simp;omega)])),(by repeat(first|exact Ad|assumption|(refine AE ?_ _)|(refine AB ?_ _)|(refine Below.drew ?_)))⟩
 case rest=>
  obtain⟨p1,p3,rfl,rfl,HC⟩:=hcut;have q:=HC.out.2.2;have au:=Ab HC.out.1;have ba:=Ab HC.out.2.1;clear HC k3 k6 l5 l6 l7 l8;replace f:=(q.block _ (by omega)).trans f;replace j:=(q.block _ (by omega)).trans j;replace d:=(q.block _ (by omega)).trans d;replace y:=(q.block _ (by omega)).trans y;replace c:=c.trans (q.mono c.size);have ax:Hid (Ar wc (.slice aj (Ap l).length cj) (Ap l)):=aw.out.below q;have bu:=q.size;have bm:=z.out.s;have bl:=z.out.l;have u0:=Aa 0 j;have u1:=Aa 1 j
  have l6:w.heap.size+1<wc.heap.size:=by omega
  go_upto_region 5 with(fail)
  go_cut [10] (fun s10 wx=>∃p2,s10=.pointer (some ⟨p2,0,none⟩)/\Hid (Below wc.heap.size wc wx/\∃v,wx.cell? ⟨p2,0,none⟩=some v/\Ah wx v (ins.stem++ins.loop)))
  case first=>
   go_region_law (first
    |(rw[if_pos (by rfl)];refine FF _ _ _ (by rfl) _ (.slice none 0 0) (.slice d0 ins.stem.length f0) [] ins.stem (by rfl) (Br _ _) (by rfl) (az.out _ (c.trans (Below.mono (by repeat(first|exact Ad|assumption|(refine AE ?_ _)|(refine AB ?_ _)|(refine Below.drew ?_))) c.size))) (by simp;omega) leR ?_
      intro v6 w7 u bi;rw[List.nil_append]at u;have ae:=Ad.grown bi leR (fun k hk=>by cases hk);have hX7:Below wc.heap.size wc w7:=Below.trans (by repeat(first|exact Ad|assumption|(refine AE ?_ _)|(refine AB ?_ _)|(refine Below.drew ?_))) (ae.mono (by simp));have y7:=Aa 1 ((hX7.block _ l6).trans j);have bw:w.heap.size+1<w7.heap.size:=Nat.lt_of_lt_of_le l6 hX7.size
      (try(have ah:=(ae.block wc.heap.size (Array.getElem?_eq_some_iff.1 (heap_alloc_new wc (.cells #[.slice none 0 0] 26))).1).trans (heap_alloc_new wc (.cells #[.slice none 0 0] 26));have bv:=Aa 0 ah;have bp:=At 0 ah)))
    |(rw[if_pos (by rfl)];refine FF _ _ _ (by rfl) _ v6 (.slice d1 ins.loop.length f1) ins.stem ins.loop (by rfl) (u.below (by repeat(first|exact Ad|assumption|(refine AE ?_ _)|(refine AB ?_ _)|(refine Below.drew ?_)))) (by rfl) (a0.out _ (c.trans (Below.mono (hX7.trans (Below.mono (by repeat(first|exact Ad|assumption|(refine AE ?_ _)|(refine AB ?_ _)|(refine Below.drew ?_))) hX7.size)) c.size))) (by omega) (by have:=ae.size;simp at this⊢;omega) ?_
      intro v8 w9 ag ao;have af:=World.ownsRow.lt u;have a6:Below wc.heap.size _ w9:=Ad.grown ao (by have:=hX7.size;simp;omega) (fun k hk=>by have:=(af k hk).1;simp at this;omega);have hX9:Below wc.heap.size wc w9:=Below.trans (hX7.trans (Below.mono (by repeat(first|exact Ad|assumption|(refine AE ?_ _)|(refine AB ?_ _)|(refine Below.drew ?_))) hX7.size)) a6
      (try(have bx9:=(ao.block wc.heap.size (ltE ah) (fun e=>Nat.lt_irrefl _ (Nat.lt_of_lt_of_le (Array.getElem?_eq_some_iff.1 (heap_alloc_new wc (.cells #[.slice none 0 0] 26))).1 (af _ e.symm).1))).trans ah;have kb9:=Aa 0 bx9;have bf:=At 0 bx9))
      (try(have bx9:=(ao.block w7.heap.size (Array.getElem?_eq_some_iff.1 (heap_alloc_new w7 (.cells #[.slice none 0 0] 26))).1 (fun e=>Nat.lt_irrefl _ (af _ e.symm).2)).trans (heap_alloc_new w7 (.cells #[.slice none 0 0] 26));have kb9:=Aa 0 bx9;have bf:=At 0 bx9))
      have be:=Ab (ag.is (by have:=z.out;simp[Bg];omega) (fun x hx=>by
       rcases List.mem_append.1 hx with hx|hx
       ·exact(az.out _ c).2 x hx
       ·exact(a0.out _ c).2 x hx))
      obtain⟨a8,c8,rfl⟩:=ag.slice))
   all_goals
    go_wp2_with fail
    go_meet
    case rel=>
     have HV9:Ah w9 (.slice a8 (ins.stem.length+ins.loop.length) c8) (ins.stem++ins.loop):=by have:=be.out;rwa [List.length_append]at this
     first
      |exact⟨_,rfl,(show _/\_ from⟨(by repeat(first|exact Ad|assumption|(refine AE ?_ _)|(refine AB ?_ _)|(refine Below.drew ?_))),_,Aa 0 (heap_alloc_new _ _),HV9.below (Ao _)⟩)⟩
      |exact⟨_,rfl,(show _/\_ from⟨BS hX9 hX7.size,_,Aa 0 (heap_setCell_same _ _ 0 _ _ _ bx9),HV9.setOther kb9 (fun _ _ e=>by cases e)⟩)⟩
      |exact⟨_,rfl,(show _/\_ from⟨BS hX9 leR,_,Aa 0 (heap_setCell_same _ _ 0 _ _ _ bx9),HV9.setOther kb9 (fun _ _ e=>by cases e)⟩)⟩
  case rest=>
   obtain⟨p2,rfl,HA⟩:=hcut;obtain⟨o,va,an,ap⟩:=HA.out;clear HA u0 u1 l6;replace f:=(o.block _ (by omega)).trans f;replace j:=(o.block _ (by omega)).trans j;replace d:=(o.block _ (by omega)).trans d;replace y:=(o.block _ (by omega)).trans y;replace c:=c.trans (o.mono c.size);have br:=o.size;have hE:PJ wc p1 p2 p3 w6.heap.size w.heap.size l m ins:=⟨Ag o au.out,⟨va,an,ap⟩,Ag o ba.out,⟨_,Aa 0 y,ax.out.below o⟩,⟨_,_,f,bb.out _ c,bc.out _ c⟩⟩
   have hst:∀i,stW m ins i<m.out.length*(ins.stem.length+ins.loop.length):=fun i=>Q7 am.out z.out i
   have hN:m.out.length*(ins.stem.length+ins.loop.length)<=3000*100:=Nat.mul_le_mul am.out.n (by omega);obtain⟨mm,nn,hrep,hnn⟩:=Q0 hst
   have hlt:=fun k=>QJ HF.out z.out k
   have hR:CY l m ins=Bh (A7 (ltW l m ins) mm nn).stem (A7 (ltW l m ins) mm nn).loop:=by rw[HE.out,Ih hrep hlt]
   have a7:(m.start:Int)=((stW m ins 0:Nat):Int):=by rw[Q8];have:=am.out.s0;omega
   have al:Hid (Calls Tryz.prog 57 #[.int .i64 ((m.out.length*(ins.stem.length+ins.loop.length):Nat):Int),.int .i64 m.start,.func (.func 58) #[] #[.pointer (some ⟨p1,0,none⟩),.pointer (some ⟨p2,0,none⟩),.pointer (some ⟨p3,0,none⟩),.pointer (some ⟨w6.heap.size,0,none⟩),.pointer (some ⟨w.heap.size,0,none⟩)]] wc (Dz (CY l m ins) wc)):=by
    rw[a7,hR];exact NT wc 58 _ (enters_of Tryz.func58 (by kernel_rfl) rfl) (stW m ins) (ltW l m ins) _ mm nn (by omega) hst hrep hnn (fun W k hW _=>RG W p1 p2 p3 _ _ l m ins k (hE.below hW) HF.out z.out) (fun k=>⟨(hlt k).1,by have:=(hlt k).2;omega⟩)
   have hw:=IntWalk.i64_in (((m.out.length*(ins.stem.length+ins.loop.length):Nat):Int)) ⟨by omega,by omega⟩;rw[Int.natCast_mul]at hw
   have ai:(m.out.length:Int)*((ins.stem.length+ins.loop.length:Nat):Int)=((m.out.length*(ins.stem.length+ins.loop.length):Nat):Int):=by rw[Int.natCast_mul]
   have bh:=Ag o au.out;obtain⟨aa,ca,rfl⟩:=ap.shape;rw[List.length_append]at an;have k2:=Aa 2 f;clear hrep hst hlt hR a7 hE ap hnn;generalize ins.stem.length+ins.loop.length=bo at*;rw[<-ai]at al;clear ai
   go_upto_region 6 with(fail)
   go_wp2_with fail
   refine al.out.mono ?_;rintro e bx ⟨v,rfl,⟨x0,x1,rfl,i0,i1⟩,hb⟩;replace d:=(hb.block _ (by omega)).trans d;replace c:=c.trans (hb.mono c.size);clear hb f j y al bh an k2;obtain⟨y0,z0,rfl⟩:=i0.shape;obtain⟨y1,z1,rfl⟩:=i1.shape;have hh:=ME d;obtain⟨g0,g1,g2,g3⟩:=hh;have H0:=Ab i0;have H1:=Ab i1;clear i0 i1;go_wp2
   (have p:=Bq (a:=.slice y0 (CY l m ins).stem.length z0) (b:=.slice y1 (CY l m ins).loop.length z1) d);(have ab:=Aa 0 p);(have ac:=Aa 1 p);(refine bodyPost_ret (v:=.agg #[.slice y0 (CY l m ins).stem.length z0,.slice y1 (CY l m ins).loop.length z1]) (by simp[results,Tryz.results23,go_sem,ab,ac]) rfl ?_)
   exact If d H0.out H1.out c (by omega)
def C6(f:Nat->Nat)(k:Nat):List Int:=AV (fun i=>(f i:Int)) k
theorem L7{f:Nat->Nat}{k:Nat}{x:Nat}:(x:Int)∈C6 f k↔∃m,m<k/\f m=x:=by
 unfold C6 AV;rw[List.mem_map]
 constructor
 ·rintro⟨m,h1,h2⟩;exact⟨m,List.mem_range.1 h1,by exact_mod_cast h2⟩
 ·rintro⟨m,h1,h2⟩;exact⟨m,List.mem_range.2 h1,by rw[h2]⟩
theorem N8{f:Nat->Nat}{k m:Nat}(h:m<k):(C6 f k).getD m 0=(f m:Int):=LH (lt:=fun i=>(f i:Int)) h
theorem Kc{f:Nat->Nat}{k:Nat}(hd:∀i j,i<j->j<k->f i≠f j):
  (∃m,Dw f m k/\(C6 f k).idxOf (f k:Int)=m/\m<k/\KD (C6 f k) (f k:Int)=C6 f k)\/((∀i j,i<j->j<k+1->f i≠f j)/\(C6 f k).idxOf (f k:Int)=k/\KD (C6 f k) (f k:Int)=C6 f (k+1)):=by
 by_cases h:∃m,m<k/\f m=f k
 ·obtain⟨m,h1,h2⟩:=h;refine .inl ⟨m,⟨h1,h2,hd⟩,Ly (by unfold C6;rw[AO];exact h1) (by rw[N8 h1,h2]) fun hm=> ?_,h1,if_pos (L7.2 ⟨m,h1,h2⟩)⟩;obtain⟨i,hi,e⟩:=List.getElem_of_mem hm
  have a:i<m:=by simp at hi;omega
  rw[List.getElem_take]at e;have e2:=N8 (f:=f) (k:=k) (m:=i) (by omega);rw[Ae _ _ _ (by unfold C6;rw[AO];omega),e]at e2;exact hd i m a h1 (by rw[h2];exact_mod_cast e2.symm)
 ·have hn:((f k:Nat):Int)∉C6 f k:=fun hm=>h (L7.1 hm)
  refine .inr ⟨fun i j h1 h2 e=> ?_,by rw[Gl hn];exact AO _ _, ?_⟩
  ·rcases Nat.lt_or_ge j k with h3|h3
   ·exact hd i j h1 h3 e
   ·obtain rfl:j=k:=by omega
    exact h ⟨i,h1,e⟩
  ·rw[KD,if_neg hn];exact(DK _ _).symm
theorem Dw.congr{f g:Nat->Nat}(h:∀i j,f i=f j↔g i=g j){m n:Nat}(hr:Dw f m n):Dw g m n:=⟨hr.1,(h _ _).1 hr.2.1,fun i j h1 h2 e=>hr.2.2 i j h1 h2 ((h _ _).2 e)⟩
def stR(m:My)(ins:Ls)(k:Nat):Nat:=qW m ins k*(ins.stem.length+ins.loop.length)+Dp ins k
theorem Sz{m:My}{ins:Ls}(hm:MyV m)(hw:InV m.ins ins)(i j:Nat):stR m ins i=stR m ins j↔stW m ins i=stW m ins j:=by
 have a1:=G3 hm hw i;have a2:=G3 hm hw j;have b1:=FQ hw.p i;have b2:=FQ hw.p j;obtain⟨c1,c2⟩:=KY hm hw i;obtain⟨d1,d2⟩:=KY hm hw j
 constructor
 ·intro h;unfold stR at h
  have e1:∀q p n:Nat,p<n->(q*n+p)/n=q/\(q*n+p)%n=p:=fun q p n hp=>⟨by rw[Nat.mul_comm,Nat.mul_add_div (by omega),Nat.div_eq_of_lt hp,Nat.add_zero],by rw[Nat.mul_comm,Nat.mul_add_mod,Nat.mod_eq_of_lt hp]⟩
  obtain⟨x1,x2⟩:=e1 (qW m ins i) (Dp ins i) _ b1;obtain⟨y1,y2⟩:=e1 (qW m ins j) (Dp ins j) _ b2;rw[h]at x1 x2;unfold stW;rw[<-x1,<-x2,y1,y2]
 ·intro h;rw[h]at c1 c2;unfold stR;rw[<-c1,<-c2,d1,d2]
theorem TM{m:My}{ins:Ls}(hm:MyV m)(hw:InV m.ins ins)(k:Nat):stR m ins k<m.out.length*(ins.stem.length+ins.loop.length):=by
 have h1:=G3 hm hw k;have h2:=FQ hw.p k;unfold stR
 calc qW m ins k*(ins.stem.length+ins.loop.length)+Dp ins k<qW m ins k*(ins.stem.length+ins.loop.length)+(ins.stem.length+ins.loop.length):=by omega
  _=(qW m ins k+1)*(ins.stem.length+ins.loop.length):=by rw[Nat.add_mul,Nat.one_mul]
  _<=m.out.length*(ins.stem.length+ins.loop.length):=Nat.mul_le_mul_right _ h1
theorem Ie{lt:Nat->Int}{m n:Nat}(h:m<=n):(⟨(AV lt n).take m,(AV lt n).drop m⟩:Ls)=A7 lt m n:=by
 rw[Ga h,F8]
structure SK(w5:World)(st:Nat->Nat)(lt:Nat->Int)(sv lv:Value)(ks kl:Nat)(wr:World):Prop where
 bl:Below w5.heap.size w5 wr
 s:OI wr w5.heap.size sv (C6 st ks)
 l:OI wr w5.heap.size lv (AV lt kl)
 ap:AR sv lv
theorem SK.zero(w5:World)(st:Nat->Nat)(lt:Nat->Int):SK w5 st lt (.slice none 0 0) (.slice none 0 0) 0 0 w5:=
 ⟨Ad,Br _ _,Br _ _,fun g h=>by cases h⟩
section
variable {w5 wr w':World} {st:Nat->Nat} {lt:Nat->Int} {sv lv v':Value} {ks kl:Nat}
theorem SK.below(h:SK w5 st lt sv lv ks kl wr)(hb:Below wr.heap.size wr w'):SK w5 st lt sv lv ks kl w':=
 ⟨h.bl.trans (hb.mono h.bl.size),h.s.below hb,h.l.below hb,h.ap⟩
theorem SK.seen{a:Nat}(h:SK w5 st lt sv lv ks kl wr)(ho:OI w' w5.heap.size v' (C6 st a))(hg:wr.grownBy w' sv.ownBlock)(hm:AS wr sv v'):SK w5 st lt v' lv a kl w':=
 ⟨h.bl.grown hg h.bl.size h.s.ge,ho,h.l.grownA hg h.ap.symm,(h.ap.symm.moved hm h.l.lt').symm⟩
theorem SK.lett{a:Nat}(h:SK w5 st lt sv lv ks kl wr)(ho:OI w' w5.heap.size v' (AV lt a))(hg:wr.grownBy w' lv.ownBlock)(hm:AS wr lv v'):SK w5 st lt sv v' ks a w':=
 ⟨h.bl.grown hg h.bl.size h.l.ge,h.s.grownA hg h.ap,ho,h.ap.moved hm h.s.lt'⟩
theorem SK.slices(h:SK w5 st lt sv lv ks kl wr):∃a c b d,sv=.slice a ks c/\lv=.slice b kl d:=by
 obtain⟨a,c,h1⟩:=h.s.slice;obtain⟨b,d,h2⟩:=h.l.slice;have e1:(C6 st ks).length=ks:=AO _ _;rw[e1]at h1;rw[AO]at h2;exact⟨a,c,b,d,h1,h2⟩
theorem SK.ints(h:SK w5 st lt sv lv ks kl wr)(hl:∀k,0<=lt k/\lt k<64)(hk:kl<=1000000):Ah wr lv (AV lt kl):=by
 refine h.l.is (by rw[AO];simp only[Bg];omega) fun x hx=> ?_
 obtain⟨i,-,rfl⟩:=List.mem_map.1 hx;have:=hl i;unfold I64;omega
end
theorem PD(w:World)(vl vm vi:Value)(l:List Sig)(m:My)(ins:Ls)(hl:AD w vl l)(hm:BB w vm m)(hi:Cn w vi ins)(bj:m.out.length<=1000):
  Calls Tryz.prog 24 #[vl,vm,vi] w (Dz (CY l m ins) w):=by
 have a5:Hid (∀W,Below w.heap.size w W->Calls Tryz.prog 27 #[vl,vm] W (Av (.bool (BH l m)) W)):=fun W h=>GJ W _ _ l m (hl.below h) (hm.below h)
 have bb:Hid (∀W,Below w.heap.size w W->Calls Tryz.prog 28 #[.int .i64 m.ins,vi] W (Av (.bool (Ch m.ins ins)) W)):=fun W h=>Om W _ _ m.ins (hi.below h)
 have a7:Hid (∀W i o,I64 i->I64 o->Below w.heap.size w W->Calls Tryz.prog 61 #[vl,.int .i64 i,.int .i64 o] W (Av (.int .i64 (AI l i o)) W)):=fun W i o h1 h2 h=>Kq W _ l i o h1 h2 (hl.below h)
 have a1:Hid (∀W i,I64 i->Below w.heap.size w W->Calls Tryz.prog 60 #[vi,.int .i64 i] W (Av (.int .i64 (atI ins i)) W)):=fun W i h1 h=>TY W _ ins i (hi.below h) h1
 obtain⟨v3,v4,rfl,⟨-,-,b8⟩,i3,i4⟩:=hm;obtain⟨s0,s1,rfl,j0,j1⟩:=hi
 have bv:Hid (∀W,Below w.heap.size w W->Ar W v3 m.out):=fun W h=>i3.below h
 have bw:Hid (∀W,Below w.heap.size w W->Ar W v4 m.next):=fun W h=>i4.below h
 obtain⟨a3,c3,rfl⟩:=i3.shape;obtain⟨a4,c4,rfl⟩:=i4.shape;obtain⟨d0,f0,rfl⟩:=j0.shape;obtain⟨d1,f1,rfl⟩:=j1.shape;clear hl i3 i4 j0 j1
 go_enter Tryz.func24,Tryz.ntmps24
 go_upto_region 1 with(fail)
 obtain⟨f,-,bd⟩:=Aw (w0:=w) Ad leR #[.int .i64 m.ins,.int .i64 m.outs,.int .i64 m.start,(.slice a3 m.out.length c3),(.slice a4 m.next.length c4)] 25
 have az:(w.alloc (.cells #[.int .i64 m.ins,.int .i64 m.outs,.int .i64 m.start,(.slice a3 m.out.length c3),(.slice a4 m.next.length c4)] 25)).heap.size=w.heap.size+1:=by simp
 generalize w.alloc (.cells #[.int .i64 m.ins,.int .i64 m.outs,.int .i64 m.start,(.slice a3 m.out.length c3),(.slice a4 m.next.length c4)] 25)=w1 at*;obtain⟨n,-,be⟩:=Aw (w0:=w) bd (by omega) #[.slice d0 ins.stem.length f0,.slice d1 ins.loop.length f1] 30
 have a0:(w1.alloc (.cells #[.slice d0 ins.stem.length f0,.slice d1 ins.loop.length f1] 30)).heap.size=w.heap.size+1+1:=by simp[az]
 have av:=(Dm w1 (.cells #[.slice d0 ins.stem.length f0,.slice d1 ins.loop.length f1] 30) (r:=w.heap.size) (by omega)).trans f;generalize w1.alloc (.cells #[.slice d0 ins.stem.length f0,.slice d1 ins.loop.length f1] 30)=w2 at*;obtain⟨c,-,d⟩:=Aw (w0:=w) be (by omega) #[.slice none 0 0,.slice none 0 0] 30
 have cg:(w2.alloc (.cells #[.slice none 0 0,.slice none 0 0] 30)).heap.size=w.heap.size+1+1+1:=by simp[a0]
 have f:=(Dm w2 (.cells #[.slice none 0 0,.slice none 0 0] 30) (r:=w.heap.size) (by omega)).trans av;have n:=(Dm w2 (.cells #[.slice none 0 0,.slice none 0 0] 30) (r:=w1.heap.size) (by omega)).trans n;generalize w2.alloc (.cells #[.slice none 0 0,.slice none 0 0] 30)=w3 at*;clear av bd be;rw[az]at n;rw[a0]at c;have k0:=Aa 0 f;have k1:=Aa 1 f;have k2:=Aa 2 f;have k3:=Aa 3 f;have k4:=Aa 4 f
 go_wp2_with fail
 refine(a5.out _ d).mono ?_;rintro e w4 ⟨rfl,hb⟩;replace f:=(hb.block _ (by omega)).trans f;replace n:=(hb.block _ (by omega)).trans n;replace c:=(hb.block _ (by omega)).trans c;replace d:=d.trans (hb.mono d.size)
 have cf:w.heap.size+1+1+1<=w4.heap.size:=by have:=hb.size;omega
 clear hb cg k0 k1 k2 k3 k4 az a0;have q0:=Aa 0 c;have q1:=Aa 1 c;have k0:=Aa 0 f;have u0:=Aa 0 n;have u1:=Aa 1 n
 cases hf:BH l m with
 |false=>
  have hE:CY l m ins=C7:=if_neg (by rw[hf];simp);have HE:=Ab hE;have fz:=At 0 c;have b7:=At 1 c;clear hE;go_wp2;rw[HE.out]
  (have ab:=Bq (a:=.slice none 0 0) (b:=.slice none 0 0) c);(have ai:=Aa 0 ab);(have aj:=Aa 1 ab);(refine bodyPost_ret (v:=.agg #[.slice none 0 0,.slice none 0 0]) (by simp[results,Tryz.results24,go_sem,ai,aj]) rfl ?_)
  exact CR d (by omega)
 |true=>
 go_wp2_with fail
 refine(bb.out _ d).mono ?_;rintro e w5 ⟨rfl,hb⟩;replace f:=(hb.block _ (by omega)).trans f;replace n:=(hb.block _ (by omega)).trans n;replace c:=(hb.block _ (by omega)).trans c;replace d:=d.trans (hb.mono d.size)
 replace cf:w.heap.size+1+1+1<=w5.heap.size:=by have:=hb.size;omega
 clear hb q0 q1 k0 u0 u1
 cases hv:Ch m.ins ins with
 |false=>
  have hE:CY l m ins=C7:=if_neg (by rw[hv];simp);have HE:=Ab hE;have q0:=Aa 0 c;have q1:=Aa 1 c;have fz:=At 0 c;have b7:=At 1 c;clear hE;go_wp2;rw[HE.out]
  (have ab:=Bq (a:=.slice none 0 0) (b:=.slice none 0 0) c);(have ai:=Aa 0 ab);(have aj:=Aa 1 ab);(refine bodyPost_ret (v:=.agg #[.slice none 0 0,.slice none 0 0]) (by simp[results,Tryz.results24,go_sem,ai,aj]) rfl ?_)
  exact CR d (by omega)
 |true=>
 have HE:Hid (CY l m ins=He (stW m ins) (ltW l m ins)):=if_pos ⟨hf,hv⟩;have u:=Ab (BT.1 hf).2.1;have aa:=Ab (Jo hv);have HF:=Ab hf;have ci:=aa.out.s;have ch:=aa.out.l;have cd:=aa.out.p
 have bo:Hid (∀i,stR m ins i<m.out.length*(ins.stem.length+ins.loop.length)):=fun i=>TM u.out aa.out i
 have cm:m.out.length*(ins.stem.length+ins.loop.length)<=1000*100:=Nat.mul_le_mul bj (by omega)
 have br:Hid (∀k:Nat,atI ins (k:Int)=atL ins k):=fun k=>by
  have:CD ins=true:=by unfold Ch at hv;rw[Bool.and_eq_true,Bool.and_eq_true]at hv;exact hv.1.1
  rw[Nv (by omega) this];rfl
 have ba:Hid (∀mm nn,Dw (stR m ins) mm nn->CY l m ins=EC (A7 (ltW l m ins) mm nn)):=fun mm nn h=>by
  rw[HE.out,EY (h.congr (Sz u.out aa.out))]
 clear hf hv a5 bb HE
 have ce:IntKind.i64.wrap ((ins.stem.length:Int)+(ins.loop.length:Int))=((ins.stem.length+ins.loop.length:Nat):Int):=by rw[<-Int.natCast_add];exact IntWalk.i64_in _ ⟨by omega,by omega⟩
 have k2:=Aa 2 f;have u0:=Aa 0 n;have u1:=Aa 1 n
 have bm:m.start=((qW m ins 0:Nat):Int):=by have:=u.out.s0;show _=((m.start.toNat:Nat):Int);omega
 have bc:Hid (∀W,Below w5.heap.size w5 W->W.heap[w.heap.size]? =some (.cells #[.int .i64 m.ins,.int .i64 m.outs,.int .i64 m.start,.slice a3 m.out.length c3,.slice a4 m.next.length c4] 25 (0,0))):=fun W h=>(h.block _ (by omega)).trans f
 have am:Hid (∀W,Below w5.heap.size w5 W->W.heap[w.heap.size+1]? =some (.cells #[.slice d0 ins.stem.length f0,.slice d1 ins.loop.length f1] 30 (0,0))):=fun W h=>(h.block _ (by omega)).trans n
 have b4:Hid (∀W,Below w5.heap.size w5 W->W.heap[w.heap.size+1+1]? =some (.cells #[.slice none 0 0,.slice none 0 0] 30 (0,0))):=fun W h=>(h.block _ (by omega)).trans c
 have ag:Hid (∀W,Below w5.heap.size w5 W->Below w.heap.size w W):=fun W h=>d.trans (h.mono d.size)
 have b2:=Ab bm;clear bm f n c d b8
 go_wp2_with fail
 go_loopg [8,9,10,11] (m.out.length*(ins.stem.length+ins.loop.length)) (fun gh sv lv qv iv wr=>∃k:Nat,gh=m.out.length*(ins.stem.length+ins.loop.length)-k/\qv=.int .i64 ((qW m ins k:Nat):Int)/\iv=.int .i64 (k:Int)/\Hid (SK w5 (stR m ins) (ltW l m ins) sv lv k k wr/\k<=m.out.length*(ins.stem.length+ins.loop.length)/\∀i j,i<j->j<k->stR m ins i≠stR m ins j))
 case atStart=>exact⟨0,rfl,by rw[b2.out],rfl,SK.zero _ _ _,Nat.zero_le _,fun i j h1 h2=>absurd h2 (by omega)⟩
 case round=>
  clear k2 u0 u1 ce;obtain⟨k,bh,rfl,rfl,HK⟩:=hrel;have bu:=Ab bh;have ah:=Ab HK.out.1;have cn:=HK.out.2.1;have HD:=Ab HK.out.2.2;clear bh HK;obtain⟨aS,cS,aL,cL,rfl,rfl⟩:=ah.out.slices;have u0:=Aa 0 (am.out _ ah.out.bl);have u1:=Aa 1 (am.out _ ah.out.bl);have ao:=FQ cd k;have a9:=Ab ao
  go_upto_if 42 with(fail)
  go_cut [12] (fun v wx=>v=.int .i64 ((Dp ins k:Nat):Int)/\∃mm,wx=wr.drewN mm)
  case first=>
   by_cases hlt:k<ins.stem.length+ins.loop.length
   ·have al:Dp ins k=k:=by
     unfold Dp
     by_cases h:k<ins.stem.length
     ·rw[if_pos h]
     ·rw[if_neg h,Nat.mod_eq_of_lt (by omega)];omega
    have b0:=Ab al
    have i1:¬(ins.stem.length:Int)+(ins.loop.length:Int)<=(k:Int):=by omega
    clear ao al
    go_wp2_with fail
    go_meet
    case rel=>exact⟨by rw[b0.out],0,rfl⟩
   ·have al:Dp ins k=ins.stem.length+(k-ins.stem.length)%ins.loop.length:=by
     unfold Dp;rw[if_neg (by omega)]
    have i1:(ins.stem.length:Int)+(ins.loop.length:Int)<=(k:Int):=by omega
    generalize hP:Dp ins k=P at*
    have bi:((k:Int)-(ins.stem.length:Int))%(ins.loop.length:Int)=(P:Int)-(ins.stem.length:Int):=by
     rw[al];have:(k:Int)-(ins.stem.length:Int)=((k-ins.stem.length:Nat):Int):=by omega
     rw[this];omega
    have cb:((k:Int)-(ins.stem.length:Int)).tmod (ins.loop.length:Int)=(P:Int)-(ins.stem.length:Int):=by
     rw[Int.tmod_eq_emod_of_nonneg (by omega)];exact bi
    have cp:¬ins.loop.length=0:=by omega
    have bp:IntKind.i64.wrap ((k:Int)-(ins.stem.length:Int))=(k:Int)-(ins.stem.length:Int):=IntWalk.i64_in _ ⟨by omega,by omega⟩;have bq:IntKind.i64.wrap ((P:Int)-(ins.stem.length:Int))=(P:Int)-(ins.stem.length:Int):=IntWalk.i64_in _ ⟨by omega,by omega⟩
    have cs:IntKind.i64.wrap ((ins.stem.length:Int)+((P:Int)-(ins.stem.length:Int)))=(P:Int):=by
     rw[show(ins.stem.length:Int)+((P:Int)-(ins.stem.length:Int))=(P:Int)by omega];exact IntWalk.i64_in _ ⟨by omega,by omega⟩
    clear ao al hP a9
    go_wp2_with fail
    go_quiet (fail)
    go_wp2_with fail
    go_meet
    case rel=>exact⟨rfl,nq,rfl⟩
  case rest=>
  obtain⟨rfl,mm,rfl⟩:=hcut;have q:=Ab (ah.out.below (Aj wr wr.heap.size mm));clear u0 u1 ah;generalize wr.drewN mm=w6 at*;have hq:=G3 u.out aa.out k
  have bn:((stR m ins k:Nat):Int)=((qW m ins k:Nat):Int)*((ins.stem.length:Int)+(ins.loop.length:Int))+((Dp ins k:Nat):Int):=by unfold stR;rw[Int.natCast_add,Int.natCast_mul,Int.natCast_add]
  have cj:=bo.out k
  have ad:((qW m ins k:Nat):Int)*((ins.stem.length:Int)+(ins.loop.length:Int))=((qW m ins k*(ins.stem.length+ins.loop.length):Nat):Int):=by rw[Int.natCast_mul,Int.natCast_add]
  have ay:qW m ins k*(ins.stem.length+ins.loop.length)<=stR m ins k:=Nat.le_add_right _ _;have bp:IntKind.i64.wrap (((qW m ins k:Nat):Int)*((ins.stem.length:Int)+(ins.loop.length:Int)))=((qW m ins k:Nat):Int)*((ins.stem.length:Int)+(ins.loop.length:Int)):=IntWalk.i64_in _ ⟨by rw[ad];omega,by rw[ad];omega⟩
  have bq:IntKind.i64.wrap (((qW m ins k:Nat):Int)*((ins.stem.length:Int)+(ins.loop.length:Int))+((Dp ins k:Nat):Int))=((stR m ins k:Nat):Int):=by rw[<-bn];exact IntWalk.i64_in _ ⟨by omega,by omega⟩
  have b3:Hid ((C6 (stR m ins) k).length<=10000000):=by show _<=_;unfold C6;rw[AO];omega
  have co:k<=100000:=by omega
  clear bn ad ay ao a9
  go_wp2_with fail
  refine(II w6 w5.heap.size _ (C6 (stR m ins) k) ((stR m ins k:Nat):Int) q.out.s q.out.bl.size b3.out).mono ?_;rintro e w7 ⟨v',rfl,ho,hg,an⟩;clear bp bq
  rcases Kc HD.out with⟨mb,au,ak,ca,ac⟩|⟨ax,ak,ac⟩
  ·rw[ac]at ho;rw[ak];have z:=Ab (q.out.seen ho hg an);clear ac ak ho hg an q
   have i1:(mb:Int)<(k:Int):=by omega
   have c:=b4.out _ z.out.bl;have d:=ag.out _ z.out.bl
   have a6:Hid (Calls Tryz.prog 59 #[.slice aL k cL,.int .i64 (mb:Int)] w7 (Dz (CY l m ins) w7)):=by
    have h:=Nr w7 _ _ mb (z.out.ints (fun j=>QJ HF.out aa.out j) (by omega)) (by rw[AO];exact ca) (by rw[AO];omega);rw[Ie (by omega),<-ba.out mb k au]at h;exact h
   clear au
   go_wp2_with fail
   refine a6.out.mono ?_;rintro e w9 ⟨v,rfl,⟨x0,x1,rfl,i0,i2⟩,hb⟩;replace c:=B8 hb c;replace d:=d.trans (hb.mono d.size);clear hb a6;obtain⟨y0,z0,rfl⟩:=i0.shape;obtain⟨y1,z1,rfl⟩:=i2.shape;obtain⟨g0,g1,g2,g3⟩:=ME c;have H0:=Ab i0;have H1:=Ab i2;clear i0 i2;go_wp2
   (have ab:=Bq (a:=.slice y0 (CY l m ins).stem.length z0) (b:=.slice y1 (CY l m ins).loop.length z1) c);(have ai:=Aa 0 ab);(have aj:=Aa 1 ab);(refine bodyPost_ret (v:=.agg #[.slice y0 (CY l m ins).stem.length z0,.slice y1 (CY l m ins).loop.length z1]) (by simp[results,Tryz.results24,go_sem,ai,aj]) rfl ?_)
   exact If c H0.out H1.out d (by omega)
  ·rw[ac]at ho;rw[ak];have z:=Ab (q.out.seen ho hg an);have bs:=Ab ax;have b9:k+1<=m.out.length*(ins.stem.length+ins.loop.length):=KC (fun i _=>bo.out i) ax;clear ac ak ho hg an q ax
   have i1:¬(k:Int)<(k:Int):=by omega
   have hb:=aa.out.b k;obtain⟨x,hx⟩:∃x:Nat,atL ins k=(x:Int):=⟨(atL ins k).toNat,by omega⟩
   have a2:Hid (∀W,Below w.heap.size w W->Calls Tryz.prog 60 #[.agg #[.slice d0 ins.stem.length f0,.slice d1 ins.loop.length f1],.int .i64 (k:Int)] W (Av (.int .i64 (x:Int)) W)):=fun W h=>by
    have:=a1.out W (k:Int) (by unfold I64;omega) h
    rwa [br.out k,hx]at this
   have c0:=Aa 0 (am.out _ z.out.bl);have c1:=Aa 1 (am.out _ z.out.bl)
   go_wp2_with fail
   refine(a2.out _ (ag.out _ z.out.bl)).mono ?_;rintro e w8 ⟨rfl,bf⟩;have af:=Ab (z.out.below bf);clear bf z a2 c0 c1 i1;obtain⟨o1,o2,o3⟩:=u.out.out' hq (x:=x) (by omega);obtain⟨n1,n2,n3⟩:=u.out.nx' hq (x:=x) (by omega);obtain⟨y,hy⟩:∃y:Nat,Bt m (qW m ins k) x=(y:Int):=⟨(Bt m (qW m ins k) x).toNat,by omega⟩;obtain⟨t,ht⟩:∃t:Nat,nxI m (qW m ins k) x=(t:Int):=⟨(nxI m (qW m ins k) x).toNat,by omega⟩
   have bk:qW m ins (k+1)=t:=by show(nxI m (qW m ins k) (atL ins k).toNat).toNat=t;rw[hx,Int.toNat_natCast,ht,Int.toNat_natCast]
   have hlt:ltW l m ins k=AI l (x:Int) (y:Int):=by unfold ltW;rw[hx,Int.toNat_natCast,hy]
   have i5:=bv.out _ (ag.out _ Ad);have i6:=bw.out _ (ag.out _ Ad);obtain⟨b5,s5,e5,-,f5⟩:=i5.dat2;obtain⟨b6,s6,e6,-,f6⟩:=i6.dat2;have cc:=u.out.nl;obtain rfl:=e5 (by omega);obtain rfl:=e6 (by omega);obtain⟨r5,z5,k5,q5⟩:=f5 (qW m ins k) hq;obtain⟨u5,cy,y5,-,g5⟩:=q5.data;obtain rfl:=y5 (by omega);replace g5:=g5 x o1;rw[show(m.out.getD (qW m ins k) []).getD x 0=(y:Int)from hy]at g5;obtain⟨r6,z6,k6,q6⟩:=f6 (qW m ins k) (by omega);obtain⟨u6,cz,y6,-,g6⟩:=q6.data;obtain rfl:=y6 (by omega);replace g6:=g6 x n1;rw[show(m.next.getD (qW m ins k) []).getD x 0=(t:Int)from ht]at g6;have K5:=Ab k5;have K6:=Ab k6;have G5:=Ab g5;have G6:=Ab g6
   have ck:x<64:=by have:=u.out.i2;omega
   have cl:y<64:=by have:=u.out.o2;omega
   have a8:Hid (∀W,Below w.heap.size w W->Calls Tryz.prog 61 #[vl,.int .i64 (x:Int),.int .i64 (y:Int)] W (Av (.int .i64 (ltW l m ins k)) W)):=fun W h=>by
    rw[hlt];exact a7.out W _ _ (by unfold I64;omega) (by unfold I64;omega) h
   have bz:Hid (AV (ltW l m ins) k++[ltW l m ins k]=AV (ltW l m ins) (k+1)):=(DK _ _).symm
   have bx:Hid ((AV (ltW l m ins) k).length<17592186043904):=by show _<_;rw[AO];omega
   have b1:=Ab bk;clear i5 i6 f5 f6 q5 q6 k5 k6 g5 g6 y5 y6 e5 e6 hy ht hx hb o2 o3 n2 n3 bk hlt a1 a7;generalize(m.out.getD (qW m ins k) []).length=l5 at*;generalize(m.next.getD (qW m ins k) []).length=l6 at*;rw[cc]at*;have k3:=Aa 3 (bc.out _ af.out.bl);have k5:=Ag af.out.bl K5.out;have g5:=Ag af.out.bl G5.out
   have ct:(0:Int)<=(x:Int):=by omega
   have cu:(x:Int)<(l5:Int):=by omega
   have cv:(x:Int)<(l6:Int):=by omega
   have cq:(0:Int)<=((qW m ins k:Nat):Int):=by omega
   have cr:((qW m ins k:Nat):Int)<(m.out.length:Int):=by omega
   go_wp2_with fail
   refine(a8.out _ (ag.out _ af.out.bl)).mono ?_;rintro e w9 ⟨rfl,bg⟩;have aw:=Ab (af.out.below bg);clear bg af k3 k5 g5 a8
   go_wp2_with (at_builtin;refine C8 rfl _ _ (ltW l m ins k) rfl w5.heap.size _ _ aw.out.l rfl _ (by simp) rfl bx.out aw.out.bl.size ?_;intro cw cx ar ap aq;have ae:=Ab (aw.out.lett (bz.out▸ar) ap aq);clear ar ap aq;have k4:=Aa 4 (bc.out _ ae.out.bl);have k6:=Ag ae.out.bl K6.out;have g6:=Ag ae.out.bl G6.out)
   go_roundg (m.out.length*(ins.stem.length+ins.loop.length)-(k+1))
   case measure=>have:=bu.out;omega
   case rel=>exact⟨k+1,rfl,by rw[b1.out],by go_num,ae.out,b9,bs.out⟩
end Go.Proofs.YtncjeamdkjcebaaGreatDoor
