/- What parity.Word computes: whether the least priority over a cycle of the rounds is even. -/
import Derived.ChangeAlike
import Derived.Test.YtncjeamdkjcebaaDoorZAr22
set_option linter.all false
set_option maxHeartbeats 8000000
set_option maxRecDepth 100000
namespace Go.Proofs.YtncjeamdkjcebaaDoor
open Go.RowKit
def Nx(a:Au)(w:Ls)(b:Bool):Prop:=∃(j d:Nat)(v:Int),0<d/\stN a w (j+d)=stN a w j/\RC (lsN a w) j d v/\b=(Int.tmod v 2==0)
def stL(a:Au)(w:Ls)(n:Nat):List Int:=(List.range n).map (stN a w)
def lsL(a:Au)(w:Ls)(n:Nat):List Int:=(List.range n).map (lsN a w)
theorem Kw(a:Au)(w:Ls)(n:Nat):stL a w (n+1)=stL a w n++[stN a w n]:=by simp[stL,List.range_succ]
theorem Ot(a:Au)(w:Ls)(n:Nat):lsL a w (n+1)=lsL a w n++[lsN a w n]:=by simp[lsL,List.range_succ]
theorem Rr(a:Au)(w:Ls)(n k:Nat)(h:k<(stL a w n).length):(stL a w n)[k]=stN a w k:=by simp[stL]
theorem Re(a:Au)(w:Ls)(n k:Nat)(h:k<n):(lsL a w n).getD k 0=lsN a w k:=by simp[lsL,h]
theorem OS{a:Au}(hv:Az a=true){q m:Int}(h0:0<=q)(h1:q<a.next.length)(hm:0<=m):∀{ls:List Int},(∀x∈ls,0<=x/\x<a.letters)->0<=(CC a (q,m) ls).2/\(CC a (q,m) ls).2<=m:=by
 intro ls
 induction ls generalizing q m with
 |nil=>intro _;exact⟨hm,Int.le_refl _⟩
 |cons x ls ih=>
  intro hl;have hx:=hl x List.mem_cons_self;have hn:=Qz hv h0 h1 hx.1 hx.2;have hr:=Cb hv (s:=q.toNat) (by omega);have hp:=Gq hv (s:=q.toNat) (by omega) x.toNat (by omega);have hp':0<=prL a q x:=hp.1
  have:=ih (m:=min m (prL a q x)) hn.1 hn.2 (by omega) fun y hy=>hl y (List.mem_cons_of_mem _ hy)
  exact⟨this.1,Int.le_trans this.2 (by omega)⟩
theorem IS{w:Ls}{k:Int}(h:CA k w=true):(∀x∈w.stem,0<=x/\x<k)/\(∀x∈w.loop,0<=x/\x<k)/\0<w.loop.length:=by
 simp only[CA,Bool.and_eq_true,List.all_eq_true,decide_eq_true_eq]at h;obtain⟨⟨h1,h2⟩,h3⟩:=h;obtain⟨-,h4,-,h5,h6⟩:=(Dm w).1 h1;exact⟨fun x hx=>⟨((D0 x).1 (h5 x hx)).1,h2 x hx⟩,fun x hx=>⟨((D0 x).1 (h6 x hx)).1,h3 x hx⟩,h4⟩
theorem Rs{a:Au}{w:Ls}(hv:Az a=true)(hw:CA a.letters w=true)(i:Nat):0<=stN a w i/\stN a w i<a.next.length:=by
 obtain⟨h1,h2,-⟩:=IS hw;have h:=hv;simp only[Az,Bool.and_eq_true,decide_eq_true_eq]at h
 induction i with
 |zero=>exact Hf hv h.1.2.1 h.1.2.2 h1
 |succ i ih=>exact Hf hv ih.1 ih.2 h2
theorem Ht{n:Nat}{L:List Int}(hn:L.Nodup)(h0:∀q∈L,0<=q/\q<n):L.length<=n:=by
 have h1:(L.map Int.toNat).Nodup:=by
  induction L with
  |nil=>simp
  |cons q L ih=>
   rw[List.map_cons,List.nodup_cons];rw[List.nodup_cons]at hn;refine⟨fun hm=> ?_,ih hn.2 (fun y hy=>h0 y (List.mem_cons_of_mem _ hy))⟩;obtain⟨y,hy,e⟩:=List.mem_map.1 hm;have a1:=h0 y (List.mem_cons_of_mem _ hy);have a2:=h0 q List.mem_cons_self
   have:y=q:=by omega
   exact hn.1 (this▸hy)
 have h2:(L.map Int.toNat).Perm ((List.range n).filter fun x=>decide (x∈L.map Int.toNat)):=(List.perm_ext_iff_of_nodup h1 (List.Nodup.sublist List.filter_sublist List.nodup_range)).2 fun x=>by
  rw[List.mem_filter,List.mem_range,decide_eq_true_eq];refine⟨fun hx=>⟨?_,hx⟩,fun hx=>hx.2⟩;obtain⟨y,hy,rfl⟩:=List.mem_map.1 hx;have:=h0 y hy;omega
 have h3:=h2.length_eq;have h4:=List.length_filter_le (fun x=>decide (x∈L.map Int.toNat)) (List.range n);rw[List.length_map]at h3;rw[List.length_range]at h4;omega
theorem Af.dropS{w:World}{b off n c j:Nat}{l:List Int}(h:Af w (.slice (some ⟨b,off,none⟩) n c) l)(hj:j<n):Af w (.slice (some ⟨b,off+j,none⟩) (n-j) (c-j)) (l.drop j):=by
 obtain⟨⟨a',c',b',o',hv,ha⟩,hr⟩:=h;simp only[Value.slice.injEq]at hv;obtain⟨rfl,rfl,rfl⟩:=hv;have had:=ha.ad (by omega);simp only[Option.some.injEq,Addr.mk.injEq,and_true]at had;obtain⟨rfl,rfl⟩:=had;have h1:=ha.lc;have h2:=ha.cm;have h3:=ha.nm;refine⟨⟨_,c-j,b,off+j,by rw[List.length_drop],by rw[List.length_drop];omega,by omega,by rw[List.length_drop];omega,(fun h=>by cases h),(fun _=>rfl),fun i hi=> ?_⟩,fun x hx=>hr x (List.mem_of_mem_drop hx)⟩;rw[List.length_drop]at hi;have:=ha.el (j+i) (by omega);rw[show off+j+i=off+(j+i)by omega,this];simp[ivF,List.getD]
theorem QY(w:World)(va vw:Value)(a:Au)(l:Ls)(ha:B4 w va a)(hl:Df w vw l)(hv:Az a=true)(hw:CA a.letters l=true):
  Calls Tryd.prog 24 #[va,vw] w (fun e w'=>∃b,e=.returned (.bool b)/\Nx a l b/\Below w.heap.size w w'):=by
 obtain⟨p2,n2,k2,p3,n3,k3,rfl⟩:=ha.shp;obtain⟨a0,c0,a1,c1,rfl⟩:=hl.shp
 go_enter Tryd.func24,Tryd.ntmps24
 go_upto_region 1 with(fail)
 obtain⟨hx,hz,hB⟩:((w.alloc (.cells #[.int .i64 a.letters,.int .i64 a.start,.slice p2 n2 k2,.slice p3 n3 k3] 44)).alloc (.cells #[.slice a0 l.stem.length c0,.slice a1 l.loop.length c1] 40)).heap[w.heap.size]? =some (.cells #[.int .i64 a.letters,.int .i64 a.start,.slice p2 n2 k2,.slice p3 n3 k3] 44 (0,0))/\((w.alloc (.cells #[.int .i64 a.letters,.int .i64 a.start,.slice p2 n2 k2,.slice p3 n3 k3] 44)).alloc (.cells #[.slice a0 l.stem.length c0,.slice a1 l.loop.length c1] 40)).heap[w.heap.size+1]? =some (.cells #[.slice a0 l.stem.length c0,.slice a1 l.loop.length c1] 40 (0,0))/\Below w.heap.size w ((w.alloc (.cells #[.int .i64 a.letters,.int .i64 a.start,.slice p2 n2 k2,.slice p3 n3 k3] 44)).alloc (.cells #[.slice a0 l.stem.length c0,.slice a1 l.loop.length c1] 40)):=⟨(by(repeat(rw[Ak];first|rw[if_pos (by first|simp;done|simp;omega)]|rw[if_neg (by first|simp;done|simp;omega)]));(try rfl)),(by(repeat(rw[Ak];first|rw[if_pos (by first|simp;done|simp;omega)]|rw[if_neg (by first|simp;done|simp;omega)]));(try rfl)),(by repeat(first|exact Ad|assumption|apply AF|apply AE))⟩;replace ha:=ha.below hB;replace hl:=hl.below hB;generalize(w.alloc (.cells #[.int .i64 a.letters,.int .i64 a.start,.slice p2 n2 k2,.slice p3 n3 k3] 44)).alloc (.cells #[.slice a0 l.stem.length c0,.slice a1 l.loop.length c1] 40)=w1 at*
 have HE:Hid (∀W,Below w1.heap.size w1 W->Below w.heap.size w W):=fun W h=>hB.trans (h.mono hB.size)
 clear hB;generalize w.heap.size+1=zw at*;generalize hza:w.heap.size=za at*;have HZA:=Ab hza;clear hza;have d0:=Aa 0 hx;have d1:=Aa 1 hx;have d2:=Aa 2 hx;have d3:=Aa 3 hx
 go_wp2_with fail
 refine(GO _ _ a ha).mono ?_;rw[hv];rintro e w2 ⟨rfl,hb⟩;replace hx:=Am hb hx;replace hz:=Am hb hz;replace ha:=ha.below hb;replace hl:=hl.below hb;clear d0 d1 d2 d3;have d0:=Aa 0 hx;have e0:=Aa 0 hz;have e1:=Aa 1 hz
 go_wp2_with fail
 refine(GV _ _ l a.letters hl).mono ?_;rw[hw];rintro e w3 ⟨rfl,hb3⟩;replace hx:=Am hb3 hx;replace hz:=Am hb3 hz;replace ha:=ha.below hb3;replace hl:=hl.below hb3;replace hb:=hb.trans (hb3.mono hb.size);clear d0 e0 e1 hb3;have d1:=Aa 1 hx;obtain⟨h1,h2,hlp⟩:=IS hw;obtain⟨hl0,hl1⟩:=hl.parts;obtain⟨v2,v3,hve,hI64,hN,hP⟩:=id ha;simp only[Value.agg.injEq,Array.mk.injEq,List.cons.injEq,and_true,true_and]at hve;obtain⟨rfl,rfl⟩:=hve
 have hstart:0<=a.start/\a.start<a.next.length:=by
  have h:=hv;simp only[Az,Bool.and_eq_true,decide_eq_true_eq]at h;exact h.1.2
 have hN3:a.next.length<=3000:=by
  have h:=hv;simp only[Az,Bool.and_eq_true,decide_eq_true_eq]at h;omega
 have HRD:Hid (∀W vls ls q,Below w3.heap.size w3 W->Af w3 vls ls->W.heap[w3.heap.size]? =some (.cells #[.int .i64 q] 3 (0,0))->0<=q->q<a.next.length->(∀x∈ls,0<=x/\x<a.letters)->Calls Tryd.prog 59 #[vls,.pointer (some ⟨za,0,none⟩),.pointer (some ⟨w3.heap.size,0,none⟩)] W (fun e w'=>e=.returned (.int .i64 (CC a (q,20000) ls).2)/\Below w3.heap.size w3 w'/\W.grownBy w' (some w3.heap.size)/\w'.heap[w3.heap.size]? =some (.cells #[.int .i64 (CC a (q,20000) ls).1] 3 (0,0)))):=fun W vls ls q hB hi hs h0 h1 hls=>Rn w3 W vls ls a za w3.heap.size n2 k2 n3 k3 p2 p3 q hv hB hi hx hN hP leR hs h0 h1 hls
 have HEZ:Hid (∀W,Below w3.heap.size w3 W->W.cell? ⟨zw,0,none⟩=some (.slice a0 l.stem.length c0)/\W.cell? ⟨zw,1,none⟩=some (.slice a1 l.loop.length c1)):=fun W h=>by
  have k:=Am h hz;exact⟨Aa 0 k,Aa 1 k⟩
 have HBD:=Ab (fun i=>Rs hv hw i);have HN:=Ab hN3;have HV:=Ab hv;have HB:=Ab hb;have HL0:=Ab hl0;have HL1:=Ab hl1;have HLT:=Ab (And.intro h1 (And.intro h2 hlp))
 go_upto_region 4 with(fail)
 have hb4:=Ap (w:=w3) (.cells #[.int .i64 a.start] 3);have hs:=heap_alloc_new w3 (.cells #[.int .i64 a.start] 3);generalize w3.alloc (.cells #[.int .i64 a.start] 3)=w4 at*;obtain⟨e0,-⟩:=HEZ.out w4 hb4;clear d1 hx hz ha hl hb hN hP hl0 hl1 hN3 h1 h2 hlp hI64 hv
 go_wp2_with fail
 refine(HRD.out w4 _ _ _ hb4 HL0.out hs hstart.1 hstart.2 HLT.out.1).mono ?_;rintro e w5 ⟨rfl,hb5,-,hs5⟩;clear e0 hb4 hs hstart;have hs5':w5.heap[w3.heap.size]? =some (.cells #[.int .i64 (stN a l 0)] 3 (0,0)):=hs5;clear hs5;have HMM:=@run_makeMap Tryd.prog;have hb6:=Ap (w:=w5) (.map #[] 0);have hM6:=CS.made w5
 have hz6:w5.heap.size<(w5.alloc (.map #[] 0)).heap.size:=by simp
 have hzs:w3.heap.size<w5.heap.size:=(Array.getElem?_eq_some_iff.1 hs5').1;have hs6:=(hb6.block _ hzs).trans hs5';have hB6:Below w3.heap.size w3 (w5.alloc (.map #[] 0)):=hb5.trans (hb6.mono hb5.size)
 go_wp2_with fail
 clear HMM hb6 hs5' hb5;generalize w5.alloc (.map #[] 0)=w6 at*;generalize w5.heap.size=zm at*;generalize hzq:w3.heap.size=zs at*
 go_loopg [7] (a.next.length+1) (fun gh vL wr=>∃n:Nat,gh=a.next.length+1-n/\n<=a.next.length/\Hid ((stL a l n).Nodup)/\wr.heap[zs]? =some (.cells #[.int .i64 (stN a l n)] 3 (0,0))/\CS wr zm (stL a l n)/\OI wr (zm+1) vL (lsL a l n)/\Below zs w3 wr/\zm+1<=wr.heap.size)
 case atStart=>exact⟨0,by omega,by omega,by simp[Hid,stL],hs6,hM6,Bl _ _,hB6,hz6⟩
 case round=>
  obtain⟨n,hgn,hn,HND,hs,hM,hO,hBr,hmr⟩:=hrel;have HGN:=Ab hgn;clear hgn hs6 hM6 hB6 hz6;obtain⟨q0,q1⟩:=HBD.out n;have hN3:=HN.out
  have hq64:I64 (stN a l n):=by unfold I64;omega
  have hlen:(stL a l n).length=n:=by simp[stL]
  have hlenL:(lsL a l n).length=n:=by simp[lsL]
  obtain⟨hyes,hno⟩:=hM.get hq64;have s0:=Aa 0 hs
  have HLB:Hid (∀x∈lsL a l n,I64 x):=fun x hx=>by
   obtain⟨i,-,rfl⟩:=List.mem_map.1 hx;have h1:=HBD.out i;have:=OS HV.out h1.1 h1.2 (m:=20000) (by omega) HLT.out.2.1;unfold lsN I64;omega
  by_cases hm:stN a l n∈stL a l n
  case pos=>as_aux_lemma=>
   have hrun:=hyes hm;have hj:=PT hm;have hjv:(stL a l n)[(stL a l n).idxOf (stN a l n)]=stN a l n:=List.getElem_idxOf hj
   have HJ:Hid (stN a l ((stL a l n).idxOf (stN a l n))=stN a l n):=by
    show _=_;rw[Rr]at hjv;exact hjv
   rw[hlen]at hj;obtain⟨g,cap,hvL,-,-⟩:=hO.row (by omega);subst hvL;have hOi:=hO.is (by rw[hlenL];simp only[Bg];omega) HLB.out;rw[hlenL]at hOi⊢
   have hcap:n<=cap:=by
    obtain⟨⟨_,_,_,_,hv',ha'⟩,-⟩:=hOi;simp only[Value.slice.injEq]at hv';obtain⟨-,-,rfl⟩:=hv';have:=ha'.lc;omega
   generalize(stL a l n).idxOf (stN a l n)=j at*;have HDR:=Ab (hOi.dropS hj);have HB5:=Ab hBr
   have hjn:(j:Int)<=(n:Int):=by omega
   have hj0:(0:Int)<=(j:Int):=Int.natCast_nonneg _
   have hnc:(n:Int)<=(cap:Int):=by omega
   have HLEN:Hid (((lsL a l n).drop j).length=n-j):=by show _=_;rw[List.length_drop,hlenL]
   have HJN:Hid (j<n):=hj;clear hyes hno hjv hO hOi hM hs hBr hlenL
   go_wp2_with fail
   have hdr:Af wr (.slice (some ⟨g,j,none⟩) (n-j) (cap-j)) ((lsL a l n).drop j):=by
    have:=HDR.out
    rwa [Nat.zero_add]at this
   refine(RD _ _ _ hdr (by rw[HLEN.out];have:=HJN.out;omega)).mono ?_;rintro e w8 ⟨rfl,rfl⟩;have hsp:=MK (l:=(lsL a l n).drop j) (by rw[HLEN.out];have:=HJN.out;omega) (n-j) (by have:=HJN.out;omega) (by rw[HLEN.out];omega);rw[HLEN.out]
   have hdg:∀i,i<n-j->((lsL a l n).drop j).getD i 0=lsN a l (j+i):=fun i hi=>by
    rw[<-Re a l n (j+i) (by omega)];simp[List.getD]
   generalize GC ((lsL a l n).drop j) (n-j)=v at*
   have HW:Hid (Nx a l (Int.tmod v 2==0)):=by
    have hjn':=HJN.out;refine⟨j,n-j,v,by omega,by rw[show j+(n-j)=n by omega];exact HJ.out.symm,⟨?_,fun i hi=> ?_⟩,rfl⟩
    ·obtain⟨⟨i,hi,e⟩,-⟩:=hsp;exact⟨i,hi,by rw[<-hdg i hi];exact e⟩
    ·rw[<-hdg i hi];exact hsp.2 i hi
   clear hsp hdg hdr HDR;go_wp2;go_ret;exact⟨_,rfl,HW.out,by rw[HZA.out];exact HE.out _ (HB.out.trans (HB5.out.mono (by rw[<-hzq];exact HB.out.size)))⟩
  case neg=>as_aux_lemma=>
   obtain⟨c,hrun⟩:=hno hm;obtain⟨w7,hupd,hM7,hg7⟩:=hM.upd hq64 hm (by omega);rw[hlen]at hupd
   have HND1:Hid ((stL a l (n+1)).Nodup):=by
    show List.Nodup _;rw[Kw,List.nodup_append];exact⟨HND.out,by simp,fun x hx y hy=>by rw[List.mem_singleton.1 hy];rintro rfl;exact hm hx⟩
   have hn1:n+1<=a.next.length:=by
    have h1:=Ht (n:=a.next.length) HND1.out fun q hq=>by
     obtain⟨i,-,rfl⟩:=List.mem_map.1 hq;exact HBD.out i
    simpa[stL]using h1
   rw[<-Kw]at hM7
   have hzl:zs<wr.heap.size:=by omega
   have hs7:=(hg7.block zs hzl (fun e=>by injection e with e;omega)).trans hs;have hB7:Below zs w3 w7:=hBr.grown hg7 (by omega) (fun k hk=>by injection hk with hk;omega)
   have hO7:=hO.grown hg7 (by
    cases hvb:u7.ownBlock with
    |none=>exact .inl rfl
    |some g=>exact .inr (fun e=>by have:=hO.ge g hvb;injection e with e;omega))
   obtain⟨-,e1⟩:=HEZ.out w7 hB7;obtain⟨aoL,capL,hvL⟩:=hO.slice;rw[hlenL]at hvL;have s7:=Aa 0 hs7;subst hvL;have HO7:=Ab hO7;have HM7:=Ab hM7;have HB7:=Ab hB7;have HS7:=Ab hs7;have hz7:zm+1<=w7.heap.size:=Nat.le_trans hmr hg7.size;clear hyes hno hO hM hs hBr hO7 hM7 hg7 hB7 hs7
   go_wp2_with fail
   refine(HRD.out w7 _ _ _ HB7.out HL1.out HS7.out q0 q1 HLT.out.2.1).mono ?_;rintro e w8 ⟨rfl,hB8,hg8,hs8⟩;have HS8:Hid (w8.heap[zs]? =some (.cells #[.int .i64 (stN a l (n+1))] 3 (0,0))):=hs8;have HM8:=Ab (HM7.out.kept hg8 (fun e=>by injection e with e;omega))
   have hO8:=HO7.out.grown hg8 (by
    cases hvb:(Value.slice aoL n capL).ownBlock with
    |none=>exact .inl rfl
    |some g=>exact .inr (fun e=>by have:=HO7.out.ge g hvb;injection e with e;omega))
   have HO8:=Ab hO8;have HB8:=Ab hB8;have hz8:zm+1<=w8.heap.size:=Nat.le_trans hz7 hg8.size
   have hnl:(lsL a l n).length<17592186043904:=by omega
   clear hs8 hO8 hB8 hg8 e1 s7 s0 hrun hupd
   go_wp2_with (at_builtin;refine DD rfl _ _ (lsN a l n) rfl (zm+1) _ _ HO8.out rfl _ (by simp) rfl hnl hz8 ?_;intro v' w9 hown' hg9 hmv)
   have hne9:∀k,k<zm+1->some k≠(Value.slice aoL n capL).ownBlock:=fun k hk e=>by
    have:=HO8.out.ge k e.symm;omega
   go_roundg (a.next.length+1-(n+1))
   case measure=>have:=HGN.out;omega
   case rel=>
    refine⟨n+1,rfl,hn1,HND1,(hg9.block zs (by omega) (hne9 zs (by omega))).trans HS8.out,HM8.out.kept hg9 (hne9 zm (by omega)),by rw[Ot];exact hown',HB8.out.grown hg9 (by omega) (fun k hk=>by have:=HO8.out.ge k hk;omega),Nat.le_trans hz8 hg9.size⟩
def RF{N:Ls}(b o n k c B:Nat)(ix:Nat)(u:Value)(W:World):Prop:=
 match ix with
 |0|3=>u=.slice (some ⟨b,o,none⟩) n c
 |1|4=>u=.int .i64 (k:Int)
 |2=>u=.slice (some ⟨b,o,none⟩) k c
 |5=>u=.slice (some ⟨b,o+k,none⟩) (n-k) (c-k)
 |6=>u=.agg #[.slice (some ⟨b,o,none⟩) k c,.slice (some ⟨b,o+k,none⟩) (n-k) (c-k)]
 |7=>Df W u N
 |8=>∃z,u=.pointer (some ⟨z,0,none⟩)/\B<=z/\W.heap[z]? =some (.cells #[.slice none 0 0,.slice none 0 0] 40 (0,0))
 | _=>True
theorem RF.below{N:Ls}{ix:Nat}{u:Value}{W W':World}{b o n k c B:Nat}(h:RF (N:=N) b o n k c B ix u W)(hb:Below W.heap.size W W'):RF (N:=N) b o n k c B ix u W':=by
 unfold RF at*
 split at h<;>first
  |exact h
  |trivial
  |(exact Df.below h hb)
  |(obtain⟨z,h1,h2,h3⟩:=h;exact⟨z,h1,h2,(hb.block z (ltE h3)).trans h3⟩)
theorem Po(w:World)(vl vm vi:Value)(l:List Sig)(m:My)(ins:Ls)(hK:Bt w)(hl:AJ w vl l)(hm:By w vm m)(hi:Df w vi ins):
  Calls Tryd.prog 12 #[vl,vm,vi] w (EW (Em l m ins) w):=by
 have HF0:Hid (∀W,Below w.heap.size w W->Calls Tryd.prog 29 #[vl,vm] W (AC (.bool (Cy l m)) W)):=fun W h=>I9 W _ _ l m (hK.below h) (hl.below h) (hm.below h)
 have HV0:Hid (∀W,Below w.heap.size w W->Calls Tryd.prog 23 #[.int .i64 m.ins,vi] W (AC (.bool (CA m.ins ins)) W)):=fun W h=>GV W _ _ m.ins (hi.below h)
 have HJ0:Hid (Ax l=true->∀W,Below w.heap.size w W->Calls Tryd.prog 30 #[vl] W (D8 (Al l) W)):=fun hv W h=>K3 W _ l (hK.below h) (hl.below h) hv
 have HLS:=Ab (rfl:ins.loop.length=ins.loop.length);obtain⟨v3,v4,rfl,⟨-,-,hI3⟩,i3,i4⟩:=hm;obtain⟨s0,s1,rfl,j0,j1⟩:=hi
 have HI3:Hid (∀W,Below w.heap.size w W->Ao W v3 m.out):=fun W h=>i3.below h
 have HI4:Hid (∀W,Below w.heap.size w W->Ao W v4 m.next):=fun W h=>i4.below h
 have HJ1:Hid (∀W,Below w.heap.size w W->Af W s0 ins.stem):=fun W h=>j0.below h
 have HJ2:Hid (∀W,Below w.heap.size w W->Af W s1 ins.loop):=fun W h=>j1.below h
 obtain⟨a3,c3,rfl⟩:=i3.shape;obtain⟨a4,c4,rfl⟩:=i4.shape;obtain⟨d0,f0,rfl⟩:=j0.shape;obtain⟨d1,f1,rfl⟩:=j1.shape;clear hK hl i3 i4 j0 j1;have HLEN:=Ab (rfl:w.heap.size=w.heap.size)
 go_enter Tryd.func12,Tryd.ntmps12
 go_upto_region 1 with(fail)
 obtain⟨hx5,-,hB5⟩:=AA (w0:=w) Ad leR #[.int .i64 m.ins,.int .i64 m.outs,.int .i64 m.start,(.slice a3 m.out.length c3),(.slice a4 m.next.length c4)] 24
 have hz5:(w.alloc (.cells #[.int .i64 m.ins,.int .i64 m.outs,.int .i64 m.start,(.slice a3 m.out.length c3),(.slice a4 m.next.length c4)] 24)).heap.size=w.heap.size+1:=by simp
 generalize w.alloc (.cells #[.int .i64 m.ins,.int .i64 m.outs,.int .i64 m.start,(.slice a3 m.out.length c3),(.slice a4 m.next.length c4)] 24)=w1 at*;obtain⟨hx6,-,hB6⟩:=AA (w0:=w) hB5 (by omega) #[.slice d0 ins.stem.length f0,.slice d1 ins.loop.length f1] 40
 have hz6:(w1.alloc (.cells #[.slice d0 ins.stem.length f0,.slice d1 ins.loop.length f1] 40)).heap.size=w.heap.size+1+1:=by simp[hz5]
 have hx5':=(DK w1 (.cells #[.slice d0 ins.stem.length f0,.slice d1 ins.loop.length f1] 40) (r:=w.heap.size) (by omega)).trans hx5;generalize w1.alloc (.cells #[.slice d0 ins.stem.length f0,.slice d1 ins.loop.length f1] 40)=w2 at*;obtain⟨hx7,-,hB7⟩:=AA (w0:=w) hB6 (by omega) #[.slice none 0 0,.slice none 0 0] 40
 have hz7:(w2.alloc (.cells #[.slice none 0 0,.slice none 0 0] 40)).heap.size=w.heap.size+1+1+1:=by simp[hz6]
 have hx5:=(DK w2 (.cells #[.slice none 0 0,.slice none 0 0] 40) (r:=w.heap.size) (by omega)).trans hx5';have hx6:=(DK w2 (.cells #[.slice none 0 0,.slice none 0 0] 40) (r:=w1.heap.size) (by omega)).trans hx6;generalize w2.alloc (.cells #[.slice none 0 0,.slice none 0 0] 40)=w3 at*;clear hx5' hB5 hB6;rw[hz5]at hx6;rw[hz6]at hx7;have k0:=Aa 0 hx5;have k1:=Aa 1 hx5;have k2:=Aa 2 hx5;have k3:=Aa 3 hx5;have k4:=Aa 4 hx5
 go_wp2_with fail
 refine(HF0.out _ hB7).mono ?_;rintro e w4 ⟨rfl,hb⟩;replace hx5:=(hb.block _ (by omega)).trans hx5;replace hx6:=(hb.block _ (by omega)).trans hx6;replace hx7:=(hb.block _ (by omega)).trans hx7;replace hB7:=hB7.trans (hb.mono hB7.size)
 have hz4:w.heap.size+1+1+1<=w4.heap.size:=by have:=hb.size;omega
 clear hb hz7 k0 k1 k2 k3 k4 hz5 hz6;have q0:=Aa 0 hx7;have q1:=Aa 1 hx7;have k0:=Aa 0 hx5;have u0:=Aa 0 hx6;have u1:=Aa 1 hx6
 cases hf:Cy l m with
 |false=>
  have hE:Em l m ins=De:=if_neg (by rw[hf];simp);have HE:=Ab hE;have fz:=Aw 0 hx7;have fz1:=Aw 1 hx7;clear hE;go_wp2;rw[HE.out]
  (have hc3:=Co (a:=.slice none 0 0) (b:=.slice none 0 0) hx7);(have cc0:=Aa 0 hc3);(have cc1:=Aa 1 hc3);(refine bodyPost_ret (v:=.agg #[.slice none 0 0,.slice none 0 0]) (by simp[results,Tryd.results12,go_sem,cc0,cc1]) rfl ?_)
  exact Dk hB7 (by omega)
 |true=>
 go_wp2_with fail
 refine(HV0.out _ hB7).mono ?_;rintro e w5 ⟨rfl,hb⟩;replace hx5:=(hb.block _ (by omega)).trans hx5;replace hx6:=(hb.block _ (by omega)).trans hx6;replace hx7:=(hb.block _ (by omega)).trans hx7;replace hB7:=hB7.trans (hb.mono hB7.size)
 replace hz4:w.heap.size+1+1+1<=w5.heap.size:=by have:=hb.size;omega
 clear hb q0 q1 k0 u0 u1
 cases hv:CA m.ins ins with
 |false=>
  have hE:Em l m ins=De:=if_neg (by rw[hv];simp);have HE:=Ab hE;have q0:=Aa 0 hx7;have q1:=Aa 1 hx7;have fz:=Aw 0 hx7;have fz1:=Aw 1 hx7;clear hE;go_wp2;rw[HE.out]
  (have hc3:=Co (a:=.slice none 0 0) (b:=.slice none 0 0) hx7);(have cc0:=Aa 0 hc3);(have cc1:=Aa 1 hc3);(refine bodyPost_ret (v:=.agg #[.slice none 0 0,.slice none 0 0]) (by simp[results,Tryd.results12,go_sem,cc0,cc1]) rfl ?_)
  exact Dk hB7 (by omega)
 |true=>
 have HE:Hid (Em l m ins=Hp (stW m ins) (ltW l m ins)):=if_pos ⟨hf,hv⟩;have HJ:=Ab (HJ0.out (Cv.1 hf).1);have HMV:=Ab (Cv.1 hf).2.1;have HIV:=Ab (Lv hv);have HF:=Ab hf;clear hf hv HJ0 HF0 HV0
 go_wp2_with fail
 refine(HJ.out _ hB7).mono ?_;rintro e w6 ⟨vj,rfl,ij,hb⟩;replace hx5:=(hb.block _ (by omega)).trans hx5;replace hx6:=(hb.block _ (by omega)).trans hx6;replace hx7:=(hb.block _ (by omega)).trans hx7;replace hB7:=hB7.trans (hb.mono hB7.size)
 replace hz4:w.heap.size+1+1+1<=w6.heap.size:=by have:=hb.size;omega
 have HIJ:Hid (∀W,Below w6.heap.size w6 W->Ao W vj (Al l)):=fun W h=>ij.below h
 obtain⟨aj,cj,rfl⟩:=ij.shape;clear hb ij
 go_upto_region 4 with(fail)
 obtain⟨hx8,-,hB8⟩:=AA (w0:=w6) Ad leR #[.slice aj (Al l).length cj] 22;generalize w6.alloc (.cells #[.slice aj (Al l).length cj] 22)=w8 at*;have HIJ8:=Ab (HIJ.out _ hB8);replace hx5:=(hB8.block _ (by omega)).trans hx5;replace hx6:=(hB8.block _ (by omega)).trans hx6;replace hx7:=(hB8.block _ (by omega)).trans hx7;replace hB7:=hB7.trans (hB8.mono hB7.size);have hz8:w6.heap.size<w8.heap.size:=(ltE hx8);have k3:=Aa 3 hx5;have k6:=Aa 0 hx6
 have l5:w.heap.size<w8.heap.size:=by omega
 have l6:w.heap.size+1<w8.heap.size:=by omega
 have l7:w.heap.size<w8.heap.size+1:=by omega
 have l8:w.heap.size+1<w8.heap.size+1:=by omega
 go_cut [8,9] (fun s8 s9 wx=>∃p1 p3,s8=.pointer (some ⟨p1,0,none⟩)/\s9=.pointer (some ⟨p3,0,none⟩)/\Hid (wx.cell? ⟨p1,0,none⟩=some (.int .i64 (m.out.length:Int))/\wx.cell? ⟨p3,0,none⟩=some (.int .i64 (ins.stem.length:Int))/\Below w8.heap.size w8 wx))
 case first=>
  go_region
  all_goals
   go_wp2_with fail
   go_meet
   case rel=>
    refine⟨_,_,rfl,rfl, ?_⟩;show _/\_/\_;exact⟨cell_of_row _ _ 0 #[.int .i64 (m.out.length:Int)] 3 _ (by rw[Cj];repeat(rw[Ak];first|rw[if_pos (by first|simp;done|simp;omega)]|rw[if_neg (by first|simp;done|simp;omega)])),cell_of_row _ _ 0 #[.int .i64 (ins.stem.length:Int)] 3 _ (by rw[Cj];repeat(rw[Ak];first|rw[if_pos (by first|simp;done|simp;omega)]|rw[if_neg (by first|simp;done|simp;omega)])),(by repeat(first|exact Ad|assumption|(refine AF ?_ _)|(refine AE ?_ _)|(refine Below.drew ?_)))⟩
 case rest=>
  obtain⟨p1,p3,rfl,rfl,HC⟩:=hcut;have hbc:=HC.out.2.2;have HC1:=Ab HC.out.1;have HC3:=Ab HC.out.2.1;clear HC k3 k6 l5 l6 l7 l8;replace hx5:=(hbc.block _ (by omega)).trans hx5;replace hx6:=(hbc.block _ (by omega)).trans hx6;replace hx7:=(hbc.block _ (by omega)).trans hx7;replace hx8:=(hbc.block _ (by omega)).trans hx8;replace hB7:=hB7.trans (hbc.mono hB7.size);have HIJC:Hid (Ao wc (.slice aj (Al l).length cj) (Al l)):=HIJ8.out.below hbc;have hzc:=hbc.size;have hs60:=HIV.out.s;have hl40:=HIV.out.l;have u0:=Aa 0 hx6;have u1:=Aa 1 hx6
  have l6:w.heap.size+1<wc.heap.size:=by omega
  go_upto_region 5 with(fail)
  go_cut [10] (fun s10 wx=>∃p2,s10=.pointer (some ⟨p2,0,none⟩)/\Hid (Below wc.heap.size wc wx/\∃v,wx.cell? ⟨p2,0,none⟩=some v/\Af wx v (ins.stem++ins.loop)))
  case first=>
   go_region_law (first
    |(rw[if_pos (by rfl)];refine C6 _ _ _ (by rfl) _ (.slice none 0 0) (.slice d0 ins.stem.length f0) [] ins.stem (by rfl) (Bl _ _) (by rfl) (HJ1.out _ (hB7.trans (Below.mono (by repeat(first|exact Ad|assumption|(refine AF ?_ _)|(refine AE ?_ _)|(refine Below.drew ?_))) hB7.size))) (by simp;omega) leR ?_
      intro v6 w7 hown6 hg6;rw[List.nil_append]at hown6;have hb67:=Ad.grown hg6 leR (fun k hk=>by cases hk);have hX7:Below wc.heap.size wc w7:=Below.trans (by repeat(first|exact Ad|assumption|(refine AF ?_ _)|(refine AE ?_ _)|(refine Below.drew ?_))) (hb67.mono (by simp));have y7:=Aa 1 ((hX7.block _ l6).trans hx6);have l67:w.heap.size+1<w7.heap.size:=Nat.lt_of_lt_of_le l6 hX7.size
      (try(have bx7:=(hb67.block wc.heap.size (Array.getElem?_eq_some_iff.1 (heap_alloc_new wc (.cells #[.slice none 0 0] 25))).1).trans (heap_alloc_new wc (.cells #[.slice none 0 0] 25));have kb7:=Aa 0 bx7;have fb7:=Aw 0 bx7)))
    |(rw[if_pos (by rfl)];refine C6 _ _ _ (by rfl) _ v6 (.slice d1 ins.loop.length f1) ins.stem ins.loop (by rfl) (hown6.below (by repeat(first|exact Ad|assumption|(refine AF ?_ _)|(refine AE ?_ _)|(refine Below.drew ?_)))) (by rfl) (HJ2.out _ (hB7.trans (Below.mono (hX7.trans (Below.mono (by repeat(first|exact Ad|assumption|(refine AF ?_ _)|(refine AE ?_ _)|(refine Below.drew ?_))) hX7.size)) hB7.size))) (by omega) (by have:=hb67.size;simp at this⊢;omega) ?_
      intro v8 w9 hown8 hg8;have hlt6:=World.ownsRow.lt hown6;have hb89:Below wc.heap.size _ w9:=Ad.grown hg8 (by have:=hX7.size;simp;omega) (fun k hk=>by have:=(hlt6 k hk).1;simp at this;omega);have hX9:Below wc.heap.size wc w9:=Below.trans (hX7.trans (Below.mono (by repeat(first|exact Ad|assumption|(refine AF ?_ _)|(refine AE ?_ _)|(refine Below.drew ?_))) hX7.size)) hb89
      (try(have bx9:=(hg8.block wc.heap.size (ltE bx7) (fun e=>Nat.lt_irrefl _ (Nat.lt_of_lt_of_le (Array.getElem?_eq_some_iff.1 (heap_alloc_new wc (.cells #[.slice none 0 0] 25))).1 (hlt6 _ e.symm).1))).trans bx7;have kb9:=Aa 0 bx9;have fb9:=Aw 0 bx9))
      (try(have bx9:=(hg8.block w7.heap.size (Array.getElem?_eq_some_iff.1 (heap_alloc_new w7 (.cells #[.slice none 0 0] 25))).1 (fun e=>Nat.lt_irrefl _ (hlt6 _ e.symm).2)).trans (heap_alloc_new w7 (.cells #[.slice none 0 0] 25));have kb9:=Aa 0 bx9;have fb9:=Aw 0 bx9))
      have HV8:=Ab (hown8.is (by have:=HIV.out;simp[Bg];omega) (fun x hx=>by
       rcases List.mem_append.1 hx with hx|hx
       ·exact(HJ1.out _ hB7).2 x hx
       ·exact(HJ2.out _ hB7).2 x hx))
      obtain⟨a8,c8,rfl⟩:=hown8.slice))
   all_goals
    go_wp2_with fail
    go_meet
    case rel=>
     have HV9:Af w9 (.slice a8 (ins.stem.length+ins.loop.length) c8) (ins.stem++ins.loop):=by have:=HV8.out;rwa [List.length_append]at this
     first
      |exact⟨_,rfl,(show _/\_ from⟨(by repeat(first|exact Ad|assumption|(refine AF ?_ _)|(refine AE ?_ _)|(refine Below.drew ?_))),_,Aa 0 (heap_alloc_new _ _),HV9.below (Ap _)⟩)⟩
      |exact⟨_,rfl,(show _/\_ from⟨BB hX9 hX7.size,_,Aa 0 (heap_setCell_same _ _ 0 _ _ _ bx9),HV9.setOther kb9 (fun _ _ e=>by cases e)⟩)⟩
      |exact⟨_,rfl,(show _/\_ from⟨BB hX9 leR,_,Aa 0 (heap_setCell_same _ _ 0 _ _ _ bx9),HV9.setOther kb9 (fun _ _ e=>by cases e)⟩)⟩
  case rest=>
   obtain⟨p2,rfl,HA⟩:=hcut;obtain⟨hba,va,hca,hva⟩:=HA.out;clear HA u0 u1 l6;replace hx5:=(hba.block _ (by omega)).trans hx5;replace hx6:=(hba.block _ (by omega)).trans hx6;replace hx7:=(hba.block _ (by omega)).trans hx7;replace hx8:=(hba.block _ (by omega)).trans hx8;replace hB7:=hB7.trans (hba.mono hB7.size);have hsz:=hba.size;have hE:Nw wc p1 p2 p3 w6.heap.size w.heap.size l m ins:=⟨Aj hba HC1.out,⟨va,hca,hva⟩,Aj hba HC3.out,⟨_,Aa 0 hx8,HIJC.out.below hba⟩,⟨_,_,hx5,HI3.out _ hB7,HI4.out _ hB7⟩⟩
   have hst:∀i,stW m ins i<m.out.length*(ins.stem.length+ins.loop.length):=fun i=>O0 HMV.out HIV.out i
   have hN:m.out.length*(ins.stem.length+ins.loop.length)<=3000*100:=Nat.mul_le_mul HMV.out.n (by omega);obtain⟨mm,nn,hrep,hnn⟩:=OT hst
   have hlt:=fun k=>Rg HF.out HIV.out k
   have hR:Em l m ins=A5 (AZ (ltW l m ins) mm nn).stem (AZ (ltW l m ins) mm nn).loop:=by rw[HE.out,Gv hrep hlt]
   have hm0:(m.start:Int)=((stW m ins 0:Nat):Int):=by rw[O1];have:=HMV.out.s0;omega
   have HLC:Hid (Calls Tryd.prog 31 #[.int .i64 ((m.out.length*(ins.stem.length+ins.loop.length):Nat):Int),.int .i64 m.start,.func (.func 32) #[] #[.pointer (some ⟨p1,0,none⟩),.pointer (some ⟨p2,0,none⟩),.pointer (some ⟨p3,0,none⟩),.pointer (some ⟨w6.heap.size,0,none⟩),.pointer (some ⟨w.heap.size,0,none⟩)]] wc (EW (Em l m ins) wc)):=by
    rw[hm0,hR];exact L1 wc 32 _ (enters_of Tryd.func32 (by kernel_rfl) rfl) (stW m ins) (ltW l m ins) _ mm nn (by omega) hst hrep hnn (fun W k hW _=>Pz W p1 p2 p3 _ _ l m ins k (hE.below hW) HF.out HIV.out) (fun k=>⟨(hlt k).1,by have:=(hlt k).2;omega⟩)
   have hw:=IntWalk.i64_in (((m.out.length*(ins.stem.length+ins.loop.length):Nat):Int)) ⟨by omega,by omega⟩;rw[Int.natCast_mul]at hw
   have hmul:(m.out.length:Int)*((ins.stem.length+ins.loop.length:Nat):Int)=((m.out.length*(ins.stem.length+ins.loop.length):Nat):Int):=by rw[Int.natCast_mul]
   have hc1:=Aj hba HC1.out;obtain⟨aa,ca,rfl⟩:=hva.shape;rw[List.length_append]at hca;have k2:=Aa 2 hx5;clear hrep hst hlt hR hm0 hE hva hnn;generalize ins.stem.length+ins.loop.length=Len at*;rw[<-hmul]at HLC;clear hmul
   go_upto_region 6 with(fail)
   go_wp2_with fail
   refine HLC.out.mono ?_;rintro e w12 ⟨v,rfl,⟨x0,x1,rfl,i0,i1⟩,hb⟩;replace hx7:=(hb.block _ (by omega)).trans hx7;replace hB7:=hB7.trans (hb.mono hB7.size);clear hb hx5 hx6 hx8 HLC hc1 hca k2;obtain⟨y0,z0,rfl⟩:=i0.shape;obtain⟨y1,z1,rfl⟩:=i1.shape;have hh:=RU hx7;obtain⟨g0,g1,g2,g3⟩:=hh;have H0:=Ab i0;have H1:=Ab i1;clear i0 i1;go_wp2
   (have hc3:=Co (a:=.slice y0 (Em l m ins).stem.length z0) (b:=.slice y1 (Em l m ins).loop.length z1) hx7);(have cc0:=Aa 0 hc3);(have cc1:=Aa 1 hc3);(refine bodyPost_ret (v:=.agg #[.slice y0 (Em l m ins).stem.length z0,.slice y1 (Em l m ins).loop.length z1]) (by simp[results,Tryd.results12,go_sem,cc0,cc1]) rfl ?_)
   exact L4 hx7 H0.out H1.out hB7 (by omega)
end Go.Proofs.YtncjeamdkjcebaaDoor
