/- What the law of two controllers says, in plain terms: their machine fits; its word has, signal by signal, the values of one of the words. -/
import Derived.Test.YtncjeamdkjcebaaGreatDoorZMyLd
set_option linter.all false
set_option maxHeartbeats 16000000
set_option maxRecDepth 100000
namespace Go.Proofs.YtncjeamdkjcebaaGreatDoor
open Go.RowKit
structure DI(l:List Sig)(own:List Bool)(a b:My)(K:Nat):Prop where
 e:EN a b a.ins.toNat K
 le:K<=a.out.length*b.out.length
 fa:Bm l a=true
 fb:Bm l b=true
theorem Rl{l:List Sig}{own:List Bool}{a b:My}(fa:Bm l a=true)(fb:Bm l b=true):∃K,DI l own a b K:=by
 obtain⟨h1,h2,h3,h4⟩:=AN.1 fa;obtain⟨-,k2,k3,k4⟩:=AN.1 fb
 obtain⟨K,hK,hle⟩:=Lh (a:=a) (b:=b) (n:=a.ins.toNat) (N:=a.out.length*b.out.length) fun k hk=>
  JA (Mk k) (Ml h2 k2 (by omega) (n:=a.ins.toNat) (by have:=h2.i1;omega) k hk)
 exact⟨K,hK,hle,fa,fb⟩
section
variable {l:List Sig} {own:List Bool} {a b:My} {K:Nat}
theorem DI.pair(h:DI l own a b K){j:Nat}(hj:j<K):bfP a b a.ins.toNat j=(bfS a b a.ins.toNat K).getD j (0,0):=
 (PN (Gn (Nat.le_of_lt hj)) (h.e.2 j hj)).symm
theorem DI.pos(h:DI l own a b K):0<K:=by
 have h1:=(Gn (a:=a) (b:=b) (n:=a.ins.toNat) (i:=0) (j:=K) (Nat.zero_le _)).length_le;have h2:=h.e.1;simp only[bfS,List.length_singleton]at h1;omega
theorem DI.nx(h:DI l own a b K){j i:Nat}(hj:j<K)(hi:i<a.ins.toNat):
  nxI (By l own a b K) j i=(((bfS a b a.ins.toNat K).idxOf (nxP a b (bfP a b a.ins.toNat j) i):Nat):Int)/\nxP a b (bfP a b a.ins.toNat j) i∈bfS a b a.ins.toNat K:=by
 have hp1:rwS (nxP a b (bfP a b a.ins.toNat j)) (bfS a b a.ins.toNat j) (i+1)<+:bfS a b a.ins.toNat K:=
  (NI (f:=nxP a b (bfP a b a.ins.toNat j)) (S:=bfS a b a.ins.toNat j) (i:=i+1) (j:=a.ins.toNat) hi).trans (Gn (a:=a) (b:=b) (n:=a.ins.toNat) (i:=j+1) (j:=K) hj)
 refine⟨?_,hp1.subset Lf⟩
 have e1:(By l own a b K).next.getD j []=rwN (nxP a b (bfP a b a.ins.toNat j)) (bfS a b a.ins.toNat j) a.ins.toNat:=by simp[By,bfN,List.getD,hj]
 unfold nxI;rw[e1];unfold rwN;rw[Af _ _ _ (by simpa using hi)];simp only[List.getElem_map,List.getElem_range];rw[RZ hp1]
theorem DI.out(_h:DI l own a b K){j i:Nat}(hj:j<K)(hi:i<a.ins.toNat):
  Bg (By l own a b K) j i=ED l own (Bg a (bfP a b a.ins.toNat j).1 i) (Bg b (bfP a b a.ins.toNat j).2 i):=by
 have e1:(By l own a b K).out.getD j []=Hr l own a b a.ins.toNat (bfP a b a.ins.toNat j):=by simp[By,List.getD,hj]
 unfold Bg;rw[e1];unfold Hr;rw[Af _ _ _ (by simpa using hi)];simp only[List.getElem_map,List.getElem_range];rfl
theorem DI.fits(h:DI l own a b K)(hK:K<=3000):Bm l (By l own a b K)=true:=by
 obtain⟨h1,h2,h3,h4⟩:=AN.1 h.fa
 have hlo:(By l own a b K).out.length=K:=by simp[By]
 have hln:(By l own a b K).next.length=K:=by simp[By,bfN]
 have hpos:=h.pos;have hi1:=h2.i1;refine AN.2 ⟨h1,⟨h2.i1,h2.i2,h2.o1,h2.o2,by omega,Int.le_refl _,by rw[hlo];show(0:Int)<_;omega,by omega,fun j hj=> ?_,fun j hj=> ?_⟩,h3,h4⟩
 ·rw[hlo]at hj
  have e1:(By l own a b K).out.getD j []=Hr l own a b a.ins.toNat (bfP a b a.ins.toNat j):=by simp[By,List.getD,hj]
  have hle:((By l own a b K).out.getD j []).length=a.ins.toNat:=by rw[e1];simp[Hr]
  refine⟨by rw[hle];show _=a.ins;omega,fun k hk=> ?_⟩;rw[hle]at hk;have:=h.out hj hk;unfold Bg at this;rw[this];have hb:=Kg h1 own (Bg a (bfP a b a.ins.toNat j).1 k) (Bg b (bfP a b a.ins.toNat j).2 k);exact⟨hb.1,by show _<a.outs;unfold Bg at hb;omega⟩
 ·rw[hlo]at hj
  have e1:(By l own a b K).next.getD j []=rwN (nxP a b (bfP a b a.ins.toNat j)) (bfS a b a.ins.toNat j) a.ins.toNat:=by simp[By,bfN,List.getD,hj]
  have hle:((By l own a b K).next.getD j []).length=a.ins.toNat:=by rw[e1];simp[rwN]
  refine⟨by rw[hle];show _=a.ins;omega,fun k hk=> ?_⟩;rw[hle]at hk;obtain⟨h5,h6⟩:=h.nx hj hk;unfold nxI at h5;have h7:=List.idxOf_lt_length_of_mem h6;rw[h.e.1]at h7;rw[h5,hlo];omega
theorem DI.q(h:DI l own a b K){ins:Ls}(hv:Bi a.ins ins=true):∀i,qW (By l own a b K) ins i=(bfS a b a.ins.toNat K).idxOf (qW a ins i,qW b ins i)/\(qW a ins i,qW b ins i)∈bfS a b a.ins.toNat K
 |0=>by
  obtain⟨t,ht⟩:=Gn (a:=a) (b:=b) (n:=a.ins.toNat) (i:=0) (j:=K) (Nat.zero_le _)
  have e:bfS a b a.ins.toNat K=(a.start.toNat,b.start.toNat)::t:=by rw[<-ht];rfl
  show(0:Int).toNat=(bfS a b a.ins.toNat K).idxOf (a.start.toNat,b.start.toNat)/\(a.start.toNat,b.start.toNat)∈bfS a b a.ins.toNat K;rw[e];simp
 |i+1=>by
  obtain⟨h1,h2⟩:=h.q hv i;have hb:=(Df hv).b i;have hj:=List.idxOf_lt_length_of_mem h2;rw[h.e.1]at hj
  have hx:(atL ins i).toNat<a.ins.toNat:=by omega
  obtain⟨h3,h4⟩:=h.nx hj hx
  have hp:bfP a b a.ins.toNat ((bfS a b a.ins.toNat K).idxOf (qW a ins i,qW b ins i))=(qW a ins i,qW b ins i):=by
   rw[h.pair hj,Af _ _ _ (by rw[h.e.1];exact hj)];exact List.getElem_idxOf _
  rw[hp]at h3 h4;refine⟨?_,h4⟩;show(nxI (By l own a b K) (qW (By l own a b K) ins i) (atL ins i).toNat).toNat=_;rw[h1,h3,Int.toNat_natCast];rfl
theorem DI.lt(h:DI l own a b K){ins:Ls}(hv:Bi a.ins ins=true)(i:Nat){k:Nat}(hk:k<l.length):
  A5 l (ltW l (By l own a b K) ins i) k=if own.getD k false=true then A5 l (ltW l a ins i) k else A5 l (ltW l b ins i) k:=by
 obtain⟨h1,h2,h3,h4⟩:=AN.1 h.fa;obtain⟨-,k2,k3,k4⟩:=AN.1 h.fb;have hi:=Df hv;have hb:=hi.b i;obtain⟨q1,q2⟩:=h.q hv i;have hj:=List.idxOf_lt_length_of_mem q2;rw[h.e.1]at hj
 have hx:(atL ins i).toNat<a.ins.toNat:=by omega
 have hp:bfP a b a.ins.toNat ((bfS a b a.ins.toNat K).idxOf (qW a ins i,qW b ins i))=(qW a ins i,qW b ins i):=by
  rw[h.pair hj,Af _ _ _ (by rw[h.e.1];exact hj)];exact List.getElem_idxOf _
 have ho:=h.out hj hx;rw[hp]at ho;have oa:=h2.out' (Hg h2 hi i) (x:=(atL ins i).toNat) (by omega);have ob:=k2.out' (Hg k2 (w:=ins) (by rw[show b.ins=a.ins by omega];exact hi) i) (x:=(atL ins i).toNat) (by omega)
 have e:ltW l (By l own a b K) ins i=AO l (atL ins i) (ED l own (Bg a (qW a ins i) (atL ins i).toNat) (Bg b (qW b ins i) (atL ins i).toNat)):=by
  unfold ltW;rw[q1,ho]
 rw[e];exact RJ h1 own ⟨hb.1,by omega⟩ ⟨oa.2.1,by omega⟩ ⟨ob.2.1,by omega⟩ hk
end
theorem NP(w:World)(vl va vb vo vi:Value)(l:List Sig)(a b:My)(own:List Bool)(ins:Ls)(hK:BN w)(hl:AH w vl l)(ha:BM w va a)(hbm:BM w vb b)(ho:Bj w vo own)(hi:Co w vi ins):
  Calls Tryz.prog 4 #[vl,va,vb,vo,vi] w (Av (.bool true) w):=by
 obtain⟨sa,sc,rfl⟩:=hl.shape;obtain⟨oa,oc,rfl⟩:=ho.shape;generalize hsn:l.length=sn at*;generalize hon:own.length=on at*;have HSN:=Ab hsn;have HON:=Ab hon;clear hsn hon;obtain⟨ia,i1n,i1c,ib,i2n,i2c,rfl⟩:=hi.shp6;obtain⟨a0,a1,a2,aa,an,ac,ab,ak,ad,rfl⟩:=ha.shp9;obtain⟨b0,b1,b2,ba,bn,bc,bb,bk,bd,rfl⟩:=hbm.shp9;have hB:BW w w:=Ad
 go_enter Tryz.func4,Tryz.ntmps4
 go_upto_region 1 with(fail)
 have hb:Below w.heap.size w (((w.alloc (.cells #[.int .i64 a0,.int .i64 a1,.int .i64 a2,.slice aa an ac,.slice ab ak ad] 25)).alloc (.cells #[.int .i64 b0,.int .i64 b1,.int .i64 b2,.slice ba bn bc,.slice bb bk bd] 25)).alloc (.cells #[.slice ia i1n i1c,.slice ib i2n i2c] 30)):=(by repeat(first|exact Ad|assumption|apply AD|apply AE));have xa:(((w.alloc (.cells #[.int .i64 a0,.int .i64 a1,.int .i64 a2,.slice aa an ac,.slice ab ak ad] 25)).alloc (.cells #[.int .i64 b0,.int .i64 b1,.int .i64 b2,.slice ba bn bc,.slice bb bk bd] 25)).alloc (.cells #[.slice ia i1n i1c,.slice ib i2n i2c] 30)).heap[w.heap.size]? =some (.cells #[.int .i64 a0,.int .i64 a1,.int .i64 a2,.slice aa an ac,.slice ab ak ad] 25 (0,0)):=(by(repeat(rw[Al];first|rw[if_pos (by first|simp;done|simp;omega)]|rw[if_neg (by first|simp;done|simp;omega)]));(try rfl));have xb:(((w.alloc (.cells #[.int .i64 a0,.int .i64 a1,.int .i64 a2,.slice aa an ac,.slice ab ak ad] 25)).alloc (.cells #[.int .i64 b0,.int .i64 b1,.int .i64 b2,.slice ba bn bc,.slice bb bk bd] 25)).alloc (.cells #[.slice ia i1n i1c,.slice ib i2n i2c] 30)).heap[w.heap.size+1]? =some (.cells #[.int .i64 b0,.int .i64 b1,.int .i64 b2,.slice ba bn bc,.slice bb bk bd] 25 (0,0)):=(by(repeat(rw[Al];first|rw[if_pos (by first|simp;done|simp;omega)]|rw[if_neg (by first|simp;done|simp;omega)]));(try rfl));have xi:(((w.alloc (.cells #[.int .i64 a0,.int .i64 a1,.int .i64 a2,.slice aa an ac,.slice ab ak ad] 25)).alloc (.cells #[.int .i64 b0,.int .i64 b1,.int .i64 b2,.slice ba bn bc,.slice bb bk bd] 25)).alloc (.cells #[.slice ia i1n i1c,.slice ib i2n i2c] 30)).heap[w.heap.size+1+1]? =some (.cells #[.slice ia i1n i1c,.slice ib i2n i2c] 30 (0,0)):=(by(repeat(rw[Al];first|rw[if_pos (by first|simp;done|simp;omega)]|rw[if_neg (by first|simp;done|simp;omega)]));(try rfl));generalize(((w.alloc (.cells #[.int .i64 a0,.int .i64 a1,.int .i64 a2,.slice aa an ac,.slice ab ak ad] 25)).alloc (.cells #[.int .i64 b0,.int .i64 b1,.int .i64 b2,.slice ba bn bc,.slice bb bk bd] 25)).alloc (.cells #[.slice ia i1n i1c,.slice ib i2n i2c] 30))=w1 at*;replace hK:=hK.below hb;replace hl:=hl.below hb;replace ha:=ha.below hb;replace hbm:=hbm.below hb;replace ho:=ho.below hb;replace hi:=hi.below hb;replace hB:=hB.step hb;clear hb;generalize w.heap.size+1+1=qxi at*;generalize w.heap.size+1=qxb at*;generalize w.heap.size=qxa at*
 go_wp2_with fail
 refine(Mx _ hK).mono ?_;rintro e w2 ⟨rfl,hb⟩;replace xa:=Ae hb xa;replace xb:=Ae hb xb;replace xi:=Ae hb xi;replace hK:=hK.below hb;replace hl:=hl.below hb;replace ha:=ha.below hb;replace hbm:=hbm.below hb;replace ho:=ho.below hb;replace hi:=hi.below hb;replace hB:=hB.step hb;clear hb
 go_wp2_with fail
 refine(Ib _ _ l hl).mono ?_;rintro e w3 ⟨rfl,hb⟩;replace xa:=Ae hb xa;replace xb:=Ae hb xb;replace xi:=Ae hb xi;replace hK:=hK.below hb;replace hl:=hl.below hb;replace ha:=ha.below hb;replace hbm:=hbm.below hb;replace ho:=ho.below hb;replace hi:=hi.below hb;replace hB:=hB.step hb;clear hb
 cases hg:D7 l with
 |false=>
  clear hg
  go_wp2_with fail
  go_ret;exact⟨rfl,hB⟩
 |true=>
 clear hg;have k0:=Aa 0 xa;have k1:=Aa 1 xa;have k2:=Aa 2 xa;have k3:=Aa 3 xa;have k4:=Aa 4 xa
 go_wp2_with fail
 clear k0 k1 k2 k3 k4;refine(Na _ _ a 12 ha).mono ?_;rintro e w4 ⟨rfl,hb⟩;replace xa:=Ae hb xa;replace xb:=Ae hb xb;replace xi:=Ae hb xi;replace hK:=hK.below hb;replace hl:=hl.below hb;replace ha:=ha.below hb;replace hbm:=hbm.below hb;replace ho:=ho.below hb;replace hi:=hi.below hb;replace hB:=hB.step hb;clear hb
 cases hf1:J8 a 12 with
 |false=>
  clear hf1
  go_wp2_with fail
  go_ret;exact⟨rfl,hB⟩
 |true=>
 have HF1:=Ab (Nh hf1);clear hf1;have k0:=Aa 0 xb;have k1:=Aa 1 xb;have k2:=Aa 2 xb;have k3:=Aa 3 xb;have k4:=Aa 4 xb
 go_wp2_with fail
 clear k0 k1 k2 k3 k4;refine(Na _ _ b 12 hbm).mono ?_;rintro e w5 ⟨rfl,hb⟩;replace xa:=Ae hb xa;replace xb:=Ae hb xb;replace xi:=Ae hb xi;replace hK:=hK.below hb;replace hl:=hl.below hb;replace ha:=ha.below hb;replace hbm:=hbm.below hb;replace ho:=ho.below hb;replace hi:=hi.below hb;replace hB:=hB.step hb;clear hb
 cases hf1:J8 b 12 with
 |false=>
  clear hf1
  go_wp2_with fail
  go_ret;exact⟨rfl,hB⟩
 |true=>
 have HF2:=Ab (Nh hf1);clear hf1;have k0:=Aa 0 xi;have k1:=Aa 1 xi
 go_wp2_with fail
 clear k0 k1;refine(JY _ _ ins hi).mono ?_;rintro e w6 ⟨rfl,hb⟩;replace xa:=Ae hb xa;replace xb:=Ae hb xb;replace xi:=Ae hb xi;replace hK:=hK.below hb;replace hl:=hl.below hb;replace ha:=ha.below hb;replace hbm:=hbm.below hb;replace ho:=ho.below hb;replace hi:=hi.below hb;replace hB:=hB.step hb;clear hb
 cases hg:IM ins with
 |false=>
  clear hg
  go_wp2_with fail
  go_ret;exact⟨rfl,hB⟩
 |true=>
 clear hg;have k0:=Aa 0 xa;have k1:=Aa 1 xa;have k2:=Aa 2 xa;have k3:=Aa 3 xa;have k4:=Aa 4 xa
 go_wp2_with fail
 clear k0 k1 k2 k3 k4;refine(EV _ _ _ l a hl ha).mono ?_;rintro e w7 ⟨rfl,hb⟩;replace xa:=Ae hb xa;replace xb:=Ae hb xb;replace xi:=Ae hb xi;replace hK:=hK.below hb;replace hl:=hl.below hb;replace ha:=ha.below hb;replace hbm:=hbm.below hb;replace ho:=ho.below hb;replace hi:=hi.below hb;replace hB:=hB.step hb;clear hb
 cases hfa:Bm l a with
 |false=>
  clear hfa
  go_wp2_with fail
  go_ret;exact⟨rfl,hB⟩
 |true=>
 have k0:=Aa 0 xb;have k1:=Aa 1 xb;have k2:=Aa 2 xb;have k3:=Aa 3 xb;have k4:=Aa 4 xb
 go_wp2_with fail
 clear k0 k1 k2 k3 k4;refine(EV _ _ _ l b hl hbm).mono ?_;rintro e w8 ⟨rfl,hb⟩;replace xa:=Ae hb xa;replace xb:=Ae hb xb;replace xi:=Ae hb xi;replace hK:=hK.below hb;replace hl:=hl.below hb;replace ha:=ha.below hb;replace hbm:=hbm.below hb;replace ho:=ho.below hb;replace hi:=hi.below hb;replace hB:=hB.step hb;clear hb
 cases hfb:Bm l b with
 |false=>
  clear hfb
  go_wp2_with fail
  go_ret;exact⟨rfl,hB⟩
 |true=>
 by_cases hos:on=sn
 case neg=>
  have i0:((on:Int)==(sn:Int))=false:=beq_false_of_ne (by omega)
  have i1:¬(on:Int)=(sn:Int):=by omega
  have i2:¬on=sn:=hos
  go_wp2_with fail
  go_ret;exact⟨rfl,hB⟩
 subst hos;have k0:=Aa 0 xa;have k1:=Aa 1 xa;have k2:=Aa 2 xa;have k3:=Aa 3 xa;have k4:=Aa 4 xa;have j0:=Aa 0 xi;have j1:=Aa 1 xi
 go_wp2_with fail
 clear k0 k1 k2 k3 k4;clear j0 j1;obtain⟨e0,-,-,-,e4,-⟩:=ha.vals;obtain⟨-,-,-,-,g4,-⟩:=hbm.vals;refine((show Calls _ _ _ _ (Av (.bool (Bi a.ins ins)) _)from by rw[e0];exact Jc _ _ ins a.ins hi)).mono ?_;rintro e w9 ⟨rfl,hb⟩;replace xa:=Ae hb xa;replace xb:=Ae hb xb;replace xi:=Ae hb xi;replace hK:=hK.below hb;replace hl:=hl.below hb;replace ha:=ha.below hb;replace hbm:=hbm.below hb;replace ho:=ho.below hb;replace hi:=hi.below hb;replace hB:=hB.step hb;clear hb
 cases hvi:Bi a.ins ins with
 |false=>
  clear hvi
  go_wp2_with fail
  go_ret;exact⟨rfl,hB⟩
 |true=>
 obtain⟨K,hH⟩:=Rl (own:=own) hfa hfb;have hLA:=(AN.1 hfa).2.1.nl;have hLB:=(AN.1 hfb).2.1.nl;have hk144:K<=144:=Nat.le_trans hH.le (Nat.le_trans (Nat.mul_le_mul (by have:=HF1.out;omega:a.out.length<=12) (by have:=HF2.out;omega:b.out.length<=12)) (by decide));have hfz:=hH.fits (by omega)
 have hKm:(K:Int)<=(ak:Int)*(bk:Int):=by
  have:=hH.le;rw[e4,g4,hLA,hLB,<-Int.natCast_mul];exact Int.ofNat_le.2 this
 have hmb:(ak:Int)*(bk:Int)<=144:=by
  rw[e4,g4,hLA,hLB,<-Int.natCast_mul];exact Int.ofNat_le.2 (Nat.le_trans (Nat.mul_le_mul (by have:=HF1.out;omega:a.out.length<=12) (by have:=HF2.out;omega:b.out.length<=12)) (by decide))
 have HVI:=Ab hvi;have HFA:=Ab hfa;have HFB:=Ab hfb;have HFZ:=Ab hfz
 have HBI:Hid (b.ins=a.ins):=by
  have h1:=(AN.1 hfa).2.2.1;have h2:=(AN.1 hfb).2.2.1;show b.ins=a.ins;omega
 have HLT:=Ab (fun(i:Nat)(k:Nat)(hk:k<on)=>hH.lt hvi i (show k<l.length by rw[HSN.out];exact hk))
 have hbr:E2 l a b own=(By l own a b K,0):=by
  unfold E2;rw[if_pos ⟨hfa,hfb,by rw[HON.out,HSN.out]⟩,Ig hH.e]
 have hkn:(By l own a b K).next.length=K:=by simp[By,bfN]
 have hko:(By l own a b K).out.length=K:=by simp[By]
 have hki:(By l own a b K).ins=a.ins:=rfl
 have HVZ:Hid (Bi (By l own a b K).ins ins=true):=by rw[hki];exact HVI.out
 generalize By l own a b K=Z at*;clear hvi hfa hfb hfz e0 e4 g4 hLA hLB hH
 go_upto_region 4 with(fail)
 have k0:=Aa 0 xa;have k1:=Aa 1 xa;have k2:=Aa 2 xa;have k3:=Aa 3 xa;have k4:=Aa 4 xa;have j0:=Aa 0 xb;have j1:=Aa 1 xb;have j2:=Aa 2 xb;have j3:=Aa 3 xb;have j4:=Aa 4 xb
 go_wp2_with fail
 clear k0 k1 k2 k3 k4;clear j0 j1 j2 j3 j4;refine((show Calls _ _ _ _ (I9 Z 0 _)from by have h:=OV _ _ _ _ _ l a b own hK hl ha hbm ho (by have:=HF1.out;omega) (by have:=HF2.out;omega);rw[hbr]at h;exact h)).mono ?_;rintro e w10 ⟨v,rfl,hz,hb⟩;replace xa:=Ae hb xa;replace xb:=Ae hb xb;replace xi:=Ae hb xi;replace hK:=hK.below hb;replace hl:=hl.below hb;replace ha:=ha.below hb;replace hbm:=hbm.below hb;replace ho:=ho.below hb;replace hi:=hi.below hb;replace hB:=hB.step hb;clear hb;obtain⟨z0,z1,z2,za,zn,zc,zb,zk,zd,rfl⟩:=hz.shp9
 have hzk:zk=K:=by
  obtain⟨-,-,-,-,g,-⟩:=hz.vals;rw[g,hkn]
 subst hzk;clear hbr hkn hko
 go_upto_region 5 with(fail)
 have hb:Below w10.heap.size w10 (w10.alloc (.cells #[.int .i64 z0,.int .i64 z1,.int .i64 z2,.slice za zn zc,.slice zb zk zd] 25)):=(by repeat(first|exact Ad|assumption|apply AD|apply AE));have xz:(w10.alloc (.cells #[.int .i64 z0,.int .i64 z1,.int .i64 z2,.slice za zn zc,.slice zb zk zd] 25)).heap[w10.heap.size]? =some (.cells #[.int .i64 z0,.int .i64 z1,.int .i64 z2,.slice za zn zc,.slice zb zk zd] 25 (0,0)):=(by(repeat(rw[Al];first|rw[if_pos (by first|simp;done|simp;omega)]|rw[if_neg (by first|simp;done|simp;omega)]));(try rfl));generalize(w10.alloc (.cells #[.int .i64 z0,.int .i64 z1,.int .i64 z2,.slice za zn zc,.slice zb zk zd] 25))=w11 at*;replace xa:=Ae hb xa;replace xb:=Ae hb xb;replace xi:=Ae hb xi;replace hK:=hK.below hb;replace hl:=hl.below hb;replace ha:=ha.below hb;replace hbm:=hbm.below hb;replace ho:=ho.below hb;replace hi:=hi.below hb;replace hz:=hz.below hb;replace hB:=hB.step hb;clear hb;generalize w10.heap.size=qxz at*;have k0:=Aa 0 xz;have k1:=Aa 1 xz;have k2:=Aa 2 xz;have k3:=Aa 3 xz;have k4:=Aa 4 xz
 go_wp2_with fail
 clear k0 k1 k2 k3 k4;refine((show Calls _ _ _ _ (Av (.bool true) _)from by have h:=EV _ _ _ l Z hl hz;rw[HFZ.out]at h;exact h)).mono ?_;rintro e w12 ⟨rfl,hb⟩;replace xa:=Ae hb xa;replace xb:=Ae hb xb;replace xi:=Ae hb xi;replace xz:=Ae hb xz;replace hK:=hK.below hb;replace hl:=hl.below hb;replace ha:=ha.below hb;replace hbm:=hbm.below hb;replace ho:=ho.below hb;replace hi:=hi.below hb;replace hz:=hz.below hb;replace hB:=hB.step hb;clear hb
 have n1:¬(ak:Int)*(bk:Int)<(zk:Int):=by omega
 have n0:(0:Int)<=(ak:Int)*(bk:Int):=Int.mul_nonneg (by omega) (by omega);have n2:IntKind.i64.wrap ((ak:Int)*(bk:Int))=(ak:Int)*(bk:Int):=IntWalk.i64_in _ ⟨by omega,by omega⟩
 have n3:¬((ak*bk:Nat):Int)<(zk:Int):=by rw[Int.natCast_mul];exact n1
 have n4:¬ak*bk<zk:=by omega
 have k0:=Aa 0 xz;have k1:=Aa 1 xz;have k2:=Aa 2 xz;have k3:=Aa 3 xz;have k4:=Aa 4 xz;have j0:=Aa 0 xa;have j1:=Aa 1 xa;have j2:=Aa 2 xa;have j3:=Aa 3 xa;have j4:=Aa 4 xa;have i0:=Aa 0 xb;have i1:=Aa 1 xb;have i2:=Aa 2 xb;have i3:=Aa 3 xb;have i4:=Aa 4 xb
 go_upto_region 7 with(fail)
 clear k0 k1 k2 k3 k4;clear j0 j1 j2 j3 j4;clear i0 i1 i2 i3 i4;clear n0 n1 n2 n3 n4 hKm hmb hk144;have k0:=Aa 0 xz;have k1:=Aa 1 xz;have k2:=Aa 2 xz;have k3:=Aa 3 xz;have k4:=Aa 4 xz;have j0:=Aa 0 xi;have j1:=Aa 1 xi
 go_wp2_with fail
 clear k0 k1 k2 k3 k4;clear j0 j1;refine(Fi _ _ _ _ l Z ins hK hl hz hi).mono ?_;rintro e w13 ⟨v,rfl,hw,hb⟩;replace xa:=Ae hb xa;replace xb:=Ae hb xb;replace xi:=Ae hb xi;replace xz:=Ae hb xz;replace hK:=hK.below hb;replace hl:=hl.below hb;replace ha:=ha.below hb;replace hbm:=hbm.below hb;replace ho:=ho.below hb;replace hi:=hi.below hb;replace hz:=hz.below hb;replace hB:=hB.step hb;clear hb;obtain⟨pwa,pwc,pwb,pwd,rfl⟩:=hw.shp
 have HW:Hid (0<(BL l Z ins).loop.length->∀i:Nat,atI (BL l Z ins) i=ltW l Z ins i):=fun h i=>Fg HFZ.out (by rw[hki];exact HVI.out) h i
 generalize BL l Z ins=LW at*;generalize LW.stem.length=pwn at*;generalize LW.loop.length=pwk at*
 go_upto_region 8 with(fail)
 have hb:Below w13.heap.size w13 (w13.alloc (.cells #[.slice pwa pwn pwc,.slice pwb pwk pwd] 30)):=(by repeat(first|exact Ad|assumption|apply AD|apply AE));have xw:(w13.alloc (.cells #[.slice pwa pwn pwc,.slice pwb pwk pwd] 30)).heap[w13.heap.size]? =some (.cells #[.slice pwa pwn pwc,.slice pwb pwk pwd] 30 (0,0)):=(by(repeat(rw[Al];first|rw[if_pos (by first|simp;done|simp;omega)]|rw[if_neg (by first|simp;done|simp;omega)]));(try rfl));generalize(w13.alloc (.cells #[.slice pwa pwn pwc,.slice pwb pwk pwd] 30))=w14 at*;replace xa:=Ae hb xa;replace xb:=Ae hb xb;replace xi:=Ae hb xi;replace xz:=Ae hb xz;replace hK:=hK.below hb;replace hl:=hl.below hb;replace ha:=ha.below hb;replace hbm:=hbm.below hb;replace ho:=ho.below hb;replace hi:=hi.below hb;replace hz:=hz.below hb;replace hw:=hw.below hb;replace hB:=hB.step hb;clear hb;generalize w13.heap.size=qxw at*;have k0:=Aa 0 xa;have k1:=Aa 1 xa;have k2:=Aa 2 xa;have k3:=Aa 3 xa;have k4:=Aa 4 xa;have j0:=Aa 0 xi;have j1:=Aa 1 xi
 go_wp2_with fail
 clear k0 k1 k2 k3 k4;clear j0 j1;refine(Fi _ _ _ _ l a ins hK hl ha hi).mono ?_;rintro e w15 ⟨v,rfl,hx,hb⟩;replace xa:=Ae hb xa;replace xb:=Ae hb xb;replace xi:=Ae hb xi;replace xz:=Ae hb xz;replace xw:=Ae hb xw;replace hK:=hK.below hb;replace hl:=hl.below hb;replace ha:=ha.below hb;replace hbm:=hbm.below hb;replace ho:=ho.below hb;replace hi:=hi.below hb;replace hz:=hz.below hb;replace hw:=hw.below hb;replace hB:=hB.step hb;clear hb;obtain⟨pxa,pxc,pxb,pxd,rfl⟩:=hx.shp
 have HX:Hid (0<(BL l a ins).loop.length->∀i:Nat,atI (BL l a ins) i=ltW l a ins i):=fun h i=>Fg HFA.out HVI.out h i
 generalize BL l a ins=LX at*;generalize LX.stem.length=pxn at*;generalize LX.loop.length=pxk at*
 go_upto_region 9 with(fail)
 have hb:Below w15.heap.size w15 (w15.alloc (.cells #[.slice pxa pxn pxc,.slice pxb pxk pxd] 30)):=(by repeat(first|exact Ad|assumption|apply AD|apply AE));have xx:(w15.alloc (.cells #[.slice pxa pxn pxc,.slice pxb pxk pxd] 30)).heap[w15.heap.size]? =some (.cells #[.slice pxa pxn pxc,.slice pxb pxk pxd] 30 (0,0)):=(by(repeat(rw[Al];first|rw[if_pos (by first|simp;done|simp;omega)]|rw[if_neg (by first|simp;done|simp;omega)]));(try rfl));generalize(w15.alloc (.cells #[.slice pxa pxn pxc,.slice pxb pxk pxd] 30))=w16 at*;replace xa:=Ae hb xa;replace xb:=Ae hb xb;replace xi:=Ae hb xi;replace xz:=Ae hb xz;replace xw:=Ae hb xw;replace hK:=hK.below hb;replace hl:=hl.below hb;replace ha:=ha.below hb;replace hbm:=hbm.below hb;replace ho:=ho.below hb;replace hi:=hi.below hb;replace hz:=hz.below hb;replace hw:=hw.below hb;replace hx:=hx.below hb;replace hB:=hB.step hb;clear hb;generalize w15.heap.size=qxx at*;have k0:=Aa 0 xb;have k1:=Aa 1 xb;have k2:=Aa 2 xb;have k3:=Aa 3 xb;have k4:=Aa 4 xb;have j0:=Aa 0 xi;have j1:=Aa 1 xi
 go_wp2_with fail
 clear k0 k1 k2 k3 k4;clear j0 j1;refine(Fi _ _ _ _ l b ins hK hl hbm hi).mono ?_;rintro e w17 ⟨v,rfl,hy,hb⟩;replace xa:=Ae hb xa;replace xb:=Ae hb xb;replace xi:=Ae hb xi;replace xz:=Ae hb xz;replace xw:=Ae hb xw;replace xx:=Ae hb xx;replace hK:=hK.below hb;replace hl:=hl.below hb;replace ha:=ha.below hb;replace hbm:=hbm.below hb;replace ho:=ho.below hb;replace hi:=hi.below hb;replace hz:=hz.below hb;replace hw:=hw.below hb;replace hx:=hx.below hb;replace hB:=hB.step hb;clear hb;obtain⟨pya,pyc,pyb,pyd,rfl⟩:=hy.shp
 have HY:Hid (0<(BL l b ins).loop.length->∀i:Nat,atI (BL l b ins) i=ltW l b ins i):=fun h i=>Fg HFB.out (by rw[HBI.out];exact HVI.out) h i
 generalize BL l b ins=LY at*;generalize LY.stem.length=pyn at*;generalize LY.loop.length=pyk at*
 go_upto_region 10 with(fail)
 have hb:Below w17.heap.size w17 (w17.alloc (.cells #[.slice pya pyn pyc,.slice pyb pyk pyd] 30)):=(by repeat(first|exact Ad|assumption|apply AD|apply AE));have xy:(w17.alloc (.cells #[.slice pya pyn pyc,.slice pyb pyk pyd] 30)).heap[w17.heap.size]? =some (.cells #[.slice pya pyn pyc,.slice pyb pyk pyd] 30 (0,0)):=(by(repeat(rw[Al];first|rw[if_pos (by first|simp;done|simp;omega)]|rw[if_neg (by first|simp;done|simp;omega)]));(try rfl));generalize(w17.alloc (.cells #[.slice pya pyn pyc,.slice pyb pyk pyd] 30))=w18 at*;replace xa:=Ae hb xa;replace xb:=Ae hb xb;replace xi:=Ae hb xi;replace xz:=Ae hb xz;replace xw:=Ae hb xw;replace xx:=Ae hb xx;replace hK:=hK.below hb;replace hl:=hl.below hb;replace ha:=ha.below hb;replace hbm:=hbm.below hb;replace ho:=ho.below hb;replace hi:=hi.below hb;replace hz:=hz.below hb;replace hw:=hw.below hb;replace hx:=hx.below hb;replace hy:=hy.below hb;replace hB:=hB.step hb;clear hb;generalize w17.heap.size=qxy at*;obtain⟨bo,oo,dO,nO,fO⟩:=ho.data;have HFO:=Ab fO;have HKK:=Ab hK;have HLL:=Ab hl;have HWW:=Ab hw;have HXX:=Ab hx;have HYY:=Ab hy;have HXW:=Ab xw;have HXX2:=Ab xx;have HXY:=Ab xy;have HBB:=Ab hB;clear hK hl ha hbm ho hi hw hx hy hz xa xb xi xz xw xx xy hB fO hki
 go_wp2_with fail
 go_loopg [17] 60 (fun gh q17 wr=>∃i:Nat,gh=60-i/\q17=.int .i64 (i:Int)/\i<=60/\Hid (Below w18.heap.size w18 wr))
 case atStart=>exact⟨0,rfl,rfl,by omega,Ad⟩
 case round=>as_aux_lemma=>
  obtain⟨i,hgk,rfl,hi60,HBx⟩:=hrel;have HGI:=Ab hgk;clear hgk;have xw:=(HBx.out.block _ (Array.getElem?_eq_some_iff.1 HXW.out).1).trans HXW.out;have c0:=Aa 0 xw;have c1:=Aa 1 xw;clear xw
  by_cases hlt:i<60
  case neg=>
   have i1:¬(i:Int)<60:=by omega
   go_wp2;go_ret;exact⟨rfl,HBB.out.step HBx.out⟩
  have i1:(i:Int)<60:=by omega
  by_cases hw0:pwk=0
  ·subst hw0;go_wp2;go_ret;exact⟨rfl,HBB.out.step HBx.out⟩
  have i2:(0:Int)<(pwk:Int):=by omega
  have i3:0<pwk:=by omega
  have II:I64 (i:Int):=by unfold I64;omega
  have haw:=HW.out i3 i
  go_wp2_with fail
  have HB0:=Ab HBx.out;clear c0 c1 hw0 HBx
  go_loopg [18] on (fun gh q18 wr=>∃k:Nat,gh=on-k/\q18=.int .i64 (k:Int)/\k<=on/\Hid (Below w18.heap.size w18 wr))
  case atStart=>exact⟨0,rfl,rfl,by omega,HB0⟩
  case round=>as_aux_lemma=>
   obtain⟨k,hgk,rfl,hkn,HBx⟩:=hrel;have HGK:=Ab hgk;clear hgk HB0
   by_cases hlk:k<on
   case neg=>
    have i4:¬(k:Int)<(on:Int):=by omega
    go_wp2
    go_roundg (60-(i+1))
    case measure=>have:=HGI.out;omega
    case rel=>exact⟨i+1,rfl,by go_num,by omega,HBx⟩
   have i4:(k:Int)<(on:Int):=by omega
   have IKK:I64 (k:Int):=by unfold I64;have:=nO;omega
   have hlt2:=HLT.out i k hlk;obtain rfl:=dO (by omega);have hok:=HFO.out k hlk;have hK:=HKK.out.below HBx.out;have hl:=HLL.out.below HBx.out;have hw:=HWW.out.below HBx.out;have hx:=HXX.out.below HBx.out;have hy:=HYY.out.below HBx.out;have xw:=(HBx.out.block _ (Array.getElem?_eq_some_iff.1 HXW.out).1).trans HXW.out;have xx:=(HBx.out.block _ (Array.getElem?_eq_some_iff.1 HXX2.out).1).trans HXX2.out;have xy:=(HBx.out.block _ (Array.getElem?_eq_some_iff.1 HXY.out).1).trans HXY.out;have hoc:wr.cell? ⟨bo,oo+k,none⟩=some (.bool (own.getD k false)):=Ah HBx.out hok;have hB:BW w18 wr:=HBx.out;have k0:=Aa 0 xw;have k1:=Aa 1 xw
   go_wp2_with fail
   clear k0 k1;obtain⟨x,hxe⟩:∃x,x=ltW l Z ins i:=⟨_,rfl⟩;rw[<-hxe]at haw hlt2
   have IX:I64 x:=by
    have h:=(GJ HFZ.out (by exact HVZ.out) i).1;rw[<-hxe]at h;unfold I64;omega
   clear hxe;have HLQ:=Ab hlt2;have HAW:=Ab haw;clear hlt2 haw;have hq:=IS _ _ LW (i:Int) hw II;rw[HAW.out]at hq;clear HAW;refine(hq).mono ?_;rintro e w51 ⟨rfl,hb⟩;replace xw:=Ae hb xw;replace xx:=Ae hb xx;replace xy:=Ae hb xy;replace hK:=hK.below hb;replace hl:=hl.below hb;replace hw:=hw.below hb;replace hx:=hx.below hb;replace hy:=hy.below hb;replace hB:=hB.step hb;replace hoc:=Ah hb hoc;clear hb
   go_wp2_with fail
   refine(Hu _ _ l x (k:Int) IX IKK hK hl).mono ?_;rintro e w52 ⟨rfl,hb⟩;replace xw:=Ae hb xw;replace xx:=Ae hb xx;replace xy:=Ae hb xy;replace hK:=hK.below hb;replace hl:=hl.below hb;replace hw:=hw.below hb;replace hx:=hx.below hb;replace hy:=hy.below hb;replace hB:=hB.step hb;replace hoc:=Ah hb hoc;clear hb;generalize A5 l x (k:Int)=v at*;clear IX
   cases hco:own.getD k false with
   |true=>
    have hlt2:=HLQ.out;clear HLQ;rw[hco]at hoc hlt2;simp only[if_true,reduceIte]at hlt2;have HLR:=Ab hlt2;clear hlt2
    by_cases hz0:pxk=0
    ·subst hz0;have k0:=Aa 0 xx;have k1:=Aa 1 xx;have j0:=Aa 0 xy;have j1:=Aa 1 xy;have HB9:Hid (Below w18.heap.size w18 w52):=hB;go_wp2
     go_roundg (on-(k+1))
     case measure=>have:=HGK.out;omega
     case rel=>exact⟨k+1,rfl,by go_num,by omega,HB9⟩
    have m1:(0:Int)<(pxk:Int):=by omega
    have m2:0<pxk:=by omega
    have k0:=Aa 0 xx;have k1:=Aa 1 xx;have j0:=Aa 0 xy;have j1:=Aa 1 xy
    go_wp2_with fail
    clear k0 k1;clear j0 j1;have hax:=HX.out m2 i;obtain⟨y,hye⟩:∃y,y=ltW l a ins i:=⟨_,rfl⟩;have hlt2:=HLR.out;clear HLR;rw[<-hye]at hax hlt2
    have IY:I64 y:=by
     have h:=(GJ HFA.out HVI.out i).1;rw[<-hye]at h;unfold I64;omega
    clear hye;have HLS:=Ab hlt2;clear hlt2;have hq:=IS _ _ LX (i:Int) hx II;rw[hax]at hq;clear hax;refine(hq).mono ?_;rintro e w53 ⟨rfl,hb⟩;replace xw:=Ae hb xw;replace xx:=Ae hb xx;replace xy:=Ae hb xy;replace hK:=hK.below hb;replace hl:=hl.below hb;replace hw:=hw.below hb;replace hx:=hx.below hb;replace hy:=hy.below hb;replace hB:=hB.step hb;replace hoc:=Ah hb hoc;clear hb
    go_wp2_with fail
    have hq2:=Hu _ _ l y (k:Int) IY IKK hK hl;rw[<-HLS.out]at hq2;clear HLS;refine(hq2).mono ?_;rintro e w54 ⟨rfl,hb⟩;replace xw:=Ae hb xw;replace xx:=Ae hb xx;replace xy:=Ae hb xy;replace hK:=hK.below hb;replace hl:=hl.below hb;replace hw:=hw.below hb;replace hx:=hx.below hb;replace hy:=hy.below hb;replace hB:=hB.step hb;replace hoc:=Ah hb hoc;clear hb;have k0:=Aa 0 xx;have k1:=Aa 1 xx;have j0:=Aa 0 xy;have j1:=Aa 1 xy;have HB9:Hid (Below w18.heap.size w18 w54):=hB;go_wp2
    go_roundg (on-(k+1))
    case measure=>have:=HGK.out;omega
    case rel=>exact⟨k+1,rfl,by go_num,by omega,HB9⟩
   |false=>
    have hlt2:=HLQ.out;clear HLQ;rw[hco]at hoc hlt2;simp only[reduceIte,Bool.false_eq_true]at hlt2;have HLR:=Ab hlt2;clear hlt2
    by_cases hz0:pyk=0
    ·subst hz0;have k0:=Aa 0 xx;have k1:=Aa 1 xx;have j0:=Aa 0 xy;have j1:=Aa 1 xy;have HB9:Hid (Below w18.heap.size w18 w52):=hB;go_wp2
     go_roundg (on-(k+1))
     case measure=>have:=HGK.out;omega
     case rel=>exact⟨k+1,rfl,by go_num,by omega,HB9⟩
    have m1:(0:Int)<(pyk:Int):=by omega
    have m2:0<pyk:=by omega
    have k0:=Aa 0 xx;have k1:=Aa 1 xx;have j0:=Aa 0 xy;have j1:=Aa 1 xy
    go_wp2_with fail
    clear k0 k1;clear j0 j1;have hax:=HY.out m2 i;obtain⟨y,hye⟩:∃y,y=ltW l b ins i:=⟨_,rfl⟩;have hlt2:=HLR.out;clear HLR;rw[<-hye]at hax hlt2
    have IY:I64 y:=by
     have h:=(GJ HFB.out (by rw[HBI.out];exact HVI.out) i).1;rw[<-hye]at h;unfold I64;omega
    clear hye;have HLS:=Ab hlt2;clear hlt2;have hq:=IS _ _ LY (i:Int) hy II;rw[hax]at hq;clear hax;refine(hq).mono ?_;rintro e w53 ⟨rfl,hb⟩;replace xw:=Ae hb xw;replace xx:=Ae hb xx;replace xy:=Ae hb xy;replace hK:=hK.below hb;replace hl:=hl.below hb;replace hw:=hw.below hb;replace hx:=hx.below hb;replace hy:=hy.below hb;replace hB:=hB.step hb;replace hoc:=Ah hb hoc;clear hb
    go_wp2_with fail
    have hq2:=Hu _ _ l y (k:Int) IY IKK hK hl;rw[<-HLS.out]at hq2;clear HLS;refine(hq2).mono ?_;rintro e w54 ⟨rfl,hb⟩;replace xw:=Ae hb xw;replace xx:=Ae hb xx;replace xy:=Ae hb xy;replace hK:=hK.below hb;replace hl:=hl.below hb;replace hw:=hw.below hb;replace hx:=hx.below hb;replace hy:=hy.below hb;replace hB:=hB.step hb;replace hoc:=Ah hb hoc;clear hb;have k0:=Aa 0 xx;have k1:=Aa 1 xx;have j0:=Aa 0 xy;have j1:=Aa 1 xy;have HB9:Hid (Below w18.heap.size w18 w54):=hB;go_wp2
    go_roundg (on-(k+1))
    case measure=>have:=HGK.out;omega
    case rel=>exact⟨k+1,rfl,by go_num,by omega,HB9⟩
end Go.Proofs.YtncjeamdkjcebaaGreatDoor
