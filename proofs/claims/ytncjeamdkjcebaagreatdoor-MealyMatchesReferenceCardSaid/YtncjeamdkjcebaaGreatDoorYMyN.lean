/- What mealy.normal computes. -/
import Derived.Test.YtncjeamdkjcebaaGreatDoorYMyRun
set_option linter.all false
set_option maxHeartbeats 4000000
set_option maxRecDepth 100000
namespace Go.Proofs.YtncjeamdkjcebaaGreatDoor
open Go.RowKit
theorem OJ(w:World)(vs vl:Value)(s l:List Int)(hs:Df w vs s)(hl:Df w vl l)(h0:0<l.length)(hm:l.length<=10000000)(cu:s.length<=10000000):
  Calls Tryz.prog 99 #[vs,vl] w (Dz (Bh s l) w):=by
 have cw:Tryz.prog.follows .mixedOrders=true:=by kernel_rfl
 have bu:Hid (∀W,Below w.heap.size w W->Calls Tryz.prog 123 #[vl] W (Av (.int .i64 (AX l)) W)):=fun W h=>OK W vl l (hl.below h) h0 hm
 obtain⟨az,cs,rfl⟩:=hs.shape;obtain⟨bz,oz,dz,c1,c2,c3,fs⟩:=hs.data;obtain⟨al,cl,rfl⟩:=hl.shape;obtain⟨bl,ol,dl,cy,cz,c0,fl⟩:=hl.data;obtain rfl:=dl h0;have bs:=Ab fs;have bc:=Ab fl;obtain⟨-,a5,ct⟩:=FB h0;have HZ:Hid (NmB s l 0):=NmB.zero h0
 have bi:Hid (∀b,NmB s l b->b<s.length->s.getD (s.length-1-b) 0=l.getD (AX l-1-b%AX l) 0->NmB s l (b+1)):=fun b h hb he=>h.step h0 hb he
 have ay:Hid (∀b,NmB s l b->b<=s.length->(b=s.length\/s.getD (s.length-1-b) 0≠l.getD (AX l-1-b%AX l) 0)->BC ⟨s,l⟩=⟨s.take (s.length-b),Cb (l.take (AX l)) ((AX l-b%AX l)%AX l)⟩):=fun b h hb he=>h.stop h0 hb he
 have b0:Hid (∀b i,i<AX l->(Cb (l.take (AX l)) ((AX l-b%AX l)%AX l)).getD i 0=l.getD ((i+AX l-b%AX l)%AX l) 0):=fun b i hi=>SB h0 hi
 have bh:=Ab hs.2;have a7:=Ab hl.2;clear fs fl hs hl dl;generalize hd:AX l=d at*;clear hd;generalize hN:s.length=N at*;generalize hn:l.length=n at*
 go_enter Tryz.func99,Tryz.ntmps99
 go_upto_region 1 with(fail)
 obtain⟨bb,-,hB⟩:=Aw (w0:=w) Ad leR #[.slice none 0 0,.slice none 0 0] 30;generalize w.alloc (.cells #[.slice none 0 0,.slice none 0 0] 30)=w1 at*
 go_wp2_with fail
 refine(bu.out _ hB).mono ?_;rintro e w2 ⟨rfl,hb⟩;replace bb:=B8 hb bb;replace hB:=hB.trans (hb.mono hB.size);clear hb;have a0:=Ab bb;have a6:=Ab hB;clear bb hB bu
 have cp:(0:Int)<=(d:Int):=by omega
 have cq:(d:Int)<=(cl:Int):=by omega
 have cr:¬(cl:Int)<(d:Int):=by omega
 go_wp2_with fail
 go_loopg [7] N (fun gh bv wr=>∃b:Nat,gh=N-b/\bv=.int .i64 (b:Int)/\b<=N/\Hid (NmB s l b)/\Hid (Below w2.heap.size w2 wr))
 case atStart=>exact⟨0,by omega,rfl,by omega,HZ,Ad⟩
 case round=>
  obtain⟨b,b1,rfl,hb,a3,HB⟩:=hrel;have bd:=Ab b1;clear b1;have ba:=Ab (a6.out.trans (HB.out.mono a6.out.size));have co:=Nat.mod_lt b a5
  have au:Hid ((b:Int)%(d:Int)=((b%d:Nat):Int)):=by
   show _=_
   first|rfl|exact(Int.natCast_mod _ _).symm|exact(Int.natCast_emod _ _).symm
  have cx:((d:Int)==0)=false:=by rw[beq_eq_false_iff_ne];omega
  by_cases hlt:b<N
  ·obtain rfl:=dz (by omega)
   have bj:(b:Int)<(N:Int):=by omega
   have bw:=Ab (bi.out b a3.out hlt)
   have br:Hid (s.getD (N-1-b) 0≠l.getD (d-1-b%d) 0->BC ⟨s,l⟩=⟨s.take (N-b),Cb (l.take d) ((d-b%d)%d)⟩):=fun h=>ay.out b a3.out hb (.inr h)
   have cS:=Ag ba.out (bs.out (N-1-b) (by omega));have cL:=Ag ba.out (bc.out (d-1-b%d) (by omega))
   have ci:(0:Int)<=(N:Int)-1-(b:Int):=by omega
   have cj:(N:Int)-1-(b:Int)<(N:Int):=by omega
   have ck:((N:Int)-1-(b:Int)).toNat=N-1-b:=by omega
   have bo:(0:Int)<=(d:Int)-1-(b:Int)%(d:Int):=by rw[au.out];omega
   have bp:(d:Int)-1-(b:Int)%(d:Int)<(d:Int):=by rw[au.out];omega
   have bq:((d:Int)-1-(b:Int)%(d:Int)).toNat=d-1-b%d:=by rw[au.out];omega
   generalize s.getD (N-1-b) 0=x at*;generalize l.getD (d-1-b%d) 0=y at*
   cases he:(x==y)with
   |true=>
    have bx:=Ab (bw.out (by simpa using he))
    go_upto_region 3 with(fail)
    go_quiet (fail)
    go_wp2
    go_roundg (N-(b+1))
    case measure=>have:=bd.out;omega
    case rel=>exact⟨b+1,rfl,by go_num,by omega,bx,HB.out.trans (Aj _ _ _)⟩
   |false=>
    have aq:=Ab (br.out (by simpa using he));clear bw br
    go_upto_region 3 with(fail)
    go_quiet (fail)
    clear cS cL ci cj ck bo bp bq;have ae:=Ab (ba.out.trans (Aj _ _ nq));have q:Hid ((wr.drewN nq).heap[w.heap.size]? =some (.cells #[.slice none 0 0,.slice none 0 0] 30 (0,0))):=(HB.out.block _ (Array.getElem?_eq_some_iff.1 a0.out).1).trans a0.out;generalize wr.drewN nq=w5 at*;clear a3 HB bi ay bd bj a6 a0 HZ;have k0:=Aa 0 q.out;have k1:=Aa 1 q.out;have f0:=At 0 q.out;have f1:=At 1 q.out
    have an:Hid ((BC ⟨s,l⟩).stem.length=N-b/\(BC ⟨s,l⟩).loop.length=d):=by
     rw[aq.out];exact⟨by rw[List.length_take];omega,by rw[Cr,List.length_take];omega⟩
    by_cases h60:(60:Int)<(N:Int)-(b:Int)
    ·have HQ:Hid (Bh s l=C7):=if_neg (by have:=an.out;omega);go_wp2;rw[HQ.out]
     (have z:=Bq (a:=.slice none 0 0) (b:=.slice none 0 0) q.out);(have ak:=Aa 0 z);(have am:=Aa 1 z);(refine bodyPost_ret (v:=.agg #[.slice none 0 0,.slice none 0 0]) (by simp[results,Tryz.results99,go_sem,ak,am]) rfl ?_)
     exact CR ae.out leR
    by_cases h40:(40:Int)<(d:Int)
    ·have HQ:Hid (Bh s l=C7):=if_neg (by have:=an.out;omega);go_wp2;rw[HQ.out]
     (have z:=Bq (a:=.slice none 0 0) (b:=.slice none 0 0) q.out);(have ak:=Aa 0 z);(have am:=Aa 1 z);(refine bodyPost_ret (v:=.agg #[.slice none 0 0,.slice none 0 0]) (by simp[results,Tryz.results99,go_sem,ak,am]) rfl ?_)
     exact CR ae.out leR
    have HQ:Hid (Bh s l=⟨s.take (N-b),Cb (l.take d) ((d-b%d)%d)⟩):=by
     show _=_;rw[<-aq.out];exact if_pos (by have:=an.out;omega)
    clear an aq k0 k1 f0 f1
    go_upto_region 8 with(fail)
    obtain⟨B,hB⟩:∃B,B=w5.heap.size:=⟨_,rfl⟩;have ar:Hid (LX (w5.alloc (.cells #[.slice none 0 0,.slice none 0 0] 30)) B w5.heap.size (.slice none 0 0) (.slice none 0 0) [] []):=LX.new w5 B (by omega)
    have a1:Hid (Below B w5 (w5.alloc (.cells #[.slice none 0 0,.slice none 0 0] 30))):=by show Below _ _ _;rw[hB];exact Ao _
    rw[<-hB]at ar⊢;have aj:=Ab hB;clear hB;generalize w5.alloc (.cells #[.slice none 0 0,.slice none 0 0] 30)=w6 at*
    have b5:(0:Int)<=(N:Int)-(b:Int):=by omega
    have b6:(N:Int)-(b:Int)<=(cs:Int):=by omega
    have b7:((N:Int)-(b:Int)).toNat=N-b:=by omega
    have b8:((N:Int)-(b:Int))=((N-b:Nat):Int):=by omega
    have ce:(N:Int)<=(cs:Int):=by omega
    go_wp2_with fail
    go_loopg [59] (N-b) (fun gh iv wr=>∃(j:Nat)(v0:Value),gh=N-b-j/\iv=.int .i64 (j:Int)/\j<=N-b/\Hid (LX wr B B v0 (.slice none 0 0) (s.take j) [])/\Hid (Below B w5 wr))
    case atStart=>exact⟨0,_,rfl,rfl,by omega,by simpa using ar,a1⟩
    case round=>
     obtain⟨j,v0,ag,rfl,hj,c,r⟩:=hrel;have ah:=Ab ag;clear ag ar a1
     have m:Below w5.heap.size w5 wr:=by have:=r.out;rwa [aj.out]at this
     have ai:=Ab (ae.out.trans (m.mono ae.out.size))
     have ad:B<=wr.heap.size:=by rw[aj.out];exact m.size
     by_cases hjl:j<N-b
     ·try(obtain rfl:=dz (by omega))
      have b2:(0:Int)<=(j:Int):=by omega
      have ao:(j:Int)<((N-b:Nat):Int):=by omega
      have cS:=Ag ai.out (bs.out j (by omega));have hx:=bh.out (s.getD j 0) (by rw[Ae _ _ _ (by omega:j<s.length)];exact List.getElem_mem _)
      have k:Hid ((s.take j).length=j):=by show _=_;rw[List.length_take];omega
      have a4:Hid (s.take j++[s.getD j 0]=s.take (j+1)):=by
       show _=_;rw[List.take_succ_eq_append_getElem (by omega:j<s.length),Ae _ _ _ (by omega:j<s.length)]
      obtain⟨av,cv,rfl⟩:=c.out.o.slice' k.out;have k0:=Aa 0 c.out.box;generalize s.getD j 0=xx at*;obtain⟨cc,cd⟩:=hx;obtain⟨w7,rfl⟩:∃x:World,x=wr:=⟨_,rfl⟩
      go_upto_region 11 with(fail)
      go_wp2_with (at_builtin;refine C8 rfl _ _ xx rfl B _ _ c.out.o rfl _ (by simp) rfl (by rw[k.out];omega) ad ?_;intro v' w' f hg ap;obtain⟨a9,c9,rfl⟩:=f.slice' (show _=j+1 by rw[List.length_append,k.out];rfl);have u:=Ab (c.out.step0 f hg ap ad);have k0:=Aa 0 u.out.1;have f0:=At 0 u.out.1;clear f hg ap)
      go_roundg (N-b-(j+1))
      case measure=>have:=ah.out;omega
      case rel=>exact⟨j+1,_,rfl,by go_num,by omega,by rw[<-a4.out];exact u.out.2.1,r.out.trans u.out.2.2⟩
     ·have ao:¬(j:Int)<((N-b:Nat):Int):=by omega
      have a2:Hid (LX wr B B v0 (.slice none 0 0) (s.take (N-b)) []):=by have:=c.out;rwa [show j=N-b by omega]at this
      clear c ao ah;obtain⟨wE,rfl⟩:∃x:World,x=wr:=⟨_,rfl⟩
      have ab:Hid ((Cb (l.take d) ((d-b%d)%d)).length=d):=by show _=_;rw[Cr,List.length_take];omega
      have ax:=Ab (b0.out b);generalize Cb (l.take d) ((d-b%d)%d)=lp at*
      go_wp2_with fail
      go_loopg [72] d (fun gh iv wr=>∃(j:Nat)(v1:Value),gh=d-j/\iv=.int .i64 (j:Int)/\j<=d/\Hid (LX wr B B v0 v1 (s.take (N-b)) (lp.take j))/\Hid (Below B w5 wr))
      case atStart=>exact⟨0,_,rfl,rfl,by omega,by simpa using a2,r⟩
      case round=>
       clear a2 r m ai ad hjl hj;obtain⟨j,v1,ag,rfl,hj,c,r⟩:=hrel;have ah:=Ab ag;clear ag
       have m:Below w5.heap.size w5 wr:=by have:=r.out;rwa [aj.out]at this
       have ai:=Ab (ae.out.trans (m.mono ae.out.size))
       have ad:B<=wr.heap.size:=by rw[aj.out];exact m.size
       by_cases hjl:j<d
       ·have b2:(0:Int)<=(j:Int):=by omega
        have ao:(j:Int)<(d:Int):=by omega
        have bn:=Nat.mod_lt (j+d-b%d) a5
        have aw:Hid (((j:Int)+(d:Int)-(b:Int)%(d:Int))%(d:Int)=(((j+d-b%d)%d:Nat):Int)):=by
         show _=_;rw[au.out,show(j:Int)+(d:Int)-((b%d:Nat):Int)=((j+d-b%d:Nat):Int)by omega]
         first|rfl|exact(Int.natCast_mod _ _).symm|exact(Int.natCast_emod _ _).symm
        have cf:¬d=0:=by omega
        have b9:(b:Int).tmod (d:Int)=(b:Int)%(d:Int):=Int.tmod_eq_emod_of_nonneg (by omega)
        have bm:(0:Int)<=(b:Int)%(d:Int)/\(b:Int)%(d:Int)<(d:Int):=by rw[au.out];omega
        obtain⟨b3,b4⟩:=bm;have cg:IntKind.i64.wrap ((j:Int)+(d:Int))=(j:Int)+(d:Int):=IntWalk.i64_in _ ⟨by omega,by omega⟩;have ch:IntKind.i64.wrap ((j:Int)+(d:Int)-(b:Int)%(d:Int))=(j:Int)+(d:Int)-(b:Int)%(d:Int):=IntWalk.i64_in _ ⟨by omega,by omega⟩;have ca:((j:Int)+(d:Int)-(b:Int)%(d:Int)).tmod (d:Int)=((j:Int)+(d:Int)-(b:Int)%(d:Int))%(d:Int):=Int.tmod_eq_emod_of_nonneg (by omega)
        have af:Hid (((j:Int)+(d:Int)-(b:Int))%(d:Int)=((j:Int)+(d:Int)-(b:Int)%(d:Int))%(d:Int)):=by
         show _=_;simp
        have bo:(0:Int)<=((j:Int)+(d:Int)-(b:Int))%(d:Int):=by rw[af.out,aw.out];omega
        have bp:((j:Int)+(d:Int)-(b:Int))%(d:Int)<(d:Int):=by rw[af.out,aw.out];omega
        have bq:(((j:Int)+(d:Int)-(b:Int))%(d:Int)).toNat=(j+d-b%d)%d:=by rw[af.out,aw.out];omega
        have cS:=Ag ai.out (bc.out ((j+d-b%d)%d) (by omega));have hx:=a7.out (l.getD ((j+d-b%d)%d) 0) (by rw[Ae _ _ _ (by omega:(j+d-b%d)%d<l.length)];exact List.getElem_mem _)
        have k:Hid ((lp.take j).length=j):=by show _=_;rw[List.length_take,ab.out];omega
        have a4:Hid (lp.take j++[l.getD ((j+d-b%d)%d) 0]=lp.take (j+1)):=by
         show _=_
         have h1:j<lp.length:=by rw[ab.out];exact hjl
         rw[List.take_succ_eq_append_getElem h1,<-ax.out j hjl,Ae _ _ _ h1]
        obtain⟨av,cv,rfl⟩:=c.out.p.slice' k.out;have k1:=Aa 1 c.out.box;generalize l.getD ((j+d-b%d)%d) 0=xx at*;obtain⟨cc,cd⟩:=hx;obtain⟨w7,rfl⟩:∃x:World,x=wr:=⟨_,rfl⟩;have be:=c.out.p;have cm:=c.out.zlt;have cn:(w7.alloc (.cells #[.int .i64 xx] 3)).cell? ⟨B,1,none⟩=some (.slice av j cv):=Ag (Ao _) k1;have cb:IntKind.i64.wrap xx=xx:=IntWalk.i64_in _ ⟨by omega,by omega⟩
        go_upto_region 16 with(fail)
        go_region_law ((rw[if_pos (by rfl)];refine GE w7 _ _ xx (by rfl) B (.slice av j cv) _ (by rfl) be (by rfl) (by rw[k.out];omega) ad ?_;intro v' w' f hg ap;obtain⟨a9,c9,rfl⟩:=f.slice' (show _=j+1 by rw[List.length_append,k.out];rfl);have u:=Ab (c.out.step1 f hg ap ad);have k1:=Aa 1 u.out.1;have f1:=At 1 u.out.1;clear f hg ap))
        all_goals
         go_wp2_with fail
         go_roundg (d-(j+1))
         case measure=>have:=ah.out;omega
         case rel=>exact⟨j+1,_,rfl,by go_num,by omega,by rw[<-a4.out];exact u.out.2.1,r.out.trans u.out.2.2⟩
       ·have ao:¬(j:Int)<(d:Int):=by omega
        have aa:Hid (LX wr B B v0 v1 (s.take (N-b)) lp):=by
         have e:lp.take j=lp:=List.take_of_length_le (by rw[ab.out];omega);have:=c.out
         rwa [e]at this
        have ac:=Ab ((m.block _ (Array.getElem?_eq_some_iff.1 q.out).1).trans q.out);obtain⟨a8,c8,rfl⟩:=aa.out.o.slice' (show _=N-b by rw[List.length_take];omega);obtain⟨a9,c9,rfl⟩:=aa.out.p.slice' ab.out;have k0:=Aa 0 aa.out.box;have k1:=Aa 1 aa.out.box;have j0:=Aa 0 ac.out;have j1:=Aa 1 ac.out;have f0:=At 0 ac.out;have f1:=At 1 ac.out
        have bf:Hid (Ah wr (.slice a8 (N-b) c8) (s.take (N-b))):=aa.out.o.is (by rw[List.length_take];unfold Bg;omega) fun x hx=>by
         have:=bh.out x (List.mem_of_mem_take hx)
         constructor<;>omega
        have bg:Hid (Ah wr (.slice a9 d c9) lp):=aa.out.p.is (by rw[ab.out];unfold Bg;omega) fun x hx=>by
         obtain⟨i,hi,rfl⟩:=List.mem_iff_getElem.1 hx
         have bk:i<d:=by rw[<-ab.out];exact hi
         have bn:=Nat.mod_lt (i+d-b%d) a5;rw[<-Ae _ 0 i hi,ax.out i bk];have:=a7.out (l.getD ((i+d-b%d)%d) 0) (by rw[Ae _ _ _ (by omega:(i+d-b%d)%d<l.length)];exact List.getElem_mem _)
         constructor<;>omega
        clear c ax ah m ad;go_wp2;rw[HQ.out]
        (have z:=Bq (a:=.slice a8 (N-b) c8) (b:=.slice a9 d c9) ac.out);(have ak:=Aa 0 z);(have am:=Aa 1 z);(refine bodyPost_ret (v:=.agg #[.slice a8 (N-b) c8,.slice a9 d c9]) (by simp[results,Tryz.results99,go_sem,ak,am]) rfl ?_)
        exact If ac.out bf.out bg.out ai.out leR
  ·have aq:=Ab (ay.out b a3.out hb (.inl (by omega)))
   have bj:¬(b:Int)<(N:Int):=by omega
   go_upto_region 3 with(fail)
   go_quiet (fail)
   have ae:=Ab (ba.out.trans (Aj _ _ nq));have q:Hid ((wr.drewN nq).heap[w.heap.size]? =some (.cells #[.slice none 0 0,.slice none 0 0] 30 (0,0))):=(HB.out.block _ (Array.getElem?_eq_some_iff.1 a0.out).1).trans a0.out;generalize wr.drewN nq=w5 at*;clear a3 HB bi ay bd bj a6 a0 HZ;have k0:=Aa 0 q.out;have k1:=Aa 1 q.out;have f0:=At 0 q.out;have f1:=At 1 q.out
   have an:Hid ((BC ⟨s,l⟩).stem.length=N-b/\(BC ⟨s,l⟩).loop.length=d):=by
    rw[aq.out];exact⟨by rw[List.length_take];omega,by rw[Cr,List.length_take];omega⟩
   by_cases h60:(60:Int)<(N:Int)-(b:Int)
   ·exact absurd h60 (by omega)
   by_cases h40:(40:Int)<(d:Int)
   ·have HQ:Hid (Bh s l=C7):=if_neg (by have:=an.out;omega);go_wp2;rw[HQ.out]
    (have z:=Bq (a:=.slice none 0 0) (b:=.slice none 0 0) q.out);(have ak:=Aa 0 z);(have am:=Aa 1 z);(refine bodyPost_ret (v:=.agg #[.slice none 0 0,.slice none 0 0]) (by simp[results,Tryz.results99,go_sem,ak,am]) rfl ?_)
    exact CR ae.out leR
   have HQ:Hid (Bh s l=⟨s.take (N-b),Cb (l.take d) ((d-b%d)%d)⟩):=by
    show _=_;rw[<-aq.out];exact if_pos (by have:=an.out;omega)
   clear an aq k0 k1 f0 f1
   go_upto_region 8 with(fail)
   obtain⟨B,hB⟩:∃B,B=w5.heap.size:=⟨_,rfl⟩;have ar:Hid (LX (w5.alloc (.cells #[.slice none 0 0,.slice none 0 0] 30)) B w5.heap.size (.slice none 0 0) (.slice none 0 0) [] []):=LX.new w5 B (by omega)
   have a1:Hid (Below B w5 (w5.alloc (.cells #[.slice none 0 0,.slice none 0 0] 30))):=by show Below _ _ _;rw[hB];exact Ao _
   rw[<-hB]at ar⊢;have aj:=Ab hB;clear hB;generalize w5.alloc (.cells #[.slice none 0 0,.slice none 0 0] 30)=w6 at*
   have b5:(0:Int)<=(N:Int)-(b:Int):=by omega
   have b6:(N:Int)-(b:Int)<=(cs:Int):=by omega
   have b7:((N:Int)-(b:Int)).toNat=N-b:=by omega
   have b8:((N:Int)-(b:Int))=((N-b:Nat):Int):=by omega
   have ce:(N:Int)<=(cs:Int):=by omega
   go_wp2_with fail
   go_loopg [59] (N-b) (fun gh iv wr=>∃(j:Nat)(v0:Value),gh=N-b-j/\iv=.int .i64 (j:Int)/\j<=N-b/\Hid (LX wr B B v0 (.slice none 0 0) (s.take j) [])/\Hid (Below B w5 wr))
   case atStart=>exact⟨0,_,rfl,rfl,by omega,by simpa using ar,a1⟩
   case round=>
    obtain⟨j,v0,ag,rfl,hj,c,r⟩:=hrel;have ah:=Ab ag;clear ag ar a1
    have m:Below w5.heap.size w5 wr:=by have:=r.out;rwa [aj.out]at this
    have ai:=Ab (ae.out.trans (m.mono ae.out.size))
    have ad:B<=wr.heap.size:=by rw[aj.out];exact m.size
    by_cases hjl:j<N-b
    ·exact absurd hjl (by omega)
    ·have ao:¬(j:Int)<((N-b:Nat):Int):=by omega
     have a2:Hid (LX wr B B v0 (.slice none 0 0) (s.take (N-b)) []):=by have:=c.out;rwa [show j=N-b by omega]at this
     clear c ao ah;obtain⟨wE,rfl⟩:∃x:World,x=wr:=⟨_,rfl⟩
     have ab:Hid ((Cb (l.take d) ((d-b%d)%d)).length=d):=by show _=_;rw[Cr,List.length_take];omega
     have ax:=Ab (b0.out b);generalize Cb (l.take d) ((d-b%d)%d)=lp at*
     go_wp2_with fail
     go_loopg [72] d (fun gh iv wr=>∃(j:Nat)(v1:Value),gh=d-j/\iv=.int .i64 (j:Int)/\j<=d/\Hid (LX wr B B v0 v1 (s.take (N-b)) (lp.take j))/\Hid (Below B w5 wr))
     case atStart=>exact⟨0,_,rfl,rfl,by omega,by simpa using a2,r⟩
     case round=>
      clear a2 r m ai ad hjl hj;obtain⟨j,v1,ag,rfl,hj,c,r⟩:=hrel;have ah:=Ab ag;clear ag
      have m:Below w5.heap.size w5 wr:=by have:=r.out;rwa [aj.out]at this
      have ai:=Ab (ae.out.trans (m.mono ae.out.size))
      have ad:B<=wr.heap.size:=by rw[aj.out];exact m.size
      by_cases hjl:j<d
      ·have b2:(0:Int)<=(j:Int):=by omega
       have ao:(j:Int)<(d:Int):=by omega
       have bn:=Nat.mod_lt (j+d-b%d) a5
       have aw:Hid (((j:Int)+(d:Int)-(b:Int)%(d:Int))%(d:Int)=(((j+d-b%d)%d:Nat):Int)):=by
        show _=_;rw[au.out,show(j:Int)+(d:Int)-((b%d:Nat):Int)=((j+d-b%d:Nat):Int)by omega]
        first|rfl|exact(Int.natCast_mod _ _).symm|exact(Int.natCast_emod _ _).symm
       have cf:¬d=0:=by omega
       have b9:(b:Int).tmod (d:Int)=(b:Int)%(d:Int):=Int.tmod_eq_emod_of_nonneg (by omega)
       have bm:(0:Int)<=(b:Int)%(d:Int)/\(b:Int)%(d:Int)<(d:Int):=by rw[au.out];omega
       obtain⟨b3,b4⟩:=bm;have cg:IntKind.i64.wrap ((j:Int)+(d:Int))=(j:Int)+(d:Int):=IntWalk.i64_in _ ⟨by omega,by omega⟩;have ch:IntKind.i64.wrap ((j:Int)+(d:Int)-(b:Int)%(d:Int))=(j:Int)+(d:Int)-(b:Int)%(d:Int):=IntWalk.i64_in _ ⟨by omega,by omega⟩;have ca:((j:Int)+(d:Int)-(b:Int)%(d:Int)).tmod (d:Int)=((j:Int)+(d:Int)-(b:Int)%(d:Int))%(d:Int):=Int.tmod_eq_emod_of_nonneg (by omega)
       have af:Hid (((j:Int)+(d:Int)-(b:Int))%(d:Int)=((j:Int)+(d:Int)-(b:Int)%(d:Int))%(d:Int)):=by
        show _=_;simp
       have bo:(0:Int)<=((j:Int)+(d:Int)-(b:Int))%(d:Int):=by rw[af.out,aw.out];omega
       have bp:((j:Int)+(d:Int)-(b:Int))%(d:Int)<(d:Int):=by rw[af.out,aw.out];omega
       have bq:(((j:Int)+(d:Int)-(b:Int))%(d:Int)).toNat=(j+d-b%d)%d:=by rw[af.out,aw.out];omega
       have cS:=Ag ai.out (bc.out ((j+d-b%d)%d) (by omega));have hx:=a7.out (l.getD ((j+d-b%d)%d) 0) (by rw[Ae _ _ _ (by omega:(j+d-b%d)%d<l.length)];exact List.getElem_mem _)
       have k:Hid ((lp.take j).length=j):=by show _=_;rw[List.length_take,ab.out];omega
       have a4:Hid (lp.take j++[l.getD ((j+d-b%d)%d) 0]=lp.take (j+1)):=by
        show _=_
        have h1:j<lp.length:=by rw[ab.out];exact hjl
        rw[List.take_succ_eq_append_getElem h1,<-ax.out j hjl,Ae _ _ _ h1]
       obtain⟨av,cv,rfl⟩:=c.out.p.slice' k.out;have k1:=Aa 1 c.out.box;generalize l.getD ((j+d-b%d)%d) 0=xx at*;obtain⟨cc,cd⟩:=hx;obtain⟨w7,rfl⟩:∃x:World,x=wr:=⟨_,rfl⟩;have be:=c.out.p;have cm:=c.out.zlt;have cn:(w7.alloc (.cells #[.int .i64 xx] 3)).cell? ⟨B,1,none⟩=some (.slice av j cv):=Ag (Ao _) k1;have cb:IntKind.i64.wrap xx=xx:=IntWalk.i64_in _ ⟨by omega,by omega⟩
       go_upto_region 16 with(fail)
       go_region_law ((rw[if_pos (by rfl)];refine GE w7 _ _ xx (by rfl) B (.slice av j cv) _ (by rfl) be (by rfl) (by rw[k.out];omega) ad ?_;intro v' w' f hg ap;obtain⟨a9,c9,rfl⟩:=f.slice' (show _=j+1 by rw[List.length_append,k.out];rfl);have u:=Ab (c.out.step1 f hg ap ad);have k1:=Aa 1 u.out.1;have f1:=At 1 u.out.1;clear f hg ap))
       all_goals
        go_wp2_with fail
        go_roundg (d-(j+1))
        case measure=>have:=ah.out;omega
        case rel=>exact⟨j+1,_,rfl,by go_num,by omega,by rw[<-a4.out];exact u.out.2.1,r.out.trans u.out.2.2⟩
      ·have ao:¬(j:Int)<(d:Int):=by omega
       have aa:Hid (LX wr B B v0 v1 (s.take (N-b)) lp):=by
        have e:lp.take j=lp:=List.take_of_length_le (by rw[ab.out];omega);have:=c.out
        rwa [e]at this
       have ac:=Ab ((m.block _ (Array.getElem?_eq_some_iff.1 q.out).1).trans q.out);obtain⟨a8,c8,rfl⟩:=aa.out.o.slice' (show _=N-b by rw[List.length_take];omega);obtain⟨a9,c9,rfl⟩:=aa.out.p.slice' ab.out;have k0:=Aa 0 aa.out.box;have k1:=Aa 1 aa.out.box;have j0:=Aa 0 ac.out;have j1:=Aa 1 ac.out;have f0:=At 0 ac.out;have f1:=At 1 ac.out
       have bf:Hid (Ah wr (.slice a8 (N-b) c8) (s.take (N-b))):=aa.out.o.is (by rw[List.length_take];unfold Bg;omega) fun x hx=>by
        have:=bh.out x (List.mem_of_mem_take hx)
        constructor<;>omega
       have bg:Hid (Ah wr (.slice a9 d c9) lp):=aa.out.p.is (by rw[ab.out];unfold Bg;omega) fun x hx=>by
        obtain⟨i,hi,rfl⟩:=List.mem_iff_getElem.1 hx
        have bk:i<d:=by rw[<-ab.out];exact hi
        have bn:=Nat.mod_lt (i+d-b%d) a5;rw[<-Ae _ 0 i hi,ax.out i bk];have:=a7.out (l.getD ((i+d-b%d)%d) 0) (by rw[Ae _ _ _ (by omega:(i+d-b%d)%d<l.length)];exact List.getElem_mem _)
        constructor<;>omega
       clear c ax ah m ad;go_wp2;rw[HQ.out]
       (have z:=Bq (a:=.slice a8 (N-b) c8) (b:=.slice a9 d c9) ac.out);(have ak:=Aa 0 z);(have am:=Aa 1 z);(refine bodyPost_ret (v:=.agg #[.slice a8 (N-b) c8,.slice a9 d c9]) (by simp[results,Tryz.results99,go_sem,ak,am]) rfl ?_)
       exact If ac.out bf.out bg.out ai.out leR
end Go.Proofs.YtncjeamdkjcebaaGreatDoor
namespace Go.Proofs.YtncjeamdkjcebaaGreatDoor
inductive Rch(E:Nat->Nat->Prop):Nat->Nat->Prop
 |refl (a:Nat):Rch E a a
 |step {a b c:Nat}:Rch E a b->E b c->Rch E a c
theorem Rch.trans{E:Nat->Nat->Prop}{a b c:Nat}(h1:Rch E a b)(h2:Rch E b c):Rch E a c:=by
 induction h2 with
 |refl=>exact h1
 |step _ e ih=>exact ih.step e
theorem Rch.one{E:Nat->Nat->Prop}{a b:Nat}(h:E a b):Rch E a b:=(Rch.refl a).step h
theorem Rch.closed{E:Nat->Nat->Prop}{A:Nat->Prop}(hA:∀x y,A x->E x y->A y){a b:Nat}(h:Rch E a b)(ha:A a):A b:=by
 induction h with
 |refl=>exact ha
 |step _ e ih=>exact hA _ _ ih e
structure Tj where
 num:Nat->Nat
 low:Nat->Nat
 prt:Nat->Nat
 stk:List Nat
 cnt:Nat
structure EI(E:Nat->Nat->Prop)(t:Tj)(G:List Nat):Prop where
 nd:t.stk.Nodup
 st:∀v,v∈t.stk↔t.num v≠0/\t.prt v=0
 so:t.stk.Pairwise fun x y=>t.num x<t.num y
 le:∀v,t.num v<=t.cnt
 inj:∀u v,t.num u≠0->t.num u=t.num v->u=v
 pn:∀v,t.prt v≠0->t.num v≠0/\∃r,t.prt r=t.prt v/\t.num r=t.prt v
 gs:∀g∈G,g∈t.stk
 bw:∀v u,t.num v≠0->v∉G->E v u->t.num u≠0
 fc:∀v u,t.prt v≠0->E v u->t.prt u≠0
 up:∀x∈t.stk,∀y∈t.stk,t.num x<=t.num y->Rch E x y
 dn:∀y∈t.stk,∃g∈G,t.num g<=t.num y/\Rch E y g
 lw:∀v∈t.stk,t.low v<=t.num v/\∃z∈t.stk,t.num z=t.low v/\Rch E v z
 eq:∀u v,t.prt u≠0->t.prt v≠0->(t.prt u=t.prt v↔Rch E u v/\Rch E v u)
structure Mw(t t':Tj):Prop where
 nu:∀v,t.num v≠0->t'.num v=t.num v
 pr:∀v,t.prt v≠0->t'.prt v=t.prt v
 sk:∃r,t'.stk=t.stk++r
 lo:∀v∈t.stk,t'.low v=t.low v
theorem Mw.refl(t:Tj):Mw t t:=⟨fun _ _=>rfl,fun _ _=>rfl,⟨[],by simp⟩,fun _ _=>rfl⟩
theorem Mw.trans{t t' a:Tj}(h:Mw t t')(k:Mw t' a):Mw t a:=by
 obtain⟨r,hr⟩:=h.sk;obtain⟨s,hs⟩:=k.sk;refine⟨fun v hv=> ?_,fun v hv=> ?_,⟨r++s,by rw[hs,hr,List.append_assoc]⟩,fun v hv=> ?_⟩
 ·rw[k.nu v (by rw[h.nu v hv];exact hv),h.nu v hv]
 ·rw[k.pr v (by rw[h.pr v hv];exact hv),h.pr v hv]
 ·rw[k.lo v (by rw[hr];exact List.mem_append_left _ hv),h.lo v hv]
def upN(f:Nat->Nat)(i x:Nat):Nat->Nat:=fun j=>if j=i then x else f j
theorem CF(f:Nat->Nat)(i x:Nat):upN f i x i=x:=if_pos rfl
theorem Er(f:Nat->Nat)(i x j:Nat)(h:j≠i):upN f i x j=f j:=if_neg h
def Tj.openV(t:Tj)(s:Nat):Tj:=⟨upN t.num s (t.cnt+1),upN t.low s (t.cnt+1),t.prt,t.stk++[s],t.cnt+1⟩
theorem EI.openV{E:Nat->Nat->Prop}{t:Tj}{G:List Nat}(h:EI E t G){s:Nat}(hs:t.num s=0)(hg:∀g∈G,Rch E g s):EI E (t.openV s) (G++[s]):=by
 have q:s∉t.stk:=fun hm=>((h.st s).1 hm).1 hs
 have w:t.prt s=0:=by
  cases hp:t.prt s with
  |zero=>rfl
  |succ n=>exact absurd hs (h.pn s (by rw[hp];omega)).1
 have o:∀v,t.num v≠0->v≠s:=fun v hv e=>hv (e▸hs)
 have j:∀v,t.num v≠0->(t.openV s).num v=t.num v:=fun v hv=>Er _ _ _ _ (o v hv)
 have f:∀v,v≠s->(t.openV s).num v=t.num v:=fun v hv=>Er _ _ _ _ hv
 have c:(t.openV s).num s=t.cnt+1:=CF _ _ _
 have i:∀v,v∈(t.openV s).stk↔v∈t.stk\/v=s:=fun v=>by simp[Tj.openV]
 have d:∀v∈t.stk,(t.openV s).num v=t.num v:=fun v hv=>j v ((h.st v).1 hv).1
 have m:∀x∈t.stk,Rch E x s:=fun x hx=>by
  obtain⟨g,l,-,hr⟩:=h.dn x hx;exact hr.trans (hg g l)
 refine⟨?_,fun v=> ?_, ?_,fun v=> ?_,fun u v hu e=> ?_,fun v hv=> ?_,fun g hgm=> ?_,fun v u hv hvG e=> ?_,fun v u hv e=> ?_,fun x hx y hy hxy=> ?_,fun y hy=> ?_,fun v hv=> ?_,fun u v hu hv=> ?_⟩
 ·show(t.stk++[s]).Nodup;rw[List.nodup_append];exact⟨h.nd,by simp,fun a ha b hb=>by rw[List.mem_singleton.1 hb];rintro rfl;exact q ha⟩
 ·rw[i]
  by_cases hv:v=s
  ·subst hv;rw[c];exact⟨fun _=>⟨by omega,w⟩,fun _=>.inr rfl⟩
  ·rw[f v hv];show v∈t.stk\/v=s↔t.num v≠0/\t.prt v=0;rw[<-h.st v];exact⟨fun k=>k.resolve_right hv,.inl⟩
 ·show(t.stk++[s]).Pairwise _;rw[List.pairwise_append];refine⟨h.so.imp_of_mem fun{a b}ha hb hab=>by rw[d a ha,d b hb];exact hab,by simp,fun a ha b hb=> ?_⟩;rw[List.mem_singleton.1 hb,d a ha,c];have:=h.le a;omega
 ·by_cases hv:v=s
  ·subst hv;rw[c];exact Nat.le_refl _
  ·rw[f v hv];exact Nat.le_succ_of_le (h.le v)
 ·by_cases hu':u=s
  ·subst hu'
   by_cases hv':v=u
   ·exact hv'.symm
   ·rw[c,f v hv']at e;have:=h.le v;omega
  ·rw[f u hu']at hu e
   by_cases hv':v=s
   ·subst hv';rw[c]at e;have:=h.le u;omega
   ·rw[f v hv']at e;exact h.inj u v hu e
 ·obtain⟨h1,r,h2,h3⟩:=h.pn v hv;refine⟨by rw[j v h1];exact h1,r,h2, ?_⟩
  have hr:t.num r≠0:=by rw[h3];exact hv
  rw[j r hr];exact h3
 ·rw[i]
  rcases List.mem_append.1 hgm with k|k
  ·exact .inl (h.gs g k)
  ·exact .inr (List.mem_singleton.1 k)
 ·have aa:v≠s:=fun k=>hvG (by rw[k];simp)
  rw[f v aa]at hv;have:=h.bw v u hv (fun k=>hvG (List.mem_append_left _ k)) e;rw[j u this];exact this
 ·exact h.fc v u hv e
 ·rw[i]at hx hy
  rcases hy with hy|rfl
  ·rcases hx with hx|rfl
   ·rw[d x hx,d y hy]at hxy;exact h.up x hx y hy hxy
   ·rw[c,d y hy]at hxy;have:=h.le y;omega
  ·rcases hx with hx|rfl
   ·exact m x hx
   ·exact Rch.refl _
 ·rw[i]at hy
  rcases hy with hy|rfl
  ·obtain⟨g,l,p,hr⟩:=h.dn y hy;exact⟨g,List.mem_append_left _ l,by rw[d g (h.gs g l),d y hy];exact p,hr⟩
  ·exact⟨y,by simp,Nat.le_refl _,Rch.refl _⟩
 ·rw[i]at hv
  rcases hv with hv|rfl
  ·obtain⟨h1,z,hz,h2,h3⟩:=h.lw v hv;have e:(t.openV s).low v=t.low v:=Er _ _ _ _ (o v ((h.st v).1 hv).1);rw[e,d v hv];exact⟨h1,z,(i z).2 (.inl hz),by rw[d z hz];exact h2,h3⟩
  ·have e:(t.openV v).low v=t.cnt+1:=CF _ _ _;rw[e,c];exact⟨Nat.le_refl _,v,(i v).2 (.inr rfl),c,Rch.refl _⟩
 ·exact h.eq u v hu hv
structure La(E:Nat->Nat->Prop)(t t':Tj)(s:Nat)(G:List Nat):Prop where
 inv:EI E t' G
 ext:Mw t t'
 nz:t'.num s≠0
 cr:t'.prt s=0->∀y∈t'.stk,y∉t.stk->∀u∈t.stk,E y u->t'.low s<=t'.num u
 cl:t'.prt s≠0->t'.stk=t.stk
structure CS(E:Nat->Nat->Prop)(t0 t:Tj)(s:Nat)(G:List Nat)(done:Nat->Prop):Prop where
 inv:EI E t (G++[s])
 nu:∀v,t0.num v≠0->t.num v=t0.num v
 pr:∀v,t0.prt v≠0->t.prt v=t0.prt v
 sk:∃r,t.stk=t0.stk++s::r
 lo:∀v∈t0.stk,t.low v=t0.low v
 z0:s∉t0.stk
 gr:∀g∈G,g∈t0.stk
 cr:∀y∈t.stk,y∉t0.stk->y≠s->∀u∈t0.stk,E y u->t.low s<=t.num u
 dn:∀u,done u->t.num u≠0/\(u∈t0.stk->t.low s<=t.num u)
section
variable {E:Nat->Nat->Prop} {t0 t t':Tj} {s u:Nat} {G:List Nat} {done:Nat->Prop}
theorem CS.start(h:EI E t0 G)(hs:t0.num s=0)(hg:∀g∈G,Rch E g s):CS E t0 (t0.openV s) s G (fun _=>False):=by
 have a:s∉t0.stk:=fun hm=>((h.st s).1 hm).1 hs
 refine⟨h.openV hs hg,fun v hv=>Er _ _ _ _ fun e=>hv (e▸hs),fun _ _=>rfl,⟨[],rfl⟩,fun v hv=>Er _ _ _ _ fun e=>a (e▸hv),a,h.gs,fun y hy h1 h2=> ?_,fun _ h=>h.elim⟩;have:y∈t0.stk++[s]:=hy
 rcases List.mem_append.1 this with k|k
 ·exact absurd k h1
 ·exact absurd (List.mem_singleton.1 k) h2
theorem CS.smem(h:CS E t0 t s G done):s∈t.stk:=by
 obtain⟨r,hr⟩:=h.sk;rw[hr];simp
theorem CS.more(h:CS E t0 t s G done){done':Nat->Prop}(hd:∀u,done' u->done u\/(t.num u≠0/\(u∈t0.stk->t.low s<=t.num u))):CS E t0 t s G done':=
 {h with dn:=fun u hu=>(hd u hu).elim (h.dn u) id}
theorem CS.skip(h:CS E t0 t s G done)(hu:t.prt u≠0):CS E t0 t s G (fun x=>done x\/x=u):=
 h.more fun x hx=>hx.imp id fun e=>by
  subst e;refine⟨(h.inv.pn x hu).1,fun hm=> ?_⟩
  exfalso
  obtain⟨r,hr⟩:=h.sk
  have:x∈t.stk:=by rw[hr];exact List.mem_append_left _ hm
  exact hu ((h.inv.st x).1 this).2
def Tj.lower(t:Tj)(s u:Nat):Tj:={t with low:=upN t.low s (min (t.low s) (t.low u))}
theorem EI.lower(h:EI E t G)(hs:s∈t.stk)(hu:u∈t.stk)(he:Rch E s u):EI E (t.lower s u) G:=
 {h with
  lw:=fun v hv=>by
   by_cases hvs:v=s
   ·subst hvs;have e:(t.lower v u).low v=min (t.low v) (t.low u):=CF _ _ _;rw[e];obtain⟨h1,z,hz,h2,h3⟩:=h.lw v hs;obtain⟨k1,y,hy,k2,k3⟩:=h.lw u hu;refine⟨by show _<=t.num v;omega, ?_⟩
    by_cases hc:t.low v<=t.low u
    ·exact⟨z,hz,by show t.num z=_;omega,h3⟩
    ·exact⟨y,hy,by show t.num y=_;omega,he.trans k3⟩
   ·have e:(t.lower s u).low v=t.low v:=Er _ _ _ _ hvs;rw[e]
    exact h.lw v hv}
theorem CS.low(h:CS E t0 t s G done)(hu:u∈t.stk)(he:E s u):CS E t0 (t.lower s u) s G (fun x=>done x\/x=u):=by
 have e:(t.lower s u).low s=min (t.low s) (t.low u):=CF _ _ _;refine⟨h.inv.lower h.smem hu (Rch.one he),h.nu,h.pr,h.sk,fun v hv=> ?_,h.z0,h.gr,fun y hy h1 h2 x hx hE=> ?_,fun x hx=> ?_⟩
 ·have:(t.lower s u).low v=t.low v:=Er _ _ _ _ fun k=>h.z0 (k▸hv)
  rw[this];exact h.lo v hv
 ·rw[e];have:=h.cr y hy h1 h2 x hx hE;show _<=t.num x;omega
 ·rw[e]
  rcases hx with hx|rfl
  ·obtain⟨k1,k2⟩:=h.dn x hx;exact⟨k1,fun hm=>by have:=k2 hm;show _<=t.num x;omega⟩
  ·refine⟨((h.inv.st x).1 hu).1,fun _=> ?_⟩;have:=(h.inv.lw x hu).1;show _<=t.num x;omega
theorem CS.pre(h:CS E t0 t s G done)(he:E s u):∀g∈G++[s],Rch E g u:=fun g hg=>by
 rcases List.mem_append.1 hg with k|k
 ·obtain⟨r,hr⟩:=h.sk;have h1:=h.gr g k;have h2:g∈t.stk:=h.inv.gs g hg
  have hlt:t.num g<t.num s:=by
   have:=h.inv.so;rw[hr,List.pairwise_append]at this;exact this.2.2 g h1 s (by simp)
  exact(h.inv.up g h2 s h.smem (by omega)).step he
 ·rw[List.mem_singleton.1 k];exact Rch.one he
theorem CS.inn(h:CS E t0 t s G done):∀v∈t0.stk,v∈t.stk:=fun v hv=>by
 obtain⟨r,hr⟩:=h.sk;rw[hr];exact List.mem_append_left _ hv
theorem CS.visitLow(h:CS E t0 t s G done)(he:E s u)(hp:La E t t' u (G++[s]))(b:t'.prt u=0):CS E t0 (t'.lower s u) s G (fun x=>done x\/x=u):=by
 obtain⟨r,hr⟩:=h.sk;obtain⟨r',d⟩:=hp.ext.sk;have f:t'.low s=t.low s:=hp.ext.lo s h.smem
 have a:∀v∈t.stk,t'.num v=t.num v:=fun v hv=>hp.ext.nu v ((h.inv.st v).1 hv).1
 have c:u∈t'.stk:=(hp.inv.st u).2 ⟨hp.nz,b⟩;have i:s∈t'.stk:=hp.inv.gs s (by simp)
 have e:(t'.lower s u).low s=min (t.low s) (t'.low u):=by rw[<-f];exact CF _ _ _
 refine⟨hp.inv.lower i c (Rch.one he),fun v hv=> ?_,fun v hv=> ?_,⟨r++r', ?_⟩,fun v hv=> ?_,h.z0,h.gr,fun y hy h1 h2 x hx hE=> ?_,fun x hx=> ?_⟩
 ·show t'.num v=_;rw[hp.ext.nu v (by rw[h.nu v hv];exact hv),h.nu v hv]
 ·show t'.prt v=_;rw[hp.ext.pr v (by rw[h.pr v hv];exact hv),h.pr v hv]
 ·show t'.stk=_;rw[d,hr];simp
 ·have:(t'.lower s u).low v=t'.low v:=Er _ _ _ _ fun k=>h.z0 (k▸hv)
  rw[this,hp.ext.lo v (h.inn v hv),h.lo v hv]
 ·rw[e];have j:=a x (h.inn x hx);show _<=t'.num x
  by_cases hyt:y∈t.stk
  ·have:=h.cr y hyt h1 h2 x hx hE;omega
  ·have:=hp.cr b y hy hyt x (h.inn x hx) hE;omega
 ·rw[e]
  rcases hx with hx|rfl
  ·obtain⟨k1,k2⟩:=h.dn x hx;have e2:=hp.ext.nu x k1;refine⟨by show t'.num x≠0;rw[e2];exact k1,fun hm=> ?_⟩;have:=k2 hm;show _<=t'.num x;omega
  ·refine⟨hp.nz,fun _=> ?_⟩;have:=(hp.inv.lw x c).1;show _<=t'.num x;omega
theorem CS.visitIn(h:CS E t0 t s G done)(hp:La E t t' u (G++[s]))(c:t'.prt u≠0):CS E t0 t' s G (fun x=>done x\/x=u):=by
 have a:=hp.cl c;have d:t'.low s=t.low s:=hp.ext.lo s h.smem
 have b:∀v∈t.stk,t'.num v=t.num v:=fun v hv=>hp.ext.nu v ((h.inv.st v).1 hv).1
 refine⟨hp.inv,fun v hv=> ?_,fun v hv=> ?_,by rw[a];exact h.sk,fun v hv=> ?_,h.z0,h.gr,fun y hy h1 h2 x hx hE=> ?_,fun x hx=> ?_⟩
 ·rw[hp.ext.nu v (by rw[h.nu v hv];exact hv),h.nu v hv]
 ·rw[hp.ext.pr v (by rw[h.pr v hv];exact hv),h.pr v hv]
 ·rw[hp.ext.lo v (h.inn v hv),h.lo v hv]
 ·rw[a]at hy;rw[d,b x (h.inn x hx)];exact h.cr y hy h1 h2 x hx hE
 ·rcases hx with hx|rfl
  ·obtain⟨k1,k2⟩:=h.dn x hx;have e2:=hp.ext.nu x k1;exact⟨by rw[e2];exact k1,fun hm=>by rw[d,e2];exact k2 hm⟩
  ·refine⟨hp.nz,fun hm=> ?_⟩
   have:x∈t'.stk:=by rw[a];exact h.inn x hm
   exact absurd ((hp.inv.st x).1 this).2 c
theorem CS.before(h:CS E t0 t s G done):∀v∈t0.stk,t.num v<t.num s:=fun v hv=>by
 obtain⟨r,hr⟩:=h.sk;have:=h.inv.so;rw[hr,List.pairwise_append]at this;exact this.2.2 v hv s (by simp)
theorem CS.behind(h:CS E t0 t s G done):∀v∈t.stk,v∉t0.stk->t.num s<=t.num v:=fun v hv hn=>by
 obtain⟨r,hr⟩:=h.sk;rw[hr]at hv
 rcases List.mem_append.1 hv with k|k
 ·exact absurd k hn
 ·rcases List.mem_cons.1 k with rfl|k
  ·exact Nat.le_refl _
  ·have:=h.inv.so;rw[hr,List.pairwise_append,List.pairwise_cons]at this;exact Nat.le_of_lt (this.2.1.1 v k)
theorem CS.leave(h:CS E t0 t s G done)(a:∀u,E s u->done u)(hlt:t.low s<t.num s):La E t0 t s G:=by
 obtain⟨z,hz,j,i⟩:=(h.inv.lw s h.smem).2;obtain⟨g0,c,d,f⟩:=h.inv.dn z hz
 have b:g0∈G:=by
  rcases List.mem_append.1 c with k|k
  ·exact k
  ·rw[List.mem_singleton.1 k]at d;omega
 refine⟨{h.inv with gs:=fun g hg=>h.inv.gs g (List.mem_append_left _ hg),bw:=fun v u hv hvG e=> ?_,dn:=fun y hy=> ?_},⟨h.nu,h.pr, ?_,h.lo⟩,((h.inv.st s).1 h.smem).1,fun _ y hy hyn u hu e=> ?_,fun k=>absurd ((h.inv.st s).1 h.smem).2 k⟩
 ·by_cases hvs:v=s
  ·subst hvs;exact(h.dn u (a u e)).1
  ·exact h.inv.bw v u hv (fun k=>by
    rcases List.mem_append.1 k with k|k
    ·exact hvG k
    ·exact hvs (List.mem_singleton.1 k)) e
 ·obtain⟨g,hg,k1,k2⟩:=h.inv.dn y hy
  rcases List.mem_append.1 hg with k|k
  ·exact⟨g,k,k1,k2⟩
  ·rw[List.mem_singleton.1 k]at k1 k2;exact⟨g0,b,by omega,k2.trans (i.trans f)⟩
 ·obtain⟨r,hr⟩:=h.sk;exact⟨s::r,hr⟩
 ·by_cases hys:y=s
  ·subst hys;exact(h.dn u (a u e)).2 hu
  ·exact h.cr y hy hyn hys u hu e
def Tj.pop(t t0:Tj)(s:Nat):Tj:={t with prt:=fun v=>if v∈t.stk/\v∉t0.stk then t.num s else t.prt v,stk:=t0.stk}
theorem CS.close(h:CS E t0 t s G done)(i:∀u,E s u->done u)(ab:t.low s=t.num s):La E t0 (t.pop t0 s) s G:=by
 have c:=(h.inv.st s).1 h.smem
 have b:∀v,v∈t.stk->v∉t0.stk->(t.pop t0 s).prt v=t.num s:=fun v h1 h2=>if_pos ⟨h1,h2⟩
 have f:∀v,¬(v∈t.stk/\v∉t0.stk)->(t.pop t0 s).prt v=t.prt v:=fun v h1=>if_neg h1
 have a:∀v,t.prt v≠0->(t.pop t0 s).prt v=t.prt v:=fun v hv=>f v fun k=>hv ((h.inv.st v).1 k.1).2
 have hz:∀v∈t0.stk,(t.pop t0 s).prt v=0:=fun v hv=>by
  rw[f v fun k=>k.2 hv];exact((h.inv.st v).1 (h.inn v hv)).2
 have j:∀v,(t.pop t0 s).prt v≠0->t.prt v≠0\/(v∈t.stk/\v∉t0.stk):=fun v hv=>by
  by_cases k:v∈t.stk/\v∉t0.stk
  ·exact .inr k
  ·rw[f v k]at hv;exact .inl hv
 have n:∀v u,v∈t.stk->v∉t0.stk->E v u->(t.pop t0 s).prt u≠0:=fun v u h1 h2 e=>by
  have p:t.num u≠0:=by
   by_cases hvs:v=s
   ·subst hvs;exact(h.dn u (i u e)).1
   ·exact h.inv.bw v u ((h.inv.st v).1 h1).1 (fun k=>by
     rcases List.mem_append.1 k with k|k
     ·exact h2 (h.gr v k)
     ·exact hvs (List.mem_singleton.1 k)) e
  by_cases hup:t.prt u=0
  ·have q:u∈t.stk:=(h.inv.st u).2 ⟨p,hup⟩
   by_cases hu0:u∈t0.stk
   ·exfalso
    have h3:=h.before u hu0
    have h4:t.low s<=t.num u:=by
     by_cases hvs:v=s
     ·subst hvs;exact(h.dn u (i u e)).2 hu0
     ·exact h.cr v h1 h2 hvs u hu0 e
    omega
   ·rw[b u q hu0];exact c.1
  ·rw[a u hup];exact hup
 have m:∀v u,(t.pop t0 s).prt v≠0->E v u->(t.pop t0 s).prt u≠0:=fun v u hv e=>by
  rcases j v hv with k|k
  ·have:=h.inv.fc v u k e;rw[a u this];exact this
  ·exact n v u k.1 k.2 e
 have o:∀y,y∈t.stk->y∉t0.stk->Rch E y s/\Rch E s y:=fun y h1 h2=>by
  obtain⟨g,hg,-,k2⟩:=h.inv.dn y h1;refine⟨?_,h.inv.up s h.smem y h1 (h.behind y h1 h2)⟩
  rcases List.mem_append.1 hg with k|k
  ·exfalso
   have:=Rch.closed (A:=fun v=>(t.pop t0 s).prt v≠0) m k2 (by rw[b y h1 h2];exact c.1);exact this (hz g (h.gr g k))
  ·rw[List.mem_singleton.1 k]at k2;exact k2
 have d:∀u v,t.prt u≠0->v∈t.stk->v∉t0.stk->(t.prt u≠t.num s)/\¬Rch E u v:=fun u v hu h1 h2=>by
  refine⟨fun e=> ?_,fun k=> ?_⟩
  ·obtain⟨-,r',k1,k2⟩:=h.inv.pn u hu;have:r'=s:=h.inv.inj r' s (by rw[k2];exact hu) (by rw[k2,e]);subst this;rw[k1]at c;exact hu c.2
  ·have:=Rch.closed (A:=fun v=>t.prt v≠0) (fun x y=>h.inv.fc x y) k hu;exact this ((h.inv.st v).1 h1).2
 obtain⟨r,hr⟩:=h.sk
 have l:t0.stk.Sublist t.stk:=by rw[hr];exact List.sublist_append_left _ _
 refine⟨⟨h.inv.nd.sublist l,fun v=> ?_,h.inv.so.sublist l,h.inv.le,h.inv.inj,fun v hv=> ?_,h.gr,fun v u hv hvG e=> ?_,m,fun x hx y hy=>h.inv.up x (h.inn x hx) y (h.inn y hy),fun y hy=> ?_,fun v hv=> ?_,fun u v hu hv=> ?_⟩,⟨h.nu,fun v hv=> ?_,⟨[],by show t0.stk=_;simp⟩,h.lo⟩,c.1,fun k=> ?_,fun _=>rfl⟩
 ·show v∈t0.stk↔t.num v≠0/\_
  constructor
  ·intro hv;exact⟨((h.inv.st v).1 (h.inn v hv)).1,hz v hv⟩
  ·rintro⟨k1,k2⟩
   by_cases hv:v∈t0.stk
   ·exact hv
   ·exfalso
    by_cases hvt:v∈t.stk
    ·rw[b v hvt hv]at k2;exact c.1 k2
    ·rw[f v fun k=>hvt k.1]at k2;exact hvt ((h.inv.st v).2 ⟨k1,k2⟩)
 ·show t.num v≠0/\∃r,_/\t.num r=_
  rcases j v hv with k|k
  ·obtain⟨k1,r',k2,k3⟩:=h.inv.pn v k;refine⟨k1,r', ?_, ?_⟩
   ·rw[a v k,a r' (by rw[k2];exact k),k2]
   ·rw[a v k];exact k3
  ·rw[b v k.1 k.2];exact⟨((h.inv.st v).1 k.1).1,s,b s h.smem h.z0,rfl⟩
 ·by_cases hvs:v=s
  ·subst hvs;exact(h.dn u (i u e)).1
  ·exact h.inv.bw v u hv (fun k=>by
    rcases List.mem_append.1 k with k|k
    ·exact hvG k
    ·exact hvs (List.mem_singleton.1 k)) e
 ·obtain⟨g,hg,k1,k2⟩:=h.inv.dn y (h.inn y hy)
  rcases List.mem_append.1 hg with k|k
  ·exact⟨g,k,k1,k2⟩
  ·rw[List.mem_singleton.1 k]at k1;have:=h.before y hy;omega
 ·obtain⟨h1,z,aa,h2,h3⟩:=h.inv.lw v (h.inn v hv);refine⟨h1,z, ?_,h2,h3⟩;show z∈t0.stk
  by_cases hz0:z∈t0.stk
  ·exact hz0
  ·exfalso
   have h4:=h.behind z aa hz0;have h5:=h.before v hv;have h6:t.low v<=t.num v:=h1;omega
 ·rcases j u hu with k|k
  ·rcases j v hv with k'|k'
   ·rw[a u k,a v k'];exact h.inv.eq u v k k'
   ·rw[a u k,b v k'.1 k'.2];obtain⟨c1,c2⟩:=d u v k k'.1 k'.2;exact⟨fun e=>absurd e c1,fun e=>absurd e.1 c2⟩
  ·rcases j v hv with k'|k'
   ·rw[a v k',b u k.1 k.2];obtain⟨c1,c2⟩:=d v u k' k.1 k.2;exact⟨fun e=>absurd e.symm c1,fun e=>absurd e.2 c2⟩
   ·rw[b u k.1 k.2,b v k'.1 k'.2];obtain⟨a1,a2⟩:=o u k.1 k.2;obtain⟨b1,b2⟩:=o v k'.1 k'.2;exact⟨fun _=>⟨a1.trans b2,b1.trans a2⟩,fun _=>rfl⟩
 ·have w:t.prt v≠0:=by rw[h.pr v hv];exact hv
  rw[a v w,h.pr v hv]
 ·rw[b s h.smem h.z0]at k;exact absurd k c.1
end
end Go.Proofs.YtncjeamdkjcebaaGreatDoor
