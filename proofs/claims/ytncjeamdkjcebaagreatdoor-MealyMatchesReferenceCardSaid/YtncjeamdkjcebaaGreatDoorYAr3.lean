/- How automata are told; what parity.Valid com. -/
import Derived.Test.YtncjeamdkjcebaaGreatDoorYArCb
set_option linter.all false
set_option maxHeartbeats 4000000
set_option maxRecDepth 100000
namespace Go.Proofs.YtncjeamdkjcebaaGreatDoor
open Go.RowKit
structure Au where
 letters:Int
 start:Int
 next:List (List Int)
 prio:List (List Int)
deriving DecidableEq
def Cw(w:World)(v:Value)(a:Au):Prop:=∃v2 v3,v=.agg #[.int .i64 a.letters,.int .i64 a.start,v2,v3]/\(I64 a.letters/\I64 a.start)/\Ar w v2 a.next/\Ar w v3 a.prio
theorem Cw.below{w wr:World}{v:Value}{a:Au}(h:Cw w v a)(hb:Below w.heap.size w wr):Cw wr v a:=by
 obtain⟨v2,v3,rfl,h0,h2,h3⟩:=h;exact⟨v2,v3,rfl,h0,h2.below hb,h3.below hb⟩
def Gb(a:Au)(i k:Nat):Bool:=decide (0<=(a.next.getD i []).getD k 0)&&decide ((a.next.getD i []).getD k 0<a.next.length)&&decide (0<=(a.prio.getD i []).getD k 0)&&decide ((a.prio.getD i []).getD k 0<=20000)
def KQ(a:Au)(i:Nat):Bool:=decide (((a.next.getD i []).length:Int)=a.letters)&&decide (((a.prio.getD i []).length:Int)=a.letters)&&(List.range (a.next.getD i []).length).all (Gb a i)
def AC(a:Au):Bool:=(decide (1<=a.letters)&&decide (a.letters<=64))&&(decide (1<=a.next.length)&&decide (a.next.length<=3000))&&decide (a.prio.length=a.next.length)&&(decide (0<=a.start)&&decide (a.start<a.next.length))&&(List.range a.next.length).all (KQ a)
theorem Ig(p:Nat->Bool)(k:Nat):(List.range (k+1)).all p=((List.range k).all p&&p k):=by
 rw[List.range_succ,List.all_append];simp
theorem G9(p:Nat->Bool)(n k:Nat)(h:k<n)(hp:p k=false):(List.range n).all p=false:=by
 rw[List.all_eq_false];exact⟨k,List.mem_range.2 h,by simp[hp]⟩
theorem Aq{b:Bool}(h:b=false):Ending.returned (.bool false)=.returned (.bool b):=by rw[h]
theorem Du{b:Bool}(h:b=true):Ending.returned (.bool true)=.returned (.bool b):=by rw[h]
theorem IF(w:World)(v:Value)(a:Au)(ha:Cw w v a):Calls Tryz.prog 73 #[v] w (Av (.bool (AC a)) w):=by
 obtain⟨v2,v3,rfl,⟨hL,hS⟩,⟨V2,⟨p,f,b2,ak,rfl,g2⟩,ag⟩,⟨V3,⟨n,d,b3,al,rfl,g3⟩,ah⟩⟩:=ha;have ba:=g2.nb;have bb:=g3.nb
 by_cases c1:1<=a.letters
 case neg=>
  have a6:a.letters<1:=by omega
  have HR:Hid (AC a=false):=by show _=_;simp[AC,c1]
  clear c1
  go_enter Tryz.func73,Tryz.ntmps73
  go_wp2;go_ret;exact⟨Aq HR.out,(by repeat(first|exact Ad|assumption|apply AE|apply AB))⟩
 by_cases c2:a.letters<=64
 case neg=>
  have a7:64<a.letters:=by omega
  have HR:Hid (AC a=false):=by show _=_;simp[AC,c2]
  clear c2
  go_enter Tryz.func73,Tryz.ntmps73
  go_wp2;go_ret;exact⟨Aq HR.out,(by repeat(first|exact Ad|assumption|apply AE|apply AB))⟩
 by_cases c3:1<=a.next.length
 case neg=>
  have z:(a.next.length:Int)<1:=by omega
  have HR:Hid (AC a=false):=by show _=_;simp[AC,c3]
  clear c3
  go_enter Tryz.func73,Tryz.ntmps73
  go_wp2;go_ret;exact⟨Aq HR.out,(by repeat(first|exact Ad|assumption|apply AE|apply AB))⟩
 by_cases c4:a.next.length<=3000
 case neg=>
  have a4:(3000:Int)<a.next.length:=by omega
  have z:(1:Int)<=a.next.length:=by omega
  have HR:Hid (AC a=false):=by show _=_;simp[AC,c4]
  clear c4
  go_enter Tryz.func73,Tryz.ntmps73
  go_wp2;go_ret;exact⟨Aq HR.out,(by repeat(first|exact Ad|assumption|apply AE|apply AB))⟩
 have z:(1:Int)<=a.next.length:=by omega
 have a4:(a.next.length:Int)<=3000:=by omega
 by_cases c5:a.prio.length=a.next.length
 case neg=>
  have a5:((a.prio.length:Int) !=a.next.length)=true:=by simp;omega
  have HR:Hid (AC a=false):=by show _=_;simp[AC,c5]
  clear c5
  go_enter Tryz.func73,Tryz.ntmps73
  go_wp2;go_ret;exact⟨Aq HR.out,(by repeat(first|exact Ad|assumption|apply AE|apply AB))⟩
 have a5:((a.prio.length:Int) !=a.next.length)=false:=by simp;omega
 have am:=Ab c5
 by_cases c6:0<=a.start
 case neg=>
  have a8:a.start<0:=by omega
  have HR:Hid (AC a=false):=by show _=_;simp[AC,c6]
  clear c6 c5
  go_enter Tryz.func73,Tryz.ntmps73
  go_wp2;go_ret;exact⟨Aq HR.out,(by repeat(first|exact Ad|assumption|apply AE|apply AB))⟩
 by_cases c7:a.start<a.next.length
 case neg=>
  have a9:(a.next.length:Int)<=a.start:=by omega
  have HR:Hid (AC a=false):=by show _=_;simp[AC,c7]
  clear c7 c5
  go_enter Tryz.func73,Tryz.ntmps73
  go_wp2;go_ret;exact⟨Aq HR.out,(by repeat(first|exact Ad|assumption|apply AE|apply AB))⟩
 have HV:Hid (AC a=(List.range a.next.length).all (KQ a)):=by
  show _=_;have h1:decide (1<=a.letters)=true:=decide_eq_true c1;have h2:decide (a.letters<=64)=true:=decide_eq_true c2;have h3:decide (1<=a.next.length)=true:=decide_eq_true c3;have h4:decide (a.next.length<=3000)=true:=decide_eq_true c4;have h5:decide (a.prio.length=a.next.length)=true:=decide_eq_true c5;have h6:decide (0<=a.start)=true:=decide_eq_true c6;have h7:decide (a.start<(a.next.length:Int))=true:=decide_eq_true c7;unfold AC;rw[h1,h2,h3,h4,h5,h6,h7];rfl
 have ap:=Ab g2;have aq:=Ab g3;have a0:=Ab ag;have a1:=Ab ah;clear c5 g2 g3 ag ah
 go_enter Tryz.func73,Tryz.ntmps73
 go_upto_region 1 with(fail)
 have aa:=Ao (w:=w) (Obj.cells #[Value.int .i64 a.letters,Value.int .i64 a.start,Value.slice p a.next.length f,Value.slice n a.prio.length d] 63);have k1:=heap_alloc_new w (Obj.cells #[Value.int .i64 a.letters,Value.int .i64 a.start,Value.slice p a.next.length f,Value.slice n a.prio.length d] 63);generalize(w.alloc (Obj.cells #[Value.int .i64 a.letters,Value.int .i64 a.start,Value.slice p a.next.length f,Value.slice n a.prio.length d] 63))=w1 at*;have b:=Ab aa;have HD:Hid (w1.cell? ⟨w.heap.size,0,none⟩=some (Value.int .i64 a.letters)/\w1.cell? ⟨w.heap.size,3,none⟩=some (Value.slice n a.prio.length d)):=⟨Aa 0 k1,Aa 3 k1⟩;have d0:w1.cell? ⟨w.heap.size,0,none⟩=some (Value.int .i64 a.letters):=Aa 0 k1;have d1:w1.cell? ⟨w.heap.size,1,none⟩=some (Value.int .i64 a.start):=Aa 1 k1;have d2:w1.cell? ⟨w.heap.size,2,none⟩=some (Value.slice p a.next.length f):=Aa 2 k1;have d3:w1.cell? ⟨w.heap.size,3,none⟩=some (Value.slice n a.prio.length d):=Aa 3 k1;clear aa k1;go_wp2;clear d0 d1 d2 d3
 go_loopg [48] a.next.length (fun gh i wr=>∃k m:Nat,gh=a.next.length-k/\i=.int .i64 k/\k<=a.next.length/\wr=w1.drewN m/\Hid ((List.range k).all (KQ a)=true))
 case atStart=>exact⟨0,0,by omega,rfl,by omega,rfl,by simp[Hid]⟩
 case round=>as_aux_lemma=>
  obtain⟨k,m,ac,rfl,hk,rfl,HE⟩:=hrel;have au:=Ab ac;clear ac
  by_cases hlt:k<a.next.length
  ·have g2:=ap.out;have g3:=aq.out
   have ae:k<a.prio.length:=by rw[am.out];exact hlt
   obtain rfl:=g2.ad (by omega);obtain rfl:=g3.ad (by omega);have e2:w1.cell? ⟨b2,ak+k,none⟩=some (V2 k):=Ag b.out (g2.el k hlt);have e3:w1.cell? ⟨b3,al+k,none⟩=some (V3 k):=Ag b.out (g3.el k ae);obtain⟨⟨ax,cx,bx,ox,ai,gx⟩,-⟩:=a0.out k hlt;obtain⟨⟨ay,cy,a3,oy,aj,gy⟩,-⟩:=a1.out k ae;rw[ai]at e2;rw[aj]at e3;obtain⟨d0,d3⟩:=HD.out;have aw:=Ab (Ig (KQ a) k)
   have HF:Hid (KQ a k=false->AC a=false):=fun h=>by rw[HV.out];exact G9 _ _ k hlt h
   have l:Hid (KQ a k=(decide (((a.next.getD k []).length:Int)=a.letters)&&decide (((a.prio.getD k []).length:Int)=a.letters)&&(List.range (a.next.getD k []).length).all (Gb a k))):=rfl;have bc:=gx.nb;clear ai aj
   by_cases hx:((a.next.getD k []).length:Int)=a.letters
   case neg=>
    have hq:(((a.next.getD k []).length:Int) !=a.letters)=true:=by simpa using hx
    have s:Hid (AC a=false):=HF.out (by rw[l.out,decide_eq_false hx];rfl);clear hx l;generalize a.next.getD k []=rx at*;go_wp2;refine wp_region_quiet_lit (by kernel_rfl) (by kernel_rfl) ?_
    ((repeat(go_big_quiet_step (fail)));refine wpQuiet_nil ?_;rintro _ ⟨nq,rfl⟩)
    go_wp2;go_ret;exact⟨Aq s.out,b.out.trans ((Aj w1 w.heap.size m).trans (Aj _ _ nq))⟩
   by_cases hy:((a.prio.getD k []).length:Int)=a.letters
   case neg=>
    have hq:(((a.next.getD k []).length:Int) !=a.letters)=false:=by simpa using hx
    have af:(((a.prio.getD k []).length:Int) !=a.letters)=true:=by simpa using hy
    have s:Hid (AC a=false):=HF.out (by rw[l.out,decide_eq_true hx,decide_eq_false hy];rfl);clear hx hy l;generalize a.next.getD k []=rx at*;generalize a.prio.getD k []=ry at*;go_wp2;refine wp_region_quiet_lit (by kernel_rfl) (by kernel_rfl) ?_
    ((repeat(go_big_quiet_step (fail)));refine wpQuiet_nil ?_;rintro _ ⟨nq,rfl⟩)
    go_wp2;go_ret;exact⟨Aq s.out,b.out.trans ((Aj w1 w.heap.size m).trans (Aj _ _ nq))⟩
   have hq:(((a.next.getD k []).length:Int) !=a.letters)=false:=by simpa using hx
   have af:(((a.prio.getD k []).length:Int) !=a.letters)=false:=by simpa using hy
   have r:(a.prio.getD k []).length=(a.next.getD k []).length:=by omega
   have e:=Ab r
   have q:Hid (KQ a k=(List.range (a.next.getD k []).length).all (Gb a k)):=by show _=_;rw[l.out,decide_eq_true hx,decide_eq_true hy];rfl
   have av:Hid (∀j,Gb a k j=(decide (0<=(a.next.getD k []).getD j 0)&&decide ((a.next.getD k []).getD j 0<a.next.length)&&decide (0<=(a.prio.getD k []).getD j 0)&&decide ((a.prio.getD k []).getD j 0<=20000))):=fun _=>rfl
   clear hx hy r l;generalize a.next.getD k []=rx at*;generalize a.prio.getD k []=ry at*;go_wp2;refine wp_region_quiet_lit (by kernel_rfl) (by kernel_rfl) ?_
   ((repeat(go_big_quiet_step (fail)));refine wpQuiet_nil ?_;rintro _ ⟨nq,rfl⟩)
   rw[World.drewN_drewN];generalize m+nq=m2;go_wp2;clear e2 d0 hq af
   have an:Hid (∀j,j<rx.length->w1.cell? ⟨bx,ox+j,none⟩=some (.int .i64 (rx.getD j 0))):=fun j hj=>Ag b.out (gx.el j hj)
   have ao:Hid (∀j,j<rx.length->w1.cell? ⟨a3,oy+j,none⟩=some (.int .i64 (ry.getD j 0))):=fun j hj=>Ag b.out (gy.el j (by rw[e.out];exact hj))
   go_loopg [71] rx.length (fun gh i wr=>∃j:Nat,gh=rx.length-j/\i=.int .i64 j/\j<=rx.length/\wr=w1.drewN m2/\Hid ((List.range j).all (Gb a k)=true))
   case atStart=>exact⟨0,by omega,rfl,by omega,rfl,by simp[Hid]⟩
   case round=>as_aux_lemma=>
    obtain⟨j,ab,rfl,hj,rfl,u⟩:=hrel;have ar:=Ab ab;clear ab
    by_cases hltj:j<rx.length
    ·obtain rfl:=gx.ad (by omega);obtain rfl:=gy.ad (by rw[e.out];omega);have c1:=an.out j hltj;have c2:=ao.out j hltj;have HM:=Ab (av.out j)
     have o:Hid (Gb a k j=false->AC a=false):=fun h=>HF.out (by rw[q.out];exact G9 _ _ j hltj h)
     have az:=Ab (Ig (Gb a k) j);generalize rx.getD j 0=x at*;generalize ry.getD j 0=y at*
     have a2:Hid ((j:Int)<ry.length):=by show _<_;rw[e.out];omega
     have bd:=a2.out;rw[e.out]at e3
     by_cases q1:0<=x
     case neg=>
      have be:x<0:=by omega
      have c:Hid (AC a=false):=o.out (by rw[HM.out,decide_eq_false q1];rfl);clear q1;go_wp2;go_ret;exact⟨Aq c.out,by exact(b.out.trans (Aj w1 w.heap.size _))⟩
     by_cases q2:x<a.next.length
     case neg=>
      have bf:(a.next.length:Int)<=x:=by omega
      have c:Hid (AC a=false):=o.out (by rw[HM.out,decide_eq_false q2];simp);clear q2;go_wp2;go_ret;exact⟨Aq c.out,by exact(b.out.trans (Aj w1 w.heap.size _))⟩
     by_cases q3:0<=y
     case neg=>
      have bg:y<0:=by omega
      have c:Hid (AC a=false):=o.out (by rw[HM.out,decide_eq_false q3];simp);clear q3;go_wp2;go_ret;exact⟨Aq c.out,by exact(b.out.trans (Aj w1 w.heap.size _))⟩
     by_cases q4:y<=20000
     case neg=>
      have bh:20000<y:=by omega
      have c:Hid (AC a=false):=o.out (by rw[HM.out,decide_eq_false q4];simp);clear q4;go_wp2;go_ret;exact⟨Aq c.out,by exact(b.out.trans (Aj w1 w.heap.size _))⟩
     have c:Hid (Gb a k j=true):=by show _=_;rw[HM.out,decide_eq_true q1,decide_eq_true q2,decide_eq_true q3,decide_eq_true q4];rfl
     go_wp2
     go_roundg (rx.length-(j+1))
     case measure=>have:=ar.out;omega
     case rel=>exact⟨j+1,rfl,by go_num,by omega,rfl,by show _=_;rw[az.out,u.out,c.out];rfl⟩
    ·obtain rfl:j=rx.length:=by omega
     go_wp2
     go_roundg (a.next.length-(k+1))
     case measure=>have:=au.out;omega
     case rel=>exact⟨k+1,m2,rfl,by go_num,by omega,rfl,by show _=_;rw[aw.out,HE.out,q.out,u.out];rfl⟩
  ·obtain rfl:k=a.next.length:=by omega
   go_wp2;go_ret;exact⟨Du (by rw[HV.out];exact HE.out),by exact(b.out.trans (Aj w1 w.heap.size _))⟩
theorem BA{a b:Int}{l:List Int}:BG a b l=true↔(l.length:Int)=a/\∀k,k<l.length->0<=l.getD k 0/\l.getD k 0<b:=by
 simp only[BG,Bool.and_eq_true,decide_eq_true_eq,List.all_eq_true]
 constructor
 ·rintro⟨h1,h2⟩;refine⟨h1,fun k hk=> ?_⟩;rw[Ae _ 0 k hk];exact h2 _ (List.getElem_mem hk)
 ·rintro⟨h1,h2⟩;refine⟨h1,fun x hx=> ?_⟩;obtain⟨k,hk,rfl⟩:=List.mem_iff_getElem.1 hx;have:=h2 k hk
  rwa [Ae _ 0 k hk]at this
theorem J7{a b:Int}{ll:List (List Int)}:Cq a b ll=true↔∀i,i<ll.length->BG a b (ll.getD i [])=true:=by
 rw[Hy];exact⟨fun h i hi=>BA.2 (h i hi),fun h i hi=>BA.1 (h i hi)⟩
theorem O2{a b:Int}{ll:List (List Int)}{i:Nat}(hi:i<ll.length)(h:¬BG a b (ll.getD i [])=true):Cq a b ll=false:=by
 cases hb:Cq a b ll with
 |false=>rfl
 |true=>exact absurd (J7.1 hb i hi) h
theorem Jk(w:World)(vl:Value)(ll:List (List Int))(a b:Int)(hl:Ar w vl ll):
  Calls Tryz.prog 45 #[.int .i64 a,.int .i64 b,vl] w (Av (.bool (Cq a b ll)) w):=by
 obtain⟨ao,c,rfl⟩:=hl.shape;obtain⟨b0,o0,d0,n0,f0⟩:=hl.dat2;have x:=Ab f0;have o:Hid ((∀i,i<ll.length->BG a b (ll.getD i [])=true)->Cq a b ll=true):=J7.2
 have p:Hid (∀i,i<ll.length->¬BG a b (ll.getD i [])=true->Cq a b ll=false):=fun i hi h=>O2 hi h
 clear f0 hl;generalize hn:ll.length=n at*;clear hn;generalize Cq a b ll=R at*
 go_enter Tryz.func45,Tryz.ntmps45
 go_wp2_with fail
 go_loopg [13] n (fun gh i wr=>∃k:Nat,gh=n-k/\i=.int .i64 (k:Int)/\k<=n/\Hid (∀i,i<k->BG a b (ll.getD i [])=true)/\Hid (Below w.heap.size w wr))
 case atStart=>exact⟨0,rfl,rfl,by omega,fun i hi=>absurd hi (by omega),Ad⟩
 case round=>
  obtain⟨k,s,rfl,hk,HA,HB⟩:=hrel;have ab:=Ab s;clear s
  by_cases hlt:k<n
  ·obtain rfl:=d0 (by omega)
   have ai:(0:Int)<=(k:Int):=by omega
   have ag:(k:Int)<(n:Int):=by omega
   obtain⟨ar,cr,c1,f⟩:=x.out k hlt;replace c1:=Ag HB.out c1;have e:=Ab (f.below HB.out);have d:=Ab (p.out k hlt)
   have v:Hid (BG a b (ll.getD k [])=true->∀i,i<k+1->BG a b (ll.getD i [])=true):=fun h i hi=>by
    rcases Nat.lt_or_ge i k with h1|h1
    ·exact HA.out i h1
    ·obtain rfl:i=k:=by omega
     exact h
   clear f;generalize ll.getD k []=r at*
   by_cases hw:(r.length:Int)=a
   ·have tA:((r.length:Int) !=a)=false:=by simp[hw]
    obtain⟨br,or,dr,nr,fr⟩:=e.out.data;have z:=Ab fr
    have af:Hid ((∀i,i<r.length->0<=r.getD i 0/\r.getD i 0<b)->BG a b r=true):=fun h=>BA.2 ⟨hw,h⟩
    have ae:Hid (∀i,i<r.length->¬(0<=r.getD i 0/\r.getD i 0<b)->R=false):=fun i hi h=>d.out fun h2=>h ((BA.1 h2).2 i hi)
    clear fr e hw d;generalize hrl:r.length=rl at*;clear hrl
    go_wp2_with fail
    go_loopg [23] rl (fun gh j wx=>∃jj:Nat,gh=rl-jj/\j=.int .i64 (jj:Int)/\jj<=rl/\Hid (∀i,i<jj->0<=r.getD i 0/\r.getD i 0<b)/\Hid (Below wr.heap.size wr wx))
    case atStart=>exact⟨0,rfl,rfl,by omega,fun i hi=>absurd hi (by omega),Ad⟩
    case round=>
     obtain⟨j,q,rfl,hj,HJ,m⟩:=hrel;have aa:=Ab q;clear q;have l:=Ab (HB.out.trans (m.out.mono HB.out.size))
     by_cases hjy:j<rl
     ·obtain rfl:=dr (by omega)
      have aj:(0:Int)<=(j:Int):=by omega
      have ah:(j:Int)<(rl:Int):=by omega
      have cY:=Ag m.out (z.out j hjy);have HN:=Ab (ae.out j hjy)
      have ad:Hid (0<=r.getD j 0/\r.getD j 0<b->∀i,i<j+1->0<=r.getD i 0/\r.getD i 0<b):=fun h i hi=>by
       rcases Nat.lt_or_ge i j with h1|h1
       ·exact HJ.out i h1
       ·obtain rfl:i=j:=by omega
        exact h
      generalize hy:r.getD j 0=y at*;clear hy
      by_cases h0:y<0
      ·have HR:=Ab (HN.out (by omega));go_wp2;go_ret;exact⟨Aq HR.out,l.out⟩
      ·by_cases h1:b<=y
       ·have HR:=Ab (HN.out (by omega));go_wp2;go_ret;exact⟨Aq HR.out,l.out⟩
       ·have ac:=Ab (ad.out (by omega));go_wp2
        go_roundg (rl-(j+1))
        case measure=>have:=aa.out;omega
        case rel=>exact⟨j+1,rfl,by go_num,by omega,ac,m⟩
     ·have ah:¬(j:Int)<(rl:Int):=by omega
      have u:=Ab (v.out (af.out fun i hi=>HJ.out i (by omega)));go_wp2
      go_roundg (n-(k+1))
      case measure=>have:=ab.out;omega
      case rel=>exact⟨k+1,rfl,by go_num,by omega,u,l⟩
   ·have tA:((r.length:Int) !=a)=true:=by simp[hw]
    have HR:=Ab (d.out fun h=>hw (BA.1 h).1);clear hw;generalize r.length=rl at*;go_wp2;go_ret;exact⟨Aq HR.out,HB.out⟩
  ·have ag:¬(k:Int)<(n:Int):=by omega
   have HR:=Ab (o.out fun i hi=>HA.out i (by omega));go_wp2;go_ret;exact⟨Du HR.out,HB.out⟩
theorem L5{w:World}{v:Value}{l:List Int}(h:Ah w v l):Ar (w.alloc (.cells #[v] 26)) (.slice (some ⟨w.heap.size,0,none⟩) 1 1) [l]:=by
 refine⟨fun _=>v,⟨_,1,w.heap.size,0,rfl,⟨Nat.le_refl _,by unfold maxLen;omega,by unfold Bg;simp,(fun e=>by cases e),(fun _=>rfl),fun j hj=> ?_⟩⟩,fun j hj=> ?_⟩
 ·obtain rfl:j=0:=by simp at hj;omega
  exact Aa 0 (heap_alloc_new _ _)
 ·obtain rfl:j=0:=by simp at hj;omega
  exact h.below (Ao _)
theorem Ob(w:World)(a b c d:Int):Calls Tryz.prog 54 #[.int .i64 a,.int .i64 b,.int .i64 c,.int .i64 d] w (fun e w'=>e=.returned (.bool (BN a b c d))/\w=w'):=by
 by_cases h0:1<=a
 case neg=>
  have HR:Hid (BN a b c d=false):=by
   show _=_
   cases h:BN a b c d with
   |false=>rfl
   |true=>have:=Cf.1 h;omega
  go_enter Tryz.func54,Tryz.ntmps54
  go_wp2;go_ret;exact⟨Aq HR.out,rfl⟩
 by_cases h1:a<=64
 case neg=>
  have HR:Hid (BN a b c d=false):=by
   show _=_
   cases h:BN a b c d with
   |false=>rfl
   |true=>have:=Cf.1 h;omega
  go_enter Tryz.func54,Tryz.ntmps54
  go_wp2;go_ret;exact⟨Aq HR.out,rfl⟩
 by_cases h2:1<=b
 case neg=>
  have HR:Hid (BN a b c d=false):=by
   show _=_
   cases h:BN a b c d with
   |false=>rfl
   |true=>have:=Cf.1 h;omega
  go_enter Tryz.func54,Tryz.ntmps54
  go_wp2;go_ret;exact⟨Aq HR.out,rfl⟩
 by_cases h3:b<=64
 case neg=>
  have HR:Hid (BN a b c d=false):=by
   show _=_
   cases h:BN a b c d with
   |false=>rfl
   |true=>have:=Cf.1 h;omega
  go_enter Tryz.func54,Tryz.ntmps54
  go_wp2;go_ret;exact⟨Aq HR.out,rfl⟩
 by_cases h4:c<=3000
 case neg=>
  have HR:Hid (BN a b c d=false):=by
   show _=_
   cases h:BN a b c d with
   |false=>rfl
   |true=>have:=Cf.1 h;omega
  go_enter Tryz.func54,Tryz.ntmps54
  go_wp2;go_ret;exact⟨Aq HR.out,rfl⟩
 by_cases h5:0<=d
 case neg=>
  have HR:Hid (BN a b c d=false):=by
   show _=_
   cases h:BN a b c d with
   |false=>rfl
   |true=>have:=Cf.1 h;omega
  go_enter Tryz.func54,Tryz.ntmps54
  go_wp2;go_ret;exact⟨Aq HR.out,rfl⟩
 by_cases h6:d<c
 case neg=>
  have HR:Hid (BN a b c d=false):=by
   show _=_
   cases h:BN a b c d with
   |false=>rfl
   |true=>have:=Cf.1 h;omega
  go_enter Tryz.func54,Tryz.ntmps54
  go_wp2;go_ret;exact⟨Aq HR.out,rfl⟩
 have HR:Hid (BN a b c d=true):=Cf.2 ⟨h0,h1,h2,h3,h4,h5,h6⟩
 go_enter Tryz.func54,Tryz.ntmps54
 go_wp2;go_ret;exact⟨Du HR.out,rfl⟩
theorem Fn(w:World)(v:Value)(m:My)(hm:BB w v m):Calls Tryz.prog 18 #[v] w (Av (.bool (A5 m)) w):=by
 obtain⟨v3,v4,rfl,hI,h3,h4⟩:=hm;obtain⟨a3,c3,rfl⟩:=h3.shape;obtain⟨a4,c4,rfl⟩:=h4.shape;obtain⟨b3,o3,d3,m3,-⟩:=h3.dat2;obtain⟨b4,o4,d4,m4,-⟩:=h4.dat2;clear d3 d4;have HV:Hid (A5 m=(BN m.ins m.outs m.out.length m.start&&decide (m.next.length=m.out.length)&&Cq m.ins m.outs m.out&&Cq m.ins m.out.length m.next)):=rfl;have H3:=Ab h3;have H4:=Ab h4
 have b:Hid (∀W,Below w.heap.size w W->Calls Tryz.prog 45 #[.int .i64 m.ins,.int .i64 m.outs,.slice a3 m.out.length c3] W (Av (.bool (Cq m.ins m.outs m.out)) W)):=fun W hb=>Jk W _ _ _ _ (h3.below hb)
 have c:Hid (∀W,Below w.heap.size w W->Calls Tryz.prog 45 #[.int .i64 m.ins,.int .i64 (m.out.length:Int),.slice a4 m.next.length c4] W (Av (.bool (Cq m.ins m.out.length m.next)) W)):=fun W hb=>Jk W _ _ _ _ (h4.below hb)
 clear h3 h4 H4 H3;generalize Cq m.ins m.outs m.out=R1 at*;generalize Cq m.ins m.out.length m.next=R2 at*;generalize m.out.length=n3 at*;generalize m.next.length=n4 at*;generalize m.ins=mi at*;generalize m.outs=mo at*;generalize m.start=ms at*;generalize A5 m=R at*
 go_enter Tryz.func18,Tryz.ntmps18
 go_upto_region 1 with(fail)
 obtain⟨hx,-,hB⟩:=Aw (w0:=w) Ad leR #[.int .i64 mi,.int .i64 mo,.int .i64 ms,.slice a3 n3 c3,.slice a4 n4 c4] 25;generalize w.alloc (.cells #[.int .i64 mi,.int .i64 mo,.int .i64 ms,.slice a3 n3 c3,.slice a4 n4 c4] 25)=w1 at*;have k0:=Aa 0 hx;have k1:=Aa 1 hx;have k2:=Aa 2 hx;have k3:=Aa 3 hx;have k4:=Aa 4 hx
 go_wp2_with fail
 refine(Ob _ mi mo n3 ms).mono ?_;rintro e w' ⟨rfl,rfl⟩
 cases hs:BN mi mo n3 ms with
 |false=>
  rw[hs]at HV
  have HR:Hid (R=false):=by show _=_;have:=HV.out;simpa using this
  clear HV hs
  go_wp2_with fail
  go_ret;exact⟨Aq HR.out,hB⟩
 |true=>
  rw[hs]at HV;clear hs
  by_cases hn:n4=n3
  ·subst hn
   have a:Hid (R=(R1&&R2)):=by show _=_;have:=HV.out;simpa using this
   clear HV;have tn:((n4:Int)==(n4:Int))=true:=beq_self_eq_true _
   go_wp2_with fail
   refine(b.out _ hB).mono ?_;rintro e w2 ⟨rfl,hb⟩;replace hx:=B8 hb hx;replace hB:=hB.trans (hb.mono hB.size);clear hb k0 k1 k2 k3 k4;have k0:=Aa 0 hx;have k1:=Aa 1 hx;have k2:=Aa 2 hx;have k3:=Aa 3 hx;have k4:=Aa 4 hx
   cases R1 with
   |false=>
    have HR:Hid (R=false):=a.out
    go_wp2_with fail
    go_ret;exact⟨Aq HR.out,hB⟩
   |true=>
    have HR:Hid (R=R2):=by show _=_;have:=a.out;simpa using this
    clear a
    go_wp2_with fail
    refine(c.out _ hB).mono ?_;rintro e w3 ⟨rfl,hb⟩;replace hB:=hB.trans (hb.mono hB.size);clear hb k0 k1 k2 k3 k4 b c
    go_wp2_with fail
    go_ret;exact⟨Ak (by rw[HR.out]),hB⟩
  ·have HR:Hid (R=false):=by show _=_;have:=HV.out;rw[decide_eq_false hn]at this;simpa using this
   have tn:((n4:Int)==(n3:Int))=false:=by rw[beq_eq_false_iff_ne];omega
   clear HV hn
   go_wp2_with fail
   go_ret;exact⟨Aq HR.out,hB⟩
theorem IJ(w:World)(v:Value)(m:Mo)(hm:Dy w v m):Calls Tryz.prog 20 #[v] w (Av (.bool (Bw m)) w):=by
 obtain⟨v3,v4,rfl,hI,h3,h4⟩:=hm;obtain⟨a3,c3,rfl⟩:=h3.shape;obtain⟨a4,c4,rfl⟩:=h4.shape;obtain⟨b3,o3,d3,m3,-⟩:=h3.data;obtain⟨b4,o4,d4,m4,-⟩:=h4.dat2;clear d3 d4;have HV:Hid (Bw m=(BN m.ins m.outs m.inn.length m.start&&decide (m.next.length=m.inn.length)&&Cq m.inn.length m.ins [m.inn]&&Cq m.outs m.inn.length m.next)):=rfl;have H3:=Ab h3;have H4:=Ab h4
 have b:Hid (∀W,Below w.heap.size w W->∀vx,Ar W vx [m.inn]->Calls Tryz.prog 45 #[.int .i64 (m.inn.length:Int),.int .i64 m.ins,vx] W (Av (.bool (Cq m.inn.length m.ins [m.inn])) W)):=fun W hb vx hx=>Jk W _ _ _ _ hx
 have c:Hid (∀W,Below w.heap.size w W->Calls Tryz.prog 45 #[.int .i64 m.outs,.int .i64 (m.inn.length:Int),.slice a4 m.next.length c4] W (Av (.bool (Cq m.outs m.inn.length m.next)) W)):=fun W hb=>Jk W _ _ _ _ (h4.below hb)
 clear h3 h4 H4;generalize Cq m.inn.length m.ins [m.inn]=R1 at*;generalize Cq m.outs m.inn.length m.next=R2 at*;generalize m.inn.length=n3 at*;generalize m.next.length=n4 at*;generalize m.ins=mi at*;generalize m.outs=mo at*;generalize m.start=ms at*;generalize Bw m=R at*
 go_enter Tryz.func20,Tryz.ntmps20
 go_upto_region 1 with(fail)
 obtain⟨hx,-,hB⟩:=Aw (w0:=w) Ad leR #[.int .i64 mi,.int .i64 mo,.int .i64 ms,.slice a3 n3 c3,.slice a4 n4 c4] 28;generalize w.alloc (.cells #[.int .i64 mi,.int .i64 mo,.int .i64 ms,.slice a3 n3 c3,.slice a4 n4 c4] 28)=w1 at*;have k0:=Aa 0 hx;have k1:=Aa 1 hx;have k2:=Aa 2 hx;have k3:=Aa 3 hx;have k4:=Aa 4 hx
 go_wp2_with fail
 refine(Ob _ mi mo n3 ms).mono ?_;rintro e w' ⟨rfl,rfl⟩
 cases hs:BN mi mo n3 ms with
 |false=>
  rw[hs]at HV
  have HR:Hid (R=false):=by show _=_;have:=HV.out;simpa using this
  clear HV hs
  go_wp2_with fail
  go_ret;exact⟨Aq HR.out,hB⟩
 |true=>
  rw[hs]at HV;clear hs
  by_cases hn:n4=n3
  ·subst hn
   have a:Hid (R=(R1&&R2)):=by show _=_;have:=HV.out;simpa using this
   clear HV;have tn:((n4:Int)==(n4:Int))=true:=beq_self_eq_true _
   go_wp2_with fail
   refine(b.out _ (hB.trans ((Ao _).mono hB.size)) _ (L5 (H3.out.below hB))).mono ?_;rintro e w2 ⟨rfl,hb⟩;replace hb:=(Ao _).trans (hb.mono (Ao (w:=w1) _).size);replace hx:=B8 hb hx;replace hB:=hB.trans (hb.mono hB.size);clear hb k0 k1 k2 k3 k4 H3;have k0:=Aa 0 hx;have k1:=Aa 1 hx;have k2:=Aa 2 hx;have k3:=Aa 3 hx;have k4:=Aa 4 hx
   cases R1 with
   |false=>
    have HR:Hid (R=false):=a.out
    go_wp2_with fail
    go_ret;exact⟨Aq HR.out,hB⟩
   |true=>
    have HR:Hid (R=R2):=by show _=_;have:=a.out;simpa using this
    clear a
    go_wp2_with fail
    refine(c.out _ hB).mono ?_;rintro e w3 ⟨rfl,hb⟩;replace hB:=hB.trans (hb.mono hB.size);clear hb k0 k1 k2 k3 k4 b c
    go_wp2_with fail
    go_ret;exact⟨Ak (by rw[HR.out]),hB⟩
  ·have HR:Hid (R=false):=by show _=_;have:=HV.out;rw[decide_eq_false hn]at this;simpa using this
   have tn:((n4:Int)==(n3:Int))=false:=by rw[beq_eq_false_iff_ne];omega
   clear HV hn
   go_wp2_with fail
   go_ret;exact⟨Aq HR.out,hB⟩
end Go.Proofs.YtncjeamdkjcebaaGreatDoor
