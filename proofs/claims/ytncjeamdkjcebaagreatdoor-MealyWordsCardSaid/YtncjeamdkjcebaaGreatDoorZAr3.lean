/- How automata are told; what parity.Valid computes. -/
import Derived.Test.YtncjeamdkjcebaaGreatDoorZStC
set_option linter.all false
set_option maxHeartbeats 4000000
set_option maxRecDepth 100000
namespace Go.Proofs.YtncjeamdkjcebaaGreatDoor
open Go.RowKit
structure Au where
 letters:Int
 start:Int
 next:List (List Int)
 prio:List (List Int)
deriving DecidableEq
def Cm(w:World)(v:Value)(a:Au):Prop:=∃v2 v3,v=.agg #[.int .i64 a.letters,.int .i64 a.start,v2,v3]/\(I64 a.letters/\I64 a.start)/\Ar w v2 a.next/\Ar w v3 a.prio
theorem Cm.below{w wr:World}{v:Value}{a:Au}(h:Cm w v a)(hb:Below w.heap.size w wr):Cm wr v a:=by
 obtain⟨v2,v3,rfl,h0,h2,h3⟩:=h;exact⟨v2,v3,rfl,h0,h2.below hb,h3.below hb⟩
def FG(a:Au)(i k:Nat):Bool:=decide (0<=(a.next.getD i []).getD k 0)&&decide ((a.next.getD i []).getD k 0<a.next.length)&&decide (0<=(a.prio.getD i []).getD k 0)&&decide ((a.prio.getD i []).getD k 0<=20000)
def Km(a:Au)(i:Nat):Bool:=decide (((a.next.getD i []).length:Int)=a.letters)&&decide (((a.prio.getD i []).length:Int)=a.letters)&&(List.range (a.next.getD i []).length).all (FG a i)
def AF(a:Au):Bool:=(decide (1<=a.letters)&&decide (a.letters<=64))&&(decide (1<=a.next.length)&&decide (a.next.length<=3000))&&decide (a.prio.length=a.next.length)&&(decide (0<=a.start)&&decide (a.start<a.next.length))&&(List.range a.next.length).all (Km a)
theorem Hh(p:Nat->Bool)(k:Nat):(List.range (k+1)).all p=((List.range k).all p&&p k):=by
 rw[List.range_succ,List.all_append];simp
theorem GE(p:Nat->Bool)(n k:Nat)(h:k<n)(hp:p k=false):(List.range n).all p=false:=by
 rw[List.all_eq_false];exact⟨k,List.mem_range.2 h,by simp[hp]⟩
theorem An{b:Bool}(h:b=false):Ending.returned (.bool false)=.returned (.bool b):=by rw[h]
theorem C6{b:Bool}(h:b=true):Ending.returned (.bool true)=.returned (.bool b):=by rw[h]
theorem H8(w:World)(v:Value)(a:Au)(ha:Cm w v a):Calls Tryz.prog 73 #[v] w (Av (.bool (AF a)) w):=by
 obtain⟨v2,v3,rfl,⟨hL,hS⟩,⟨V2,⟨ao2,cap2,b2,off2,rfl,g2⟩,hr2⟩,⟨V3,⟨ao3,cap3,b3,off3,rfl,g3⟩,hr3⟩⟩:=ha;have hn2:=g2.nb;have hn3:=g3.nb
 by_cases c1:1<=a.letters
 case neg=>
  have c1':a.letters<1:=by omega
  have HR:Hid (AF a=false):=by show _=_;simp[AF,c1]
  clear c1
  go_enter Tryz.func73,Tryz.ntmps73
  go_wp2;go_ret;exact⟨An HR.out,(by repeat(first|exact Ad|assumption|apply AD|apply AE))⟩
 by_cases c2:a.letters<=64
 case neg=>
  have c2':64<a.letters:=by omega
  have HR:Hid (AF a=false):=by show _=_;simp[AF,c2]
  clear c2
  go_enter Tryz.func73,Tryz.ntmps73
  go_wp2;go_ret;exact⟨An HR.out,(by repeat(first|exact Ad|assumption|apply AD|apply AE))⟩
 by_cases c3:1<=a.next.length
 case neg=>
  have c3':(a.next.length:Int)<1:=by omega
  have HR:Hid (AF a=false):=by show _=_;simp[AF,c3]
  clear c3
  go_enter Tryz.func73,Tryz.ntmps73
  go_wp2;go_ret;exact⟨An HR.out,(by repeat(first|exact Ad|assumption|apply AD|apply AE))⟩
 by_cases c4:a.next.length<=3000
 case neg=>
  have c4':(3000:Int)<a.next.length:=by omega
  have c3':(1:Int)<=a.next.length:=by omega
  have HR:Hid (AF a=false):=by show _=_;simp[AF,c4]
  clear c4
  go_enter Tryz.func73,Tryz.ntmps73
  go_wp2;go_ret;exact⟨An HR.out,(by repeat(first|exact Ad|assumption|apply AD|apply AE))⟩
 have c3':(1:Int)<=a.next.length:=by omega
 have c4':(a.next.length:Int)<=3000:=by omega
 by_cases c5:a.prio.length=a.next.length
 case neg=>
  have c5':((a.prio.length:Int) !=a.next.length)=true:=by simp;omega
  have HR:Hid (AF a=false):=by show _=_;simp[AF,c5]
  clear c5
  go_enter Tryz.func73,Tryz.ntmps73
  go_wp2;go_ret;exact⟨An HR.out,(by repeat(first|exact Ad|assumption|apply AD|apply AE))⟩
 have c5':((a.prio.length:Int) !=a.next.length)=false:=by simp;omega
 have HC5:=Ab c5
 by_cases c6:0<=a.start
 case neg=>
  have c6':a.start<0:=by omega
  have HR:Hid (AF a=false):=by show _=_;simp[AF,c6]
  clear c6 c5
  go_enter Tryz.func73,Tryz.ntmps73
  go_wp2;go_ret;exact⟨An HR.out,(by repeat(first|exact Ad|assumption|apply AD|apply AE))⟩
 by_cases c7:a.start<a.next.length
 case neg=>
  have c7':(a.next.length:Int)<=a.start:=by omega
  have HR:Hid (AF a=false):=by show _=_;simp[AF,c7]
  clear c7 c5
  go_enter Tryz.func73,Tryz.ntmps73
  go_wp2;go_ret;exact⟨An HR.out,(by repeat(first|exact Ad|assumption|apply AD|apply AE))⟩
 have HV:Hid (AF a=(List.range a.next.length).all (Km a)):=by
  show _=_;have h1:decide (1<=a.letters)=true:=decide_eq_true c1;have h2:decide (a.letters<=64)=true:=decide_eq_true c2;have h3:decide (1<=a.next.length)=true:=decide_eq_true c3;have h4:decide (a.next.length<=3000)=true:=decide_eq_true c4;have h5:decide (a.prio.length=a.next.length)=true:=decide_eq_true c5;have h6:decide (0<=a.start)=true:=decide_eq_true c6;have h7:decide (a.start<(a.next.length:Int))=true:=decide_eq_true c7;unfold AF;rw[h1,h2,h3,h4,h5,h6,h7];rfl
 have HG2:=Ab g2;have HG3:=Ab g3;have HR2:=Ab hr2;have HR3:=Ab hr3;clear c5 g2 g3 hr2 hr3
 go_enter Tryz.func73,Tryz.ntmps73
 go_upto_region 1 with(fail)
 have hb1:=Ao (w:=w) (Obj.cells #[Value.int .i64 a.letters,Value.int .i64 a.start,Value.slice ao2 a.next.length cap2,Value.slice ao3 a.prio.length cap3] 63);have k1:=heap_alloc_new w (Obj.cells #[Value.int .i64 a.letters,Value.int .i64 a.start,Value.slice ao2 a.next.length cap2,Value.slice ao3 a.prio.length cap3] 63);generalize(w.alloc (Obj.cells #[Value.int .i64 a.letters,Value.int .i64 a.start,Value.slice ao2 a.next.length cap2,Value.slice ao3 a.prio.length cap3] 63))=w1 at*;have HB1:=Ab hb1;have HD:Hid (w1.cell? ⟨w.heap.size,0,none⟩=some (Value.int .i64 a.letters)/\w1.cell? ⟨w.heap.size,3,none⟩=some (Value.slice ao3 a.prio.length cap3)):=⟨Aa 0 k1,Aa 3 k1⟩;have d0:w1.cell? ⟨w.heap.size,0,none⟩=some (Value.int .i64 a.letters):=Aa 0 k1;have d1:w1.cell? ⟨w.heap.size,1,none⟩=some (Value.int .i64 a.start):=Aa 1 k1;have d2:w1.cell? ⟨w.heap.size,2,none⟩=some (Value.slice ao2 a.next.length cap2):=Aa 2 k1;have d3:w1.cell? ⟨w.heap.size,3,none⟩=some (Value.slice ao3 a.prio.length cap3):=Aa 3 k1;clear hb1 k1;go_wp2;clear d0 d1 d2 d3
 go_loopg [48] a.next.length (fun gh i wr=>∃k m:Nat,gh=a.next.length-k/\i=.int .i64 k/\k<=a.next.length/\wr=w1.drewN m/\Hid ((List.range k).all (Km a)=true))
 case atStart=>exact⟨0,0,by omega,rfl,by omega,rfl,by simp[Hid]⟩
 case round=>as_aux_lemma=>
  obtain⟨k,m,hgk,rfl,hk,rfl,HE⟩:=hrel;have HGK:=Ab hgk;clear hgk
  by_cases hlt:k<a.next.length
  ·have g2:=HG2.out;have g3:=HG3.out
   have hl3:k<a.prio.length:=by rw[HC5.out];exact hlt
   obtain rfl:=g2.ad (by omega);obtain rfl:=g3.ad (by omega);have e2:w1.cell? ⟨b2,off2+k,none⟩=some (V2 k):=Ah HB1.out (g2.el k hlt);have e3:w1.cell? ⟨b3,off3+k,none⟩=some (V3 k):=Ah HB1.out (g3.el k hl3);obtain⟨⟨ax,cx,bx,ox,hvx,gx⟩,-⟩:=HR2.out k hlt;obtain⟨⟨ay,cy,by',oy,hvy,gy⟩,-⟩:=HR3.out k hl3;rw[hvx]at e2;rw[hvy]at e3;obtain⟨d0,d3⟩:=HD.out;have HN1:=Ab (Hh (Km a) k)
   have HF:Hid (Km a k=false->AF a=false):=fun h=>by rw[HV.out];exact GE _ _ k hlt h
   have HRW:Hid (Km a k=(decide (((a.next.getD k []).length:Int)=a.letters)&&decide (((a.prio.getD k []).length:Int)=a.letters)&&(List.range (a.next.getD k []).length).all (FG a k))):=rfl;have hnx:=gx.nb;clear hvx hvy
   by_cases hx:((a.next.getD k []).length:Int)=a.letters
   case neg=>
    have hq:(((a.next.getD k []).length:Int) !=a.letters)=true:=by simpa using hx
    have HF2:Hid (AF a=false):=HF.out (by rw[HRW.out,decide_eq_false hx];rfl);clear hx HRW;generalize a.next.getD k []=rx at*;go_wp2;refine wp_region_quiet_lit (by kernel_rfl) (by kernel_rfl) ?_
    ((repeat(go_big_quiet_step (fail)));refine wpQuiet_nil ?_;rintro _ ⟨nq,rfl⟩)
    go_wp2;go_ret;exact⟨An HF2.out,HB1.out.trans ((Am w1 w.heap.size m).trans (Am _ _ nq))⟩
   by_cases hy:((a.prio.getD k []).length:Int)=a.letters
   case neg=>
    have hq:(((a.next.getD k []).length:Int) !=a.letters)=false:=by simpa using hx
    have hq2:(((a.prio.getD k []).length:Int) !=a.letters)=true:=by simpa using hy
    have HF2:Hid (AF a=false):=HF.out (by rw[HRW.out,decide_eq_true hx,decide_eq_false hy];rfl);clear hx hy HRW;generalize a.next.getD k []=rx at*;generalize a.prio.getD k []=ry at*;go_wp2;refine wp_region_quiet_lit (by kernel_rfl) (by kernel_rfl) ?_
    ((repeat(go_big_quiet_step (fail)));refine wpQuiet_nil ?_;rintro _ ⟨nq,rfl⟩)
    go_wp2;go_ret;exact⟨An HF2.out,HB1.out.trans ((Am w1 w.heap.size m).trans (Am _ _ nq))⟩
   have hq:(((a.next.getD k []).length:Int) !=a.letters)=false:=by simpa using hx
   have hq2:(((a.prio.getD k []).length:Int) !=a.letters)=false:=by simpa using hy
   have hlxy:(a.prio.getD k []).length=(a.next.getD k []).length:=by omega
   have HLXY:=Ab hlxy
   have HRW2:Hid (Km a k=(List.range (a.next.getD k []).length).all (FG a k)):=by show _=_;rw[HRW.out,decide_eq_true hx,decide_eq_true hy];rfl
   have HMV:Hid (∀j,FG a k j=(decide (0<=(a.next.getD k []).getD j 0)&&decide ((a.next.getD k []).getD j 0<a.next.length)&&decide (0<=(a.prio.getD k []).getD j 0)&&decide ((a.prio.getD k []).getD j 0<=20000))):=fun _=>rfl
   clear hx hy hlxy HRW;generalize a.next.getD k []=rx at*;generalize a.prio.getD k []=ry at*;go_wp2;refine wp_region_quiet_lit (by kernel_rfl) (by kernel_rfl) ?_
   ((repeat(go_big_quiet_step (fail)));refine wpQuiet_nil ?_;rintro _ ⟨nq,rfl⟩)
   rw[World.drewN_drewN];generalize m+nq=m2;go_wp2;clear e2 d0 hq hq2
   have HCX:Hid (∀j,j<rx.length->w1.cell? ⟨bx,ox+j,none⟩=some (.int .i64 (rx.getD j 0))):=fun j hj=>Ah HB1.out (gx.el j hj)
   have HCY:Hid (∀j,j<rx.length->w1.cell? ⟨by',oy+j,none⟩=some (.int .i64 (ry.getD j 0))):=fun j hj=>Ah HB1.out (gy.el j (by rw[HLXY.out];exact hj))
   go_loopg [71] rx.length (fun gh i wr=>∃j:Nat,gh=rx.length-j/\i=.int .i64 j/\j<=rx.length/\wr=w1.drewN m2/\Hid ((List.range j).all (FG a k)=true))
   case atStart=>exact⟨0,by omega,rfl,by omega,rfl,by simp[Hid]⟩
   case round=>as_aux_lemma=>
    obtain⟨j,hgj,rfl,hj,rfl,HE2⟩:=hrel;have HGJ:=Ab hgj;clear hgj
    by_cases hltj:j<rx.length
    ·obtain rfl:=gx.ad (by omega);obtain rfl:=gy.ad (by rw[HLXY.out];omega);have c1:=HCX.out j hltj;have c2:=HCY.out j hltj;have HM:=Ab (HMV.out j)
     have HFF:Hid (FG a k j=false->AF a=false):=fun h=>HF.out (by rw[HRW2.out];exact GE _ _ j hltj h)
     have HNN:=Ab (Hh (FG a k) j);generalize rx.getD j 0=x at*;generalize ry.getD j 0=y at*
     have HSZ:Hid ((j:Int)<ry.length):=by show _<_;rw[HLXY.out];omega
     have hsz:=HSZ.out;rw[HLXY.out]at e3
     by_cases q1:0<=x
     case neg=>
      have q1':x<0:=by omega
      have HR9:Hid (AF a=false):=HFF.out (by rw[HM.out,decide_eq_false q1];rfl);clear q1;go_wp2;go_ret;exact⟨An HR9.out,by exact(HB1.out.trans (Am w1 w.heap.size _))⟩
     by_cases q2:x<a.next.length
     case neg=>
      have q2':(a.next.length:Int)<=x:=by omega
      have HR9:Hid (AF a=false):=HFF.out (by rw[HM.out,decide_eq_false q2];simp);clear q2;go_wp2;go_ret;exact⟨An HR9.out,by exact(HB1.out.trans (Am w1 w.heap.size _))⟩
     by_cases q3:0<=y
     case neg=>
      have q3':y<0:=by omega
      have HR9:Hid (AF a=false):=HFF.out (by rw[HM.out,decide_eq_false q3];simp);clear q3;go_wp2;go_ret;exact⟨An HR9.out,by exact(HB1.out.trans (Am w1 w.heap.size _))⟩
     by_cases q4:y<=20000
     case neg=>
      have q4':20000<y:=by omega
      have HR9:Hid (AF a=false):=HFF.out (by rw[HM.out,decide_eq_false q4];simp);clear q4;go_wp2;go_ret;exact⟨An HR9.out,by exact(HB1.out.trans (Am w1 w.heap.size _))⟩
     have HR9:Hid (FG a k j=true):=by show _=_;rw[HM.out,decide_eq_true q1,decide_eq_true q2,decide_eq_true q3,decide_eq_true q4];rfl
     go_wp2
     go_roundg (rx.length-(j+1))
     case measure=>have:=HGJ.out;omega
     case rel=>exact⟨j+1,rfl,by go_num,by omega,rfl,by show _=_;rw[HNN.out,HE2.out,HR9.out];rfl⟩
    ·obtain rfl:j=rx.length:=by omega
     go_wp2
     go_roundg (a.next.length-(k+1))
     case measure=>have:=HGK.out;omega
     case rel=>exact⟨k+1,m2,rfl,by go_num,by omega,rfl,by show _=_;rw[HN1.out,HE.out,HRW2.out,HE2.out];rfl⟩
  ·obtain rfl:k=a.next.length:=by omega
   go_wp2;go_ret;exact⟨C6 (by rw[HV.out];exact HE.out),by exact(HB1.out.trans (Am w1 w.heap.size _))⟩
theorem Bv{a b:Int}{l:List Int}:BA a b l=true↔(l.length:Int)=a/\∀k,k<l.length->0<=l.getD k 0/\l.getD k 0<b:=by
 simp only[BA,Bool.and_eq_true,decide_eq_true_eq,List.all_eq_true]
 constructor
 ·rintro⟨h1,h2⟩;refine⟨h1,fun k hk=> ?_⟩;rw[Af _ 0 k hk];exact h2 _ (List.getElem_mem hk)
 ·rintro⟨h1,h2⟩;refine⟨h1,fun x hx=> ?_⟩;obtain⟨k,hk,rfl⟩:=List.mem_iff_getElem.1 hx;have:=h2 k hk
  rwa [Af _ 0 k hk]at this
theorem JE{a b:Int}{ll:List (List Int)}:Ce a b ll=true↔∀i,i<ll.length->BA a b (ll.getD i [])=true:=by
 rw[G7];exact⟨fun h i hi=>Bv.2 (h i hi),fun h i hi=>Bv.1 (h i hi)⟩
theorem OD{a b:Int}{ll:List (List Int)}{i:Nat}(hi:i<ll.length)(h:¬BA a b (ll.getD i [])=true):Ce a b ll=false:=by
 cases hb:Ce a b ll with
 |false=>rfl
 |true=>exact absurd (JE.1 hb i hi) h
theorem IJ(w:World)(vl:Value)(ll:List (List Int))(a b:Int)(hl:Ar w vl ll):
  Calls Tryz.prog 45 #[.int .i64 a,.int .i64 b,vl] w (Av (.bool (Ce a b ll)) w):=by
 obtain⟨ao,c,rfl⟩:=hl.shape;obtain⟨b0,o0,d0,n0,f0⟩:=hl.dat2;have HF0:=Ab f0;have HAll:Hid ((∀i,i<ll.length->BA a b (ll.getD i [])=true)->Ce a b ll=true):=JE.2
 have HBad:Hid (∀i,i<ll.length->¬BA a b (ll.getD i [])=true->Ce a b ll=false):=fun i hi h=>OD hi h
 clear f0 hl;generalize hn:ll.length=n at*;clear hn;generalize Ce a b ll=R at*
 go_enter Tryz.func45,Tryz.ntmps45
 go_wp2_with fail
 go_loopg [13] n (fun gh i wr=>∃k:Nat,gh=n-k/\i=.int .i64 (k:Int)/\k<=n/\Hid (∀i,i<k->BA a b (ll.getD i [])=true)/\Hid (Below w.heap.size w wr))
 case atStart=>exact⟨0,rfl,rfl,by omega,fun i hi=>absurd hi (by omega),Ad⟩
 case round=>
  obtain⟨k,hgk,rfl,hk,HA,HB⟩:=hrel;have HGK:=Ab hgk;clear hgk
  by_cases hlt:k<n
  ·obtain rfl:=d0 (by omega)
   have hi0:(0:Int)<=(k:Int):=by omega
   have hi1:(k:Int)<(n:Int):=by omega
   obtain⟨ar,cr,c1,hrow⟩:=HF0.out k hlt;replace c1:=Ah HB.out c1;have HRow:=Ab (hrow.below HB.out);have HBadk:=Ab (HBad.out k hlt)
   have HAk:Hid (BA a b (ll.getD k [])=true->∀i,i<k+1->BA a b (ll.getD i [])=true):=fun h i hi=>by
    rcases Nat.lt_or_ge i k with h1|h1
    ·exact HA.out i h1
    ·obtain rfl:i=k:=by omega
     exact h
   clear hrow;generalize ll.getD k []=r at*
   by_cases hw:(r.length:Int)=a
   ·have tA:((r.length:Int) !=a)=false:=by simp[hw]
    obtain⟨br,or,dr,nr,fr⟩:=HRow.out.data;have HFR:=Ab fr
    have HOk:Hid ((∀i,i<r.length->0<=r.getD i 0/\r.getD i 0<b)->BA a b r=true):=fun h=>Bv.2 ⟨hw,h⟩
    have HNo:Hid (∀i,i<r.length->¬(0<=r.getD i 0/\r.getD i 0<b)->R=false):=fun i hi h=>HBadk.out fun h2=>h ((Bv.1 h2).2 i hi)
    clear fr HRow hw HBadk;generalize hrl:r.length=rl at*;clear hrl
    go_wp2_with fail
    go_loopg [23] rl (fun gh j wx=>∃jj:Nat,gh=rl-jj/\j=.int .i64 (jj:Int)/\jj<=rl/\Hid (∀i,i<jj->0<=r.getD i 0/\r.getD i 0<b)/\Hid (Below wr.heap.size wr wx))
    case atStart=>exact⟨0,rfl,rfl,by omega,fun i hi=>absurd hi (by omega),Ad⟩
    case round=>
     obtain⟨j,hgj,rfl,hj,HJ,HBy⟩:=hrel;have HGJ:=Ab hgj;clear hgj;have HBZ:=Ab (HB.out.trans (HBy.out.mono HB.out.size))
     by_cases hjy:j<rl
     ·obtain rfl:=dr (by omega)
      have hj0:(0:Int)<=(j:Int):=by omega
      have hj1:(j:Int)<(rl:Int):=by omega
      have cY:=Ah HBy.out (HFR.out j hjy);have HN:=Ab (HNo.out j hjy)
      have HJk:Hid (0<=r.getD j 0/\r.getD j 0<b->∀i,i<j+1->0<=r.getD i 0/\r.getD i 0<b):=fun h i hi=>by
       rcases Nat.lt_or_ge i j with h1|h1
       ·exact HJ.out i h1
       ·obtain rfl:i=j:=by omega
        exact h
      generalize hy:r.getD j 0=y at*;clear hy
      by_cases h0:y<0
      ·have HR:=Ab (HN.out (by omega));go_wp2;go_ret;exact⟨An HR.out,HBZ.out⟩
      ·by_cases h1:b<=y
       ·have HR:=Ab (HN.out (by omega));go_wp2;go_ret;exact⟨An HR.out,HBZ.out⟩
       ·have HJ2:=Ab (HJk.out (by omega));go_wp2
        go_roundg (rl-(j+1))
        case measure=>have:=HGJ.out;omega
        case rel=>exact⟨j+1,rfl,by go_num,by omega,HJ2,HBy⟩
     ·have hj1:¬(j:Int)<(rl:Int):=by omega
      have HA2:=Ab (HAk.out (HOk.out fun i hi=>HJ.out i (by omega)));go_wp2
      go_roundg (n-(k+1))
      case measure=>have:=HGK.out;omega
      case rel=>exact⟨k+1,rfl,by go_num,by omega,HA2,HBZ⟩
   ·have tA:((r.length:Int) !=a)=true:=by simp[hw]
    have HR:=Ab (HBadk.out fun h=>hw (Bv.1 h).1);clear hw;generalize r.length=rl at*;go_wp2;go_ret;exact⟨An HR.out,HB.out⟩
  ·have hi1:¬(k:Int)<(n:Int):=by omega
   have HR:=Ab (HAll.out fun i hi=>HA.out i (by omega));go_wp2;go_ret;exact⟨C6 HR.out,HB.out⟩
theorem LM{w:World}{v:Value}{l:List Int}(h:Ai w v l):Ar (w.alloc (.cells #[v] 26)) (.slice (some ⟨w.heap.size,0,none⟩) 1 1) [l]:=by
 refine⟨fun _=>v,⟨_,1,w.heap.size,0,rfl,⟨Nat.le_refl _,by unfold maxLen;omega,by unfold Bk;simp,(fun e=>by cases e),(fun _=>rfl),fun j hj=> ?_⟩⟩,fun j hj=> ?_⟩
 ·obtain rfl:j=0:=by simp at hj;omega
  exact Aa 0 (heap_alloc_new _ _)
 ·obtain rfl:j=0:=by simp at hj;omega
  exact h.below (Ao _)
theorem NM(w:World)(a b c d:Int):Calls Tryz.prog 54 #[.int .i64 a,.int .i64 b,.int .i64 c,.int .i64 d] w (fun e w'=>e=.returned (.bool (BG a b c d))/\w=w'):=by
 by_cases h0:1<=a
 case neg=>
  have HR:Hid (BG a b c d=false):=by
   show _=_
   cases h:BG a b c d with
   |false=>rfl
   |true=>have:=B8.1 h;omega
  go_enter Tryz.func54,Tryz.ntmps54
  go_wp2;go_ret;exact⟨An HR.out,rfl⟩
 by_cases h1:a<=64
 case neg=>
  have HR:Hid (BG a b c d=false):=by
   show _=_
   cases h:BG a b c d with
   |false=>rfl
   |true=>have:=B8.1 h;omega
  go_enter Tryz.func54,Tryz.ntmps54
  go_wp2;go_ret;exact⟨An HR.out,rfl⟩
 by_cases h2:1<=b
 case neg=>
  have HR:Hid (BG a b c d=false):=by
   show _=_
   cases h:BG a b c d with
   |false=>rfl
   |true=>have:=B8.1 h;omega
  go_enter Tryz.func54,Tryz.ntmps54
  go_wp2;go_ret;exact⟨An HR.out,rfl⟩
 by_cases h3:b<=64
 case neg=>
  have HR:Hid (BG a b c d=false):=by
   show _=_
   cases h:BG a b c d with
   |false=>rfl
   |true=>have:=B8.1 h;omega
  go_enter Tryz.func54,Tryz.ntmps54
  go_wp2;go_ret;exact⟨An HR.out,rfl⟩
 by_cases h4:c<=3000
 case neg=>
  have HR:Hid (BG a b c d=false):=by
   show _=_
   cases h:BG a b c d with
   |false=>rfl
   |true=>have:=B8.1 h;omega
  go_enter Tryz.func54,Tryz.ntmps54
  go_wp2;go_ret;exact⟨An HR.out,rfl⟩
 by_cases h5:0<=d
 case neg=>
  have HR:Hid (BG a b c d=false):=by
   show _=_
   cases h:BG a b c d with
   |false=>rfl
   |true=>have:=B8.1 h;omega
  go_enter Tryz.func54,Tryz.ntmps54
  go_wp2;go_ret;exact⟨An HR.out,rfl⟩
 by_cases h6:d<c
 case neg=>
  have HR:Hid (BG a b c d=false):=by
   show _=_
   cases h:BG a b c d with
   |false=>rfl
   |true=>have:=B8.1 h;omega
  go_enter Tryz.func54,Tryz.ntmps54
  go_wp2;go_ret;exact⟨An HR.out,rfl⟩
 have HR:Hid (BG a b c d=true):=B8.2 ⟨h0,h1,h2,h3,h4,h5,h6⟩
 go_enter Tryz.func54,Tryz.ntmps54
 go_wp2;go_ret;exact⟨C6 HR.out,rfl⟩
theorem Gh(w:World)(v:Value)(m:My)(hm:BM w v m):Calls Tryz.prog 18 #[v] w (Av (.bool (Be m)) w):=by
 obtain⟨v3,v4,rfl,hI,h3,h4⟩:=hm;obtain⟨a3,c3,rfl⟩:=h3.shape;obtain⟨a4,c4,rfl⟩:=h4.shape;obtain⟨b3,o3,d3,m3,-⟩:=h3.dat2;obtain⟨b4,o4,d4,m4,-⟩:=h4.dat2;clear d3 d4;have HV:Hid (Be m=(BG m.ins m.outs m.out.length m.start&&decide (m.next.length=m.out.length)&&Ce m.ins m.outs m.out&&Ce m.ins m.out.length m.next)):=rfl;have H3:=Ab h3;have H4:=Ab h4
 have HC1:Hid (∀W,Below w.heap.size w W->Calls Tryz.prog 45 #[.int .i64 m.ins,.int .i64 m.outs,.slice a3 m.out.length c3] W (Av (.bool (Ce m.ins m.outs m.out)) W)):=fun W hb=>IJ W _ _ _ _ (h3.below hb)
 have HC2:Hid (∀W,Below w.heap.size w W->Calls Tryz.prog 45 #[.int .i64 m.ins,.int .i64 (m.out.length:Int),.slice a4 m.next.length c4] W (Av (.bool (Ce m.ins m.out.length m.next)) W)):=fun W hb=>IJ W _ _ _ _ (h4.below hb)
 clear h3 h4 H4 H3;generalize Ce m.ins m.outs m.out=R1 at*;generalize Ce m.ins m.out.length m.next=R2 at*;generalize m.out.length=n3 at*;generalize m.next.length=n4 at*;generalize m.ins=mi at*;generalize m.outs=mo at*;generalize m.start=ms at*;generalize Be m=R at*
 go_enter Tryz.func18,Tryz.ntmps18
 go_upto_region 1 with(fail)
 obtain⟨hx,-,hB⟩:=Az (w0:=w) Ad leR #[.int .i64 mi,.int .i64 mo,.int .i64 ms,.slice a3 n3 c3,.slice a4 n4 c4] 25;generalize w.alloc (.cells #[.int .i64 mi,.int .i64 mo,.int .i64 ms,.slice a3 n3 c3,.slice a4 n4 c4] 25)=w1 at*;have k0:=Aa 0 hx;have k1:=Aa 1 hx;have k2:=Aa 2 hx;have k3:=Aa 3 hx;have k4:=Aa 4 hx
 go_wp2_with fail
 refine(NM _ mi mo n3 ms).mono ?_;rintro e w' ⟨rfl,rfl⟩
 cases hs:BG mi mo n3 ms with
 |false=>
  rw[hs]at HV
  have HR:Hid (R=false):=by show _=_;have:=HV.out;simpa using this
  clear HV hs
  go_wp2_with fail
  go_ret;exact⟨An HR.out,hB⟩
 |true=>
  rw[hs]at HV;clear hs
  by_cases hn:n4=n3
  ·subst hn
   have HV2:Hid (R=(R1&&R2)):=by show _=_;have:=HV.out;simpa using this
   clear HV;have tn:((n4:Int)==(n4:Int))=true:=beq_self_eq_true _
   go_wp2_with fail
   refine(HC1.out _ hB).mono ?_;rintro e w2 ⟨rfl,hb⟩;replace hx:=Ae hb hx;replace hB:=hB.trans (hb.mono hB.size);clear hb k0 k1 k2 k3 k4;have k0:=Aa 0 hx;have k1:=Aa 1 hx;have k2:=Aa 2 hx;have k3:=Aa 3 hx;have k4:=Aa 4 hx
   cases R1 with
   |false=>
    have HR:Hid (R=false):=HV2.out
    go_wp2_with fail
    go_ret;exact⟨An HR.out,hB⟩
   |true=>
    have HR:Hid (R=R2):=by show _=_;have:=HV2.out;simpa using this
    clear HV2
    go_wp2_with fail
    refine(HC2.out _ hB).mono ?_;rintro e w3 ⟨rfl,hb⟩;replace hB:=hB.trans (hb.mono hB.size);clear hb k0 k1 k2 k3 k4 HC1 HC2
    go_wp2_with fail
    go_ret;exact⟨Ak (by rw[HR.out]),hB⟩
  ·have HR:Hid (R=false):=by show _=_;have:=HV.out;rw[decide_eq_false hn]at this;simpa using this
   have tn:((n4:Int)==(n3:Int))=false:=by rw[beq_eq_false_iff_ne];omega
   clear HV hn
   go_wp2_with fail
   go_ret;exact⟨An HR.out,hB⟩
theorem KJ(w:World)(v:Value)(m:Mo)(hm:Dl w v m):Calls Tryz.prog 20 #[v] w (Av (.bool (Bq m)) w):=by
 obtain⟨v3,v4,rfl,hI,h3,h4⟩:=hm;obtain⟨a3,c3,rfl⟩:=h3.shape;obtain⟨a4,c4,rfl⟩:=h4.shape;obtain⟨b3,o3,d3,m3,-⟩:=h3.data;obtain⟨b4,o4,d4,m4,-⟩:=h4.dat2;clear d3 d4;have HV:Hid (Bq m=(BG m.ins m.outs m.inn.length m.start&&decide (m.next.length=m.inn.length)&&Ce m.inn.length m.ins [m.inn]&&Ce m.outs m.inn.length m.next)):=rfl;have H3:=Ab h3;have H4:=Ab h4
 have HC1:Hid (∀W,Below w.heap.size w W->∀vx,Ar W vx [m.inn]->Calls Tryz.prog 45 #[.int .i64 (m.inn.length:Int),.int .i64 m.ins,vx] W (Av (.bool (Ce m.inn.length m.ins [m.inn])) W)):=fun W hb vx hx=>IJ W _ _ _ _ hx
 have HC2:Hid (∀W,Below w.heap.size w W->Calls Tryz.prog 45 #[.int .i64 m.outs,.int .i64 (m.inn.length:Int),.slice a4 m.next.length c4] W (Av (.bool (Ce m.outs m.inn.length m.next)) W)):=fun W hb=>IJ W _ _ _ _ (h4.below hb)
 clear h3 h4 H4;generalize Ce m.inn.length m.ins [m.inn]=R1 at*;generalize Ce m.outs m.inn.length m.next=R2 at*;generalize m.inn.length=n3 at*;generalize m.next.length=n4 at*;generalize m.ins=mi at*;generalize m.outs=mo at*;generalize m.start=ms at*;generalize Bq m=R at*
 go_enter Tryz.func20,Tryz.ntmps20
 go_upto_region 1 with(fail)
 obtain⟨hx,-,hB⟩:=Az (w0:=w) Ad leR #[.int .i64 mi,.int .i64 mo,.int .i64 ms,.slice a3 n3 c3,.slice a4 n4 c4] 28;generalize w.alloc (.cells #[.int .i64 mi,.int .i64 mo,.int .i64 ms,.slice a3 n3 c3,.slice a4 n4 c4] 28)=w1 at*;have k0:=Aa 0 hx;have k1:=Aa 1 hx;have k2:=Aa 2 hx;have k3:=Aa 3 hx;have k4:=Aa 4 hx
 go_wp2_with fail
 refine(NM _ mi mo n3 ms).mono ?_;rintro e w' ⟨rfl,rfl⟩
 cases hs:BG mi mo n3 ms with
 |false=>
  rw[hs]at HV
  have HR:Hid (R=false):=by show _=_;have:=HV.out;simpa using this
  clear HV hs
  go_wp2_with fail
  go_ret;exact⟨An HR.out,hB⟩
 |true=>
  rw[hs]at HV;clear hs
  by_cases hn:n4=n3
  ·subst hn
   have HV2:Hid (R=(R1&&R2)):=by show _=_;have:=HV.out;simpa using this
   clear HV;have tn:((n4:Int)==(n4:Int))=true:=beq_self_eq_true _
   go_wp2_with fail
   refine(HC1.out _ (hB.trans ((Ao _).mono hB.size)) _ (LM (H3.out.below hB))).mono ?_;rintro e w2 ⟨rfl,hb⟩;replace hb:=(Ao _).trans (hb.mono (Ao (w:=w1) _).size);replace hx:=Ae hb hx;replace hB:=hB.trans (hb.mono hB.size);clear hb k0 k1 k2 k3 k4 H3;have k0:=Aa 0 hx;have k1:=Aa 1 hx;have k2:=Aa 2 hx;have k3:=Aa 3 hx;have k4:=Aa 4 hx
   cases R1 with
   |false=>
    have HR:Hid (R=false):=HV2.out
    go_wp2_with fail
    go_ret;exact⟨An HR.out,hB⟩
   |true=>
    have HR:Hid (R=R2):=by show _=_;have:=HV2.out;simpa using this
    clear HV2
    go_wp2_with fail
    refine(HC2.out _ hB).mono ?_;rintro e w3 ⟨rfl,hb⟩;replace hB:=hB.trans (hb.mono hB.size);clear hb k0 k1 k2 k3 k4 HC1 HC2
    go_wp2_with fail
    go_ret;exact⟨Ak (by rw[HR.out]),hB⟩
  ·have HR:Hid (R=false):=by show _=_;have:=HV.out;rw[decide_eq_false hn]at this;simpa using this
   have tn:((n4:Int)==(n3:Int))=false:=by rw[beq_eq_false_iff_ne];omega
   clear HV hn
   go_wp2_with fail
   go_ret;exact⟨An HR.out,hB⟩
end Go.Proofs.YtncjeamdkjcebaaGreatDoor
