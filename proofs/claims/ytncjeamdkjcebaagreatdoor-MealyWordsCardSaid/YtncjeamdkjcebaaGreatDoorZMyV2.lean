/- What the reference's Valid, ValidEnv, Few, Same, Fits of machines compute, and mealy's fits. -/
import Derived.Test.YtncjeamdkjcebaaGreatDoorZAr3
set_option linter.all false
set_option maxHeartbeats 8000000
set_option maxRecDepth 100000
namespace Go.Proofs.YtncjeamdkjcebaaGreatDoor
open Go.RowKit
def RVa(z k n3 _n4 b3 o3 _b4 _o4 c3 _c4 l1 _l2 e1 _e2:Nat)(a1 _a2:Option Addr)(mi mo:Int)(_r2:Bool)(ix:Nat)(u:Value)(_:World):Prop:=
 match ix with
 |0=>u=.pointer (some ⟨z,3,none⟩)
 |1=>u=.slice (some ⟨b3,o3,none⟩) n3 c3
 |2=>u=.int .i64 (k:Int)
 |3=>u=.pointer (some ⟨b3,o3+k,none⟩)
 |4=>u=.slice a1 l1 e1
 |5=>u=.pointer (some ⟨z,0,none⟩)
 |6=>u=.int .i64 mi
 |7=>u=.pointer (some ⟨z,1,none⟩)
 |8=>u=.int .i64 mo
 |9=>u=.bool false
 |10|11|22=>u=.bool true
 |12|13|14|15|16|17|18|19|20|21=>u=undef
 | _=>True
theorem RVa.below{ix:Nat}{u:Value}{W W':World}{z k n3 n4 b3 o3 b4 o4 c3 c4 l1 l2 e1 e2:Nat}{a1 a2:Option Addr}{mi mo:Int}{r2:Bool}(h:RVa z k n3 n4 b3 o3 b4 o4 c3 c4 l1 l2 e1 e2 a1 a2 mi mo r2 ix u W)(_:Below W.heap.size W W'):RVa z k n3 n4 b3 o3 b4 o4 c3 c4 l1 l2 e1 e2 a1 a2 mi mo r2 ix u W':=by
 unfold RVa at*
 split at h<;>first|exact h|trivial
def RVb(z k n3 n4 b3 o3 b4 o4 c3 c4 l1 l2 e1 e2:Nat)(a1 a2:Option Addr)(mi mo:Int)(r2:Bool)(ix:Nat)(u:Value)(_:World):Prop:=
 match ix with
 |0=>u=.pointer (some ⟨z,3,none⟩)
 |1=>u=.slice (some ⟨b3,o3,none⟩) n3 c3
 |2|14=>u=.int .i64 (k:Int)
 |3=>u=.pointer (some ⟨b3,o3+k,none⟩)
 |4=>u=.slice a1 l1 e1
 |5|17=>u=.pointer (some ⟨z,0,none⟩)
 |6|18=>u=.int .i64 mi
 |7=>u=.pointer (some ⟨z,1,none⟩)
 |8=>u=.int .i64 mo
 |9=>u=.bool true
 |10|11=>u=.bool false
 |12=>u=.pointer (some ⟨z,4,none⟩)
 |13=>u=.slice (some ⟨b4,o4,none⟩) n4 c4
 |15=>u=.pointer (some ⟨b4,o4+k,none⟩)
 |16=>u=.slice a2 l2 e2
 |19=>u=.int .i64 (n4:Int)
 |20=>u=.bool r2
 |21|22=>u=.bool (!r2)
 | _=>True
theorem RVb.below{ix:Nat}{u:Value}{W W':World}{z k n3 n4 b3 o3 b4 o4 c3 c4 l1 l2 e1 e2:Nat}{a1 a2:Option Addr}{mi mo:Int}{r2:Bool}(h:RVb z k n3 n4 b3 o3 b4 o4 c3 c4 l1 l2 e1 e2 a1 a2 mi mo r2 ix u W)(_:Below W.heap.size W W'):RVb z k n3 n4 b3 o3 b4 o4 c3 c4 l1 l2 e1 e2 a1 a2 mi mo r2 ix u W':=by
 unfold RVb at*
 split at h<;>first|exact h|trivial
theorem Eo(w:World)(x n:Int):Calls Tryz.prog 46 #[.int .i64 x,.int .i64 n] w (fun e w'=>e=.returned (.bool (decide (0<=x)&&decide (x<n)))/\w=w'):=by
 by_cases h0:0<=x
 ·by_cases h1:x<n
  ·have HR:Hid ((decide (0<=x)&&decide (x<n))=true):=by show _=_;simp[h0,h1]
   generalize(decide (0<=x)&&decide (x<n))=R at*
   go_enter Tryz.func46,Tryz.ntmps46
   go_wp2;go_ret;exact⟨C6 HR.out,rfl⟩
  ·have HR:Hid ((decide (0<=x)&&decide (x<n))=false):=by show _=_;simp[h1]
   generalize(decide (0<=x)&&decide (x<n))=R at*
   go_enter Tryz.func46,Tryz.ntmps46
   go_wp2;go_ret;exact⟨An HR.out,rfl⟩
 ·have HR:Hid ((decide (0<=x)&&decide (x<n))=false):=by show _=_;simp[h0]
  generalize(decide (0<=x)&&decide (x<n))=R at*
  go_enter Tryz.func46,Tryz.ntmps46
  go_wp2;go_ret;exact⟨An HR.out,rfl⟩
theorem NH(w:World)(vl:Value)(r:List Int)(a b:Int)(hl:Ai w vl r):
  Calls Tryz.prog 55 #[vl,.int .i64 a,.int .i64 b] w (Av (.bool (BA a b r)) w):=by
 obtain⟨ao,c,rfl⟩:=hl.shape;obtain⟨b0,o0,d0,n0,f0⟩:=hl.data
 by_cases hw:(r.length:Int)=a
 ·have tA:((r.length:Int) !=a)=false:=by simp[hw]
  have HFR:=Ab f0
  have HOk:Hid ((∀i,i<r.length->0<=r.getD i 0/\r.getD i 0<b)->BA a b r=true):=fun h=>Bv.2 ⟨hw,h⟩
  have HNo:Hid (∀i,i<r.length->¬(0<=r.getD i 0/\r.getD i 0<b)->BA a b r=false):=fun i hi h=>by
   cases hb:BA a b r with
   |false=>rfl
   |true=>exact absurd ((Bv.1 hb).2 i hi) h
  generalize BA a b r=R at*;subst hw;generalize hrl:r.length=rl at*;clear hrl f0 hl
  go_enter Tryz.func55,Tryz.ntmps55
  go_wp2_with fail
  go_loopg [7] rl (fun gh j wx=>∃jj:Nat,gh=rl-jj/\j=.int .i64 (jj:Int)/\jj<=rl/\Hid (∀i,i<jj->0<=r.getD i 0/\r.getD i 0<b)/\Hid (Below w.heap.size w wx))
  case atStart=>exact⟨0,rfl,rfl,by omega,fun i hi=>absurd hi (by omega),Ad⟩
  case round=>
   obtain⟨j,hgj,rfl,hj,HJ,HB⟩:=hrel;have HGJ:=Ab hgj;clear hgj
   by_cases hjy:j<rl
   ·obtain rfl:=d0 (by omega)
    have hj0:(0:Int)<=(j:Int):=by omega
    have hj1:(j:Int)<(rl:Int):=by omega
    have cY:=Ah HB.out (HFR.out j hjy);have HN:=Ab (HNo.out j hjy)
    have HJk:Hid (0<=r.getD j 0/\r.getD j 0<b->∀i,i<j+1->0<=r.getD i 0/\r.getD i 0<b):=fun h i hi=>by
     rcases Nat.lt_or_ge i j with h1|h1
     ·exact HJ.out i h1
     ·obtain rfl:i=j:=by omega
      exact h
    generalize hy:r.getD j 0=y at*;clear hy
    go_wp2_with fail
    refine(Eo _ _ _).mono ?_;rintro e w' ⟨rfl,rfl⟩
    by_cases h:0<=y/\y<b
    ·have hd:(decide (0<=y)&&decide (y<b))=true:=by simp[h.1,h.2]
     have HJ2:=Ab (HJk.out h);rw[hd];clear hd h;go_wp2
     go_roundg (rl-(j+1))
     case measure=>have:=HGJ.out;omega
     case rel=>exact⟨j+1,rfl,by go_num,by omega,HJ2,HB⟩
    ·have hd:(decide (0<=y)&&decide (y<b))=false:=by rw[Bool.and_eq_false_iff,decide_eq_false_iff_not,decide_eq_false_iff_not];omega
     have HR:=Ab (HN.out h);rw[hd];clear hd h;go_wp2;go_ret;exact⟨An HR.out,HB.out⟩
   ·have hj1:¬(j:Int)<(rl:Int):=by omega
    have HR:=Ab (HOk.out fun i hi=>HJ.out i (by omega));go_wp2;go_ret;exact⟨C6 HR.out,HB.out⟩
 ·have tA:((r.length:Int) !=a)=true:=by simp[hw]
  have HR:Hid (BA a b r=false):=by
   show _=_
   cases hb:BA a b r with
   |false=>rfl
   |true=>exact absurd (Bv.1 hb).1 hw
  generalize BA a b r=R at*
  go_enter Tryz.func55,Tryz.ntmps55
  go_wp2;go_ret;exact⟨An HR.out,(by repeat(first|exact Ad|assumption|apply AD|apply AE))⟩
def E4(most:Int)(ll:List (List Int)):Bool:=decide ((ll.length:Int)<=most)&&ll.all fun l=>decide (l.length<=64)
theorem K3{a:Int}{ll:List (List Int)}:E4 a ll=true↔(ll.length:Int)<=a/\∀i,i<ll.length->(ll.getD i []).length<=64:=by
 unfold E4;rw[Bool.and_eq_true,decide_eq_true_eq,List.all_eq_true]
 constructor
 ·rintro⟨h1,h⟩;refine⟨h1,fun i hi=> ?_⟩;have:=h _ (List.getElem_mem hi);rw[Af ll [] i hi];simpa using this
 ·rintro⟨h1,h⟩;refine⟨h1,fun l hl=> ?_⟩;obtain⟨i,hi,rfl⟩:=List.mem_iff_getElem.1 hl;have:=h i hi;rw[Af ll [] i hi]at this;simpa using this
theorem GU(w:World)(vl:Value)(ll:List (List Int))(a:Int)(hl:Ar w vl ll):
  Calls Tryz.prog 44 #[vl,.int .i64 a] w (Av (.bool (E4 a ll)) w):=by
 obtain⟨ao,c,rfl⟩:=hl.shape;obtain⟨b0,o0,d0,n0,f0⟩:=hl.dat2;have HF0:=Ab f0;have HI:Hid (E4 a ll=true↔(ll.length:Int)<=a/\∀i,i<ll.length->(ll.getD i []).length<=64):=K3;clear f0 hl;generalize hn:ll.length=n at*;clear hn;generalize E4 a ll=R at*
 by_cases hw:a<(n:Int)
 ·have HR:Hid (R=false):=by
   show _=_
   cases hb:R with
   |false=>rfl
   |true=>have:=(HI.out.1 hb).1;omega
  go_enter Tryz.func44,Tryz.ntmps44
  go_wp2;go_ret;exact⟨An HR.out,(by repeat(first|exact Ad|assumption|apply AD|apply AE))⟩
 ·go_enter Tryz.func44,Tryz.ntmps44
  go_wp2_with fail
  go_loopg [5] n (fun gh i wr=>∃k:Nat,gh=n-k/\i=.int .i64 (k:Int)/\k<=n/\Hid (∀i,i<k->(ll.getD i []).length<=64)/\Hid (Below w.heap.size w wr))
  case atStart=>exact⟨0,rfl,rfl,by omega,fun i hi=>absurd hi (by omega),Ad⟩
  case round=>
   obtain⟨k,hgk,rfl,hk,HA,HB⟩:=hrel;have HGK:=Ab hgk;clear hgk
   by_cases hlt:k<n
   ·obtain rfl:=d0 (by omega)
    have hi0:(0:Int)<=(k:Int):=by omega
    have hi1:(k:Int)<(n:Int):=by omega
    obtain⟨ar,cr,c1,hrow⟩:=HF0.out k hlt;replace c1:=Ah HB.out c1
    have HBadk:Hid (¬(ll.getD k []).length<=64->R=false):=fun h=>by
     cases hb:R with
     |false=>rfl
     |true=>exact absurd ((HI.out.1 hb).2 k hlt) h
    have HAk:Hid ((ll.getD k []).length<=64->∀i,i<k+1->(ll.getD i []).length<=64):=fun h i hi=>by
     rcases Nat.lt_or_ge i k with h1|h1
     ·exact HA.out i h1
     ·obtain rfl:i=k:=by omega
      exact h
    clear hrow;generalize(ll.getD k []).length=rl at*
    by_cases h64:(64:Int)<(rl:Int)
    ·have HR:=Ab (HBadk.out (by omega));go_wp2;go_ret;exact⟨An HR.out,HB.out⟩
    ·have HA2:=Ab (HAk.out (by omega));go_wp2
     go_roundg (n-(k+1))
     case measure=>have:=HGK.out;omega
     case rel=>exact⟨k+1,rfl,by go_num,by omega,HA2,HB⟩
   ·have hi1:¬(k:Int)<(n:Int):=by omega
    have HR:Hid (R=true):=HI.out.2 ⟨by omega,fun i hi=>HA.out i (by omega)⟩;go_wp2;go_ret;exact⟨C6 HR.out,HB.out⟩
def J8(m:My)(most:Int):Bool:=E4 most m.out&&E4 most m.next
theorem Na(w:World)(v:Value)(m:My)(most:Int)(hm:BM w v m):Calls Tryz.prog 9 #[v,.int .i64 most] w (Av (.bool (J8 m most)) w):=by
 obtain⟨v3,v4,rfl,hI,h3,h4⟩:=hm;obtain⟨a3,c3,rfl⟩:=h3.shape;obtain⟨a4,c4,rfl⟩:=h4.shape;obtain⟨b3,o3,d3,m3,-⟩:=h3.dat2;obtain⟨b4,o4,d4,m4,-⟩:=h4.dat2;clear d3 d4;have HV:Hid (J8 m most=(E4 most m.out&&E4 most m.next)):=rfl
 have HC1:Hid (∀W,Below w.heap.size w W->Calls Tryz.prog 44 #[.slice a3 m.out.length c3,.int .i64 most] W (Av (.bool (E4 most m.out)) W)):=fun W hb=>GU W _ _ _ (h3.below hb)
 have HC2:Hid (∀W,Below w.heap.size w W->Calls Tryz.prog 44 #[.slice a4 m.next.length c4,.int .i64 most] W (Av (.bool (E4 most m.next)) W)):=fun W hb=>GU W _ _ _ (h4.below hb)
 clear h3 h4;generalize E4 most m.out=R1 at*;generalize E4 most m.next=R2 at*;generalize m.out.length=n3 at*;generalize m.next.length=n4 at*;generalize m.ins=mi at*;generalize m.outs=mo at*;generalize m.start=ms at*;generalize J8 m most=R at*
 go_enter Tryz.func9,Tryz.ntmps9
 go_upto_region 1 with(fail)
 obtain⟨hx,-,hB⟩:=Az (w0:=w) Ad leR #[.int .i64 mi,.int .i64 mo,.int .i64 ms,.slice a3 n3 c3,.slice a4 n4 c4] 25;generalize w.alloc (.cells #[.int .i64 mi,.int .i64 mo,.int .i64 ms,.slice a3 n3 c3,.slice a4 n4 c4] 25)=w1 at*;have k3:=Aa 3 hx;have k4:=Aa 4 hx
 go_wp2_with fail
 refine(HC1.out _ hB).mono ?_;rintro e w2 ⟨rfl,hb⟩;replace hx:=Ae hb hx;replace hB:=hB.trans (hb.mono hB.size);clear hb k3 k4;have k4:=Aa 4 hx
 cases R1 with
 |false=>
  have HR:Hid (R=false):=by show _=_;have:=HV.out;simpa using this
  clear HV
  go_wp2_with fail
  go_ret;exact⟨An HR.out,hB⟩
 |true=>
  have HR:Hid (R=R2):=by show _=_;have:=HV.out;simpa using this
  clear HV
  go_wp2_with fail
  refine(HC2.out _ hB).mono ?_;rintro e w3 ⟨rfl,hb⟩;replace hB:=hB.trans (hb.mono hB.size);clear hb k4 HC2 HC1
  go_wp2_with fail
  go_ret;exact⟨Ak (by rw[HR.out]),hB⟩
def Rq(m:Mo)(most:Int):Bool:=decide ((m.inn.length:Int)<=most)&&E4 most m.next
theorem Sl(w:World)(v:Value)(m:Mo)(most:Int)(hm:Dl w v m):Calls Tryz.prog 10 #[v,.int .i64 most] w (Av (.bool (Rq m most)) w):=by
 obtain⟨v3,v4,rfl,hI,h3,h4⟩:=hm;obtain⟨a3,c3,rfl⟩:=h3.shape;obtain⟨a4,c4,rfl⟩:=h4.shape;obtain⟨b3,o3,d3,m3,-⟩:=h3.data;obtain⟨b4,o4,d4,m4,-⟩:=h4.dat2;clear d3 d4;have HV:Hid (Rq m most=(decide ((m.inn.length:Int)<=most)&&E4 most m.next)):=rfl
 have HC2:Hid (∀W,Below w.heap.size w W->Calls Tryz.prog 44 #[.slice a4 m.next.length c4,.int .i64 most] W (Av (.bool (E4 most m.next)) W)):=fun W hb=>GU W _ _ _ (h4.below hb)
 clear h3 h4;generalize E4 most m.next=R2 at*;generalize m.inn.length=n3 at*;generalize m.next.length=n4 at*;generalize m.ins=mi at*;generalize m.outs=mo at*;generalize m.start=ms at*;generalize Rq m most=R at*
 go_enter Tryz.func10,Tryz.ntmps10
 go_upto_region 1 with(fail)
 obtain⟨hx,-,hB⟩:=Az (w0:=w) Ad leR #[.int .i64 mi,.int .i64 mo,.int .i64 ms,.slice a3 n3 c3,.slice a4 n4 c4] 28;generalize w.alloc (.cells #[.int .i64 mi,.int .i64 mo,.int .i64 ms,.slice a3 n3 c3,.slice a4 n4 c4] 28)=w1 at*;have k3:=Aa 3 hx;have k4:=Aa 4 hx
 by_cases hn:(n3:Int)<=most
 ·have HR:Hid (R=R2):=by show _=_;have:=HV.out;rw[decide_eq_true hn]at this;simpa using this
  clear HV
  go_wp2_with fail
  refine(HC2.out _ hB).mono ?_;rintro e w3 ⟨rfl,hb⟩;replace hB:=hB.trans (hb.mono hB.size);clear hb k3 k4 HC2
  go_wp2_with fail
  go_ret;exact⟨Ak (by rw[HR.out]),hB⟩
 ·have HR:Hid (R=false):=by show _=_;have:=HV.out;rw[decide_eq_false hn]at this;simpa using this
  clear HV
  go_wp2_with fail
  go_ret;exact⟨An HR.out,hB⟩
theorem NV(w:World)(v:Value)(m:My)(hm:BM w v m):Calls Tryz.prog 19 #[v] w (Av (.bool (Be m)) w):=by
 have hmx:Tryz.prog.follows .mixedOrders=true:=by kernel_rfl
 obtain⟨v3,v4,rfl,hI,h3,h4⟩:=hm;obtain⟨a3,c3,rfl⟩:=h3.shape;obtain⟨a4,c4,rfl⟩:=h4.shape;obtain⟨b3,o3,d3,m3,f3⟩:=h3.dat2;obtain⟨b4,o4,d4,m4,f4⟩:=h4.dat2;have HF3:=Ab f3;have HF4:=Ab f4;have H3:=Ab h3;clear f3 f4 h3 h4;have HI:Hid (Be m=true↔MyV m):=F6
 have HNo:Hid (¬MyV m->Be m=false):=fun h=>by
  cases hb:Be m with
  |false=>rfl
  |true=>exact absurd (HI.out.1 hb) h
 by_cases g0:1<=m.ins
 case neg=>
  have HR:=Ab (HNo.out fun h=>by exact g0 h.i1)
  replace g0:m.ins<1:=by omega
  clear HI HNo HF3 HF4 H3;generalize Be m=R at*;generalize m.out.length=n3 at*;generalize m.next.length=n4 at*;generalize m.ins=mi at*;generalize m.outs=mo at*;generalize m.start=ms at*
  go_enter Tryz.func19,Tryz.ntmps19
  go_upto_region 1 with(fail)
  obtain⟨hx,-,hB⟩:=Az (w0:=w) Ad leR #[.int .i64 mi,.int .i64 mo,.int .i64 ms,.slice a3 n3 c3,.slice a4 n4 c4] 25;generalize w.alloc (.cells #[.int .i64 mi,.int .i64 mo,.int .i64 ms,.slice a3 n3 c3,.slice a4 n4 c4] 25)=w1 at*;have k0:=Aa 0 hx;have k1:=Aa 1 hx;have k2:=Aa 2 hx;have k3:=Aa 3 hx;have k4:=Aa 4 hx
  go_wp2_with fail
  go_ret;exact⟨An HR.out,hB⟩
 have g0q:¬m.ins<1:=by omega
 by_cases g1:m.ins<=64
 case neg=>
  have HR:=Ab (HNo.out fun h=>by exact g1 h.i2)
  replace g1:64<m.ins:=by omega
  clear HI HNo HF3 HF4 H3;generalize Be m=R at*;generalize m.out.length=n3 at*;generalize m.next.length=n4 at*;generalize m.ins=mi at*;generalize m.outs=mo at*;generalize m.start=ms at*
  go_enter Tryz.func19,Tryz.ntmps19
  go_upto_region 1 with(fail)
  obtain⟨hx,-,hB⟩:=Az (w0:=w) Ad leR #[.int .i64 mi,.int .i64 mo,.int .i64 ms,.slice a3 n3 c3,.slice a4 n4 c4] 25;generalize w.alloc (.cells #[.int .i64 mi,.int .i64 mo,.int .i64 ms,.slice a3 n3 c3,.slice a4 n4 c4] 25)=w1 at*;have k0:=Aa 0 hx;have k1:=Aa 1 hx;have k2:=Aa 2 hx;have k3:=Aa 3 hx;have k4:=Aa 4 hx
  go_wp2_with fail
  go_ret;exact⟨An HR.out,hB⟩
 have g1q:¬64<m.ins:=by omega
 by_cases g2:1<=m.outs
 case neg=>
  have HR:=Ab (HNo.out fun h=>by exact g2 h.o1)
  replace g2:m.outs<1:=by omega
  clear HI HNo HF3 HF4 H3;generalize Be m=R at*;generalize m.out.length=n3 at*;generalize m.next.length=n4 at*;generalize m.ins=mi at*;generalize m.outs=mo at*;generalize m.start=ms at*
  go_enter Tryz.func19,Tryz.ntmps19
  go_upto_region 1 with(fail)
  obtain⟨hx,-,hB⟩:=Az (w0:=w) Ad leR #[.int .i64 mi,.int .i64 mo,.int .i64 ms,.slice a3 n3 c3,.slice a4 n4 c4] 25;generalize w.alloc (.cells #[.int .i64 mi,.int .i64 mo,.int .i64 ms,.slice a3 n3 c3,.slice a4 n4 c4] 25)=w1 at*;have k0:=Aa 0 hx;have k1:=Aa 1 hx;have k2:=Aa 2 hx;have k3:=Aa 3 hx;have k4:=Aa 4 hx
  go_wp2_with fail
  go_ret;exact⟨An HR.out,hB⟩
 have g2q:¬m.outs<1:=by omega
 by_cases g3:m.outs<=64
 case neg=>
  have HR:=Ab (HNo.out fun h=>by exact g3 h.o2)
  replace g3:64<m.outs:=by omega
  clear HI HNo HF3 HF4 H3;generalize Be m=R at*;generalize m.out.length=n3 at*;generalize m.next.length=n4 at*;generalize m.ins=mi at*;generalize m.outs=mo at*;generalize m.start=ms at*
  go_enter Tryz.func19,Tryz.ntmps19
  go_upto_region 1 with(fail)
  obtain⟨hx,-,hB⟩:=Az (w0:=w) Ad leR #[.int .i64 mi,.int .i64 mo,.int .i64 ms,.slice a3 n3 c3,.slice a4 n4 c4] 25;generalize w.alloc (.cells #[.int .i64 mi,.int .i64 mo,.int .i64 ms,.slice a3 n3 c3,.slice a4 n4 c4] 25)=w1 at*;have k0:=Aa 0 hx;have k1:=Aa 1 hx;have k2:=Aa 2 hx;have k3:=Aa 3 hx;have k4:=Aa 4 hx
  go_wp2_with fail
  go_ret;exact⟨An HR.out,hB⟩
 have g3q:¬64<m.outs:=by omega
 by_cases g4:1<=m.next.length
 case neg=>
  have HR:=Ab (HNo.out fun h=>by have:=h.s1;have:=h.s0;have:=h.nl;omega)
  have g4':(m.next.length:Int)<1:=by omega
  clear HI HNo HF3 HF4 H3;generalize Be m=R at*;generalize m.out.length=n3 at*;generalize m.next.length=n4 at*;generalize m.ins=mi at*;generalize m.outs=mo at*;generalize m.start=ms at*
  go_enter Tryz.func19,Tryz.ntmps19
  go_upto_region 1 with(fail)
  obtain⟨hx,-,hB⟩:=Az (w0:=w) Ad leR #[.int .i64 mi,.int .i64 mo,.int .i64 ms,.slice a3 n3 c3,.slice a4 n4 c4] 25;generalize w.alloc (.cells #[.int .i64 mi,.int .i64 mo,.int .i64 ms,.slice a3 n3 c3,.slice a4 n4 c4] 25)=w1 at*;have k0:=Aa 0 hx;have k1:=Aa 1 hx;have k2:=Aa 2 hx;have k3:=Aa 3 hx;have k4:=Aa 4 hx
  go_wp2_with fail
  go_ret;exact⟨An HR.out,hB⟩
 by_cases g5:m.next.length<=3000
 case neg=>
  have HR:=Ab (HNo.out fun h=>by have:=h.n;have:=h.nl;omega)
  have g5':3000<(m.next.length:Int):=by omega
  have g4':¬(m.next.length:Int)<1:=by omega
  clear HI HNo HF3 HF4 H3;generalize Be m=R at*;generalize m.out.length=n3 at*;generalize m.next.length=n4 at*;generalize m.ins=mi at*;generalize m.outs=mo at*;generalize m.start=ms at*
  go_enter Tryz.func19,Tryz.ntmps19
  go_upto_region 1 with(fail)
  obtain⟨hx,-,hB⟩:=Az (w0:=w) Ad leR #[.int .i64 mi,.int .i64 mo,.int .i64 ms,.slice a3 n3 c3,.slice a4 n4 c4] 25;generalize w.alloc (.cells #[.int .i64 mi,.int .i64 mo,.int .i64 ms,.slice a3 n3 c3,.slice a4 n4 c4] 25)=w1 at*;have k0:=Aa 0 hx;have k1:=Aa 1 hx;have k2:=Aa 2 hx;have k3:=Aa 3 hx;have k4:=Aa 4 hx
  go_wp2_with fail
  go_ret;exact⟨An HR.out,hB⟩
 have g4':¬(m.next.length:Int)<1:=by omega
 have g5':¬3000<(m.next.length:Int):=by omega
 by_cases g6:m.out.length=m.next.length
 case neg=>
  have HR:=Ab (HNo.out fun h=>g6 h.nl.symm)
  have g6':((m.out.length:Int) !=(m.next.length:Int))=true:=by simp;omega
  clear HI HNo HF3 HF4 H3 g6;generalize Be m=R at*;generalize m.out.length=n3 at*;generalize m.next.length=n4 at*;generalize m.ins=mi at*;generalize m.outs=mo at*;generalize m.start=ms at*
  go_enter Tryz.func19,Tryz.ntmps19
  go_upto_region 1 with(fail)
  obtain⟨hx,-,hB⟩:=Az (w0:=w) Ad leR #[.int .i64 mi,.int .i64 mo,.int .i64 ms,.slice a3 n3 c3,.slice a4 n4 c4] 25;generalize w.alloc (.cells #[.int .i64 mi,.int .i64 mo,.int .i64 ms,.slice a3 n3 c3,.slice a4 n4 c4] 25)=w1 at*;have k0:=Aa 0 hx;have k1:=Aa 1 hx;have k2:=Aa 2 hx;have k3:=Aa 3 hx;have k4:=Aa 4 hx
  go_wp2_with fail
  go_ret;exact⟨An HR.out,hB⟩
 have g6':((m.out.length:Int) !=(m.next.length:Int))=false:=by simp;omega
 have HC6:=Ab g6
 by_cases g7:0<=m.start/\m.start<m.next.length
 case neg=>
  have HR:=Ab (HNo.out fun h=>g7 ⟨h.s0,by have:=h.s1;omega⟩)
  have hd:(decide (0<=m.start)&&decide (m.start<(m.next.length:Int)))=false:=by rw[Bool.and_eq_false_iff,decide_eq_false_iff_not,decide_eq_false_iff_not];omega
  clear HI HNo HF3 HF4 H3 g6 HC6 g7;generalize Be m=R at*;generalize m.out.length=n3 at*;generalize m.next.length=n4 at*;generalize m.ins=mi at*;generalize m.outs=mo at*;generalize m.start=ms at*
  go_enter Tryz.func19,Tryz.ntmps19
  go_upto_region 1 with(fail)
  obtain⟨hx,-,hB⟩:=Az (w0:=w) Ad leR #[.int .i64 mi,.int .i64 mo,.int .i64 ms,.slice a3 n3 c3,.slice a4 n4 c4] 25;generalize w.alloc (.cells #[.int .i64 mi,.int .i64 mo,.int .i64 ms,.slice a3 n3 c3,.slice a4 n4 c4] 25)=w1 at*;have k0:=Aa 0 hx;have k1:=Aa 1 hx;have k2:=Aa 2 hx;have k3:=Aa 3 hx;have k4:=Aa 4 hx
  go_wp2_with fail
  refine(Eo _ ms n4).mono ?_;rintro e w' ⟨rfl,rfl⟩;rw[hd]
  go_wp2_with fail
  go_ret;exact⟨An HR.out,hB⟩
 have hd:(decide (0<=m.start)&&decide (m.start<(m.next.length:Int)))=true:=by simp[g7.1,g7.2]
 have HV:Hid ((∀i,i<m.next.length->BA m.ins m.outs (m.out.getD i [])=true/\BA m.ins m.next.length (m.next.getD i [])=true)->Be m=true):=fun h=>by
  have hl:m.next.length=m.out.length:=HC6.out.symm;exact HI.out.2 ⟨by omega,by omega,by omega,by omega,by omega,g7.1,by omega,hl,fun i hi=>Bv.1 (h i (by omega)).1,fun i hi=>by rw[<-hl];exact Bv.1 (h i (by omega)).2⟩
 have HBad:Hid (∀i,i<m.next.length->¬(BA m.ins m.outs (m.out.getD i [])=true/\BA m.ins m.next.length (m.next.getD i [])=true)->Be m=false):=fun i hi hno=>by
  have hl:m.next.length=m.out.length:=HC6.out.symm
  refine HNo.out fun h=>hno ⟨Bv.2 (h.out i (by omega)),Bv.2 ?_⟩
  rw[hl];exact h.nxt i (by omega)
 clear HI HNo H3 g7 g6;generalize Be m=R at*;generalize m.out.length=n3 at*;generalize m.next.length=n4 at*;generalize m.ins=mi at*;generalize m.outs=mo at*;generalize m.start=ms at*;have hn34:=HC6.out;subst hn34
 go_enter Tryz.func19,Tryz.ntmps19
 go_upto_region 1 with(fail)
 obtain⟨hx,-,hB⟩:=Az (w0:=w) Ad leR #[.int .i64 mi,.int .i64 mo,.int .i64 ms,.slice a3 n3 c3,.slice a4 n3 c4] 25;generalize w.alloc (.cells #[.int .i64 mi,.int .i64 mo,.int .i64 ms,.slice a3 n3 c3,.slice a4 n3 c4] 25)=w1 at*;have k0:=Aa 0 hx;have k1:=Aa 1 hx;have k2:=Aa 2 hx;have k3:=Aa 3 hx;have k4:=Aa 4 hx
 go_wp2_with fail
 refine(Eo _ ms n3).mono ?_;rintro e w' ⟨rfl,rfl⟩;rw[hd];clear hd k0 k1 k2 k3 k4 HC6 g0 g1 g2 g3 g4 g5;have HX:=Ab hx;have HBW:=Ab hB;clear hx hB
 go_wp2_with fail
 go_loopg [4] n3 (fun gh i wr=>∃k:Nat,gh=n3-k/\i=.int .i64 (k:Int)/\k<=n3/\Hid (∀i,i<k->BA mi mo (m.out.getD i [])=true/\BA mi n3 (m.next.getD i [])=true)/\Hid (Below w1.heap.size w1 wr))
 case atStart=>exact⟨0,rfl,rfl,by omega,fun i hi=>absurd hi (by omega),Ad⟩
 case round=>
  obtain⟨k,hgk,rfl,hk,HA,HB⟩:=hrel;have HGK:=Ab hgk;clear hgk
  by_cases hlt:k<n3
  ·obtain rfl:=d3 (by omega);obtain rfl:=d4 (by omega)
   have hi0:(0:Int)<=(k:Int):=by omega
   have hi1:(k:Int)<(n3:Int):=by omega
   obtain⟨a1,e1,c1',hr1⟩:=HF3.out k hlt;obtain⟨a2,e2,c2',hr2⟩:=HF4.out k hlt;have HWB:=Ab (HBW.out.trans (HB.out.mono HBW.out.size));replace c1':=Ah HWB.out c1';replace c2':=Ah HWB.out c2';have q:=(HB.out.block _ (Array.getElem?_eq_some_iff.1 HX.out).1).trans HX.out;have q0:=Aa 0 q;have q1:=Aa 1 q;have q3:=Aa 3 q;have q4:=Aa 4 q
   have HBD:Hid (∀W,Below wr.drew.heap.size wr.drew W->Below wr.heap.size wr W):=fun W h=>(Below.drew (B:=wr.heap.size) Ad).trans h
   have HR1:Hid (∀W,Below wr.drew.heap.size wr.drew W->Calls Tryz.prog 55 #[.slice a1 (m.out.getD k []).length e1,.int .i64 mi,.int .i64 mo] W (Av (.bool (BA mi mo (m.out.getD k []))) W)):=fun W h=>NH W _ _ _ _ (hr1.below (HWB.out.trans ((HBD.out W h).mono HWB.out.size)))
   have HR2:Hid (∀W,Below wr.drew.heap.size wr.drew W->Calls Tryz.prog 55 #[.slice a2 (m.next.getD k []).length e2,.int .i64 mi,.int .i64 (n3:Int)] W (Av (.bool (BA mi n3 (m.next.getD k []))) W)):=fun W h=>NH W _ _ _ _ (hr2.below (HWB.out.trans ((HBD.out W h).mono HWB.out.size)))
   have HBk:=Ab (HBad.out k hlt)
   have HAk:Hid (BA mi mo (m.out.getD k [])=true/\BA mi n3 (m.next.getD k [])=true->∀i,i<k+1->BA mi mo (m.out.getD i [])=true/\BA mi n3 (m.next.getD i [])=true):=fun h i hi=>by
    rcases Nat.lt_or_ge i k with h1|h1
    ·exact HA.out i h1
    ·obtain rfl:i=k:=by omega
     exact h
   clear hr1 hr2 q;generalize BA mi mo (m.out.getD k [])=r1 at*;generalize BA mi n3 (m.next.getD k [])=r2 at*;generalize(m.out.getD k []).length=l1 at*;generalize(m.next.getD k []).length=l2 at*
   have HCl:Hid (∀W,Below wr.drew.heap.size wr.drew W->W.cell? ⟨w.heap.size,0,none⟩=some (.int .i64 mi)/\W.cell? ⟨w.heap.size,1,none⟩=some (.int .i64 mo)/\W.cell? ⟨w.heap.size,3,none⟩=some (.slice (some ⟨b3,o3,none⟩) n3 c3)/\W.cell? ⟨w.heap.size,4,none⟩=some (.slice (some ⟨b4,o4,none⟩) n3 c4)/\W.cell? ⟨b3,o3+k,none⟩=some (.slice a1 l1 e1)/\W.cell? ⟨b4,o4+k,none⟩=some (.slice a2 l2 e2)):=fun W h=>⟨Ah (HBD.out W h) q0,Ah (HBD.out W h) q1,Ah (HBD.out W h) q3,Ah (HBD.out W h) q4,Ah (HBD.out W h) c1',Ah (HBD.out W h) c2'⟩
   clear q0 q1 q3 q4 c1' c2'
   cases r1 with
   |false=>
    have HR:=Ab (HBk.out fun h=>absurd h.1 (by decide))
    go_upto_region 7 with(fail)
    refine AB hmx (RVa w.heap.size k n3 n3 b3 o3 b4 o4 c3 c4 l1 l2 e1 e2 a1 a2 mi mo r2) (fun vs=>{tmps:=(_::_::_::_::_::_::_::_::_::_::_::_::_::_::_::_::_::_::_::_::_::_::_::_::_::_::_::_::_::_::_::_::_::_::_::_::_::_::_::_::_::_::_::_::_::_::_::_::_::_::_::_::_::vs 0::vs 1::vs 2::vs 3::vs 4::vs 5::vs 6::vs 7::vs 8::vs 9::vs 10::vs 11::vs 12::vs 13::vs 14::vs 15::vs 16::vs 17::vs 18::vs 19::vs 20::vs 21::vs 22::[]).toArray,defers:=_}) (fun n=>[u53,u54,u55,u56,u57,u58,u59,u60,u61,u62,u63,u64,u65,u66,u67,u68,u69,u70,u71,u72,u73,u74,u75].getD n undef) rfl (by kernel_rfl) (fun _ _ _ _ h hb=>h.below hb) ?step ?fin
    case step=>
     intro ix o ho
     match ix,ho with
     |0,ho|2,ho|3,ho|5,ho|7,ho|10,ho|11,ho|12,ho|13,ho|14,ho|15,ho|16,ho|17,ho|18,ho|19,ho|20,ho|21,ho|22,ho=>
      obtain rfl:=osI ho;intro vs W K hB hD hK;have HK:=Ab hK
      try have e1:vs 1=.slice (some ⟨b3,o3,none⟩) n3 c3:=Ac hD 1 rfl
      try have e2:vs 2=.int .i64 (k:Int):=Ac hD 2 rfl
      try have e9:vs 9=.bool false:=Ac hD 9 rfl
      try have e10:vs 10=.bool true:=Ac hD 10 rfl
      try have e11:vs 11=.bool true:=Ac hD 11 rfl
      try have e21:vs 21=undef:=Ac hD 21 rfl
      clear hK hD ho;dsimp only;go_simp;have h:=HK.out _ _ Ad rfl;simp only[upd,Nat.reduceEqDiff,reduceIte, *]at h;exact h
     |1,ho|4,ho|6,ho|8,ho=>
      obtain rfl:=osI ho;intro vs W K hB hD hK;have HK:=Ab hK
      try have e0:vs 0=.pointer (some ⟨w.heap.size,3,none⟩):=Ac hD 0 rfl
      try have e3:vs 3=.pointer (some ⟨b3,o3+k,none⟩):=Ac hD 3 rfl
      try have e5:vs 5=.pointer (some ⟨w.heap.size,0,none⟩):=Ac hD 5 rfl
      try have e7:vs 7=.pointer (some ⟨w.heap.size,1,none⟩):=Ac hD 7 rfl
      obtain⟨d0,d1,d2,d3,d4,d5⟩:=HCl.out W hB;clear hK hD ho;dsimp only;go_simp;have h:=HK.out _ _ Ad rfl;simp only[upd,Nat.reduceEqDiff,reduceIte, *]at h;exact h
     |9,ho=>
      obtain rfl:=osI ho;intro vs W K hB hD hK;have HK:=Ab hK;have e4:vs 4=.slice a1 l1 e1:=Ac hD 4 rfl;have e6:vs 6=.int .i64 mi:=Ac hD 6 rfl;have e8:vs 8=.int .i64 mo:=Ac hD 8 rfl;clear hK hD ho;dsimp only;go_simp;refine(HR1.out W hB).mono ?_;rintro e W' ⟨rfl,hb⟩;have h:=HK.out _ _ hb rfl;simp only[upd,Nat.reduceEqDiff,reduceIte,e4,e6,e8]at h;exact h
     |q+23,ho=>exact absurd ho (by simp)
    case fin=>
     intro vs wz hB hall;have el:vs 22=.bool true:=hall 22 (by decide);have HBZ:=Ab (HBD.out wz hB);clear hall hB HBD HCl HR1 HR2;rw[el];clear el;generalize vs 0=z0q,vs 1=z1q,vs 2=z2q,vs 3=z3q,vs 4=z4q,vs 5=z5q,vs 6=z6q,vs 7=z7q,vs 8=z8q,vs 9=z9q,vs 10=z10q,vs 11=z11q,vs 12=z12q,vs 13=z13q,vs 14=z14q,vs 15=z15q,vs 16=z16q,vs 17=z17q,vs 18=z18q,vs 19=z19q,vs 20=z20q,vs 21=z21q;clear vs;go_wp2;go_ret;exact⟨An HR.out,HBW.out.trans ((HB.out.trans (HBZ.out.mono HB.out.size)).mono HBW.out.size)⟩
   |true=>
    go_upto_region 7 with(fail)
    refine AB hmx (RVb w.heap.size k n3 n3 b3 o3 b4 o4 c3 c4 l1 l2 e1 e2 a1 a2 mi mo r2) (fun vs=>{tmps:=(_::_::_::_::_::_::_::_::_::_::_::_::_::_::_::_::_::_::_::_::_::_::_::_::_::_::_::_::_::_::_::_::_::_::_::_::_::_::_::_::_::_::_::_::_::_::_::_::_::_::_::_::_::vs 0::vs 1::vs 2::vs 3::vs 4::vs 5::vs 6::vs 7::vs 8::vs 9::vs 10::vs 11::vs 12::vs 13::vs 14::vs 15::vs 16::vs 17::vs 18::vs 19::vs 20::vs 21::vs 22::[]).toArray,defers:=_}) (fun n=>[u53,u54,u55,u56,u57,u58,u59,u60,u61,u62,u63,u64,u65,u66,u67,u68,u69,u70,u71,u72,u73,u74,u75].getD n undef) rfl (by kernel_rfl) (fun _ _ _ _ h hb=>h.below hb) ?step ?fin
    case step=>
     intro ix o ho
     match ix,ho with
     |0,ho|2,ho|3,ho|5,ho|7,ho|10,ho|11,ho|12,ho|14,ho|15,ho|17,ho|19,ho|21,ho|22,ho=>
      obtain rfl:=osI ho;intro vs W K hB hD hK;have HK:=Ab hK
      try have e1:vs 1=.slice (some ⟨b3,o3,none⟩) n3 c3:=Ac hD 1 rfl
      try have e2:vs 2=.int .i64 (k:Int):=Ac hD 2 rfl
      try have e9:vs 9=.bool true:=Ac hD 9 rfl
      try have e10:vs 10=.bool false:=Ac hD 10 rfl
      try have e11:vs 11=.bool false:=Ac hD 11 rfl
      try have e13:vs 13=.slice (some ⟨b4,o4,none⟩) n3 c4:=Ac hD 13 rfl
      try have e14:vs 14=.int .i64 (k:Int):=Ac hD 14 rfl
      try have e20:vs 20=.bool r2:=Ac hD 20 rfl
      try have e21:vs 21=.bool (!r2):=Ac hD 21 rfl
      clear hK hD ho;dsimp only;go_simp;have h:=HK.out _ _ Ad rfl;simp only[upd,Nat.reduceEqDiff,reduceIte, *]at h;exact h
     |1,ho|4,ho|6,ho|8,ho|13,ho|16,ho|18,ho=>
      obtain rfl:=osI ho;intro vs W K hB hD hK;have HK:=Ab hK
      try have e0:vs 0=.pointer (some ⟨w.heap.size,3,none⟩):=Ac hD 0 rfl
      try have e3:vs 3=.pointer (some ⟨b3,o3+k,none⟩):=Ac hD 3 rfl
      try have e5:vs 5=.pointer (some ⟨w.heap.size,0,none⟩):=Ac hD 5 rfl
      try have e7:vs 7=.pointer (some ⟨w.heap.size,1,none⟩):=Ac hD 7 rfl
      try have e11:vs 11=.bool false:=Ac hD 11 rfl
      try have e12:vs 12=.pointer (some ⟨w.heap.size,4,none⟩):=Ac hD 12 rfl
      try have e15:vs 15=.pointer (some ⟨b4,o4+k,none⟩):=Ac hD 15 rfl
      try have e17:vs 17=.pointer (some ⟨w.heap.size,0,none⟩):=Ac hD 17 rfl
      obtain⟨d0,d1,d2,d3,d4,d5⟩:=HCl.out W hB;clear hK hD ho;dsimp only;go_simp;have h:=HK.out _ _ Ad rfl;simp only[upd,Nat.reduceEqDiff,reduceIte, *]at h;exact h
     |9,ho=>
      obtain rfl:=osI ho;intro vs W K hB hD hK;have HK:=Ab hK;have e4:vs 4=.slice a1 l1 e1:=Ac hD 4 rfl;have e6:vs 6=.int .i64 mi:=Ac hD 6 rfl;have e8:vs 8=.int .i64 mo:=Ac hD 8 rfl;clear hK hD ho;dsimp only;go_simp;refine(HR1.out W hB).mono ?_;rintro e W' ⟨rfl,hb⟩;have h:=HK.out _ _ hb rfl;simp only[upd,Nat.reduceEqDiff,reduceIte,e4,e6,e8]at h;exact h
     |20,ho=>
      obtain rfl:=osI ho;intro vs W K hB hD hK;have HK:=Ab hK;have e11:vs 11=.bool false:=Ac hD 11 rfl;have e16:vs 16=.slice a2 l2 e2:=Ac hD 16 rfl;have e18:vs 18=.int .i64 mi:=Ac hD 18 rfl;have e19:vs 19=.int .i64 (n3:Int):=Ac hD 19 rfl;clear hK hD ho;dsimp only;go_simp;refine(HR2.out W hB).mono ?_;rintro e W' ⟨rfl,hb⟩;have h:=HK.out _ _ hb rfl;simp only[upd,Nat.reduceEqDiff,reduceIte,e11,e16,e18,e19]at h;exact h
     |q+23,ho=>exact absurd ho (by simp)
    case fin=>
     intro vs wz hB hall;have el:vs 22=.bool (!r2):=hall 22 (by decide);have HBZ:=Ab (HBD.out wz hB);clear hall hB HBD HCl HR1 HR2;rw[el];clear el;generalize vs 0=z0q,vs 1=z1q,vs 2=z2q,vs 3=z3q,vs 4=z4q,vs 5=z5q,vs 6=z6q,vs 7=z7q,vs 8=z8q,vs 9=z9q,vs 10=z10q,vs 11=z11q,vs 12=z12q,vs 13=z13q,vs 14=z14q,vs 15=z15q,vs 16=z16q,vs 17=z17q,vs 18=z18q,vs 19=z19q,vs 20=z20q,vs 21=z21q;clear vs
     cases r2 with
     |false=>
      have HR:=Ab (HBk.out fun h=>absurd h.2 (by decide));go_wp2;go_ret;exact⟨An HR.out,HBW.out.trans ((HB.out.trans (HBZ.out.mono HB.out.size)).mono HBW.out.size)⟩
     |true=>
      have HA2:=Ab (HAk.out ⟨rfl,rfl⟩);have HB3:=Ab (HB.out.trans (HBZ.out.mono HB.out.size));go_wp2
      go_roundg (n3-(k+1))
      case measure=>have:=HGK.out;omega
      case rel=>exact⟨k+1,rfl,by go_num,by omega,HA2,HB3⟩
  ·have hi1:¬(k:Int)<(n3:Int):=by omega
   have HR:=Ab (HV.out fun i hi=>HA.out i (by omega));go_wp2;go_ret;exact⟨C6 HR.out,HBW.out.trans (HB.out.mono HBW.out.size)⟩
end Go.Proofs.YtncjeamdkjcebaaGreatDoor
